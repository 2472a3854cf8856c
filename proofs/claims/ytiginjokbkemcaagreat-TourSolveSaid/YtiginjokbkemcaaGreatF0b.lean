import Derived.Test.YtiginjokbkemcaaGreatProg
import Derived.Test.YtiginjokbkemcaaGreatF0a
import Derived.KernelRfl
set_option linter.unusedVariables false
set_option maxRecDepth 20000
namespace Go.AB
open Go Go.Proofs
theorem c92 {β1 : Bool} {β2 : Bool} {β3 : Bool} (n : Nat) (a0_b : (List Int)) (a1 : Int) (a2_0_b0 : (List R50)) (a2_0_b1 : (List R71)) (a2_1_b0 : (List Int)) {r : (List Int)} (h : m92 n a0_b a1 a2_0_b0 a2_0_b1 a2_1_b0 = some r) : Spec Tryz.prog 92 [1,2,3] [.own 1 1 0 a0_b.length,iW a1,.clo (.func 71) [] [.ptr 2 0,.ptr 3 0]] [(1,⟨3,true,a0_b.flatMap eW⟩),(2,⟨37,false,[rW β1 a2_0_b0 e50,rW β2 a2_0_b1 e71]⟩),(3,⟨28,false,[rW β3 a2_1_b0 eW]⟩)] (.tup []) [(1,⟨3,true,r.flatMap eW⟩),(2,⟨37,false,[rW β1 a2_0_b0 e50,rW β2 a2_0_b1 e71]⟩),(3,⟨28,false,[rW β3 a2_1_b0 eW]⟩)] := by
 refine Spec.of (fn := Tryz.f92) Tryz.func92 Tryz.ntmps92 rfl rfl (le1 rfl) (fun w0 Zs Zb T0 ι0 => ?_)
 unfold m92 at h
 refine AWP.sv (.cons (.assign (l1 rfl) (.const _ _ _))<| .nil _ _ _) ⟨[(0,.own 1 1 0 a0_b.length),(1,iW a1),(2,.clo (.func 71) [] [.ptr 2 0,.ptr 3 0]),(6,iW (20 : Int))],[(1,⟨3,true,a0_b.flatMap eW⟩),(2,⟨37,false,[rW β1 a2_0_b0 e50,rW β2 a2_0_b1 e71]⟩),(3,⟨28,false,[rW β3 a2_1_b0 eW]⟩)]⟩ rfl rfl ?_
 refine AWP.sv (.cons (.move (l1 rfl) (.t rfl))<| .cons (.assign (l1 rfl) (.const _ _ _))<| .cons (.assign (l1 rfl) (.t rfl))<| .nil _ _ _) ⟨[(0,.own 1 1 0 a0_b.length),(1,iW a1),(2,.clo (.func 71) [] [.ptr 2 0,.ptr 3 0]),(6,iW (20 : Int)),(7,iW (0 : Int)),(8,iW (20 : Int))],[(1,⟨3,true,a0_b.flatMap eW⟩),(2,⟨37,false,[rW β1 a2_0_b0 e50,rW β2 a2_0_b1 e71]⟩),(3,⟨28,false,[rW β3 a2_1_b0 eW]⟩)]⟩ rfl rfl ?_
 refine AWP.seq ?_
 refine AWP.joinB' (S := fun p_14 : Int × (List Int) => ⟨[(0,.own 1 1 0 p_14.2.length),(1,iW a1),(2,.clo (.func 71) [] [.ptr 2 0,.ptr 3 0]),(6,iW (20 : Int)),(7,iW p_14.1)],[(1,⟨3,true,p_14.2.flatMap eW⟩),(2,⟨37,false,[rW β1 a2_0_b0 e50,rW β2 a2_0_b1 e71]⟩),(3,⟨28,false,[rW β3 a2_1_b0 eW]⟩)]⟩) h (fun p_14 h => ?_) (fun k_15 h => ?_)
 ·obtain ⟨y_16,hy_16,h⟩ := bindS h
  obtain ⟨ha_17,h⟩ := asrtS h
  refine AWP.sr (.cons (.move (l1 rfl) (.t rfl))<| .cons (.move (l1 rfl) (.t rfl))<| .cons (.move (l1 rfl) (.t rfl))<| .cons (.move (l1 rfl) (.t rfl))<| .cons (.call (σ := sgT [(1,1),(2,2),(3,3)]) (bw := false) (l1 rfl) (c99 (β1 := β1) (β2 := β2) (β3 := β3) n p_14.2 p_14.1 a1 a2_0_b0 a2_0_b1 a2_1_b0 hy_16) (.cons (.t rfl) (.ren rfl) (.cons (.t rfl) (.ren rfl) (.cons (.t rfl) (.ren rfl) (.cons (.t rfl) (.ren rfl) (.nil))))) (CallOk.mk' (.c rfl (.c rfl (.c rfl (.n)))) rfl))<| .nil _ _ _) ?_
  refine AWP.vc (s' := ⟨[(0,.own 1 1 0 y_16.length),(1,iW a1),(2,.clo (.func 71) [] [.ptr 2 0,.ptr 3 0]),(6,iW (20 : Int))],[(1,⟨3,true,y_16.flatMap eW⟩),(2,⟨37,false,[rW β1 a2_0_b0 e50,rW β2 a2_0_b1 e71]⟩),(3,⟨28,false,[rW β3 a2_1_b0 eW]⟩)]⟩) (VC.sub (.c (lenC (Eq.symm (Eq.symm ha_17)) rfl)<| .c rfl<| .c rfl<| .c rfl<| .n _) (.of rfl)) ?_
  refine AWP.joinB' (S := fun p_37 : Unit => ⟨[],[(1,⟨3,true,y_16.flatMap eW⟩),(2,⟨37,false,[rW β1 a2_0_b0 e50,rW β2 a2_0_b1 e71]⟩),(3,⟨28,false,[rW β3 a2_1_b0 eW]⟩)]⟩) h (fun p_37 h => ?_) (fun k_38 h => ?_)
  ·obtain rfl := Option.some.inj h
   refine norJ (Res.vc (s' := ⟨[],[(1,⟨3,true,y_16.flatMap eW⟩),(2,⟨37,false,[rW β1 a2_0_b0 e50,rW β2 a2_0_b1 e71]⟩),(3,⟨28,false,[rW β3 a2_1_b0 eW]⟩)]⟩) (VC.sub (.n _) (.of rfl)) ?_)
   refine Res.sub (H := [(1,⟨3,true,y_16.flatMap eW⟩),(2,⟨37,false,[rW β1 a2_0_b0 e50,rW β2 a2_0_b1 e71]⟩),(3,⟨28,false,[rW β3 a2_1_b0 eW]⟩)]) (.of rfl) ?_
   exact Res.of rfl (.nil) rfl rfl
  ·refine AWP.vs ⟨[(0,.own 1 1 0 y_16.length),(1,iW a1),(2,.clo (.func 71) [] [.ptr 2 0,.ptr 3 0]),(6,iW (20 : Int))],[(1,⟨3,true,y_16.flatMap eW⟩),(2,⟨37,false,[rW β1 a2_0_b0 e50,rW β2 a2_0_b1 e71]⟩),(3,⟨28,false,[rW β3 a2_1_b0 eW]⟩)]⟩ rfl rfl ?_
   refine AWP.loopM (S := fun x_27 : Int => ⟨[(0,.own 1 1 0 y_16.length),(1,iW a1),(2,.clo (.func 71) [] [.ptr 2 0,.ptr 3 0]),(6,iW x_27)],[(1,⟨3,true,y_16.flatMap eW⟩),(2,⟨37,false,[rW β1 a2_0_b0 e50,rW β2 a2_0_b1 e71]⟩),(3,⟨28,false,[rW β3 a2_1_b0 eW]⟩)]⟩) (x := (20 : Int)) (fun nx_28 x_27 h => ?_) h
   unfold m92_L3 at h
   refine AWP.seq ?_
   refine AWP.sv (.cons (.move (l1 rfl) (.t rfl))<| .cons (.move (l1 rfl) (.t rfl))<| .cons (.lss (l1 rfl) (.t rfl) (.t rfl))<| .nil _ _ _) ⟨[(0,.own 1 1 0 y_16.length),(1,iW a1),(2,.clo (.func 71) [] [.ptr 2 0,.ptr 3 0]),(6,iW x_27),(30,bW (decide (x_27 < a1)))],[(1,⟨3,true,y_16.flatMap eW⟩),(2,⟨37,false,[rW β1 a2_0_b0 e50,rW β2 a2_0_b1 e71]⟩),(3,⟨28,false,[rW β3 a2_1_b0 eW]⟩)]⟩ rfl rfl ?_
   refine AWP.cond (.t rfl) (fun hc => ?_) (fun hc => ?_)
   ·have h := iteT hc h
    refine AWP.skip ?_
    refine AWP.block ?_
    obtain ⟨t8_29,ht8_29,h⟩ := letS h
    refine AWP.sr (.cons (.move (l1 rfl) (.t rfl))<| .cons (.mul (l1 rfl) (.const _ _ _) (.t rfl))<| .cons (.assign (l1 rfl) (.const _ _ _))<| .cons (.assign (l1 rfl) (.t rfl))<| .nil _ _ _) ?_
    refine AWP.vc (s' := ⟨[(0,.own 1 1 0 y_16.length),(1,iW a1),(2,.clo (.func 71) [] [.ptr 2 0,.ptr 3 0]),(6,iW x_27),(7,iW (0 : Int)),(8,iW t8_29)],[(1,⟨3,true,y_16.flatMap eW⟩),(2,⟨37,false,[rW β1 a2_0_b0 e50,rW β2 a2_0_b1 e71]⟩),(3,⟨28,false,[rW β3 a2_1_b0 eW]⟩)]⟩) (by subst ht8_29; exact VC.sub (.of rfl) (.of rfl)) ?_
    refine AWP.seq ?_
    refine AWP.joinB' (S := fun p_33 : Int => ⟨[(0,.own 1 1 0 y_16.length),(1,iW a1),(2,.clo (.func 71) [] [.ptr 2 0,.ptr 3 0]),(6,iW x_27),(7,iW p_33)],[(1,⟨3,true,y_16.flatMap eW⟩),(2,⟨37,false,[rW β1 a2_0_b0 e50,rW β2 a2_0_b1 e71]⟩),(3,⟨28,false,[rW β3 a2_1_b0 eW]⟩)]⟩) h (fun p_33 h => ?_) (fun k_34 h => ?_)
    ·refine AWP.seq ?_
     obtain ⟨t9_35,ht9_35,h⟩ := letS h
     refine AWP.sr (.cons (.move (l1 rfl) (.t rfl))<| .cons (.move (l1 rfl) (.t rfl))<| .cons (.add (l1 rfl) (.t rfl) (.t rfl))<| .cons (.assign (l1 rfl) (.t rfl))<| .nil _ _ _) ?_
     refine AWP.vc (s' := ⟨[(0,.own 1 1 0 y_16.length),(1,iW a1),(2,.clo (.func 71) [] [.ptr 2 0,.ptr 3 0]),(6,iW x_27),(7,iW p_33),(9,iW t9_35)],[(1,⟨3,true,y_16.flatMap eW⟩),(2,⟨37,false,[rW β1 a2_0_b0 e50,rW β2 a2_0_b1 e71]⟩),(3,⟨28,false,[rW β3 a2_1_b0 eW]⟩)]⟩) (by subst ht9_35; exact VC.sub (.of rfl) (.of rfl)) ?_
     refine AWP.sv (.cons (.move (l1 rfl) (.t rfl))<| .cons (.move (l1 rfl) (.t rfl))<| .cons (.lss (l1 rfl) (.t rfl) (.t rfl))<| .nil _ _ _) ⟨[(0,.own 1 1 0 y_16.length),(1,iW a1),(2,.clo (.func 71) [] [.ptr 2 0,.ptr 3 0]),(6,iW x_27),(7,iW p_33),(9,iW t9_35),(54,bW (decide (t9_35 < a1)))],[(1,⟨3,true,y_16.flatMap eW⟩),(2,⟨37,false,[rW β1 a2_0_b0 e50,rW β2 a2_0_b1 e71]⟩),(3,⟨28,false,[rW β3 a2_1_b0 eW]⟩)]⟩ rfl rfl ?_
     refine AWP.cond (.t rfl) (fun hc => ?_) (fun hc => ?_)
     ·have h := iteT hc h
      cases h
     ·have h := iteF hc h
      refine AWP.skip ?_
      obtain ⟨t6_36,ht6_36,h⟩ := letS h
      refine AWP.rg (.cons (.move (l1 rfl) (.t rfl))<| .cons (.mul (l1 rfl) (.t rfl) (.const _ _ _))<| .cons (.assign (l1 rfl) (.t rfl))<| .nil _ _ _) ?_
      exact endJ t6_36 h (by subst ht6_36; exact VC.sub (.of rfl) (.of rfl))
    ·refine AWP.vs ⟨[(0,.own 1 1 0 y_16.length),(1,iW a1),(2,.clo (.func 71) [] [.ptr 2 0,.ptr 3 0]),(6,iW x_27),(7,iW (0 : Int)),(8,iW t8_29)],[(1,⟨3,true,y_16.flatMap eW⟩),(2,⟨37,false,[rW β1 a2_0_b0 e50,rW β2 a2_0_b1 e71]⟩),(3,⟨28,false,[rW β3 a2_1_b0 eW]⟩)]⟩ rfl rfl ?_
     refine AWP.loopM (S := fun x_31 : Int => ⟨[(0,.own 1 1 0 y_16.length),(1,iW a1),(2,.clo (.func 71) [] [.ptr 2 0,.ptr 3 0]),(6,iW x_27),(7,iW x_31),(8,iW t8_29)],[(1,⟨3,true,y_16.flatMap eW⟩),(2,⟨37,false,[rW β1 a2_0_b0 e50,rW β2 a2_0_b1 e71]⟩),(3,⟨28,false,[rW β3 a2_1_b0 eW]⟩)]⟩) (x := (0 : Int)) (fun nx_32 x_31 h => ?_) h
     unfold m92_L4 at h
     refine AWP.seq ?_
     refine AWP.sv (.cons (.move (l1 rfl) (.t rfl))<| .cons (.move (l1 rfl) (.t rfl))<| .cons (.leq (l1 rfl) (.t rfl) (.t rfl))<| .nil _ _ _) ⟨[(0,.own 1 1 0 y_16.length),(1,iW a1),(2,.clo (.func 71) [] [.ptr 2 0,.ptr 3 0]),(6,iW x_27),(7,iW x_31),(8,iW t8_29),(35,bW (decide (t8_29 ≤ a1)))],[(1,⟨3,true,y_16.flatMap eW⟩),(2,⟨37,false,[rW β1 a2_0_b0 e50,rW β2 a2_0_b1 e71]⟩),(3,⟨28,false,[rW β3 a2_1_b0 eW]⟩)]⟩ rfl rfl ?_
     refine AWP.cond (.t rfl) (fun hc => ?_) (fun hc => ?_)
     ·have h := iteT hc h
      refine AWP.skip ?_
      refine AWP.block ?_
      refine AWP.seq ?_
      cases h
     ·have h := iteF hc h
      refine AWP.exit ?_
      exact endJ x_31 h (VC.sub (.of rfl) (.of rfl))
   ·have h := iteF hc h
    refine AWP.exit ?_
    exact endJ () h (VC.sub (.n _) (.of rfl))
 ·refine AWP.vs ⟨[(0,.own 1 1 0 a0_b.length),(1,iW a1),(2,.clo (.func 71) [] [.ptr 2 0,.ptr 3 0]),(6,iW (20 : Int)),(7,iW (0 : Int)),(8,iW (20 : Int))],[(1,⟨3,true,a0_b.flatMap eW⟩),(2,⟨37,false,[rW β1 a2_0_b0 e50,rW β2 a2_0_b1 e71]⟩),(3,⟨28,false,[rW β3 a2_1_b0 eW]⟩)]⟩ rfl rfl ?_
  refine AWP.loopM (S := fun x_9 : Int × Int × (List Int) => ⟨[(0,.own 1 1 0 x_9.2.2.length),(1,iW a1),(2,.clo (.func 71) [] [.ptr 2 0,.ptr 3 0]),(6,iW (20 : Int)),(7,iW x_9.1),(8,iW x_9.2.1)],[(1,⟨3,true,x_9.2.2.flatMap eW⟩),(2,⟨37,false,[rW β1 a2_0_b0 e50,rW β2 a2_0_b1 e71]⟩),(3,⟨28,false,[rW β3 a2_1_b0 eW]⟩)]⟩) (x := ((0 : Int),(20 : Int),a0_b)) (fun nx_10 x_9 h => ?_) h
  unfold m92_L1 at h
  refine AWP.seq ?_
  refine AWP.sv (.cons (.move (l1 rfl) (.t rfl))<| .cons (.move (l1 rfl) (.t rfl))<| .cons (.leq (l1 rfl) (.t rfl) (.t rfl))<| .nil _ _ _) ⟨[(0,.own 1 1 0 x_9.2.2.length),(1,iW a1),(2,.clo (.func 71) [] [.ptr 2 0,.ptr 3 0]),(6,iW (20 : Int)),(7,iW x_9.1),(8,iW x_9.2.1),(13,bW (decide (x_9.2.1 ≤ a1)))],[(1,⟨3,true,x_9.2.2.flatMap eW⟩),(2,⟨37,false,[rW β1 a2_0_b0 e50,rW β2 a2_0_b1 e71]⟩),(3,⟨28,false,[rW β3 a2_1_b0 eW]⟩)]⟩ rfl rfl ?_
  refine AWP.cond (.t rfl) (fun hc => ?_) (fun hc => ?_)
  ·have h := iteT hc h
   refine AWP.skip ?_
   refine AWP.block ?_
   obtain ⟨y_11,hy_11,h⟩ := bindS h
   obtain ⟨ha_12,h⟩ := asrtS h
   refine AWP.sr (.cons (.move (l1 rfl) (.t rfl))<| .cons (.move (l1 rfl) (.t rfl))<| .cons (.move (l1 rfl) (.t rfl))<| .cons (.move (l1 rfl) (.t rfl))<| .cons (.call (σ := sgT [(1,1),(2,2),(3,3)]) (bw := false) (l1 rfl) (c99 (β1 := β1) (β2 := β2) (β3 := β3) n x_9.2.2 x_9.1 x_9.2.1 a2_0_b0 a2_0_b1 a2_1_b0 hy_11) (.cons (.t rfl) (.ren rfl) (.cons (.t rfl) (.ren rfl) (.cons (.t rfl) (.ren rfl) (.cons (.t rfl) (.ren rfl) (.nil))))) (CallOk.mk' (.c rfl (.c rfl (.c rfl (.n)))) rfl))<| .nil _ _ _) ?_
   refine AWP.vc (s' := ⟨[(0,.own 1 1 0 y_11.length),(1,iW a1),(2,.clo (.func 71) [] [.ptr 2 0,.ptr 3 0]),(6,iW (20 : Int)),(8,iW x_9.2.1)],[(1,⟨3,true,y_11.flatMap eW⟩),(2,⟨37,false,[rW β1 a2_0_b0 e50,rW β2 a2_0_b1 e71]⟩),(3,⟨28,false,[rW β3 a2_1_b0 eW]⟩)]⟩) (VC.sub (.c (lenC (Eq.symm (Eq.symm ha_12)) rfl)<| .c rfl<| .c rfl<| .c rfl<| .c rfl<| .n _) (.of rfl)) ?_
   refine AWP.sv (.cons (.move (l1 rfl) (.t rfl))<| .cons (.assign (l1 rfl) (.t rfl))<| .nil _ _ _) ⟨[(0,.own 1 1 0 y_11.length),(1,iW a1),(2,.clo (.func 71) [] [.ptr 2 0,.ptr 3 0]),(6,iW (20 : Int)),(8,iW x_9.2.1),(7,iW x_9.2.1)],[(1,⟨3,true,y_11.flatMap eW⟩),(2,⟨37,false,[rW β1 a2_0_b0 e50,rW β2 a2_0_b1 e71]⟩),(3,⟨28,false,[rW β3 a2_1_b0 eW]⟩)]⟩ rfl rfl ?_
   obtain ⟨t8_13,ht8_13,h⟩ := letS h
   refine AWP.rg (.cons (.move (l1 rfl) (.t rfl))<| .cons (.move (l1 rfl) (.t rfl))<| .cons (.add (l1 rfl) (.t rfl) (.t rfl))<| .cons (.assign (l1 rfl) (.t rfl))<| .nil _ _ _) ?_
   exact endJ (x_9.2.1,t8_13,y_11) h (by subst ht8_13; exact VC.sub (.of rfl) (.of rfl))
  ·have h := iteF hc h
   refine AWP.exit ?_
   exact endJ (x_9.1,x_9.2.2) h (VC.sub (.of rfl) (.of rfl))
theorem c70 {β1 : Bool} {β2 : Bool} {β3 : Bool} (n : Nat) (a0_b : (List Int)) (a1_0_b0 : (List R50)) (a1_0_b1 : (List R71)) (a1_1_b0 : (List Int)) {r : (List Int)} (h : m70 n a0_b a1_0_b0 a1_0_b1 a1_1_b0 = some r) : Spec Tryz.prog 70 [1,2,3] [.own 1 1 0 a0_b.length,.clo (.func 71) [] [.ptr 2 0,.ptr 3 0]] [(1,⟨3,true,a0_b.flatMap eW⟩),(2,⟨37,false,[rW β1 a1_0_b0 e50,rW β2 a1_0_b1 e71]⟩),(3,⟨28,false,[rW β3 a1_1_b0 eW]⟩)] (.tup []) [(1,⟨3,true,r.flatMap eW⟩),(2,⟨37,false,[rW β1 a1_0_b0 e50,rW β2 a1_0_b1 e71]⟩),(3,⟨28,false,[rW β3 a1_1_b0 eW]⟩)] := by
 refine Spec.of (fn := Tryz.f70) Tryz.func70 Tryz.ntmps70 rfl rfl (le1 rfl) (fun w0 Zs Zb T0 ι0 => ?_)
 unfold m70 at h
 obtain ⟨y_1,hy_1,h⟩ := bindS h
 obtain ⟨ha_2,h⟩ := asrtS h
 refine AWP.rg (.cons (.move (l1 rfl) (.t rfl))<| .cons (.move (l1 rfl) (.t rfl))<| .cons (.lenOwn (l1 rfl) (.t rfl) Tryz.underlying28)<| .cons (.move (l1 rfl) (.t rfl))<| .cons (.call (σ := sgT [(1,1),(2,2),(3,3)]) (bw := false) (l1 rfl) (c92 (β1 := β1) (β2 := β2) (β3 := β3) n a0_b (a0_b.length : Int) a1_0_b0 a1_0_b1 a1_1_b0 hy_1) (.cons (.t rfl) (.ren rfl) (.cons (.t rfl) (.ren rfl) (.cons (.t rfl) (.ren rfl) (.nil)))) (CallOk.mk' (.c rfl (.c rfl (.c rfl (.n)))) rfl))<| .nil _ _ _) ?_
 obtain rfl := Option.some.inj h
 refine norJ (Res.vc (s' := ⟨[],[(1,⟨3,true,y_1.flatMap eW⟩),(2,⟨37,false,[rW β1 a1_0_b0 e50,rW β2 a1_0_b1 e71]⟩),(3,⟨28,false,[rW β3 a1_1_b0 eW]⟩)]⟩) (VC.sub (.n _) (.of rfl)) ?_)
 refine Res.sub (H := [(1,⟨3,true,y_1.flatMap eW⟩),(2,⟨37,false,[rW β1 a1_0_b0 e50,rW β2 a1_0_b1 e71]⟩),(3,⟨28,false,[rW β3 a1_1_b0 eW]⟩)]) (.of rfl) ?_
 exact Res.of rfl (.nil) rfl rfl
theorem c35 {β1 : Bool} {β2 : Bool} {β3 : Bool} (n : Nat) (a0 : R24) (a1 : (List Int)) {r : (Int × (List Int))} (h : m35 n a0 a1 = some r) : Spec Tryz.prog 35 [] [.agg (pW β1 β2 a0),rW β3 a1 eW] [] (.tup [iW r.1,rW false r.2 eW]) [] := by
 refine Spec.of (fn := Tryz.f35) Tryz.func35 Tryz.ntmps35 rfl rfl (le1 rfl) (fun w0 Zs Zb T0 ι0 => ?_)
 unfold m35 at h
 refine AWP.sv (.cons (.box (t := 1) (n := 2) (l1 rfl) (nm rfl) (.t rfl) (by first | exact ⟨rfl,rfl⟩ | rfl) rfl)<| .cons (.box (t := 2) (n := 1) (l1 rfl) (nm rfl) (.t rfl) (by first | exact ⟨rfl,rfl⟩ | rfl) rfl)<| .cons (.assign (l1 rfl) (.const _ _ _))<| .cons (.assign (l1 rfl) (.const _ _ _))<| .nil _ _ _) ⟨[(2,.ptr 1 0),(3,.ptr 2 0)],[(2,⟨28,false,[rW β3 a1 eW]⟩),(1,⟨37,false,(pW β1 β2 a0)⟩)]⟩ rfl rfl ?_
 refine AWP.sv (.cons (.fieldP (l1 rfl) (.t rfl) fld37_0)<| .cons (.loadP (l1 rfl) (.t rfl) one22 rfl rfl rfl)<| .cons (.lenRd (l1 rfl) (.t rfl) Tryz.underlying22)<| .cons (.assign (l1 rfl) (.t rfl))<| .nil _ _ _) ⟨[(2,.ptr 1 0),(3,.ptr 2 0),(6,iW (a0.Pq.length : Int))],[(2,⟨28,false,[rW β3 a1 eW]⟩),(1,⟨37,false,(pW β1 β2 a0)⟩)]⟩ rfl rfl ?_
 obtain ⟨l3_1,hl3_1,h⟩ := bindS h
 refine AWP.sv (.cons (.move (l1 rfl) (.t rfl))<| .cons (.mkS (enc := eW) (t := 3) (l1 rfl) (nm rfl) (.t rfl) (.t rfl) Tryz.underlying28 zero3 el3 rfl (encI_len .i64) (by decide) hl3_1)<| .cons (.assign (l1 rfl) (.t rfl))<| .nil _ _ _) ⟨[(2,.ptr 1 0),(3,.ptr 2 0),(6,iW (a0.Pq.length : Int)),(7,.own 3 1 0 l3_1.length)],[(3,⟨3,true,l3_1.flatMap eW⟩),(2,⟨28,false,[rW β3 a1 eW]⟩),(1,⟨37,false,(pW β1 β2 a0)⟩)]⟩ rfl rfl ?_
 refine AWP.seq ?_
 refine AWP.sv (.cons (.move (l1 rfl) (.t rfl))<| .cons (.lss (l1 rfl) (.t rfl) (.const _ _ _))<| .nil _ _ _) ⟨[(2,.ptr 1 0),(3,.ptr 2 0),(6,iW (a0.Pq.length : Int)),(7,.own 3 1 0 l3_1.length),(21,bW (decide ((a0.Pq.length : Int) < (3 : Int))))],[(3,⟨3,true,l3_1.flatMap eW⟩),(2,⟨28,false,[rW β3 a1 eW]⟩),(1,⟨37,false,(pW β1 β2 a0)⟩)]⟩ rfl rfl ?_
 refine AWP.cond (.t rfl) (fun hc => ?_) (fun hc => ?_)
 ·have h := iteT hc h
  obtain ⟨y_2,hy_2,h⟩ := bindS h
  obtain ⟨t4_3,ht4_3,h⟩ := letS h
  refine AWP.sr (.cons (.loadPA (l1 rfl) (.t rfl) agg37 rfl rfl rfl rfl)<| .cons (.move (l1 rfl) (.t rfl))<| .cons (.sub (l1 rfl) (.t rfl) (.const _ _ _))<| .cons (.call0 (bw := false) (l1 rfl) (c48 (β1 := β1) (β2 := β2) n (R24.mk a0.Pq a0.Bq) (0 : Int) (IntKind.wrap .i64 ((a0.Pq.length : Int) - (1 : Int))) hy_2) (.cons (.t rfl) (.ren rfl) (.cons (.const _ _ _) (.ren rfl) (.cons (.t rfl) (.ren rfl) (.nil)))) rfl)<| .cons (.mul (l1 rfl) (.const _ _ _) (.t rfl))<| .cons (.move (l1 rfl) (.t rfl))<| .cons (.assign (l1 rfl) (.t rfl))<| .cons (.assign (l1 rfl) (.t rfl))<| .nil _ _ _) ?_
  refine AWP.ret ?_
  obtain rfl := Option.some.inj h
  refine retJ (Res.vc (s' := ⟨[(4,iW t4_3),(5,rW false l3_1 eW)],[]⟩) (by subst ht4_3; exact VC.trans (VC.frz (d := 5) (t := 3) rfl rfl (encI_len .i64)) (VC.sub (.of rfl) (.n _))) ?_)
  refine Res.drop (H := []) rfl ?_
  exact Res.of rfl (.cons (.tmp rfl) (.cons (.tmp rfl) (.nil))) rfl rfl
 ·have h := iteF hc h
  refine AWP.skip ?_
  refine AWP.sv (.cons (.assign (l1 rfl) (.const _ _ _))<| .nil _ _ _) ⟨[(2,.ptr 1 0),(3,.ptr 2 0),(6,iW (a0.Pq.length : Int)),(7,.own 3 1 0 l3_1.length),(8,.sc (.slice none 0 0))],[(3,⟨3,true,l3_1.flatMap eW⟩),(2,⟨28,false,[rW β3 a1 eW]⟩),(1,⟨37,false,(pW β1 β2 a0)⟩)]⟩ rfl rfl ?_
  refine AWP.seq ?_
  refine AWP.sv (.cons (.assign (l1 rfl) (.const _ _ _))<| .nil _ _ _) ⟨[(2,.ptr 1 0),(3,.ptr 2 0),(6,iW (a0.Pq.length : Int)),(7,.own 3 1 0 l3_1.length),(8,.sc (.slice none 0 0)),(9,iW (1 : Int))],[(3,⟨3,true,l3_1.flatMap eW⟩),(2,⟨28,false,[rW β3 a1 eW]⟩),(1,⟨37,false,(pW β1 β2 a0)⟩)]⟩ rfl rfl ?_
  refine AWP.joinB' (S := fun p_14 : (List Int) => ⟨[(2,.ptr 1 0),(3,.ptr 2 0),(7,.own 3 1 0 l3_1.length),(8,.own 4 1 0 p_14.length)],[(1,⟨37,false,(pW β1 β2 a0)⟩),(2,⟨28,false,[rW β3 a1 eW]⟩),(3,⟨3,true,l3_1.flatMap eW⟩),(4,⟨3,true,p_14.flatMap eW⟩)]⟩) h (fun p_14 h => ?_) (fun k_15 h => ?_)
  ·obtain ⟨y_16,hy_16,h⟩ := bindS h
   obtain ⟨ha_17,h⟩ := asrtS h
   refine AWP.sr (.cons (.loadPA (l1 rfl) (.t rfl) agg37 rfl rfl rfl rfl)<| .cons (.move (l1 rfl) (.t rfl))<| .cons (.loadP (l1 rfl) (.t rfl) one28 rfl rfl rfl)<| .cons (.move (l1 rfl) (.t rfl))<| .cons (.call (σ := fun _ => 3) (bw := true) (l1 rfl) (c56 (β1 := β1) (β2 := β2) (β3 := true) (β4 := β3) n (R24.mk a0.Pq a0.Bq) p_14 a1 l3_1 hy_16) (.cons (.t rfl) (.ren rfl) (.cons (.t rfl) (.lendRow rfl rfl (encI_len .i64) rfl) (.cons (.t rfl) (.ren rfl) (.cons (.t rfl) (.ren rfl) (.nil))))) (CallOk.mk' (.c rfl (.n)) rfl))<| .cons (.assign (l1 rfl) (.t rfl))<| .nil _ _ _) ?_
   refine AWP.vc (s' := ⟨[(2,.ptr 1 0),(3,.ptr 2 0),(7,.own 3 1 0 y_16.2.length),(8,.own 4 1 0 p_14.length),(10,iW y_16.1)],[(3,⟨3,true,y_16.2.flatMap eW⟩),(1,⟨37,false,(pW β1 β2 a0)⟩),(2,⟨28,false,[rW β3 a1 eW]⟩),(4,⟨3,true,p_14.flatMap eW⟩)]⟩) (VC.sub (.c rfl<| .c rfl<| .c (lenC (Eq.symm (Eq.symm ha_17)) rfl)<| .c rfl<| .c rfl<| .n _) (.of rfl)) ?_
   obtain ⟨y_18,hy_18,h⟩ := bindS h
   obtain ⟨ha_19,h⟩ := asrtS h
   refine AWP.sr (.cons (.move (l1 rfl) (.t rfl))<| .cons (.makeFunc (l1 rfl) (.nil) (.cons (.t rfl) (.cons (.t rfl) (.nil))))<| .cons (.call (σ := sgT [(1,4),(2,1),(3,2)]) (bw := false) (l1 rfl) (c70 (β1 := β1) (β2 := β2) (β3 := β3) n p_14 a0.Pq a0.Bq a1 hy_18) (.cons (.t rfl) (.ren rfl) (.cons (.t rfl) (.ren rfl) (.nil))) (CallOk.mk' (.c rfl (.c rfl (.c rfl (.n)))) rfl))<| .nil _ _ _) ?_
   refine AWP.vc (s' := ⟨[(2,.ptr 1 0),(3,.ptr 2 0),(7,.own 3 1 0 y_16.2.length),(8,.own 4 1 0 y_18.length),(10,iW y_16.1)],[(4,⟨3,true,y_18.flatMap eW⟩),(1,⟨37,false,(pW β1 β2 a0)⟩),(2,⟨28,false,[rW β3 a1 eW]⟩),(3,⟨3,true,y_16.2.flatMap eW⟩)]⟩) (VC.sub (.c rfl<| .c rfl<| .c rfl<| .c (lenC (Eq.symm (Eq.symm ha_19)) rfl)<| .c rfl<| .n _) (.of rfl)) ?_
   refine AWP.seq ?_
   obtain ⟨l4_20,hl4_20,h⟩ := bindS h
   refine AWP.sv (.cons (.move (l1 rfl) (.t rfl))<| .cons (.slOwn (enc := eW) (gh := 0) (gh' := 0) (l1 rfl) (.t rfl) rfl Tryz.underlying28 sz3 (encI_len .i64) rfl (.none _ _ _) (.some (.const _ _ _)) hl4_20 rfl)<| .cons (.lenOwn (l1 rfl) (.t rfl) Tryz.underlying28)<| .cons (.move (l1 rfl) (.const _ _ _))<| .nil _ _ _) ⟨[(2,.ptr 1 0),(3,.ptr 2 0),(7,.own 3 1 0 y_16.2.length),(10,iW y_16.1),(46,.own 4 1 0 l4_20.length),(47,iW (l4_20.length : Int)),(48,iW (0 : Int))],[(4,⟨3,true,l4_20.flatMap eW⟩),(1,⟨37,false,(pW β1 β2 a0)⟩),(2,⟨28,false,[rW β3 a1 eW]⟩),(3,⟨3,true,y_16.2.flatMap eW⟩)]⟩ rfl rfl ?_
   refine AWP.joinB' (S := fun p_55 : Int × (List Int) => ⟨[(3,.ptr 2 0),(7,.own 3 1 0 p_55.2.length),(10,iW p_55.1)],[(2,⟨28,false,[rW β3 a1 eW]⟩),(3,⟨3,true,p_55.2.flatMap eW⟩)]⟩) h (fun p_55 h => ?_) (fun k_56 h => ?_)
   ·refine AWP.seq ?_
    refine AWP.sv (.cons (.loadP (l1 rfl) (.t rfl) one28 rfl rfl rfl)<| .cons (.lenRd (l1 rfl) (.t rfl) Tryz.underlying28)<| .cons (.move (l1 rfl) (.const _ _ _))<| .nil _ _ _) ⟨[(7,.own 3 1 0 p_55.2.length),(10,iW p_55.1),(70,rW β3 a1 eW),(71,iW (a1.length : Int)),(72,iW (0 : Int))],[(3,⟨3,true,p_55.2.flatMap eW⟩)]⟩ rfl rfl ?_
    refine AWP.joinB' (S := fun p_70 : Int => ⟨[(7,.own 3 1 0 p_55.2.length),(10,iW p_70)],[(3,⟨3,true,p_55.2.flatMap eW⟩)]⟩) h (fun p_70 h => ?_) (fun k_71 h => ?_)
    ·refine AWP.sr (.cons (.move (l1 rfl) (.t rfl))<| .cons (.move (l1 rfl) (.t rfl))<| .cons (.assign (l1 rfl) (.t rfl))<| .cons (.assign (l1 rfl) (.t rfl))<| .nil _ _ _) ?_
     refine AWP.ret ?_
     obtain rfl := Option.some.inj h
     refine retJ (Res.vc (s' := ⟨[(4,iW p_70),(5,rW false p_55.2 eW)],[]⟩) (VC.trans (VC.frz (d := 5) (t := 3) rfl rfl (encI_len .i64)) (VC.sub (.of rfl) (.n _))) ?_)
     refine Res.drop (H := []) rfl ?_
     exact Res.of rfl (.cons (.tmp rfl) (.cons (.tmp rfl) (.nil))) rfl rfl
    ·refine AWP.vs ⟨[(7,.own 3 1 0 p_55.2.length),(10,iW p_55.1),(70,rW β3 a1 eW),(71,iW (a1.length : Int)),(72,iW (0 : Int))],[(3,⟨3,true,p_55.2.flatMap eW⟩)]⟩ rfl rfl ?_
     refine AWP.loopM (S := fun x_65 : Int × Int => ⟨[(7,.own 3 1 0 p_55.2.length),(10,iW x_65.1),(70,rW β3 a1 eW),(71,iW (a1.length : Int)),(72,iW x_65.2)],[(3,⟨3,true,p_55.2.flatMap eW⟩)]⟩) (x := (p_55.1,(0 : Int))) (fun nx_66 x_65 h => ?_) h
     unfold m35_L3 at h
     refine AWP.sv (.cons (.lss (l1 rfl) (.t rfl) (.t rfl))<| .nil _ _ _) ⟨[(7,.own 3 1 0 p_55.2.length),(10,iW x_65.1),(70,rW β3 a1 eW),(71,iW (a1.length : Int)),(72,iW x_65.2),(73,bW (decide (x_65.2 < (a1.length : Int))))],[(3,⟨3,true,p_55.2.flatMap eW⟩)]⟩ rfl rfl ?_
     refine AWP.seq ?_
     refine AWP.cond (.t rfl) (fun hc => ?_) (fun hc => ?_)
     ·have h := iteT hc h
      refine AWP.skip ?_
      refine AWP.seq ?_
      refine AWP.block ?_
      obtain ⟨y_67,hy_67,h⟩ := bindS h
      refine AWP.sv (.cons (.indexRd (enc := eW) (l1 rfl) (.t rfl) (.t rfl) Tryz.underlying28 sz3 (encI_len .i64) rfl hy_67)<| .cons (.loadR (v := iW y_67) (l1 rfl) (.t rfl) one3 rfl)<| .cons (.assign (l1 rfl) (.t rfl))<| .nil _ _ _) ⟨[(7,.own 3 1 0 p_55.2.length),(10,iW x_65.1),(70,rW β3 a1 eW),(71,iW (a1.length : Int)),(72,iW x_65.2),(14,iW y_67)],[(3,⟨3,true,p_55.2.flatMap eW⟩)]⟩ rfl rfl ?_
      obtain ⟨t10_68,ht10_68,h⟩ := letS h
      refine AWP.rg (.cons (.move (l1 rfl) (.t rfl))<| .cons (.move (l1 rfl) (.t rfl))<| .cons (.mul (l1 rfl) (.const _ _ _) (.t rfl))<| .cons (.sub (l1 rfl) (.t rfl) (.t rfl))<| .cons (.assign (l1 rfl) (.t rfl))<| .nil _ _ _) ?_
      refine AWP.vc (s' := ⟨[(7,.own 3 1 0 p_55.2.length),(10,iW t10_68),(70,rW β3 a1 eW),(71,iW (a1.length : Int)),(72,iW x_65.2)],[(3,⟨3,true,p_55.2.flatMap eW⟩)]⟩) (by subst ht10_68; exact VC.sub (.of rfl) (.of rfl)) ?_
      obtain ⟨t72_69,ht72_69,h⟩ := letS h
      refine AWP.rg (.cons (.add (l1 rfl) (.t rfl) (.const _ _ _))<| .cons (.move (l1 rfl) (.t rfl))<| .nil _ _ _) ?_
      exact endJ (t10_68,t72_69) h (by subst ht72_69; exact VC.sub (.of rfl) (.of rfl))
     ·have h := iteF hc h
      refine AWP.exit ?_
      exact endJ x_65.1 h (VC.sub (.of rfl) (.of rfl))
   ·refine AWP.vs ⟨[(2,.ptr 1 0),(3,.ptr 2 0),(7,.own 3 1 0 y_16.2.length),(10,iW y_16.1),(46,.own 4 1 0 l4_20.length),(47,iW (l4_20.length : Int)),(48,iW (0 : Int))],[(1,⟨37,false,(pW β1 β2 a0)⟩),(2,⟨28,false,[rW β3 a1 eW]⟩),(3,⟨3,true,y_16.2.flatMap eW⟩),(4,⟨3,true,l4_20.flatMap eW⟩)]⟩ rfl rfl ?_
    refine AWP.loopM (S := fun x_43 : Int × Int × (List Int) => ⟨[(2,.ptr 1 0),(3,.ptr 2 0),(7,.own 3 1 0 x_43.2.2.length),(10,iW x_43.1),(46,.own 4 1 0 l4_20.length),(47,iW (l4_20.length : Int)),(48,iW x_43.2.1)],[(1,⟨37,false,(pW β1 β2 a0)⟩),(2,⟨28,false,[rW β3 a1 eW]⟩),(3,⟨3,true,x_43.2.2.flatMap eW⟩),(4,⟨3,true,l4_20.flatMap eW⟩)]⟩) (x := (y_16.1,(0 : Int),y_16.2)) (fun nx_44 x_43 h => ?_) h
    unfold m35_L2 at h
    refine AWP.sv (.cons (.lss (l1 rfl) (.t rfl) (.t rfl))<| .nil _ _ _) ⟨[(2,.ptr 1 0),(3,.ptr 2 0),(7,.own 3 1 0 x_43.2.2.length),(10,iW x_43.1),(46,.own 4 1 0 l4_20.length),(47,iW (l4_20.length : Int)),(48,iW x_43.2.1),(49,bW (decide (x_43.2.1 < (l4_20.length : Int))))],[(1,⟨37,false,(pW β1 β2 a0)⟩),(2,⟨28,false,[rW β3 a1 eW]⟩),(3,⟨3,true,x_43.2.2.flatMap eW⟩),(4,⟨3,true,l4_20.flatMap eW⟩)]⟩ rfl rfl ?_
    refine AWP.seq ?_
    refine AWP.cond (.t rfl) (fun hc => ?_) (fun hc => ?_)
    ·have h := iteT hc h
     refine AWP.skip ?_
     refine AWP.seq ?_
     refine AWP.block ?_
     obtain ⟨y_45,hy_45,h⟩ := bindS h
     refine AWP.sv (.cons (.idxOwn (l1 rfl) (.t rfl) (.t rfl) Tryz.underlying28 sz3 rfl hy_45)<| .cons (.loadP (l1 rfl) (.t rfl) one3 rfl (cell_at1 (encI_len .i64) hy_45) rfl)<| .cons (.assign (l1 rfl) (.t rfl))<| .nil _ _ _) ⟨[(2,.ptr 1 0),(3,.ptr 2 0),(7,.own 3 1 0 x_43.2.2.length),(10,iW x_43.1),(46,.own 4 1 0 l4_20.length),(47,iW (l4_20.length : Int)),(48,iW x_43.2.1),(12,iW y_45)],[(1,⟨37,false,(pW β1 β2 a0)⟩),(2,⟨28,false,[rW β3 a1 eW]⟩),(3,⟨3,true,x_43.2.2.flatMap eW⟩),(4,⟨3,true,l4_20.flatMap eW⟩)]⟩ rfl rfl ?_
     obtain ⟨y_46,hy_46,h⟩ := bindS h
     obtain ⟨t10_47,ht10_47,h⟩ := letS h
     refine AWP.sr (.cons (.move (l1 rfl) (.t rfl))<| .cons (.loadPA (l1 rfl) (.t rfl) agg37 rfl rfl rfl rfl)<| .cons (.move (l1 rfl) (.t rfl))<| .cons (.loadP (l1 rfl) (.t rfl) one28 rfl rfl rfl)<| .cons (.call0 (bw := false) (l1 rfl) (c72 (β1 := β1) (β2 := β2) (β3 := β3) n (R24.mk a0.Pq a0.Bq) (0 : Int) y_45 a1 hy_46) (.cons (.t rfl) (.ren rfl) (.cons (.const _ _ _) (.ren rfl) (.cons (.t rfl) (.ren rfl) (.cons (.t rfl) (.ren rfl) (.nil))))) rfl)<| .cons (.add (l1 rfl) (.t rfl) (.t rfl))<| .cons (.assign (l1 rfl) (.t rfl))<| .nil _ _ _) ?_
     refine AWP.vc (s' := ⟨[(2,.ptr 1 0),(3,.ptr 2 0),(7,.own 3 1 0 x_43.2.2.length),(10,iW t10_47),(46,.own 4 1 0 l4_20.length),(47,iW (l4_20.length : Int)),(48,iW x_43.2.1),(12,iW y_45)],[(1,⟨37,false,(pW β1 β2 a0)⟩),(2,⟨28,false,[rW β3 a1 eW]⟩),(3,⟨3,true,x_43.2.2.flatMap eW⟩),(4,⟨3,true,l4_20.flatMap eW⟩)]⟩) (by subst ht10_47; exact VC.sub (.of rfl) (.of rfl)) ?_
     obtain ⟨y_48,hy_48,h⟩ := bindS h
     obtain ⟨y_49,hy_49,h⟩ := bindS h
     obtain ⟨l3_50,hl3_50,h⟩ := bindS h
     refine AWP.sr (.cons (.move (l1 rfl) (.t rfl))<| .cons (.idxOwn (l1 rfl) (.t rfl) (.const _ _ _) Tryz.underlying28 sz3 rfl hy_48)<| .cons (.loadP (l1 rfl) (.t rfl) one3 rfl (cell_at1 (encI_len .i64) hy_48) rfl)<| .cons (.add (l1 rfl) (.t rfl) (.const _ _ _))<| .cons (.idxOwn (l1 rfl) (.t rfl) (.const _ _ _) Tryz.underlying28 sz3 rfl hy_49)<| .cons (.storeP (.t rfl) (.t rfl) sz3 rfl (lt_at1 (encI_len .i64) hy_49) rfl (fun _ => rfl) (set_at1 (encI_len .i64) hl3_50 rfl))<| .nil _ _ _) ?_
     refine AWP.vc (s' := ⟨[(2,.ptr 1 0),(3,.ptr 2 0),(7,.own 3 1 0 l3_50.length),(10,iW t10_47),(46,.own 4 1 0 l4_20.length),(47,iW (l4_20.length : Int)),(48,iW x_43.2.1),(12,iW y_45)],[(1,⟨37,false,(pW β1 β2 a0)⟩),(2,⟨28,false,[rW β3 a1 eW]⟩),(3,⟨3,true,l3_50.flatMap eW⟩),(4,⟨3,true,l4_20.flatMap eW⟩)]⟩) (VC.sub (.c rfl<| .c rfl<| .c (lenC (Eq.symm (setLen hl3_50)) rfl)<| .c rfl<| .c rfl<| .c rfl<| .c rfl<| .c rfl<| .n _) (.of rfl)) ?_
     obtain ⟨y_51,hy_51,h⟩ := bindS h
     obtain ⟨y_52,hy_52,h⟩ := bindS h
     obtain ⟨l3_53,hl3_53,h⟩ := bindS h
     refine AWP.rg (.cons (.move (l1 rfl) (.t rfl))<| .cons (.move (l1 rfl) (.t rfl))<| .cons (.idxOwn (l1 rfl) (.t rfl) (.t rfl) Tryz.underlying28 sz3 rfl hy_51)<| .cons (.loadP (l1 rfl) (.t rfl) one3 rfl (cell_at1 (encI_len .i64) hy_51) rfl)<| .cons (.add (l1 rfl) (.t rfl) (.const _ _ _))<| .cons (.idxOwn (l1 rfl) (.t rfl) (.t rfl) Tryz.underlying28 sz3 rfl hy_52)<| .cons (.storeP (.t rfl) (.t rfl) sz3 rfl (lt_at1 (encI_len .i64) hy_52) rfl (fun _ => rfl) (set_at1 (encI_len .i64) hl3_53 rfl))<| .nil _ _ _) ?_
     refine AWP.vc (s' := ⟨[(2,.ptr 1 0),(3,.ptr 2 0),(7,.own 3 1 0 l3_53.length),(10,iW t10_47),(46,.own 4 1 0 l4_20.length),(47,iW (l4_20.length : Int)),(48,iW x_43.2.1)],[(1,⟨37,false,(pW β1 β2 a0)⟩),(2,⟨28,false,[rW β3 a1 eW]⟩),(3,⟨3,true,l3_53.flatMap eW⟩),(4,⟨3,true,l4_20.flatMap eW⟩)]⟩) (VC.sub (.c rfl<| .c rfl<| .c (lenC (Eq.symm (setLen hl3_53)) rfl)<| .c rfl<| .c rfl<| .c rfl<| .c rfl<| .n _) (.of rfl)) ?_
     obtain ⟨t48_54,ht48_54,h⟩ := letS h
     refine AWP.rg (.cons (.add (l1 rfl) (.t rfl) (.const _ _ _))<| .cons (.move (l1 rfl) (.t rfl))<| .nil _ _ _) ?_
     exact endJ (t10_47,t48_54,l3_53) h (by subst ht48_54; exact VC.sub (.of rfl) (.of rfl))
    ·have h := iteF hc h
     refine AWP.exit ?_
     exact endJ (x_43.1,x_43.2.2) h (VC.sub (.of rfl) (.of rfl))
  ·refine AWP.vc (VC.nilOwn (d := 8) (t := 4) (sz := 1) (E := 3) rfl (nm rfl)) ?_
   refine AWP.vs ⟨[(2,.ptr 1 0),(3,.ptr 2 0),(6,iW (a0.Pq.length : Int)),(7,.own 3 1 0 l3_1.length),(8,.own 4 1 0 ([] : List Int).length),(9,iW (1 : Int))],[(1,⟨37,false,(pW β1 β2 a0)⟩),(2,⟨28,false,[rW β3 a1 eW]⟩),(3,⟨3,true,l3_1.flatMap eW⟩),(4,⟨3,true,([] : List Int).flatMap eW⟩)]⟩ rfl rfl ?_
   refine AWP.loopM (S := fun x_10 : Int × (List Int) => ⟨[(2,.ptr 1 0),(3,.ptr 2 0),(6,iW (a0.Pq.length : Int)),(7,.own 3 1 0 l3_1.length),(8,.own 4 1 0 x_10.2.length),(9,iW x_10.1)],[(1,⟨37,false,(pW β1 β2 a0)⟩),(2,⟨28,false,[rW β3 a1 eW]⟩),(3,⟨3,true,l3_1.flatMap eW⟩),(4,⟨3,true,x_10.2.flatMap eW⟩)]⟩) (x := ((1 : Int),([] : List Int))) (fun nx_11 x_10 h => ?_) h
   unfold m35_L1 at h
   refine AWP.seq ?_
   refine AWP.sv (.cons (.move (l1 rfl) (.t rfl))<| .cons (.move (l1 rfl) (.t rfl))<| .cons (.lss (l1 rfl) (.t rfl) (.t rfl))<| .nil _ _ _) ⟨[(2,.ptr 1 0),(3,.ptr 2 0),(6,iW (a0.Pq.length : Int)),(7,.own 3 1 0 l3_1.length),(8,.own 4 1 0 x_10.2.length),(9,iW x_10.1),(30,bW (decide (x_10.1 < (a0.Pq.length : Int))))],[(1,⟨37,false,(pW β1 β2 a0)⟩),(2,⟨28,false,[rW β3 a1 eW]⟩),(3,⟨3,true,l3_1.flatMap eW⟩),(4,⟨3,true,x_10.2.flatMap eW⟩)]⟩ rfl rfl ?_
   refine AWP.cond (.t rfl) (fun hc => ?_) (fun hc => ?_)
   ·have h := iteT hc h
    refine AWP.skip ?_
    refine AWP.seq ?_
    refine AWP.block ?_
    obtain ⟨l4_12,hl4_12,h⟩ := bindS h
    refine AWP.rg (.cons (.move (l1 rfl) (.t rfl))<| .cons (.move (l1 rfl) (.t rfl))<| .cons (.buildSlice (t := 5) (out := ([x_10.1] : List Int).flatMap eW) (l1 rfl) (nm rfl) (.cons (.t rfl) (by first | exact ⟨rfl,rfl⟩ | rfl) (.nil)) Tryz.underlying28 zero3 el3 (by decide) (by decide) rfl (still_all (encI_still .i64) _))<| .cons (.app (enc := eW) (l1 rfl) (nm rfl) (.t rfl) (Src.own (.t rfl) rfl (lendAll (encI_len .i64) _) (flatMap_length (encI_len .i64) _) (one_all (encI_one .i64) _) (.inl rfl)) Tryz.underlying28 ⟨_,Tryz.underlying28,by intro k hk; cases hk⟩ el3 rfl (encI_len .i64) rfl rfl (by decide) hl4_12)<| .cons (.assign (l1 rfl) (.t rfl))<| .nil _ _ _) ?_
    refine AWP.vs ⟨[(2,.ptr 1 0),(3,.ptr 2 0),(6,iW (a0.Pq.length : Int)),(7,.own 3 1 0 l3_1.length),(8,.own 4 1 0 l4_12.length),(9,iW x_10.1)],[(4,⟨3,true,l4_12.flatMap eW⟩),(1,⟨37,false,(pW β1 β2 a0)⟩),(2,⟨28,false,[rW β3 a1 eW]⟩),(3,⟨3,true,l3_1.flatMap eW⟩)]⟩ rfl rfl ?_
    obtain ⟨t9_13,ht9_13,h⟩ := letS h
    refine AWP.rg (.cons (.move (l1 rfl) (.t rfl))<| .cons (.add (l1 rfl) (.t rfl) (.const _ _ _))<| .cons (.assign (l1 rfl) (.t rfl))<| .nil _ _ _) ?_
    exact endJ (t9_13,l4_12) h (by subst ht9_13; exact VC.sub (.of rfl) (.of rfl))
   ·have h := iteF hc h
    refine AWP.exit ?_
    exact endJ x_10.2 h (VC.sub (.of rfl) (.of rfl))
theorem c14 {β1 : Bool} {β2 : Bool} {β3 : Bool} (n : Nat) (a0 : R24) (a1 : (List Int)) {r : (Int × Int)} (h : m14 n a0 a1 = some r) : Spec Tryz.prog 14 [] [.agg (pW β1 β2 a0),rW β3 a1 eW] [] (.tup [iW r.1,iW r.2]) [] := by
 refine Spec.of (fn := Tryz.f14) Tryz.func14 Tryz.ntmps14 rfl rfl (le1 rfl) (fun w0 Zs Zb T0 ι0 => ?_)
 unfold m14 at h
 refine AWP.sv (.cons (.box (t := 1) (n := 2) (l1 rfl) (nm rfl) (.t rfl) (by first | exact ⟨rfl,rfl⟩ | rfl) rfl)<| .cons (.assign (l1 rfl) (.const _ _ _))<| .cons (.assign (l1 rfl) (.const _ _ _))<| .nil _ _ _) ⟨[(1,rW β3 a1 eW),(2,.ptr 1 0)],[(1,⟨37,false,(pW β1 β2 a0)⟩)]⟩ rfl rfl ?_
 refine AWP.seq ?_
 refine AWP.block ?_
 obtain ⟨y_1,hy_1,h⟩ := bindS h
 refine AWP.sv (.cons (.loadPA (l1 rfl) (.t rfl) agg37 rfl rfl rfl rfl)<| .cons (.call0 (bw := false) (l1 rfl) (c16 (β1 := β1) (β2 := β2) n (R24.mk a0.Pq a0.Bq) hy_1) (.cons (.t rfl) (.ren rfl) (.nil)) rfl)<| .cons (.not (l1 rfl) (.t rfl))<| .cons (.assign (l1 rfl) (.t rfl))<| .nil _ _ _) ⟨[(1,rW β3 a1 eW),(2,.ptr 1 0),(8,bW (!y_1))],[(1,⟨37,false,(pW β1 β2 a0)⟩)]⟩ rfl rfl ?_
 refine AWP.cond (.t rfl) (fun hc => ?_) (fun hc => ?_)
 ·have h := iteT hc h
  refine AWP.sr (.cons (.assign (l1 rfl) (.const _ _ _))<| .cons (.assign (l1 rfl) (.const _ _ _))<| .nil _ _ _) ?_
  refine AWP.ret ?_
  obtain rfl := Option.some.inj h
  refine retJ (Res.vc (s' := ⟨[(4,iW (0 : Int)),(5,iW (1 : Int))],[]⟩) (VC.sub (.of rfl) (.n _)) ?_)
  refine Res.drop (H := []) rfl ?_
  exact Res.of rfl (.cons (.tmp rfl) (.cons (.tmp rfl) (.nil))) rfl rfl
 ·have h := iteF hc h
  obtain ⟨y_2,hy_2,h⟩ := bindS h
  refine AWP.sv (.cons (.loadPA (l1 rfl) (.t rfl) agg37 rfl rfl rfl rfl)<| .cons (.move (l1 rfl) (.t rfl))<| .cons (.call0 (bw := false) (l1 rfl) (c34 (β1 := β1) (β2 := β2) (β3 := β3) n (R24.mk a0.Pq a0.Bq) a1 hy_2) (.cons (.t rfl) (.ren rfl) (.cons (.t rfl) (.ren rfl) (.nil))) rfl)<| .cons (.not (l1 rfl) (.t rfl))<| .cons (.assign (l1 rfl) (.t rfl))<| .nil _ _ _) ⟨[(1,rW β3 a1 eW),(2,.ptr 1 0),(12,bW (!y_2))],[(1,⟨37,false,(pW β1 β2 a0)⟩)]⟩ rfl rfl ?_
  refine AWP.cond (.t rfl) (fun hc => ?_) (fun hc => ?_)
  ·have h := iteT hc h
   refine AWP.sr (.cons (.assign (l1 rfl) (.const _ _ _))<| .cons (.assign (l1 rfl) (.const _ _ _))<| .nil _ _ _) ?_
   refine AWP.ret ?_
   obtain rfl := Option.some.inj h
   refine retJ (Res.vc (s' := ⟨[(4,iW (0 : Int)),(5,iW (2 : Int))],[]⟩) (VC.sub (.of rfl) (.n _)) ?_)
   refine Res.drop (H := []) rfl ?_
   exact Res.of rfl (.cons (.tmp rfl) (.cons (.tmp rfl) (.nil))) rfl rfl
  ·have h := iteF hc h
   refine AWP.skip ?_
   obtain ⟨y_3,hy_3,h⟩ := bindS h
   refine AWP.sv (.cons (.loadPA (l1 rfl) (.t rfl) agg37 rfl rfl rfl rfl)<| .cons (.move (l1 rfl) (.t rfl))<| .cons (.call0 (bw := false) (l1 rfl) (c35 (β1 := β1) (β2 := β2) (β3 := β3) n (R24.mk a0.Pq a0.Bq) a1 hy_3) (.cons (.t rfl) (.ren rfl) (.cons (.t rfl) (.ren rfl) (.nil))) rfl)<| .cons (.move (l1 rfl) (.t rfl))<| .cons (.extract (l1 rfl) (.t rfl) rfl)<| .cons (.extract (l1 rfl) (.t rfl) rfl)<| .cons (.assign (l1 rfl) (.t rfl))<| .cons (.assign (l1 rfl) (.t rfl))<| .nil _ _ _) ⟨[(6,iW y_3.1)],[]⟩ rfl rfl ?_
   refine AWP.sr (.cons (.move (l1 rfl) (.t rfl))<| .cons (.assign (l1 rfl) (.t rfl))<| .cons (.assign (l1 rfl) (.const _ _ _))<| .nil _ _ _) ?_
   refine AWP.ret ?_
   obtain rfl := Option.some.inj h
   refine retJ (Res.vc (s' := ⟨[(4,iW y_3.1),(5,iW (0 : Int))],[]⟩) (VC.sub (.of rfl) (.n _)) ?_)
   refine Res.drop (H := []) rfl ?_
   exact Res.of rfl (.cons (.tmp rfl) (.cons (.tmp rfl) (.nil))) rfl rfl
theorem c15 {β1 : Bool} {β2 : Bool} (n : Nat) (a0 : (List Int)) (a1 : (List Int)) {r : Bool} (h : m15 n a0 a1 = some r) : Spec Tryz.prog 15 [] [rW β1 a0 eW,rW β2 a1 eW] [] (bW r) [] := by
 refine Spec.of (fn := Tryz.f15) Tryz.func15 Tryz.ntmps15 rfl rfl (le1 rfl) (fun w0 Zs Zb T0 ι0 => ?_)
 unfold m15 at h
 refine AWP.sv (.cons (.assign (l1 rfl) (.const _ _ _))<| .nil _ _ _) ⟨[(0,rW β1 a0 eW),(1,rW β2 a1 eW)],[]⟩ rfl rfl ?_
 refine AWP.seq ?_
 refine AWP.sv (.cons (.move (l1 rfl) (.t rfl))<| .cons (.lenRd (l1 rfl) (.t rfl) Tryz.underlying28)<| .cons (.move (l1 rfl) (.t rfl))<| .cons (.lenRd (l1 rfl) (.t rfl) Tryz.underlying28)<| .cons (.neq (l1 rfl) (.t rfl) (.t rfl))<| .nil _ _ _) ⟨[(0,rW β1 a0 eW),(1,rW β2 a1 eW),(10,bW (!decide ((a0.length : Int) = (a1.length : Int))))],[]⟩ rfl rfl ?_
 refine AWP.cond (.t rfl) (fun hc => ?_) (fun hc => ?_)
 ·have h := iteT hc h
  refine AWP.sr (.cons (.assign (l1 rfl) (.const _ _ _))<| .nil _ _ _) ?_
  refine AWP.ret ?_
  obtain rfl := Option.some.inj h
  refine retJ (Res.vc (s' := ⟨[(4,bW false)],[]⟩) (VC.sub (.of rfl) (.n _)) ?_)
  refine Res.drop (H := []) rfl ?_
  exact Res.of rfl (.cons (.tmp rfl) (.nil)) rfl rfl
 ·have h := iteF hc h
  refine AWP.skip ?_
  refine AWP.seq ?_
  refine AWP.sv (.cons (.assign (l1 rfl) (.const _ _ _))<| .nil _ _ _) ⟨[(0,rW β1 a0 eW),(1,rW β2 a1 eW),(5,iW (0 : Int))],[]⟩ rfl rfl ?_
  refine AWP.joinB' (S := fun p_10 : Unit => ⟨[],[]⟩) h (fun p_10 h => ?_) (fun k_11 h => ?_)
  ·refine AWP.sr (.cons (.assign (l1 rfl) (.const _ _ _))<| .nil _ _ _) ?_
   refine AWP.ret ?_
   obtain rfl := Option.some.inj h
   refine retJ (Res.vc (s' := ⟨[(4,bW true)],[]⟩) (VC.sub (.of rfl) (.n _)) ?_)
   refine Res.drop (H := []) rfl ?_
   exact Res.of rfl (.cons (.tmp rfl) (.nil)) rfl rfl
  ·refine AWP.vs ⟨[(0,rW β1 a0 eW),(1,rW β2 a1 eW),(5,iW (0 : Int))],[]⟩ rfl rfl ?_
   refine AWP.loopM (S := fun x_5 : Int => ⟨[(0,rW β1 a0 eW),(1,rW β2 a1 eW),(5,iW x_5)],[]⟩) (x := (0 : Int)) (fun nx_6 x_5 h => ?_) h
   unfold m15_L1 at h
   refine AWP.seq ?_
   refine AWP.sv (.cons (.move (l1 rfl) (.t rfl))<| .cons (.move (l1 rfl) (.t rfl))<| .cons (.lenRd (l1 rfl) (.t rfl) Tryz.underlying28)<| .cons (.lss (l1 rfl) (.t rfl) (.t rfl))<| .nil _ _ _) ⟨[(0,rW β1 a0 eW),(1,rW β2 a1 eW),(5,iW x_5),(14,bW (decide (x_5 < (a0.length : Int))))],[]⟩ rfl rfl ?_
   refine AWP.cond (.t rfl) (fun hc => ?_) (fun hc => ?_)
   ·have h := iteT hc h
    refine AWP.skip ?_
    refine AWP.seq ?_
    refine AWP.block ?_
    refine AWP.seq ?_
    obtain ⟨y_7,hy_7,h⟩ := bindS h
    obtain ⟨y_8,hy_8,h⟩ := bindS h
    refine AWP.dw mixed [(0,rW β1 a0 eW),(1,rW β2 a1 eW),(5,iW x_5),(14,bW (decide (x_5 < (a0.length : Int))))] [] [dO [0] 17 (rW β1 a0 eW),dO [2] 18 (iW x_5),dO [4,5] 19 (.rptr β1 [iW y_7]),dO [6] 20 (iW y_7),dO [1] 21 (rW β2 a1 eW),dO [2] 22 (iW x_5),dO [8,9] 23 (.rptr β2 [iW y_8]),dO [10] 24 (iW y_8),dO [7,11] 25 (bW (!decide (y_7 = y_8)))] [] [[]] [[],[],[0,2],[0,3],[],[],[4,6],[4,7],[0,8]] [0,1,2,12] rfl rfl (by kernel_rfl) rfl (.p rfl (fun _ q _ => .move (l1 rfl) (q.t 0 rfl))<| .p rfl (fun _ q _ => .move (l1 rfl) (q.t 0 rfl))<| .p rfl (fun _ q _ => .indexRd (enc := eW) (l1 rfl) (q.t 0 rfl) (q.t 1 rfl) Tryz.underlying28 sz3 (encI_len .i64) rfl hy_7)<| .p rfl (fun _ q _ => .loadR (v := iW y_7) (l1 rfl) (q.t 0 rfl) one3 rfl)<| .p rfl (fun _ q _ => .move (l1 rfl) (q.t 0 rfl))<| .p rfl (fun _ q _ => .move (l1 rfl) (q.t 0 rfl))<| .p rfl (fun _ q _ => .indexRd (enc := eW) (l1 rfl) (q.t 0 rfl) (q.t 1 rfl) Tryz.underlying28 sz3 (encI_len .i64) rfl hy_8)<| .p rfl (fun _ q _ => .loadR (v := iW y_8) (l1 rfl) (q.t 0 rfl) one3 rfl)<| .p rfl (fun _ q _ => .neq (l1 rfl) (q.t 0 rfl) (q.t 1 rfl))<| .nil _) rfl rfl ?_
    refine AWP.vs ⟨[(0,rW β1 a0 eW),(1,rW β2 a1 eW),(5,iW x_5),(25,bW (!decide (y_7 = y_8)))],[]⟩ rfl rfl ?_
    refine AWP.cond (.t rfl) (fun hc => ?_) (fun hc => ?_)
    ·have h := iteT hc h
     refine AWP.sr (.cons (.assign (l1 rfl) (.const _ _ _))<| .nil _ _ _) ?_
     refine AWP.ret ?_
     obtain rfl := Option.some.inj h
     refine retJ (Res.vc (s' := ⟨[(4,bW false)],[]⟩) (VC.sub (.of rfl) (.n _)) ?_)
     refine Res.drop (H := []) rfl ?_
     exact Res.of rfl (.cons (.tmp rfl) (.nil)) rfl rfl
    ·have h := iteF hc h
     refine AWP.skip ?_
     obtain ⟨t5_9,ht5_9,h⟩ := letS h
     refine AWP.rg (.cons (.move (l1 rfl) (.t rfl))<| .cons (.add (l1 rfl) (.t rfl) (.const _ _ _))<| .cons (.assign (l1 rfl) (.t rfl))<| .nil _ _ _) ?_
     exact endJ t5_9 h (by subst ht5_9; exact VC.sub (.of rfl) (.n _))
   ·have h := iteF hc h
    refine AWP.exit ?_
    exact endJ () h (VC.sub (.n _) (.n _))
theorem c4 (n : Nat) {r : Bool} (h : m4 n = some r) : Spec Tryz.prog 4 [] [] [] (bW r) [] := by
 refine Spec.of (fn := Tryz.f4) Tryz.func4 Tryz.ntmps4 rfl rfl (le1 rfl) (fun w0 Zs Zb T0 ι0 => ?_)
 unfold m4 at h
 refine AWP.sr (.cons (.assign (l1 rfl) (.const _ _ _))<| .nil _ _ _) ?_
 refine AWP.vc (s' := ⟨[],[]⟩) (VC.sub (.n _) (.n _)) ?_
 refine AWP.sv (.cons (.buildO (offs := [(0,1),(1,1)]) (l1 rfl) (.nil) zero51 offs51 rfl)<| .cons (.buildO (offs := [(0,1),(1,1)]) (l1 rfl) (.cons (.const _ _ _) (by first | exact ⟨rfl,rfl⟩ | rfl) (.nil)) zero51 offs51 rfl)<| .cons (.buildO (offs := [(0,1),(1,1)]) (l1 rfl) (.cons (.const _ _ _) (by first | exact ⟨rfl,rfl⟩ | rfl) (.cons (.const _ _ _) (by first | exact ⟨rfl,rfl⟩ | rfl) (.nil))) zero51 offs51 rfl)<| .cons (.buildO (offs := [(0,1),(1,1)]) (l1 rfl) (.cons (.const _ _ _) (by first | exact ⟨rfl,rfl⟩ | rfl) (.nil)) zero51 offs51 rfl)<| .cons (.buildSlice (t := 1) (out := ([(R50.mk (0 : Int) (0 : Int)),(R50.mk (4 : Int) (0 : Int)),(R50.mk (4 : Int) (3 : Int)),(R50.mk (0 : Int) (3 : Int))] : List R50).flatMap e50) (l1 rfl) (nm rfl) (.cons (.t rfl) (by first | exact ⟨rfl,rfl⟩ | rfl) (.cons (.t rfl) (by first | exact ⟨rfl,rfl⟩ | rfl) (.cons (.t rfl) (by first | exact ⟨rfl,rfl⟩ | rfl) (.cons (.t rfl) (by first | exact ⟨rfl,rfl⟩ | rfl) (.nil))))) Tryz.underlying22 zero51 el51 (by decide) (by decide) rfl (still_all encR50_still _))<| .cons (.buildO (offs := [(0,1),(1,1)]) (l1 rfl) (.cons (.t rfl) (by first | exact ⟨rfl,rfl⟩ | rfl) (.nil)) zero37 offs37 rfl)<| .cons (.alloc (t := 2) (k := ⟨37,false,[.sc (.slice none 0 0),.sc (.slice none 0 0)]⟩) (l1 rfl) (nm rfl) zero37 rfl rfl)<| .cons (.storePA (.t rfl) (.t rfl) sz37 rfl rfl (le1 rfl) (one_lit rfl) (by intro h; cases h) rfl)<| .nil _ _ _) ⟨[(1,.ptr 2 0)],[(2,⟨37,false,[.own 1 2 0 ([(R50.mk (0 : Int) (0 : Int)),(R50.mk (4 : Int) (0 : Int)),(R50.mk (4 : Int) (3 : Int)),(R50.mk (0 : Int) (3 : Int))] : List R50).length,.sc (.slice none 0 0)]⟩),(1,⟨51,true,([(R50.mk (0 : Int) (0 : Int)),(R50.mk (4 : Int) (0 : Int)),(R50.mk (4 : Int) (3 : Int)),(R50.mk (0 : Int) (3 : Int))] : List R50).flatMap e50⟩)]⟩ rfl rfl ?_
 obtain ⟨y_1,hy_1,h⟩ := bindS h
 refine AWP.sv (.cons (.loadPA (l1 rfl) (.t rfl) agg37 rfl rfl rfl rfl)<| .cons (.call0 (bw := true) (l1 rfl) (c13 (β1 := true) (β2 := false) n (R24.mk ([(R50.mk (0 : Int) (0 : Int)),(R50.mk (4 : Int) (0 : Int)),(R50.mk (4 : Int) (3 : Int)),(R50.mk (0 : Int) (3 : Int))] : List R50) ([] : List R71)) hy_1) (.cons (.t rfl) (.agg (.cons (.lendRow rfl rfl encR50_len rfl) (.cons (.nil) (.nil)))) (.nil)) rfl)<| .cons (.move (l1 rfl) (.t rfl))<| .cons (.extract (l1 rfl) (.t rfl) rfl)<| .cons (.extract (l1 rfl) (.t rfl) rfl)<| .cons (.extract (l1 rfl) (.t rfl) rfl)<| .cons (.assign (l1 rfl) (.t rfl))<| .cons (.assign (l1 rfl) (.t rfl))<| .cons (.assign (l1 rfl) (.t rfl))<| .nil _ _ _) ⟨[(1,.ptr 2 0),(2,rW false y_1.1 eW),(3,iW y_1.2.1),(4,iW y_1.2.2)],[(2,⟨37,false,[.own 1 2 0 ([(R50.mk (0 : Int) (0 : Int)),(R50.mk (4 : Int) (0 : Int)),(R50.mk (4 : Int) (3 : Int)),(R50.mk (0 : Int) (3 : Int))] : List R50).length,.sc (.slice none 0 0)]⟩),(1,⟨51,true,([(R50.mk (0 : Int) (0 : Int)),(R50.mk (4 : Int) (0 : Int)),(R50.mk (4 : Int) (3 : Int)),(R50.mk (0 : Int) (3 : Int))] : List R50).flatMap e50⟩)]⟩ rfl rfl ?_
 refine AWP.seq ?_
 obtain ⟨l3_2,hl3_2,h⟩ := bindS h
 obtain ⟨y_3,hy_3,h⟩ := bindS h
 refine AWP.dw mixed [(1,.ptr 2 0),(2,rW false y_1.1 eW),(3,iW y_1.2.1),(4,iW y_1.2.2)] [] [⟨[0],0,1,some (20,.agg [.own 1 2 0 ([(R50.mk (0 : Int) (0 : Int)),(R50.mk (4 : Int) (0 : Int)),(R50.mk (4 : Int) (3 : Int)),(R50.mk (0 : Int) (3 : Int))] : List R50).length,.sc (.slice none 0 0)]),[]⟩,⟨[],0,0,some (21,.own 3 1 0 l3_2.length),[3]⟩,⟨[4,5],1,1,some (22,.tup [iW y_3.1,iW y_3.2]),[]⟩,⟨[6],0,1,some (19,.tup [iW y_3.1,iW y_3.2]),[]⟩,⟨[7],0,1,some (23,iW y_3.1),[]⟩,⟨[7],0,1,some (24,iW y_3.2),[]⟩,⟨[8],0,1,some (5,iW y_3.1),[]⟩,⟨[9],0,1,some (6,iW y_3.2),[]⟩] [1] [[(2,⟨37,false,[.own 1 2 0 ([(R50.mk (0 : Int) (0 : Int)),(R50.mk (4 : Int) (0 : Int)),(R50.mk (4 : Int) (3 : Int)),(R50.mk (0 : Int) (3 : Int))] : List R50).length,.sc (.slice none 0 0)]⟩),(1,⟨51,true,([(R50.mk (0 : Int) (0 : Int)),(R50.mk (4 : Int) (0 : Int)),(R50.mk (4 : Int) (3 : Int)),(R50.mk (0 : Int) (3 : Int))] : List R50).flatMap e50⟩)],[(3,⟨3,true,l3_2.flatMap eW⟩),(2,⟨37,false,[.own 1 2 0 ([(R50.mk (0 : Int) (0 : Int)),(R50.mk (4 : Int) (0 : Int)),(R50.mk (4 : Int) (3 : Int)),(R50.mk (0 : Int) (3 : Int))] : List R50).length,.sc (.slice none 0 0)]⟩),(1,⟨51,true,([(R50.mk (0 : Int) (0 : Int)),(R50.mk (4 : Int) (0 : Int)),(R50.mk (4 : Int) (3 : Int)),(R50.mk (0 : Int) (3 : Int))] : List R50).flatMap e50⟩)]] [[],[],[0,2],[0,3],[0,4],[0,4],[0,5],[0,7]] [0,1,2,3,10,11] rfl rfl (by kernel_rfl) rfl (.read rfl (.c (.put (fun E hE => .loadPA (l1 rfl) (hE.t 0 rfl) agg37 rfl rfl rfl rfl)) (.c (.put (fun E hE => .loadPA (l1 rfl) (hE.t 0 rfl) agg37 rfl rfl rfl rfl)) (.n)))<| .turn rfl rfl rfl rfl rfl (.new (fun E hE => .mkS (enc := eW) (t := 3) (l1 rfl) (nm rfl) (.const _ _ _) (.const _ _ _) Tryz.underlying28 zero3 el3 rfl (encI_len .i64) (by decide) hl3_2) rfl)<| .read rfl (.c (.put (fun E hE => .call0 (bw := true) (l1 rfl) (c14 (β1 := true) (β2 := false) (β3 := true) n (R24.mk ([(R50.mk (0 : Int) (0 : Int)),(R50.mk (4 : Int) (0 : Int)),(R50.mk (4 : Int) (3 : Int)),(R50.mk (0 : Int) (3 : Int))] : List R50) ([] : List R71)) l3_2 hy_3) (.cons (hE.t 0 rfl) (.agg (.cons (.lendRow rfl rfl encR50_len rfl) (.cons (.nil) (.nil)))) (.cons (hE.t 1 rfl) (.lendRow rfl rfl (encI_len .i64) rfl) (.nil))) rfl)) (.n))<| .p rfl (fun _ q _ => .move (l1 rfl) (q.t 0 rfl))<| .p rfl (fun _ q _ => .extract (l1 rfl) (q.t 0 rfl) rfl)<| .p rfl (fun _ q _ => .extract (l1 rfl) (q.t 0 rfl) rfl)<| .p rfl (fun _ q _ => .assign (l1 rfl) (q.t 0 rfl))<| .p rfl (fun _ q _ => .assign (l1 rfl) (q.t 0 rfl))<| .nil _) rfl rfl ?_
 refine AWP.vs ⟨[(1,.ptr 2 0),(2,rW false y_1.1 eW),(3,iW y_1.2.1),(4,iW y_1.2.2),(5,iW y_3.1),(6,iW y_3.2)],[(2,⟨37,false,[.own 1 2 0 ([(R50.mk (0 : Int) (0 : Int)),(R50.mk (4 : Int) (0 : Int)),(R50.mk (4 : Int) (3 : Int)),(R50.mk (0 : Int) (3 : Int))] : List R50).length,.sc (.slice none 0 0)]⟩),(1,⟨51,true,([(R50.mk (0 : Int) (0 : Int)),(R50.mk (4 : Int) (0 : Int)),(R50.mk (4 : Int) (3 : Int)),(R50.mk (0 : Int) (3 : Int))] : List R50).flatMap e50⟩)]⟩ rfl rfl ?_
 obtain ⟨y_4,hy_4,h⟩ := bindS h
 obtain ⟨y_5,hy_5,h⟩ := bindS h
 refine AWP.sr (.cons (.move (l1 rfl) (.t rfl))<| .cons (.eql (l1 rfl) (.t rfl) (.const _ _ _))<| .cons (.move (l1 rfl) (.t rfl))<| .guard (j := 2) (dj := 27) rfl (l1 rfl) rfl (l1 rfl) (fun hg => .move (l1 rfl) (.t rfl))<| .guard (j := 2) (dj := 27) rfl (l1 rfl) rfl (l1 rfl) (fun hg => .eql (l1 rfl) (.gd hg (.t rfl)) (.const _ _ _))<| .cons (.pickAnd (l1 rfl) (.t rfl) (.t rfl) (.const _ _ _))<| .cons (.move (l1 rfl) (.t rfl))<| .guard (j := 6) (dj := 31) rfl (l1 rfl) rfl (l1 rfl) (fun hg => .move (l1 rfl) (.t rfl))<| .guard (j := 6) (dj := 31) rfl (l1 rfl) rfl (l1 rfl) (fun hg => .eql (l1 rfl) (.gd hg (.t rfl)) (.const _ _ _))<| .cons (.pickAnd (l1 rfl) (.t rfl) (.t rfl) (.const _ _ _))<| .cons (.move (l1 rfl) (.t rfl))<| .guard (j := 10) (dj := 35) rfl (l1 rfl) rfl (l1 rfl) (fun hg => .move (l1 rfl) (.t rfl))<| .guard (j := 10) (dj := 35) rfl (l1 rfl) rfl (l1 rfl) (fun hg => .eql (l1 rfl) (.gd hg (.t rfl)) (.const _ _ _))<| .cons (.pickAnd (l1 rfl) (.t rfl) (.t rfl) (.const _ _ _))<| .cons (.move (l1 rfl) (.t rfl))<| .guard (j := 14) (dj := 39) rfl (l1 rfl) rfl (l1 rfl) (fun hg => .move (l1 rfl) (.t rfl))<| .guard (j := 14) (dj := 39) rfl (l1 rfl) rfl (l1 rfl) (fun hg => .frzAny (fun t ht => AStep.buildSlice (t := t) (out := ([(0 : Int),(1 : Int),(2 : Int),(3 : Int)] : List Int).flatMap eW) (l1 rfl) ht (.cons (.const _ _ _) (by first | exact ⟨rfl,rfl⟩ | rfl) (.cons (.const _ _ _) (by first | exact ⟨rfl,rfl⟩ | rfl) (.cons (.const _ _ _) (by first | exact ⟨rfl,rfl⟩ | rfl) (.cons (.const _ _ _) (by first | exact ⟨rfl,rfl⟩ | rfl) (.nil))))) Tryz.underlying28 zero3 el3 (by decide) (by decide) rfl (still_all (encI_still .i64) _)) rfl (encI_len .i64))<| .guard (j := 14) (dj := 39) rfl (l1 rfl) rfl (l1 rfl) (fun hg => .call0 (bw := false) (l1 rfl) (c15 (β1 := false) (β2 := false) n y_1.1 ([(0 : Int),(1 : Int),(2 : Int),(3 : Int)] : List Int) (gdB hy_4 hg)) (.cons (.gd hg (.t rfl)) (.ren rfl) (.cons (.gd hg (.t rfl)) (.ren rfl) (.nil))) rfl)<| .cons (.pickAnd (l1 rfl) (.t rfl) (.t rfl) (.const _ _ _))<| .cons (.move (l1 rfl) (.t rfl))<| .guard (j := 19) (dj := 44) rfl (l1 rfl) rfl (l1 rfl) (fun hg => .loadPA (l1 rfl) (.t rfl) agg37 rfl rfl rfl rfl)<| .guard (j := 19) (dj := 44) rfl (l1 rfl) rfl (l1 rfl) (fun hg => .call0 (bw := true) (l1 rfl) (c16 (β1 := true) (β2 := false) n (R24.mk ([(R50.mk (0 : Int) (0 : Int)),(R50.mk (4 : Int) (0 : Int)),(R50.mk (4 : Int) (3 : Int)),(R50.mk (0 : Int) (3 : Int))] : List R50) ([] : List R71)) (gdB hy_5 hg)) (.cons (.gd hg (.t rfl)) (.agg (.cons (.lendRow rfl rfl encR50_len rfl) (.cons (.nil) (.nil)))) (.nil)) rfl)<| .cons (.pickAnd (l1 rfl) (.t rfl) (.t rfl) (.const _ _ _))<| .cons (.assign (l1 rfl) (.t rfl))<| .nil _ _ _) ?_
 refine AWP.ret ?_
 obtain rfl := Option.some.inj h
 refine retJ (Res.vc (s' := ⟨[(0,bW ((((((decide (y_1.2.2 = (0 : Int))) && (decide (y_3.2 = (0 : Int)))) && (decide (y_1.2.1 = (14 : Int)))) && (decide (y_3.1 = (14 : Int)))) && y_4) && y_5))],[]⟩) (VC.sub (.of rfl) (.n _)) ?_)
 refine Res.drop (H := []) rfl ?_
 exact Res.of rfl (.cons (.tmp rfl) (.nil)) rfl rfl
end Go.AB

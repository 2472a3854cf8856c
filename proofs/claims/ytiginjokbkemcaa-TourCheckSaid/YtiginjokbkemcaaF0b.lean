import Derived.Test.YtiginjokbkemcaaProg
import Derived.Test.YtiginjokbkemcaaF0a
import Derived.KernelRfl
set_option linter.unusedVariables false
set_option maxRecDepth 20000
namespace Go.AB
open Go Go.Proofs
theorem c103 {β1 : Bool} {β2 : Bool} {β3 : Bool} (n : Nat) (a0_b : (List Int)) (a1 : Int) (a2_0_b0 : (List R45)) (a2_0_b1 : (List R93)) (a2_1_b0 : (List Int)) {r : (List Int)} (h : m103 n a0_b a1 a2_0_b0 a2_0_b1 a2_1_b0 = some r) : Spec Try.prog 103 [1,2,3] [.own 1 1 0 a0_b.length,iW a1,.clo (.func 84) [] [.ptr 2 0,.ptr 3 0]] [(1,⟨3,true,a0_b.flatMap eW⟩),(2,⟨32,false,[rW β1 a2_0_b0 e45,rW β2 a2_0_b1 e93]⟩),(3,⟨28,false,[rW β3 a2_1_b0 eW]⟩)] (.tup []) [(1,⟨3,true,r.flatMap eW⟩),(2,⟨32,false,[rW β1 a2_0_b0 e45,rW β2 a2_0_b1 e93]⟩),(3,⟨28,false,[rW β3 a2_1_b0 eW]⟩)] := by
 refine Spec.of (fn := Try.f103) Try.func103 Try.ntmps103 rfl rfl (le1 rfl) (fun w0 Zs Zb T0 ι0 => ?_)
 unfold m103 at h
 refine AWP.seq ?_
 refine AWP.rg (.cons (.assign (l1 rfl) (.const _ _ _))<| ARun.nil _ _ _) ?_
 refine AWP.vc (s' := ⟨[(0,.own 1 1 0 a0_b.length),(1,iW a1),(2,.clo (.func 84) [] [.ptr 2 0,.ptr 3 0]),(6,iW (20 : Int))],[(1,⟨3,true,a0_b.flatMap eW⟩),(2,⟨32,false,[rW β1 a2_0_b0 e45,rW β2 a2_0_b1 e93]⟩),(3,⟨28,false,[rW β3 a2_1_b0 eW]⟩)]⟩) (VC.sub (.of rfl) (.of rfl)) ?_
 refine AWP.seq ?_
 refine AWP.rg (.cons (.move (l1 rfl) (.t rfl))<| .cons (.assign (l1 rfl) (.const _ _ _))<| .cons (.assign (l1 rfl) (.t rfl))<| ARun.nil _ _ _) ?_
 refine AWP.vc (s' := ⟨[(0,.own 1 1 0 a0_b.length),(1,iW a1),(2,.clo (.func 84) [] [.ptr 2 0,.ptr 3 0]),(6,iW (20 : Int)),(7,iW (0 : Int)),(8,iW (20 : Int))],[(1,⟨3,true,a0_b.flatMap eW⟩),(2,⟨32,false,[rW β1 a2_0_b0 e45,rW β2 a2_0_b1 e93]⟩),(3,⟨28,false,[rW β3 a2_1_b0 eW]⟩)]⟩) (VC.sub (.of rfl) (.of rfl)) ?_
 refine AWP.seq ?_
 refine AWP.joinB' (S := fun p_14 : Int × (List Int) => ⟨[(0,.own 1 1 0 p_14.2.length),(1,iW a1),(2,.clo (.func 84) [] [.ptr 2 0,.ptr 3 0]),(6,iW (20 : Int)),(7,iW p_14.1)],[(1,⟨3,true,p_14.2.flatMap eW⟩),(2,⟨32,false,[rW β1 a2_0_b0 e45,rW β2 a2_0_b1 e93]⟩),(3,⟨28,false,[rW β3 a2_1_b0 eW]⟩)]⟩) h (fun p_14 h => ?_) (fun k_15 h => ?_)
 ·refine AWP.seq ?_
  obtain ⟨y_16,hy_16,h⟩ := bindS h
  obtain ⟨ha_17,h⟩ := asrtS h
  refine AWP.rg (.cons (.move (l1 rfl) (.t rfl))<| .cons (.move (l1 rfl) (.t rfl))<| .cons (.move (l1 rfl) (.t rfl))<| .cons (.move (l1 rfl) (.t rfl))<| .cons (.call (σ := sgT [(1,1),(2,2),(3,3)]) (bw := false) (l1 rfl) (c111 (β1 := β1) (β2 := β2) (β3 := β3) n p_14.2 p_14.1 a1 a2_0_b0 a2_0_b1 a2_1_b0 hy_16) (.cons (.t rfl) (.ren rfl) (.cons (.t rfl) (.ren rfl) (.cons (.t rfl) (.ren rfl) (.cons (.t rfl) (.ren rfl) (.nil))))) (CallOk.mk' (.c rfl (.c rfl (.c rfl (.n)))) rfl))<| ARun.nil _ _ _) ?_
  refine AWP.vc (s' := ⟨[(0,.own 1 1 0 y_16.length),(1,iW a1),(2,.clo (.func 84) [] [.ptr 2 0,.ptr 3 0]),(6,iW (20 : Int))],[(1,⟨3,true,y_16.flatMap eW⟩),(2,⟨32,false,[rW β1 a2_0_b0 e45,rW β2 a2_0_b1 e93]⟩),(3,⟨28,false,[rW β3 a2_1_b0 eW]⟩)]⟩) (VC.sub (.c (lenC (Eq.symm (Eq.symm ha_17)) rfl)<| .c rfl<| .c rfl<| .c rfl<| .n _) (.of rfl)) ?_
  refine AWP.joinB' (S := fun p_37 : Unit => ⟨[],[(1,⟨3,true,y_16.flatMap eW⟩),(2,⟨32,false,[rW β1 a2_0_b0 e45,rW β2 a2_0_b1 e93]⟩),(3,⟨28,false,[rW β3 a2_1_b0 eW]⟩)]⟩) h (fun p_37 h => ?_) (fun k_38 h => ?_)
  ·obtain rfl := Option.some.inj h
   refine norJ (Res.vc (s' := ⟨[],[(1,⟨3,true,y_16.flatMap eW⟩),(2,⟨32,false,[rW β1 a2_0_b0 e45,rW β2 a2_0_b1 e93]⟩),(3,⟨28,false,[rW β3 a2_1_b0 eW]⟩)]⟩) (VC.sub (.n _) (.of rfl)) ?_)
   refine Res.sub (H := [(1,⟨3,true,y_16.flatMap eW⟩),(2,⟨32,false,[rW β1 a2_0_b0 e45,rW β2 a2_0_b1 e93]⟩),(3,⟨28,false,[rW β3 a2_1_b0 eW]⟩)]) (.of rfl) ?_
   exact Res.of rfl (.nil) rfl rfl
  ·refine AWP.vc (s' := ⟨[(0,.own 1 1 0 y_16.length),(1,iW a1),(2,.clo (.func 84) [] [.ptr 2 0,.ptr 3 0]),(6,iW (20 : Int))],[(1,⟨3,true,y_16.flatMap eW⟩),(2,⟨32,false,[rW β1 a2_0_b0 e45,rW β2 a2_0_b1 e93]⟩),(3,⟨28,false,[rW β3 a2_1_b0 eW]⟩)]⟩) (VC.sub (.of rfl) (.of rfl)) ?_
   refine AWP.loopM (S := fun x_27 : Int => ⟨[(0,.own 1 1 0 y_16.length),(1,iW a1),(2,.clo (.func 84) [] [.ptr 2 0,.ptr 3 0]),(6,iW x_27)],[(1,⟨3,true,y_16.flatMap eW⟩),(2,⟨32,false,[rW β1 a2_0_b0 e45,rW β2 a2_0_b1 e93]⟩),(3,⟨28,false,[rW β3 a2_1_b0 eW]⟩)]⟩) (x := (20 : Int)) (fun nx_28 x_27 h => ?_) h
   unfold m103_L3 at h
   refine AWP.seq ?_
   refine AWP.seq ?_
   refine AWP.rg (.cons (.move (l1 rfl) (.t rfl))<| .cons (.move (l1 rfl) (.t rfl))<| .cons (.lss (l1 rfl) (.t rfl) (.t rfl))<| ARun.nil _ _ _) ?_
   refine AWP.vc (s' := ⟨[(0,.own 1 1 0 y_16.length),(1,iW a1),(2,.clo (.func 84) [] [.ptr 2 0,.ptr 3 0]),(6,iW x_27),(30,bW (decide (x_27 < a1)))],[(1,⟨3,true,y_16.flatMap eW⟩),(2,⟨32,false,[rW β1 a2_0_b0 e45,rW β2 a2_0_b1 e93]⟩),(3,⟨28,false,[rW β3 a2_1_b0 eW]⟩)]⟩) (VC.sub (.of rfl) (.of rfl)) ?_
   refine AWP.cond (.t rfl) (fun hc => ?_) (fun hc => ?_)
   ·have h := iteT hc h
    refine AWP.skip ?_
    refine AWP.block ?_
    refine AWP.seq ?_
    obtain ⟨t8_29,ht8_29,h⟩ := letS h
    refine AWP.rg (.cons (.move (l1 rfl) (.t rfl))<| .cons (.mul (l1 rfl) (.const _ _ _) (.t rfl))<| .cons (.assign (l1 rfl) (.const _ _ _))<| .cons (.assign (l1 rfl) (.t rfl))<| ARun.nil _ _ _) ?_
    refine AWP.vc (s' := ⟨[(0,.own 1 1 0 y_16.length),(1,iW a1),(2,.clo (.func 84) [] [.ptr 2 0,.ptr 3 0]),(6,iW x_27),(7,iW (0 : Int)),(8,iW t8_29)],[(1,⟨3,true,y_16.flatMap eW⟩),(2,⟨32,false,[rW β1 a2_0_b0 e45,rW β2 a2_0_b1 e93]⟩),(3,⟨28,false,[rW β3 a2_1_b0 eW]⟩)]⟩) (by subst ht8_29; exact VC.sub (.of rfl) (.of rfl)) ?_
    refine AWP.seq ?_
    refine AWP.joinB' (S := fun p_33 : Int => ⟨[(0,.own 1 1 0 y_16.length),(1,iW a1),(2,.clo (.func 84) [] [.ptr 2 0,.ptr 3 0]),(6,iW x_27),(7,iW p_33)],[(1,⟨3,true,y_16.flatMap eW⟩),(2,⟨32,false,[rW β1 a2_0_b0 e45,rW β2 a2_0_b1 e93]⟩),(3,⟨28,false,[rW β3 a2_1_b0 eW]⟩)]⟩) h (fun p_33 h => ?_) (fun k_34 h => ?_)
    ·refine AWP.seq ?_
     refine AWP.seq ?_
     obtain ⟨t9_35,ht9_35,h⟩ := letS h
     refine AWP.rg (.cons (.move (l1 rfl) (.t rfl))<| .cons (.move (l1 rfl) (.t rfl))<| .cons (.add (l1 rfl) (.t rfl) (.t rfl))<| .cons (.assign (l1 rfl) (.t rfl))<| ARun.nil _ _ _) ?_
     refine AWP.vc (s' := ⟨[(0,.own 1 1 0 y_16.length),(1,iW a1),(2,.clo (.func 84) [] [.ptr 2 0,.ptr 3 0]),(6,iW x_27),(7,iW p_33),(9,iW t9_35)],[(1,⟨3,true,y_16.flatMap eW⟩),(2,⟨32,false,[rW β1 a2_0_b0 e45,rW β2 a2_0_b1 e93]⟩),(3,⟨28,false,[rW β3 a2_1_b0 eW]⟩)]⟩) (by subst ht9_35; exact VC.sub (.of rfl) (.of rfl)) ?_
     refine AWP.seq ?_
     refine AWP.rg (.cons (.move (l1 rfl) (.t rfl))<| .cons (.move (l1 rfl) (.t rfl))<| .cons (.lss (l1 rfl) (.t rfl) (.t rfl))<| ARun.nil _ _ _) ?_
     refine AWP.vc (s' := ⟨[(0,.own 1 1 0 y_16.length),(1,iW a1),(2,.clo (.func 84) [] [.ptr 2 0,.ptr 3 0]),(6,iW x_27),(7,iW p_33),(9,iW t9_35),(54,bW (decide (t9_35 < a1)))],[(1,⟨3,true,y_16.flatMap eW⟩),(2,⟨32,false,[rW β1 a2_0_b0 e45,rW β2 a2_0_b1 e93]⟩),(3,⟨28,false,[rW β3 a2_1_b0 eW]⟩)]⟩) (VC.sub (.of rfl) (.of rfl)) ?_
     refine AWP.cond (.t rfl) (fun hc => ?_) (fun hc => ?_)
     ·have h := iteT hc h
      cases h
     ·have h := iteF hc h
      refine AWP.skip ?_
      obtain ⟨t6_36,ht6_36,h⟩ := letS h
      refine AWP.rg (.cons (.move (l1 rfl) (.t rfl))<| .cons (.mul (l1 rfl) (.t rfl) (.const _ _ _))<| .cons (.assign (l1 rfl) (.t rfl))<| ARun.nil _ _ _) ?_
      exact endJ t6_36 h (by subst ht6_36; exact VC.sub (.of rfl) (.of rfl))
    ·refine AWP.vc (s' := ⟨[(0,.own 1 1 0 y_16.length),(1,iW a1),(2,.clo (.func 84) [] [.ptr 2 0,.ptr 3 0]),(6,iW x_27),(7,iW (0 : Int)),(8,iW t8_29)],[(1,⟨3,true,y_16.flatMap eW⟩),(2,⟨32,false,[rW β1 a2_0_b0 e45,rW β2 a2_0_b1 e93]⟩),(3,⟨28,false,[rW β3 a2_1_b0 eW]⟩)]⟩) (VC.sub (.of rfl) (.of rfl)) ?_
     refine AWP.loopM (S := fun x_31 : Int => ⟨[(0,.own 1 1 0 y_16.length),(1,iW a1),(2,.clo (.func 84) [] [.ptr 2 0,.ptr 3 0]),(6,iW x_27),(7,iW x_31),(8,iW t8_29)],[(1,⟨3,true,y_16.flatMap eW⟩),(2,⟨32,false,[rW β1 a2_0_b0 e45,rW β2 a2_0_b1 e93]⟩),(3,⟨28,false,[rW β3 a2_1_b0 eW]⟩)]⟩) (x := (0 : Int)) (fun nx_32 x_31 h => ?_) h
     unfold m103_L4 at h
     refine AWP.seq ?_
     refine AWP.seq ?_
     refine AWP.rg (.cons (.move (l1 rfl) (.t rfl))<| .cons (.move (l1 rfl) (.t rfl))<| .cons (.leq (l1 rfl) (.t rfl) (.t rfl))<| ARun.nil _ _ _) ?_
     refine AWP.vc (s' := ⟨[(0,.own 1 1 0 y_16.length),(1,iW a1),(2,.clo (.func 84) [] [.ptr 2 0,.ptr 3 0]),(6,iW x_27),(7,iW x_31),(8,iW t8_29),(35,bW (decide (t8_29 ≤ a1)))],[(1,⟨3,true,y_16.flatMap eW⟩),(2,⟨32,false,[rW β1 a2_0_b0 e45,rW β2 a2_0_b1 e93]⟩),(3,⟨28,false,[rW β3 a2_1_b0 eW]⟩)]⟩) (VC.sub (.of rfl) (.of rfl)) ?_
     refine AWP.cond (.t rfl) (fun hc => ?_) (fun hc => ?_)
     ·have h := iteT hc h
      refine AWP.skip ?_
      refine AWP.block ?_
      refine AWP.seq ?_
      cases h
     ·have h := iteF hc h
      refine AWP.exit ?_
      exact endJ x_31 h (VC.sub (.of rfl) (.of rfl))
   ·have h := iteF hc h
    refine AWP.exit ?_
    exact endJ () h (VC.sub (.n _) (.of rfl))
 ·refine AWP.vc (s' := ⟨[(0,.own 1 1 0 a0_b.length),(1,iW a1),(2,.clo (.func 84) [] [.ptr 2 0,.ptr 3 0]),(6,iW (20 : Int)),(7,iW (0 : Int)),(8,iW (20 : Int))],[(1,⟨3,true,a0_b.flatMap eW⟩),(2,⟨32,false,[rW β1 a2_0_b0 e45,rW β2 a2_0_b1 e93]⟩),(3,⟨28,false,[rW β3 a2_1_b0 eW]⟩)]⟩) (VC.sub (.of rfl) (.of rfl)) ?_
  refine AWP.loopM (S := fun x_9 : Int × Int × (List Int) => ⟨[(0,.own 1 1 0 x_9.2.2.length),(1,iW a1),(2,.clo (.func 84) [] [.ptr 2 0,.ptr 3 0]),(6,iW (20 : Int)),(7,iW x_9.1),(8,iW x_9.2.1)],[(1,⟨3,true,x_9.2.2.flatMap eW⟩),(2,⟨32,false,[rW β1 a2_0_b0 e45,rW β2 a2_0_b1 e93]⟩),(3,⟨28,false,[rW β3 a2_1_b0 eW]⟩)]⟩) (x := ((0 : Int),(20 : Int),a0_b)) (fun nx_10 x_9 h => ?_) h
  unfold m103_L1 at h
  refine AWP.seq ?_
  refine AWP.seq ?_
  refine AWP.rg (.cons (.move (l1 rfl) (.t rfl))<| .cons (.move (l1 rfl) (.t rfl))<| .cons (.leq (l1 rfl) (.t rfl) (.t rfl))<| ARun.nil _ _ _) ?_
  refine AWP.vc (s' := ⟨[(0,.own 1 1 0 x_9.2.2.length),(1,iW a1),(2,.clo (.func 84) [] [.ptr 2 0,.ptr 3 0]),(6,iW (20 : Int)),(7,iW x_9.1),(8,iW x_9.2.1),(13,bW (decide (x_9.2.1 ≤ a1)))],[(1,⟨3,true,x_9.2.2.flatMap eW⟩),(2,⟨32,false,[rW β1 a2_0_b0 e45,rW β2 a2_0_b1 e93]⟩),(3,⟨28,false,[rW β3 a2_1_b0 eW]⟩)]⟩) (VC.sub (.of rfl) (.of rfl)) ?_
  refine AWP.cond (.t rfl) (fun hc => ?_) (fun hc => ?_)
  ·have h := iteT hc h
   refine AWP.skip ?_
   refine AWP.block ?_
   refine AWP.seq ?_
   obtain ⟨y_11,hy_11,h⟩ := bindS h
   obtain ⟨ha_12,h⟩ := asrtS h
   refine AWP.rg (.cons (.move (l1 rfl) (.t rfl))<| .cons (.move (l1 rfl) (.t rfl))<| .cons (.move (l1 rfl) (.t rfl))<| .cons (.move (l1 rfl) (.t rfl))<| .cons (.call (σ := sgT [(1,1),(2,2),(3,3)]) (bw := false) (l1 rfl) (c111 (β1 := β1) (β2 := β2) (β3 := β3) n x_9.2.2 x_9.1 x_9.2.1 a2_0_b0 a2_0_b1 a2_1_b0 hy_11) (.cons (.t rfl) (.ren rfl) (.cons (.t rfl) (.ren rfl) (.cons (.t rfl) (.ren rfl) (.cons (.t rfl) (.ren rfl) (.nil))))) (CallOk.mk' (.c rfl (.c rfl (.c rfl (.n)))) rfl))<| ARun.nil _ _ _) ?_
   refine AWP.vc (s' := ⟨[(0,.own 1 1 0 y_11.length),(1,iW a1),(2,.clo (.func 84) [] [.ptr 2 0,.ptr 3 0]),(6,iW (20 : Int)),(8,iW x_9.2.1)],[(1,⟨3,true,y_11.flatMap eW⟩),(2,⟨32,false,[rW β1 a2_0_b0 e45,rW β2 a2_0_b1 e93]⟩),(3,⟨28,false,[rW β3 a2_1_b0 eW]⟩)]⟩) (VC.sub (.c (lenC (Eq.symm (Eq.symm ha_12)) rfl)<| .c rfl<| .c rfl<| .c rfl<| .c rfl<| .n _) (.of rfl)) ?_
   refine AWP.seq ?_
   refine AWP.rg (.cons (.move (l1 rfl) (.t rfl))<| .cons (.assign (l1 rfl) (.t rfl))<| ARun.nil _ _ _) ?_
   refine AWP.vc (s' := ⟨[(0,.own 1 1 0 y_11.length),(1,iW a1),(2,.clo (.func 84) [] [.ptr 2 0,.ptr 3 0]),(6,iW (20 : Int)),(8,iW x_9.2.1),(7,iW x_9.2.1)],[(1,⟨3,true,y_11.flatMap eW⟩),(2,⟨32,false,[rW β1 a2_0_b0 e45,rW β2 a2_0_b1 e93]⟩),(3,⟨28,false,[rW β3 a2_1_b0 eW]⟩)]⟩) (VC.sub (.of rfl) (.of rfl)) ?_
   obtain ⟨t8_13,ht8_13,h⟩ := letS h
   refine AWP.rg (.cons (.move (l1 rfl) (.t rfl))<| .cons (.move (l1 rfl) (.t rfl))<| .cons (.add (l1 rfl) (.t rfl) (.t rfl))<| .cons (.assign (l1 rfl) (.t rfl))<| ARun.nil _ _ _) ?_
   exact endJ (x_9.2.1,t8_13,y_11) h (by subst ht8_13; exact VC.sub (.of rfl) (.of rfl))
  ·have h := iteF hc h
   refine AWP.exit ?_
   exact endJ (x_9.1,x_9.2.2) h (VC.sub (.of rfl) (.of rfl))
theorem c83 {β1 : Bool} {β2 : Bool} {β3 : Bool} (n : Nat) (a0_b : (List Int)) (a1_0_b0 : (List R45)) (a1_0_b1 : (List R93)) (a1_1_b0 : (List Int)) {r : (List Int)} (h : m83 n a0_b a1_0_b0 a1_0_b1 a1_1_b0 = some r) : Spec Try.prog 83 [1,2,3] [.own 1 1 0 a0_b.length,.clo (.func 84) [] [.ptr 2 0,.ptr 3 0]] [(1,⟨3,true,a0_b.flatMap eW⟩),(2,⟨32,false,[rW β1 a1_0_b0 e45,rW β2 a1_0_b1 e93]⟩),(3,⟨28,false,[rW β3 a1_1_b0 eW]⟩)] (.tup []) [(1,⟨3,true,r.flatMap eW⟩),(2,⟨32,false,[rW β1 a1_0_b0 e45,rW β2 a1_0_b1 e93]⟩),(3,⟨28,false,[rW β3 a1_1_b0 eW]⟩)] := by
 refine Spec.of (fn := Try.f83) Try.func83 Try.ntmps83 rfl rfl (le1 rfl) (fun w0 Zs Zb T0 ι0 => ?_)
 unfold m83 at h
 obtain ⟨y_1,hy_1,h⟩ := bindS h
 obtain ⟨ha_2,h⟩ := asrtS h
 refine AWP.rg (.cons (.move (l1 rfl) (.t rfl))<| .cons (.move (l1 rfl) (.t rfl))<| .cons (.lenOwn (l1 rfl) (.t rfl) Try.underlying28)<| .cons (.move (l1 rfl) (.t rfl))<| .cons (.call (σ := sgT [(1,1),(2,2),(3,3)]) (bw := false) (l1 rfl) (c103 (β1 := β1) (β2 := β2) (β3 := β3) n a0_b (a0_b.length : Int) a1_0_b0 a1_0_b1 a1_1_b0 hy_1) (.cons (.t rfl) (.ren rfl) (.cons (.t rfl) (.ren rfl) (.cons (.t rfl) (.ren rfl) (.nil)))) (CallOk.mk' (.c rfl (.c rfl (.c rfl (.n)))) rfl))<| ARun.nil _ _ _) ?_
 obtain rfl := Option.some.inj h
 refine norJ (Res.vc (s' := ⟨[],[(1,⟨3,true,y_1.flatMap eW⟩),(2,⟨32,false,[rW β1 a1_0_b0 e45,rW β2 a1_0_b1 e93]⟩),(3,⟨28,false,[rW β3 a1_1_b0 eW]⟩)]⟩) (VC.sub (.n _) (.of rfl)) ?_)
 refine Res.sub (H := [(1,⟨3,true,y_1.flatMap eW⟩),(2,⟨32,false,[rW β1 a1_0_b0 e45,rW β2 a1_0_b1 e93]⟩),(3,⟨28,false,[rW β3 a1_1_b0 eW]⟩)]) (.of rfl) ?_
 exact Res.of rfl (.nil) rfl rfl
theorem c49 {β1 : Bool} {β2 : Bool} {β3 : Bool} (n : Nat) (a0 : R24) (a1 : (List Int)) {r : (Int × (List Int))} (h : m49 n a0 a1 = some r) : Spec Try.prog 49 [] [.agg (pW β1 β2 a0),rW β3 a1 eW] [] (.tup [iW r.1,rW false r.2 eW]) [] := by
 refine Spec.of (fn := Try.f49) Try.func49 Try.ntmps49 rfl rfl (le1 rfl) (fun w0 Zs Zb T0 ι0 => ?_)
 unfold m49 at h
 refine AWP.seq ?_
 refine AWP.rg (.cons (.box (t := 1) (n := 2) (l1 rfl) (nm rfl) (.t rfl) (by first | exact ⟨rfl,rfl⟩ | rfl) rfl)<| .cons (.box (t := 2) (n := 1) (l1 rfl) (nm rfl) (.t rfl) (by first | exact ⟨rfl,rfl⟩ | rfl) rfl)<| .cons (.assign (l1 rfl) (.const _ _ _))<| .cons (.assign (l1 rfl) (.const _ _ _))<| ARun.nil _ _ _) ?_
 refine AWP.vc (s' := ⟨[(2,.ptr 1 0),(3,.ptr 2 0)],[(2,⟨28,false,[rW β3 a1 eW]⟩),(1,⟨32,false,(pW β1 β2 a0)⟩)]⟩) (VC.sub (.of rfl) (.of rfl)) ?_
 refine AWP.seq ?_
 refine AWP.rg (.cons (.fieldP (l1 rfl) (.t rfl) fld32_0)<| .cons (.loadP (l1 rfl) (.t rfl) one22 rfl rfl rfl)<| .cons (.lenRd (l1 rfl) (.t rfl) Try.underlying22)<| .cons (.assign (l1 rfl) (.t rfl))<| ARun.nil _ _ _) ?_
 refine AWP.vc (s' := ⟨[(2,.ptr 1 0),(3,.ptr 2 0),(6,iW (a0.Pq.length : Int))],[(2,⟨28,false,[rW β3 a1 eW]⟩),(1,⟨32,false,(pW β1 β2 a0)⟩)]⟩) (VC.sub (.of rfl) (.of rfl)) ?_
 refine AWP.seq ?_
 obtain ⟨l3_1,hl3_1,h⟩ := bindS h
 refine AWP.rg (.cons (.move (l1 rfl) (.t rfl))<| .cons (.mkS (enc := eW) (t := 3) (l1 rfl) (nm rfl) (.t rfl) (.t rfl) Try.underlying28 zero3 el3 rfl (encI_len .i64) (by decide) hl3_1)<| .cons (.assign (l1 rfl) (.t rfl))<| ARun.nil _ _ _) ?_
 refine AWP.vc (s' := ⟨[(2,.ptr 1 0),(3,.ptr 2 0),(6,iW (a0.Pq.length : Int)),(7,.own 3 1 0 l3_1.length)],[(3,⟨3,true,l3_1.flatMap eW⟩),(2,⟨28,false,[rW β3 a1 eW]⟩),(1,⟨32,false,(pW β1 β2 a0)⟩)]⟩) (VC.sub (.of rfl) (.of rfl)) ?_
 refine AWP.seq ?_
 refine AWP.seq ?_
 refine AWP.rg (.cons (.move (l1 rfl) (.t rfl))<| .cons (.lss (l1 rfl) (.t rfl) (.const _ _ _))<| ARun.nil _ _ _) ?_
 refine AWP.vc (s' := ⟨[(2,.ptr 1 0),(3,.ptr 2 0),(6,iW (a0.Pq.length : Int)),(7,.own 3 1 0 l3_1.length),(21,bW (decide ((a0.Pq.length : Int) < (3 : Int))))],[(3,⟨3,true,l3_1.flatMap eW⟩),(2,⟨28,false,[rW β3 a1 eW]⟩),(1,⟨32,false,(pW β1 β2 a0)⟩)]⟩) (VC.sub (.of rfl) (.of rfl)) ?_
 refine AWP.cond (.t rfl) (fun hc => ?_) (fun hc => ?_)
 ·have h := iteT hc h
  refine AWP.seq ?_
  obtain ⟨y_2,hy_2,h⟩ := bindS h
  obtain ⟨t4_3,ht4_3,h⟩ := letS h
  refine AWP.rg (.cons (.loadPA (l1 rfl) (.t rfl) agg32 rfl rfl rfl rfl)<| .cons (.move (l1 rfl) (.t rfl))<| .cons (.sub (l1 rfl) (.t rfl) (.const _ _ _))<| .cons (.call0 (bw := false) (l1 rfl) (c79 (β1 := β1) (β2 := β2) n (R24.mk a0.Pq a0.Bq) (0 : Int) (IntKind.wrap .i64 ((a0.Pq.length : Int) - (1 : Int))) hy_2) (.cons (.t rfl) (.ren rfl) (.cons (.const _ _ _) (.ren rfl) (.cons (.t rfl) (.ren rfl) (.nil)))) rfl)<| .cons (.mul (l1 rfl) (.const _ _ _) (.t rfl))<| .cons (.move (l1 rfl) (.t rfl))<| .cons (.assign (l1 rfl) (.t rfl))<| .cons (.assign (l1 rfl) (.t rfl))<| ARun.nil _ _ _) ?_
  refine AWP.ret ?_
  obtain rfl := Option.some.inj h
  refine retJ (Res.vc (s' := ⟨[(4,iW t4_3),(5,rW false l3_1 eW)],[]⟩) (by subst ht4_3; exact VC.trans (VC.frz (d := 5) (t := 3) rfl rfl (encI_len .i64)) (VC.sub (.of rfl) (.n _))) ?_)
  refine Res.drop (H := []) rfl ?_
  exact Res.of rfl (.cons (.tmp rfl) (.cons (.tmp rfl) (.nil))) rfl rfl
 ·have h := iteF hc h
  refine AWP.skip ?_
  refine AWP.seq ?_
  refine AWP.rg (.cons (.assign (l1 rfl) (.const _ _ _))<| ARun.nil _ _ _) ?_
  refine AWP.vc (s' := ⟨[(2,.ptr 1 0),(3,.ptr 2 0),(6,iW (a0.Pq.length : Int)),(7,.own 3 1 0 l3_1.length),(8,.sc (.slice none 0 0))],[(3,⟨3,true,l3_1.flatMap eW⟩),(2,⟨28,false,[rW β3 a1 eW]⟩),(1,⟨32,false,(pW β1 β2 a0)⟩)]⟩) (VC.sub (.of rfl) (.of rfl)) ?_
  refine AWP.seq ?_
  refine AWP.seq ?_
  refine AWP.rg (.cons (.assign (l1 rfl) (.const _ _ _))<| ARun.nil _ _ _) ?_
  refine AWP.vc (s' := ⟨[(2,.ptr 1 0),(3,.ptr 2 0),(6,iW (a0.Pq.length : Int)),(7,.own 3 1 0 l3_1.length),(8,.sc (.slice none 0 0)),(9,iW (1 : Int))],[(3,⟨3,true,l3_1.flatMap eW⟩),(2,⟨28,false,[rW β3 a1 eW]⟩),(1,⟨32,false,(pW β1 β2 a0)⟩)]⟩) (VC.sub (.of rfl) (.of rfl)) ?_
  refine AWP.joinB' (S := fun p_14 : (List Int) => ⟨[(2,.ptr 1 0),(3,.ptr 2 0),(7,.own 3 1 0 l3_1.length),(8,.own 4 1 0 p_14.length)],[(1,⟨32,false,(pW β1 β2 a0)⟩),(2,⟨28,false,[rW β3 a1 eW]⟩),(3,⟨3,true,l3_1.flatMap eW⟩),(4,⟨3,true,p_14.flatMap eW⟩)]⟩) h (fun p_14 h => ?_) (fun k_15 h => ?_)
  ·refine AWP.seq ?_
   obtain ⟨y_16,hy_16,h⟩ := bindS h
   obtain ⟨ha_17,h⟩ := asrtS h
   refine AWP.rg (.cons (.loadPA (l1 rfl) (.t rfl) agg32 rfl rfl rfl rfl)<| .cons (.move (l1 rfl) (.t rfl))<| .cons (.loadP (l1 rfl) (.t rfl) one28 rfl rfl rfl)<| .cons (.move (l1 rfl) (.t rfl))<| .cons (.call (σ := fun _ => 3) (bw := true) (l1 rfl) (c82 (β1 := β1) (β2 := β2) (β3 := true) (β4 := β3) n (R24.mk a0.Pq a0.Bq) p_14 a1 l3_1 hy_16) (.cons (.t rfl) (.ren rfl) (.cons (.t rfl) (.lendRow rfl rfl (encI_len .i64) rfl) (.cons (.t rfl) (.ren rfl) (.cons (.t rfl) (.ren rfl) (.nil))))) (CallOk.mk' (.c rfl (.n)) rfl))<| .cons (.assign (l1 rfl) (.t rfl))<| ARun.nil _ _ _) ?_
   refine AWP.vc (s' := ⟨[(2,.ptr 1 0),(3,.ptr 2 0),(7,.own 3 1 0 y_16.2.length),(8,.own 4 1 0 p_14.length),(10,iW y_16.1)],[(3,⟨3,true,y_16.2.flatMap eW⟩),(1,⟨32,false,(pW β1 β2 a0)⟩),(2,⟨28,false,[rW β3 a1 eW]⟩),(4,⟨3,true,p_14.flatMap eW⟩)]⟩) (VC.sub (.c rfl<| .c rfl<| .c (lenC (Eq.symm (Eq.symm ha_17)) rfl)<| .c rfl<| .c rfl<| .n _) (.of rfl)) ?_
   refine AWP.seq ?_
   obtain ⟨y_18,hy_18,h⟩ := bindS h
   obtain ⟨ha_19,h⟩ := asrtS h
   refine AWP.rg (.cons (.move (l1 rfl) (.t rfl))<| .cons (.makeFunc (l1 rfl) (.nil) (.cons (.t rfl) (.cons (.t rfl) (.nil))))<| .cons (.call (σ := sgT [(1,4),(2,1),(3,2)]) (bw := false) (l1 rfl) (c83 (β1 := β1) (β2 := β2) (β3 := β3) n p_14 a0.Pq a0.Bq a1 hy_18) (.cons (.t rfl) (.ren rfl) (.cons (.t rfl) (.ren rfl) (.nil))) (CallOk.mk' (.c rfl (.c rfl (.c rfl (.n)))) rfl))<| ARun.nil _ _ _) ?_
   refine AWP.vc (s' := ⟨[(2,.ptr 1 0),(3,.ptr 2 0),(7,.own 3 1 0 y_16.2.length),(8,.own 4 1 0 y_18.length),(10,iW y_16.1)],[(4,⟨3,true,y_18.flatMap eW⟩),(1,⟨32,false,(pW β1 β2 a0)⟩),(2,⟨28,false,[rW β3 a1 eW]⟩),(3,⟨3,true,y_16.2.flatMap eW⟩)]⟩) (VC.sub (.c rfl<| .c rfl<| .c rfl<| .c (lenC (Eq.symm (Eq.symm ha_19)) rfl)<| .c rfl<| .n _) (.of rfl)) ?_
   refine AWP.seq ?_
   refine AWP.seq ?_
   obtain ⟨l4_20,hl4_20,h⟩ := bindS h
   refine AWP.rg (.cons (.move (l1 rfl) (.t rfl))<| .cons (.slOwn (enc := eW) (gh := 0) (gh' := 0) (l1 rfl) (.t rfl) rfl Try.underlying28 sz3 (encI_len .i64) rfl (.none _ _ _) (.some (.const _ _ _)) hl4_20 rfl)<| .cons (.lenOwn (l1 rfl) (.t rfl) Try.underlying28)<| .cons (.move (l1 rfl) (.const _ _ _))<| ARun.nil _ _ _) ?_
   refine AWP.vc (s' := ⟨[(2,.ptr 1 0),(3,.ptr 2 0),(7,.own 3 1 0 y_16.2.length),(10,iW y_16.1),(46,.own 4 1 0 l4_20.length),(47,iW (l4_20.length : Int)),(48,iW (0 : Int))],[(4,⟨3,true,l4_20.flatMap eW⟩),(1,⟨32,false,(pW β1 β2 a0)⟩),(2,⟨28,false,[rW β3 a1 eW]⟩),(3,⟨3,true,y_16.2.flatMap eW⟩)]⟩) (VC.sub (.of rfl) (.of rfl)) ?_
   refine AWP.joinB' (S := fun p_55 : Int × (List Int) => ⟨[(3,.ptr 2 0),(7,.own 3 1 0 p_55.2.length),(10,iW p_55.1)],[(2,⟨28,false,[rW β3 a1 eW]⟩),(3,⟨3,true,p_55.2.flatMap eW⟩)]⟩) h (fun p_55 h => ?_) (fun k_56 h => ?_)
   ·refine AWP.seq ?_
    refine AWP.seq ?_
    refine AWP.rg (.cons (.loadP (l1 rfl) (.t rfl) one28 rfl rfl rfl)<| .cons (.lenRd (l1 rfl) (.t rfl) Try.underlying28)<| .cons (.move (l1 rfl) (.const _ _ _))<| ARun.nil _ _ _) ?_
    refine AWP.vc (s' := ⟨[(7,.own 3 1 0 p_55.2.length),(10,iW p_55.1),(70,rW β3 a1 eW),(71,iW (a1.length : Int)),(72,iW (0 : Int))],[(3,⟨3,true,p_55.2.flatMap eW⟩)]⟩) (VC.sub (.of rfl) (.of rfl)) ?_
    refine AWP.joinB' (S := fun p_70 : Int => ⟨[(7,.own 3 1 0 p_55.2.length),(10,iW p_70)],[(3,⟨3,true,p_55.2.flatMap eW⟩)]⟩) h (fun p_70 h => ?_) (fun k_71 h => ?_)
    ·refine AWP.seq ?_
     refine AWP.rg (.cons (.move (l1 rfl) (.t rfl))<| .cons (.move (l1 rfl) (.t rfl))<| .cons (.assign (l1 rfl) (.t rfl))<| .cons (.assign (l1 rfl) (.t rfl))<| ARun.nil _ _ _) ?_
     refine AWP.ret ?_
     obtain rfl := Option.some.inj h
     refine retJ (Res.vc (s' := ⟨[(4,iW p_70),(5,rW false p_55.2 eW)],[]⟩) (VC.trans (VC.frz (d := 5) (t := 3) rfl rfl (encI_len .i64)) (VC.sub (.of rfl) (.n _))) ?_)
     refine Res.drop (H := []) rfl ?_
     exact Res.of rfl (.cons (.tmp rfl) (.cons (.tmp rfl) (.nil))) rfl rfl
    ·refine AWP.vc (s' := ⟨[(7,.own 3 1 0 p_55.2.length),(10,iW p_55.1),(70,rW β3 a1 eW),(71,iW (a1.length : Int)),(72,iW (0 : Int))],[(3,⟨3,true,p_55.2.flatMap eW⟩)]⟩) (VC.sub (.of rfl) (.of rfl)) ?_
     refine AWP.loopM (S := fun x_65 : Int × Int => ⟨[(7,.own 3 1 0 p_55.2.length),(10,iW x_65.1),(70,rW β3 a1 eW),(71,iW (a1.length : Int)),(72,iW x_65.2)],[(3,⟨3,true,p_55.2.flatMap eW⟩)]⟩) (x := (p_55.1,(0 : Int))) (fun nx_66 x_65 h => ?_) h
     unfold m49_L3 at h
     refine AWP.seq ?_
     refine AWP.rg (.cons (.lss (l1 rfl) (.t rfl) (.t rfl))<| ARun.nil _ _ _) ?_
     refine AWP.vc (s' := ⟨[(7,.own 3 1 0 p_55.2.length),(10,iW x_65.1),(70,rW β3 a1 eW),(71,iW (a1.length : Int)),(72,iW x_65.2),(73,bW (decide (x_65.2 < (a1.length : Int))))],[(3,⟨3,true,p_55.2.flatMap eW⟩)]⟩) (VC.sub (.of rfl) (.of rfl)) ?_
     refine AWP.seq ?_
     refine AWP.cond (.t rfl) (fun hc => ?_) (fun hc => ?_)
     ·have h := iteT hc h
      refine AWP.skip ?_
      refine AWP.seq ?_
      refine AWP.block ?_
      refine AWP.seq ?_
      obtain ⟨y_67,hy_67,h⟩ := bindS h
      refine AWP.rg (.cons (.indexRd (enc := eW) (l1 rfl) (.t rfl) (.t rfl) Try.underlying28 sz3 (encI_len .i64) rfl hy_67)<| .cons (.loadR (v := iW y_67) (l1 rfl) (.t rfl) one3 rfl)<| .cons (.assign (l1 rfl) (.t rfl))<| ARun.nil _ _ _) ?_
      refine AWP.vc (s' := ⟨[(7,.own 3 1 0 p_55.2.length),(10,iW x_65.1),(70,rW β3 a1 eW),(71,iW (a1.length : Int)),(72,iW x_65.2),(14,iW y_67)],[(3,⟨3,true,p_55.2.flatMap eW⟩)]⟩) (VC.sub (.of rfl) (.of rfl)) ?_
      obtain ⟨t10_68,ht10_68,h⟩ := letS h
      refine AWP.rg (.cons (.move (l1 rfl) (.t rfl))<| .cons (.move (l1 rfl) (.t rfl))<| .cons (.mul (l1 rfl) (.const _ _ _) (.t rfl))<| .cons (.sub (l1 rfl) (.t rfl) (.t rfl))<| .cons (.assign (l1 rfl) (.t rfl))<| ARun.nil _ _ _) ?_
      refine AWP.vc (s' := ⟨[(7,.own 3 1 0 p_55.2.length),(10,iW t10_68),(70,rW β3 a1 eW),(71,iW (a1.length : Int)),(72,iW x_65.2)],[(3,⟨3,true,p_55.2.flatMap eW⟩)]⟩) (by subst ht10_68; exact VC.sub (.of rfl) (.of rfl)) ?_
      obtain ⟨t72_69,ht72_69,h⟩ := letS h
      refine AWP.rg (.cons (.add (l1 rfl) (.t rfl) (.const _ _ _))<| .cons (.move (l1 rfl) (.t rfl))<| ARun.nil _ _ _) ?_
      exact endJ (t10_68,t72_69) h (by subst ht72_69; exact VC.sub (.of rfl) (.of rfl))
     ·have h := iteF hc h
      refine AWP.exit ?_
      exact endJ x_65.1 h (VC.sub (.of rfl) (.of rfl))
   ·refine AWP.vc (s' := ⟨[(2,.ptr 1 0),(3,.ptr 2 0),(7,.own 3 1 0 y_16.2.length),(10,iW y_16.1),(46,.own 4 1 0 l4_20.length),(47,iW (l4_20.length : Int)),(48,iW (0 : Int))],[(1,⟨32,false,(pW β1 β2 a0)⟩),(2,⟨28,false,[rW β3 a1 eW]⟩),(3,⟨3,true,y_16.2.flatMap eW⟩),(4,⟨3,true,l4_20.flatMap eW⟩)]⟩) (VC.sub (.of rfl) (.of rfl)) ?_
    refine AWP.loopM (S := fun x_43 : Int × Int × (List Int) => ⟨[(2,.ptr 1 0),(3,.ptr 2 0),(7,.own 3 1 0 x_43.2.2.length),(10,iW x_43.1),(46,.own 4 1 0 l4_20.length),(47,iW (l4_20.length : Int)),(48,iW x_43.2.1)],[(1,⟨32,false,(pW β1 β2 a0)⟩),(2,⟨28,false,[rW β3 a1 eW]⟩),(3,⟨3,true,x_43.2.2.flatMap eW⟩),(4,⟨3,true,l4_20.flatMap eW⟩)]⟩) (x := (y_16.1,(0 : Int),y_16.2)) (fun nx_44 x_43 h => ?_) h
    unfold m49_L2 at h
    refine AWP.seq ?_
    refine AWP.rg (.cons (.lss (l1 rfl) (.t rfl) (.t rfl))<| ARun.nil _ _ _) ?_
    refine AWP.vc (s' := ⟨[(2,.ptr 1 0),(3,.ptr 2 0),(7,.own 3 1 0 x_43.2.2.length),(10,iW x_43.1),(46,.own 4 1 0 l4_20.length),(47,iW (l4_20.length : Int)),(48,iW x_43.2.1),(49,bW (decide (x_43.2.1 < (l4_20.length : Int))))],[(1,⟨32,false,(pW β1 β2 a0)⟩),(2,⟨28,false,[rW β3 a1 eW]⟩),(3,⟨3,true,x_43.2.2.flatMap eW⟩),(4,⟨3,true,l4_20.flatMap eW⟩)]⟩) (VC.sub (.of rfl) (.of rfl)) ?_
    refine AWP.seq ?_
    refine AWP.cond (.t rfl) (fun hc => ?_) (fun hc => ?_)
    ·have h := iteT hc h
     refine AWP.skip ?_
     refine AWP.seq ?_
     refine AWP.block ?_
     refine AWP.seq ?_
     obtain ⟨y_45,hy_45,h⟩ := bindS h
     refine AWP.rg (.cons (.idxOwn (l1 rfl) (.t rfl) (.t rfl) Try.underlying28 sz3 rfl hy_45)<| .cons (.loadP (l1 rfl) (.t rfl) one3 rfl (cell_at1 (encI_len .i64) hy_45) rfl)<| .cons (.assign (l1 rfl) (.t rfl))<| ARun.nil _ _ _) ?_
     refine AWP.vc (s' := ⟨[(2,.ptr 1 0),(3,.ptr 2 0),(7,.own 3 1 0 x_43.2.2.length),(10,iW x_43.1),(46,.own 4 1 0 l4_20.length),(47,iW (l4_20.length : Int)),(48,iW x_43.2.1),(12,iW y_45)],[(1,⟨32,false,(pW β1 β2 a0)⟩),(2,⟨28,false,[rW β3 a1 eW]⟩),(3,⟨3,true,x_43.2.2.flatMap eW⟩),(4,⟨3,true,l4_20.flatMap eW⟩)]⟩) (VC.sub (.of rfl) (.of rfl)) ?_
     refine AWP.seq ?_
     obtain ⟨y_46,hy_46,h⟩ := bindS h
     obtain ⟨t10_47,ht10_47,h⟩ := letS h
     refine AWP.rg (.cons (.move (l1 rfl) (.t rfl))<| .cons (.loadPA (l1 rfl) (.t rfl) agg32 rfl rfl rfl rfl)<| .cons (.move (l1 rfl) (.t rfl))<| .cons (.loadP (l1 rfl) (.t rfl) one28 rfl rfl rfl)<| .cons (.call0 (bw := false) (l1 rfl) (c85 (β1 := β1) (β2 := β2) (β3 := β3) n (R24.mk a0.Pq a0.Bq) (0 : Int) y_45 a1 hy_46) (.cons (.t rfl) (.ren rfl) (.cons (.const _ _ _) (.ren rfl) (.cons (.t rfl) (.ren rfl) (.cons (.t rfl) (.ren rfl) (.nil))))) rfl)<| .cons (.add (l1 rfl) (.t rfl) (.t rfl))<| .cons (.assign (l1 rfl) (.t rfl))<| ARun.nil _ _ _) ?_
     refine AWP.vc (s' := ⟨[(2,.ptr 1 0),(3,.ptr 2 0),(7,.own 3 1 0 x_43.2.2.length),(10,iW t10_47),(46,.own 4 1 0 l4_20.length),(47,iW (l4_20.length : Int)),(48,iW x_43.2.1),(12,iW y_45)],[(1,⟨32,false,(pW β1 β2 a0)⟩),(2,⟨28,false,[rW β3 a1 eW]⟩),(3,⟨3,true,x_43.2.2.flatMap eW⟩),(4,⟨3,true,l4_20.flatMap eW⟩)]⟩) (by subst ht10_47; exact VC.sub (.of rfl) (.of rfl)) ?_
     refine AWP.seq ?_
     obtain ⟨y_48,hy_48,h⟩ := bindS h
     obtain ⟨y_49,hy_49,h⟩ := bindS h
     obtain ⟨l3_50,hl3_50,h⟩ := bindS h
     refine AWP.rg (.cons (.move (l1 rfl) (.t rfl))<| .cons (.idxOwn (l1 rfl) (.t rfl) (.const _ _ _) Try.underlying28 sz3 rfl hy_48)<| .cons (.loadP (l1 rfl) (.t rfl) one3 rfl (cell_at1 (encI_len .i64) hy_48) rfl)<| .cons (.add (l1 rfl) (.t rfl) (.const _ _ _))<| .cons (.idxOwn (l1 rfl) (.t rfl) (.const _ _ _) Try.underlying28 sz3 rfl hy_49)<| .cons (.storeP (.t rfl) (.t rfl) sz3 rfl (lt_at1 (encI_len .i64) hy_49) rfl (fun _ => rfl) (set_at1 (encI_len .i64) hl3_50 rfl))<| ARun.nil _ _ _) ?_
     refine AWP.vc (s' := ⟨[(2,.ptr 1 0),(3,.ptr 2 0),(7,.own 3 1 0 l3_50.length),(10,iW t10_47),(46,.own 4 1 0 l4_20.length),(47,iW (l4_20.length : Int)),(48,iW x_43.2.1),(12,iW y_45)],[(1,⟨32,false,(pW β1 β2 a0)⟩),(2,⟨28,false,[rW β3 a1 eW]⟩),(3,⟨3,true,l3_50.flatMap eW⟩),(4,⟨3,true,l4_20.flatMap eW⟩)]⟩) (VC.sub (.c rfl<| .c rfl<| .c (lenC (Eq.symm (setLen hl3_50)) rfl)<| .c rfl<| .c rfl<| .c rfl<| .c rfl<| .c rfl<| .n _) (.of rfl)) ?_
     obtain ⟨y_51,hy_51,h⟩ := bindS h
     obtain ⟨y_52,hy_52,h⟩ := bindS h
     obtain ⟨l3_53,hl3_53,h⟩ := bindS h
     refine AWP.rg (.cons (.move (l1 rfl) (.t rfl))<| .cons (.move (l1 rfl) (.t rfl))<| .cons (.idxOwn (l1 rfl) (.t rfl) (.t rfl) Try.underlying28 sz3 rfl hy_51)<| .cons (.loadP (l1 rfl) (.t rfl) one3 rfl (cell_at1 (encI_len .i64) hy_51) rfl)<| .cons (.add (l1 rfl) (.t rfl) (.const _ _ _))<| .cons (.idxOwn (l1 rfl) (.t rfl) (.t rfl) Try.underlying28 sz3 rfl hy_52)<| .cons (.storeP (.t rfl) (.t rfl) sz3 rfl (lt_at1 (encI_len .i64) hy_52) rfl (fun _ => rfl) (set_at1 (encI_len .i64) hl3_53 rfl))<| ARun.nil _ _ _) ?_
     refine AWP.vc (s' := ⟨[(2,.ptr 1 0),(3,.ptr 2 0),(7,.own 3 1 0 l3_53.length),(10,iW t10_47),(46,.own 4 1 0 l4_20.length),(47,iW (l4_20.length : Int)),(48,iW x_43.2.1)],[(1,⟨32,false,(pW β1 β2 a0)⟩),(2,⟨28,false,[rW β3 a1 eW]⟩),(3,⟨3,true,l3_53.flatMap eW⟩),(4,⟨3,true,l4_20.flatMap eW⟩)]⟩) (VC.sub (.c rfl<| .c rfl<| .c (lenC (Eq.symm (setLen hl3_53)) rfl)<| .c rfl<| .c rfl<| .c rfl<| .c rfl<| .n _) (.of rfl)) ?_
     obtain ⟨t48_54,ht48_54,h⟩ := letS h
     refine AWP.rg (.cons (.add (l1 rfl) (.t rfl) (.const _ _ _))<| .cons (.move (l1 rfl) (.t rfl))<| ARun.nil _ _ _) ?_
     exact endJ (t10_47,t48_54,l3_53) h (by subst ht48_54; exact VC.sub (.of rfl) (.of rfl))
    ·have h := iteF hc h
     refine AWP.exit ?_
     exact endJ (x_43.1,x_43.2.2) h (VC.sub (.of rfl) (.of rfl))
  ·refine AWP.vc (VC.nilOwn (d := 8) (t := 4) (sz := 1) (E := 3) rfl (nm rfl)) ?_
   refine AWP.vc (s' := ⟨[(2,.ptr 1 0),(3,.ptr 2 0),(6,iW (a0.Pq.length : Int)),(7,.own 3 1 0 l3_1.length),(8,.own 4 1 0 ([] : List Int).length),(9,iW (1 : Int))],[(1,⟨32,false,(pW β1 β2 a0)⟩),(2,⟨28,false,[rW β3 a1 eW]⟩),(3,⟨3,true,l3_1.flatMap eW⟩),(4,⟨3,true,([] : List Int).flatMap eW⟩)]⟩) (VC.sub (.of rfl) (.of rfl)) ?_
   refine AWP.loopM (S := fun x_10 : Int × (List Int) => ⟨[(2,.ptr 1 0),(3,.ptr 2 0),(6,iW (a0.Pq.length : Int)),(7,.own 3 1 0 l3_1.length),(8,.own 4 1 0 x_10.2.length),(9,iW x_10.1)],[(1,⟨32,false,(pW β1 β2 a0)⟩),(2,⟨28,false,[rW β3 a1 eW]⟩),(3,⟨3,true,l3_1.flatMap eW⟩),(4,⟨3,true,x_10.2.flatMap eW⟩)]⟩) (x := ((1 : Int),([] : List Int))) (fun nx_11 x_10 h => ?_) h
   unfold m49_L1 at h
   refine AWP.seq ?_
   refine AWP.seq ?_
   refine AWP.rg (.cons (.move (l1 rfl) (.t rfl))<| .cons (.move (l1 rfl) (.t rfl))<| .cons (.lss (l1 rfl) (.t rfl) (.t rfl))<| ARun.nil _ _ _) ?_
   refine AWP.vc (s' := ⟨[(2,.ptr 1 0),(3,.ptr 2 0),(6,iW (a0.Pq.length : Int)),(7,.own 3 1 0 l3_1.length),(8,.own 4 1 0 x_10.2.length),(9,iW x_10.1),(30,bW (decide (x_10.1 < (a0.Pq.length : Int))))],[(1,⟨32,false,(pW β1 β2 a0)⟩),(2,⟨28,false,[rW β3 a1 eW]⟩),(3,⟨3,true,l3_1.flatMap eW⟩),(4,⟨3,true,x_10.2.flatMap eW⟩)]⟩) (VC.sub (.of rfl) (.of rfl)) ?_
   refine AWP.cond (.t rfl) (fun hc => ?_) (fun hc => ?_)
   ·have h := iteT hc h
    refine AWP.skip ?_
    refine AWP.seq ?_
    refine AWP.block ?_
    obtain ⟨l4_12,hl4_12,h⟩ := bindS h
    refine AWP.rg (.cons (.move (l1 rfl) (.t rfl))<| .cons (.move (l1 rfl) (.t rfl))<| .cons (.buildSlice (t := 5) (out := ([x_10.1] : List Int).flatMap eW) (l1 rfl) (nm rfl) (.cons (.t rfl) (by first | exact ⟨rfl,rfl⟩ | rfl) (.nil)) Try.underlying28 zero3 el3 (by decide) (by decide) rfl (still_all (encI_still .i64) _))<| .cons (.app (enc := eW) (l1 rfl) (nm rfl) (.t rfl) (Src.own (.t rfl) rfl (lendAll (encI_len .i64) _) (flatMap_length (encI_len .i64) _) (one_all (encI_one .i64) _) (.inl rfl)) Try.underlying28 ⟨_,Try.underlying28,by intro k hk; cases hk⟩ el3 rfl (encI_len .i64) rfl rfl (by decide) hl4_12)<| .cons (.assign (l1 rfl) (.t rfl))<| ARun.nil _ _ _) ?_
    refine AWP.vc (s' := ⟨[(2,.ptr 1 0),(3,.ptr 2 0),(6,iW (a0.Pq.length : Int)),(7,.own 3 1 0 l3_1.length),(8,.own 4 1 0 l4_12.length),(9,iW x_10.1)],[(4,⟨3,true,l4_12.flatMap eW⟩),(1,⟨32,false,(pW β1 β2 a0)⟩),(2,⟨28,false,[rW β3 a1 eW]⟩),(3,⟨3,true,l3_1.flatMap eW⟩)]⟩) (VC.sub (.of rfl) (.of rfl)) ?_
    obtain ⟨t9_13,ht9_13,h⟩ := letS h
    refine AWP.rg (.cons (.move (l1 rfl) (.t rfl))<| .cons (.add (l1 rfl) (.t rfl) (.const _ _ _))<| .cons (.assign (l1 rfl) (.t rfl))<| ARun.nil _ _ _) ?_
    exact endJ (t9_13,l4_12) h (by subst ht9_13; exact VC.sub (.of rfl) (.of rfl))
   ·have h := iteF hc h
    refine AWP.exit ?_
    exact endJ x_10.2 h (VC.sub (.of rfl) (.of rfl))
theorem c18 {β1 : Bool} {β2 : Bool} {β3 : Bool} (n : Nat) (a0 : R24) (a1 : (List Int)) {r : (Int × Int)} (h : m18 n a0 a1 = some r) : Spec Try.prog 18 [] [.agg (pW β1 β2 a0),rW β3 a1 eW] [] (.tup [iW r.1,iW r.2]) [] := by
 refine Spec.of (fn := Try.f18) Try.func18 Try.ntmps18 rfl rfl (le1 rfl) (fun w0 Zs Zb T0 ι0 => ?_)
 unfold m18 at h
 refine AWP.seq ?_
 refine AWP.rg (.cons (.box (t := 1) (n := 2) (l1 rfl) (nm rfl) (.t rfl) (by first | exact ⟨rfl,rfl⟩ | rfl) rfl)<| .cons (.assign (l1 rfl) (.const _ _ _))<| .cons (.assign (l1 rfl) (.const _ _ _))<| ARun.nil _ _ _) ?_
 refine AWP.vc (s' := ⟨[(1,rW β3 a1 eW),(2,.ptr 1 0)],[(1,⟨32,false,(pW β1 β2 a0)⟩)]⟩) (VC.sub (.of rfl) (.of rfl)) ?_
 refine AWP.seq ?_
 refine AWP.block ?_
 refine AWP.seq ?_
 obtain ⟨y_1,hy_1,h⟩ := bindS h
 refine AWP.rg (.cons (.loadPA (l1 rfl) (.t rfl) agg32 rfl rfl rfl rfl)<| .cons (.call0 (bw := false) (l1 rfl) (c22 (β1 := β1) (β2 := β2) n (R24.mk a0.Pq a0.Bq) hy_1) (.cons (.t rfl) (.ren rfl) (.nil)) rfl)<| .cons (.not (l1 rfl) (.t rfl))<| .cons (.assign (l1 rfl) (.t rfl))<| ARun.nil _ _ _) ?_
 refine AWP.vc (s' := ⟨[(1,rW β3 a1 eW),(2,.ptr 1 0),(8,bW (!y_1))],[(1,⟨32,false,(pW β1 β2 a0)⟩)]⟩) (VC.sub (.of rfl) (.of rfl)) ?_
 refine AWP.cond (.t rfl) (fun hc => ?_) (fun hc => ?_)
 ·have h := iteT hc h
  refine AWP.seq ?_
  refine AWP.rg (.cons (.assign (l1 rfl) (.const _ _ _))<| .cons (.assign (l1 rfl) (.const _ _ _))<| ARun.nil _ _ _) ?_
  refine AWP.ret ?_
  obtain rfl := Option.some.inj h
  refine retJ (Res.vc (s' := ⟨[(4,iW (0 : Int)),(5,iW (1 : Int))],[]⟩) (VC.sub (.of rfl) (.n _)) ?_)
  refine Res.drop (H := []) rfl ?_
  exact Res.of rfl (.cons (.tmp rfl) (.cons (.tmp rfl) (.nil))) rfl rfl
 ·have h := iteF hc h
  refine AWP.seq ?_
  obtain ⟨y_2,hy_2,h⟩ := bindS h
  refine AWP.rg (.cons (.loadPA (l1 rfl) (.t rfl) agg32 rfl rfl rfl rfl)<| .cons (.move (l1 rfl) (.t rfl))<| .cons (.call0 (bw := false) (l1 rfl) (c48 (β1 := β1) (β2 := β2) (β3 := β3) n (R24.mk a0.Pq a0.Bq) a1 hy_2) (.cons (.t rfl) (.ren rfl) (.cons (.t rfl) (.ren rfl) (.nil))) rfl)<| .cons (.not (l1 rfl) (.t rfl))<| .cons (.assign (l1 rfl) (.t rfl))<| ARun.nil _ _ _) ?_
  refine AWP.vc (s' := ⟨[(1,rW β3 a1 eW),(2,.ptr 1 0),(12,bW (!y_2))],[(1,⟨32,false,(pW β1 β2 a0)⟩)]⟩) (VC.sub (.of rfl) (.of rfl)) ?_
  refine AWP.cond (.t rfl) (fun hc => ?_) (fun hc => ?_)
  ·have h := iteT hc h
   refine AWP.seq ?_
   refine AWP.rg (.cons (.assign (l1 rfl) (.const _ _ _))<| .cons (.assign (l1 rfl) (.const _ _ _))<| ARun.nil _ _ _) ?_
   refine AWP.ret ?_
   obtain rfl := Option.some.inj h
   refine retJ (Res.vc (s' := ⟨[(4,iW (0 : Int)),(5,iW (2 : Int))],[]⟩) (VC.sub (.of rfl) (.n _)) ?_)
   refine Res.drop (H := []) rfl ?_
   exact Res.of rfl (.cons (.tmp rfl) (.cons (.tmp rfl) (.nil))) rfl rfl
  ·have h := iteF hc h
   refine AWP.skip ?_
   refine AWP.seq ?_
   obtain ⟨y_3,hy_3,h⟩ := bindS h
   refine AWP.rg (.cons (.loadPA (l1 rfl) (.t rfl) agg32 rfl rfl rfl rfl)<| .cons (.move (l1 rfl) (.t rfl))<| .cons (.call0 (bw := false) (l1 rfl) (c49 (β1 := β1) (β2 := β2) (β3 := β3) n (R24.mk a0.Pq a0.Bq) a1 hy_3) (.cons (.t rfl) (.ren rfl) (.cons (.t rfl) (.ren rfl) (.nil))) rfl)<| .cons (.move (l1 rfl) (.t rfl))<| .cons (.extract (l1 rfl) (.t rfl) rfl)<| .cons (.extract (l1 rfl) (.t rfl) rfl)<| .cons (.assign (l1 rfl) (.t rfl))<| .cons (.assign (l1 rfl) (.t rfl))<| ARun.nil _ _ _) ?_
   refine AWP.vc (s' := ⟨[(6,iW y_3.1)],[]⟩) (VC.sub (.of rfl) (.n _)) ?_
   refine AWP.seq ?_
   refine AWP.rg (.cons (.move (l1 rfl) (.t rfl))<| .cons (.assign (l1 rfl) (.t rfl))<| .cons (.assign (l1 rfl) (.const _ _ _))<| ARun.nil _ _ _) ?_
   refine AWP.ret ?_
   obtain rfl := Option.some.inj h
   refine retJ (Res.vc (s' := ⟨[(4,iW y_3.1),(5,iW (0 : Int))],[]⟩) (VC.sub (.of rfl) (.n _)) ?_)
   refine Res.drop (H := []) rfl ?_
   exact Res.of rfl (.cons (.tmp rfl) (.cons (.tmp rfl) (.nil))) rfl rfl
theorem c17 {β1 : Bool} {β2 : Bool} (n : Nat) (a0 : (List Int)) (a1 : (List Int)) {r : Bool} (h : m17 n a0 a1 = some r) : Spec Try.prog 17 [] [rW β1 a0 eW,rW β2 a1 eW] [] (bW r) [] := by
 refine Spec.of (fn := Try.f17) Try.func17 Try.ntmps17 rfl rfl (le1 rfl) (fun w0 Zs Zb T0 ι0 => ?_)
 unfold m17 at h
 refine AWP.seq ?_
 refine AWP.rg (.cons (.assign (l1 rfl) (.const _ _ _))<| ARun.nil _ _ _) ?_
 refine AWP.vc (s' := ⟨[(0,rW β1 a0 eW),(1,rW β2 a1 eW)],[]⟩) (VC.sub (.of rfl) (.n _)) ?_
 refine AWP.seq ?_
 refine AWP.seq ?_
 refine AWP.rg (.cons (.move (l1 rfl) (.t rfl))<| .cons (.lenRd (l1 rfl) (.t rfl) Try.underlying28)<| .cons (.move (l1 rfl) (.t rfl))<| .cons (.lenRd (l1 rfl) (.t rfl) Try.underlying28)<| .cons (.neq (l1 rfl) (.t rfl) (.t rfl))<| ARun.nil _ _ _) ?_
 refine AWP.vc (s' := ⟨[(0,rW β1 a0 eW),(1,rW β2 a1 eW),(10,bW (!decide ((a0.length : Int) = (a1.length : Int))))],[]⟩) (VC.sub (.of rfl) (.n _)) ?_
 refine AWP.cond (.t rfl) (fun hc => ?_) (fun hc => ?_)
 ·have h := iteT hc h
  refine AWP.seq ?_
  refine AWP.rg (.cons (.assign (l1 rfl) (.const _ _ _))<| ARun.nil _ _ _) ?_
  refine AWP.ret ?_
  obtain rfl := Option.some.inj h
  refine retJ (Res.vc (s' := ⟨[(4,bW false)],[]⟩) (VC.sub (.of rfl) (.n _)) ?_)
  refine Res.drop (H := []) rfl ?_
  exact Res.of rfl (.cons (.tmp rfl) (.nil)) rfl rfl
 ·have h := iteF hc h
  refine AWP.skip ?_
  refine AWP.seq ?_
  refine AWP.seq ?_
  refine AWP.rg (.cons (.assign (l1 rfl) (.const _ _ _))<| ARun.nil _ _ _) ?_
  refine AWP.vc (s' := ⟨[(0,rW β1 a0 eW),(1,rW β2 a1 eW),(5,iW (0 : Int))],[]⟩) (VC.sub (.of rfl) (.n _)) ?_
  refine AWP.joinB' (S := fun p_10 : Unit => ⟨[],[]⟩) h (fun p_10 h => ?_) (fun k_11 h => ?_)
  ·refine AWP.seq ?_
   refine AWP.rg (.cons (.assign (l1 rfl) (.const _ _ _))<| ARun.nil _ _ _) ?_
   refine AWP.ret ?_
   obtain rfl := Option.some.inj h
   refine retJ (Res.vc (s' := ⟨[(4,bW true)],[]⟩) (VC.sub (.of rfl) (.n _)) ?_)
   refine Res.drop (H := []) rfl ?_
   exact Res.of rfl (.cons (.tmp rfl) (.nil)) rfl rfl
  ·refine AWP.vc (s' := ⟨[(0,rW β1 a0 eW),(1,rW β2 a1 eW),(5,iW (0 : Int))],[]⟩) (VC.sub (.of rfl) (.n _)) ?_
   refine AWP.loopM (S := fun x_5 : Int => ⟨[(0,rW β1 a0 eW),(1,rW β2 a1 eW),(5,iW x_5)],[]⟩) (x := (0 : Int)) (fun nx_6 x_5 h => ?_) h
   unfold m17_L1 at h
   refine AWP.seq ?_
   refine AWP.seq ?_
   refine AWP.rg (.cons (.move (l1 rfl) (.t rfl))<| .cons (.move (l1 rfl) (.t rfl))<| .cons (.lenRd (l1 rfl) (.t rfl) Try.underlying28)<| .cons (.lss (l1 rfl) (.t rfl) (.t rfl))<| ARun.nil _ _ _) ?_
   refine AWP.vc (s' := ⟨[(0,rW β1 a0 eW),(1,rW β2 a1 eW),(5,iW x_5),(14,bW (decide (x_5 < (a0.length : Int))))],[]⟩) (VC.sub (.of rfl) (.n _)) ?_
   refine AWP.cond (.t rfl) (fun hc => ?_) (fun hc => ?_)
   ·have h := iteT hc h
    refine AWP.skip ?_
    refine AWP.seq ?_
    refine AWP.block ?_
    refine AWP.seq ?_
    obtain ⟨y_7,hy_7,h⟩ := bindS h
    obtain ⟨y_8,hy_8,h⟩ := bindS h
    refine AWP.draw (s' := ⟨[(0,rW β1 a0 eW),(1,rW β2 a1 eW),(5,iW x_5),(25,bW (!decide (y_7 = y_8)))],[]⟩) mixed [⟨0,rW β1 a0 eW,none,[]⟩,⟨1,rW β2 a1 eW,none,[]⟩,⟨5,iW x_5,none,[]⟩,⟨14,bW (decide (x_5 < (a0.length : Int))),none,[]⟩,⟨17,rW β1 a0 eW,some 0,[]⟩,⟨18,iW x_5,some 1,[]⟩,⟨19,.rptr β1 [iW y_7],some 2,[]⟩,⟨20,iW y_7,some 3,[]⟩,⟨21,rW β2 a1 eW,some 4,[]⟩,⟨22,iW x_5,some 5,[]⟩,⟨23,.rptr β2 [iW y_8],some 6,[]⟩,⟨24,iW y_8,some 7,[]⟩,⟨25,bW (!decide (y_7 = y_8)),some 8,[]⟩] [⟨[0],0,0,some (17,rW β1 a0 eW),[]⟩,⟨[2],0,0,some (18,iW x_5),[]⟩,⟨[4,5],0,0,some (19,.rptr β1 [iW y_7]),[]⟩,⟨[6],0,0,some (20,iW y_7),[]⟩,⟨[1],0,0,some (21,rW β2 a1 eW),[]⟩,⟨[2],0,0,some (22,iW x_5),[]⟩,⟨[8,9],0,0,some (23,.rptr β2 [iW y_8]),[]⟩,⟨[10],0,0,some (24,iW y_8),[]⟩,⟨[7,11],0,0,some (25,bW (!decide (y_7 = y_8))),[]⟩] [] [[]] [[],[],[0,1],[0,1,2],[],[],[4,5],[4,5,6],[0,1,2,3,4,5,6,7]] (by kernel_rfl) (by kernel_rfl) (BornL.ok (.o<| .o<| .o<| .o<| .b rfl rfl<| .b rfl rfl<| .b rfl rfl<| .b rfl rfl<| .b rfl rfl<| .b rfl rfl<| .b rfl rfl<| .b rfl rfl<| .b rfl rfl<| .n)) (BaseL.ok (.o rfl<| .o rfl<| .o rfl<| .o rfl<| .b<| .b<| .b<| .b<| .b<| .b<| .b<| .b<| .b<| .n)) rfl (by decide) (allLt rfl) (.pure rfl (fun H => .put (fun E hE => .move (l1 rfl) (.tmp (hE.at (k := 0) rfl))))<| .pure rfl (fun H => .put (fun E hE => .move (l1 rfl) (.tmp (hE.at (k := 0) rfl))))<| .pure rfl (fun H => .put (fun E hE => .indexRd (enc := eW) (l1 rfl) (.tmp (hE.at (k := 0) rfl)) (.tmp (hE.at (k := 1) rfl)) Try.underlying28 sz3 (encI_len .i64) rfl hy_7))<| .pure rfl (fun H => .put (fun E hE => .loadR (v := iW y_7) (l1 rfl) (.tmp (hE.at (k := 0) rfl)) one3 rfl))<| .pure rfl (fun H => .put (fun E hE => .move (l1 rfl) (.tmp (hE.at (k := 0) rfl))))<| .pure rfl (fun H => .put (fun E hE => .move (l1 rfl) (.tmp (hE.at (k := 0) rfl))))<| .pure rfl (fun H => .put (fun E hE => .indexRd (enc := eW) (l1 rfl) (.tmp (hE.at (k := 0) rfl)) (.tmp (hE.at (k := 1) rfl)) Try.underlying28 sz3 (encI_len .i64) rfl hy_8))<| .pure rfl (fun H => .put (fun E hE => .loadR (v := iW y_8) (l1 rfl) (.tmp (hE.at (k := 0) rfl)) one3 rfl))<| .pure rfl (fun H => .put (fun E hE => .neq (l1 rfl) (.tmp (hE.at (k := 0) rfl)) (.tmp (hE.at (k := 1) rfl))))<| .nil _) (fun E hE => .c (DInv.at hE (k := 0) rfl rfl rfl)<| .c (DInv.at hE (k := 1) rfl rfl rfl)<| .c (DInv.at hE (k := 2) rfl rfl rfl)<| .c (DInv.at hE (k := 12) rfl rfl rfl)<| .n _) rfl ?_
    refine AWP.vc (s' := ⟨[(0,rW β1 a0 eW),(1,rW β2 a1 eW),(5,iW x_5),(25,bW (!decide (y_7 = y_8)))],[]⟩) (VC.sub (.of rfl) (.n _)) ?_
    refine AWP.cond (.t rfl) (fun hc => ?_) (fun hc => ?_)
    ·have h := iteT hc h
     refine AWP.seq ?_
     refine AWP.rg (.cons (.assign (l1 rfl) (.const _ _ _))<| ARun.nil _ _ _) ?_
     refine AWP.ret ?_
     obtain rfl := Option.some.inj h
     refine retJ (Res.vc (s' := ⟨[(4,bW false)],[]⟩) (VC.sub (.of rfl) (.n _)) ?_)
     refine Res.drop (H := []) rfl ?_
     exact Res.of rfl (.cons (.tmp rfl) (.nil)) rfl rfl
    ·have h := iteF hc h
     refine AWP.skip ?_
     obtain ⟨t5_9,ht5_9,h⟩ := letS h
     refine AWP.rg (.cons (.move (l1 rfl) (.t rfl))<| .cons (.add (l1 rfl) (.t rfl) (.const _ _ _))<| .cons (.assign (l1 rfl) (.t rfl))<| ARun.nil _ _ _) ?_
     exact endJ t5_9 h (by subst ht5_9; exact VC.sub (.of rfl) (.n _))
   ·have h := iteF hc h
    refine AWP.exit ?_
    exact endJ () h (VC.sub (.n _) (.n _))
theorem c11 (n : Nat) {r : Bool} (h : m11 n = some r) : Spec Try.prog 11 [] [] [] (bW r) [] := by
 refine Spec.of (fn := Try.f11) Try.func11 Try.ntmps11 rfl rfl (le1 rfl) (fun w0 Zs Zb T0 ι0 => ?_)
 unfold m11 at h
 refine AWP.seq ?_
 refine AWP.rg (.cons (.assign (l1 rfl) (.const _ _ _))<| ARun.nil _ _ _) ?_
 refine AWP.vc (s' := ⟨[],[]⟩) (VC.sub (.n _) (.n _)) ?_
 refine AWP.seq ?_
 refine AWP.rg (.cons (.buildO (offs := [(0,1),(1,1)]) (l1 rfl) (.nil) zero46 offs46 rfl)<| .cons (.buildO (offs := [(0,1),(1,1)]) (l1 rfl) (.cons (.const _ _ _) (by first | exact ⟨rfl,rfl⟩ | rfl) (.nil)) zero46 offs46 rfl)<| .cons (.buildO (offs := [(0,1),(1,1)]) (l1 rfl) (.cons (.const _ _ _) (by first | exact ⟨rfl,rfl⟩ | rfl) (.cons (.const _ _ _) (by first | exact ⟨rfl,rfl⟩ | rfl) (.nil))) zero46 offs46 rfl)<| .cons (.buildO (offs := [(0,1),(1,1)]) (l1 rfl) (.cons (.const _ _ _) (by first | exact ⟨rfl,rfl⟩ | rfl) (.nil)) zero46 offs46 rfl)<| .cons (.buildSlice (t := 1) (out := ([(R45.mk (0 : Int) (0 : Int)),(R45.mk (4 : Int) (0 : Int)),(R45.mk (4 : Int) (3 : Int)),(R45.mk (0 : Int) (3 : Int))] : List R45).flatMap e45) (l1 rfl) (nm rfl) (.cons (.t rfl) (by first | exact ⟨rfl,rfl⟩ | rfl) (.cons (.t rfl) (by first | exact ⟨rfl,rfl⟩ | rfl) (.cons (.t rfl) (by first | exact ⟨rfl,rfl⟩ | rfl) (.cons (.t rfl) (by first | exact ⟨rfl,rfl⟩ | rfl) (.nil))))) Try.underlying22 zero46 el46 (by decide) (by decide) rfl (still_all encR45_still _))<| .cons (.buildO (offs := [(0,1),(1,1)]) (l1 rfl) (.cons (.t rfl) (by first | exact ⟨rfl,rfl⟩ | rfl) (.nil)) zero32 offs32 rfl)<| .cons (.alloc (t := 2) (k := ⟨32,false,[.sc (.slice none 0 0),.sc (.slice none 0 0)]⟩) (l1 rfl) (nm rfl) zero32 rfl rfl)<| .cons (.storePA (.t rfl) (.t rfl) sz32 rfl rfl (le1 rfl) (one_lit rfl) (by intro h; cases h) rfl)<| ARun.nil _ _ _) ?_
 refine AWP.vc (s' := ⟨[(1,.ptr 2 0)],[(2,⟨32,false,[.own 1 2 0 ([(R45.mk (0 : Int) (0 : Int)),(R45.mk (4 : Int) (0 : Int)),(R45.mk (4 : Int) (3 : Int)),(R45.mk (0 : Int) (3 : Int))] : List R45).length,.sc (.slice none 0 0)]⟩),(1,⟨46,true,([(R45.mk (0 : Int) (0 : Int)),(R45.mk (4 : Int) (0 : Int)),(R45.mk (4 : Int) (3 : Int)),(R45.mk (0 : Int) (3 : Int))] : List R45).flatMap e45⟩)]⟩) (VC.sub (.of rfl) (.of rfl)) ?_
 refine AWP.seq ?_
 obtain ⟨y_1,hy_1,h⟩ := bindS h
 refine AWP.rg (.cons (.loadPA (l1 rfl) (.t rfl) agg32 rfl rfl rfl rfl)<| .cons (.call0 (bw := true) (l1 rfl) (c13 (β1 := true) (β2 := false) n (R24.mk ([(R45.mk (0 : Int) (0 : Int)),(R45.mk (4 : Int) (0 : Int)),(R45.mk (4 : Int) (3 : Int)),(R45.mk (0 : Int) (3 : Int))] : List R45) ([] : List R93)) hy_1) (.cons (.t rfl) (.agg (.cons (.lendRow rfl rfl encR45_len rfl) (.cons (.nil) (.nil)))) (.nil)) rfl)<| .cons (.move (l1 rfl) (.t rfl))<| .cons (.extract (l1 rfl) (.t rfl) rfl)<| .cons (.extract (l1 rfl) (.t rfl) rfl)<| .cons (.extract (l1 rfl) (.t rfl) rfl)<| .cons (.assign (l1 rfl) (.t rfl))<| .cons (.assign (l1 rfl) (.t rfl))<| .cons (.assign (l1 rfl) (.t rfl))<| ARun.nil _ _ _) ?_
 refine AWP.vc (s' := ⟨[(1,.ptr 2 0),(2,rW false y_1.1 eW),(3,iW y_1.2.1),(4,iW y_1.2.2)],[(2,⟨32,false,[.own 1 2 0 ([(R45.mk (0 : Int) (0 : Int)),(R45.mk (4 : Int) (0 : Int)),(R45.mk (4 : Int) (3 : Int)),(R45.mk (0 : Int) (3 : Int))] : List R45).length,.sc (.slice none 0 0)]⟩),(1,⟨46,true,([(R45.mk (0 : Int) (0 : Int)),(R45.mk (4 : Int) (0 : Int)),(R45.mk (4 : Int) (3 : Int)),(R45.mk (0 : Int) (3 : Int))] : List R45).flatMap e45⟩)]⟩) (VC.sub (.of rfl) (.of rfl)) ?_
 refine AWP.seq ?_
 obtain ⟨l3_2,hl3_2,h⟩ := bindS h
 obtain ⟨y_3,hy_3,h⟩ := bindS h
 refine AWP.draw (s' := ⟨[(1,.ptr 2 0),(2,rW false y_1.1 eW),(3,iW y_1.2.1),(4,iW y_1.2.2),(5,iW y_3.1),(6,iW y_3.2)],[(3,⟨3,true,l3_2.flatMap eW⟩),(2,⟨32,false,[.own 1 2 0 ([(R45.mk (0 : Int) (0 : Int)),(R45.mk (4 : Int) (0 : Int)),(R45.mk (4 : Int) (3 : Int)),(R45.mk (0 : Int) (3 : Int))] : List R45).length,.sc (.slice none 0 0)]⟩),(1,⟨46,true,([(R45.mk (0 : Int) (0 : Int)),(R45.mk (4 : Int) (0 : Int)),(R45.mk (4 : Int) (3 : Int)),(R45.mk (0 : Int) (3 : Int))] : List R45).flatMap e45⟩)]⟩) mixed [⟨1,.ptr 2 0,none,[]⟩,⟨2,rW false y_1.1 eW,none,[]⟩,⟨3,iW y_1.2.1,none,[]⟩,⟨4,iW y_1.2.2,none,[]⟩,⟨20,.agg [.own 1 2 0 ([(R45.mk (0 : Int) (0 : Int)),(R45.mk (4 : Int) (0 : Int)),(R45.mk (4 : Int) (3 : Int)),(R45.mk (0 : Int) (3 : Int))] : List R45).length,.sc (.slice none 0 0)],some 0,[]⟩,⟨21,.own 3 1 0 l3_2.length,some 1,[]⟩,⟨22,.tup [iW y_3.1,iW y_3.2],some 2,[]⟩,⟨19,.tup [iW y_3.1,iW y_3.2],some 3,[]⟩,⟨23,iW y_3.1,some 4,[]⟩,⟨24,iW y_3.2,some 5,[]⟩,⟨5,iW y_3.1,some 6,[]⟩,⟨6,iW y_3.2,some 7,[]⟩] [⟨[0],0,1,some (20,.agg [.own 1 2 0 ([(R45.mk (0 : Int) (0 : Int)),(R45.mk (4 : Int) (0 : Int)),(R45.mk (4 : Int) (3 : Int)),(R45.mk (0 : Int) (3 : Int))] : List R45).length,.sc (.slice none 0 0)]),[]⟩,⟨[],0,0,some (21,.own 3 1 0 l3_2.length),[3]⟩,⟨[4,5],1,1,some (22,.tup [iW y_3.1,iW y_3.2]),[]⟩,⟨[6],0,1,some (19,.tup [iW y_3.1,iW y_3.2]),[]⟩,⟨[7],0,1,some (23,iW y_3.1),[]⟩,⟨[7],0,1,some (24,iW y_3.2),[]⟩,⟨[8],0,1,some (5,iW y_3.1),[]⟩,⟨[9],0,1,some (6,iW y_3.2),[]⟩] [1] [[(2,⟨32,false,[.own 1 2 0 ([(R45.mk (0 : Int) (0 : Int)),(R45.mk (4 : Int) (0 : Int)),(R45.mk (4 : Int) (3 : Int)),(R45.mk (0 : Int) (3 : Int))] : List R45).length,.sc (.slice none 0 0)]⟩),(1,⟨46,true,([(R45.mk (0 : Int) (0 : Int)),(R45.mk (4 : Int) (0 : Int)),(R45.mk (4 : Int) (3 : Int)),(R45.mk (0 : Int) (3 : Int))] : List R45).flatMap e45⟩)],[(3,⟨3,true,l3_2.flatMap eW⟩),(2,⟨32,false,[.own 1 2 0 ([(R45.mk (0 : Int) (0 : Int)),(R45.mk (4 : Int) (0 : Int)),(R45.mk (4 : Int) (3 : Int)),(R45.mk (0 : Int) (3 : Int))] : List R45).length,.sc (.slice none 0 0)]⟩),(1,⟨46,true,([(R45.mk (0 : Int) (0 : Int)),(R45.mk (4 : Int) (0 : Int)),(R45.mk (4 : Int) (3 : Int)),(R45.mk (0 : Int) (3 : Int))] : List R45).flatMap e45⟩)]] [[],[],[0,1],[0,1,2],[0,1,2,3],[0,1,2,3],[0,1,2,3,4],[0,1,2,3,4,5,6]] (by kernel_rfl) (by kernel_rfl) (BornL.ok (.o<| .o<| .o<| .o<| .b rfl rfl<| .b rfl rfl<| .b rfl rfl<| .b rfl rfl<| .b rfl rfl<| .b rfl rfl<| .b rfl rfl<| .b rfl rfl<| .n)) (BaseL.ok (.o rfl<| .o rfl<| .o rfl<| .o rfl<| .b<| .b<| .b<| .b<| .b<| .b<| .b<| .b<| .n)) rfl (by decide) (allLt rfl) (.read rfl (.c (.put (fun E hE => .loadPA (l1 rfl) (.tmp (hE.at (k := 0) rfl)) agg32 rfl rfl rfl rfl)) (.c (.put (fun E hE => .loadPA (l1 rfl) (.tmp (hE.at (k := 0) rfl)) agg32 rfl rfl rfl rfl)) (.n)))<| .turn rfl rfl rfl rfl rfl (.new (fun E hE => .mkS (enc := eW) (t := 3) (l1 rfl) (nm rfl) (.const _ _ _) (.const _ _ _) Try.underlying28 zero3 el3 rfl (encI_len .i64) (by decide) hl3_2) rfl)<| .read rfl (.c (.put (fun E hE => .call0 (bw := true) (l1 rfl) (c18 (β1 := true) (β2 := false) (β3 := true) n (R24.mk ([(R45.mk (0 : Int) (0 : Int)),(R45.mk (4 : Int) (0 : Int)),(R45.mk (4 : Int) (3 : Int)),(R45.mk (0 : Int) (3 : Int))] : List R45) ([] : List R93)) l3_2 hy_3) (.cons (.tmp (hE.at (k := 0) rfl)) (.agg (.cons (.lendRow rfl rfl encR45_len rfl) (.cons (.nil) (.nil)))) (.cons (.tmp (hE.at (k := 1) rfl)) (.lendRow rfl rfl (encI_len .i64) rfl) (.nil))) rfl)) (.n))<| .pure rfl (fun H => .put (fun E hE => .move (l1 rfl) (.tmp (hE.at (k := 0) rfl))))<| .pure rfl (fun H => .put (fun E hE => .extract (l1 rfl) (.tmp (hE.at (k := 0) rfl)) rfl))<| .pure rfl (fun H => .put (fun E hE => .extract (l1 rfl) (.tmp (hE.at (k := 0) rfl)) rfl))<| .pure rfl (fun H => .put (fun E hE => .assign (l1 rfl) (.tmp (hE.at (k := 0) rfl))))<| .pure rfl (fun H => .put (fun E hE => .assign (l1 rfl) (.tmp (hE.at (k := 0) rfl))))<| .nil _) (fun E hE => .c (DInv.at hE (k := 0) rfl rfl rfl)<| .c (DInv.at hE (k := 1) rfl rfl rfl)<| .c (DInv.at hE (k := 2) rfl rfl rfl)<| .c (DInv.at hE (k := 3) rfl rfl rfl)<| .c (DInv.at hE (k := 10) rfl rfl rfl)<| .c (DInv.at hE (k := 11) rfl rfl rfl)<| .n _) rfl ?_
 refine AWP.vc (s' := ⟨[(1,.ptr 2 0),(2,rW false y_1.1 eW),(3,iW y_1.2.1),(4,iW y_1.2.2),(5,iW y_3.1),(6,iW y_3.2)],[(2,⟨32,false,[.own 1 2 0 ([(R45.mk (0 : Int) (0 : Int)),(R45.mk (4 : Int) (0 : Int)),(R45.mk (4 : Int) (3 : Int)),(R45.mk (0 : Int) (3 : Int))] : List R45).length,.sc (.slice none 0 0)]⟩),(1,⟨46,true,([(R45.mk (0 : Int) (0 : Int)),(R45.mk (4 : Int) (0 : Int)),(R45.mk (4 : Int) (3 : Int)),(R45.mk (0 : Int) (3 : Int))] : List R45).flatMap e45⟩)]⟩) (VC.sub (.of rfl) (.of rfl)) ?_
 refine AWP.seq ?_
 obtain ⟨y_4,hy_4,h⟩ := bindS h
 obtain ⟨y_5,hy_5,h⟩ := bindS h
 refine AWP.rg (.cons (.move (l1 rfl) (.t rfl))<| .cons (.eql (l1 rfl) (.t rfl) (.const _ _ _))<| .cons (.move (l1 rfl) (.t rfl))<| .guard (j := 2) (dj := 27) rfl (l1 rfl) rfl (l1 rfl) (fun hg => .move (l1 rfl) (.t rfl))<| .guard (j := 2) (dj := 27) rfl (l1 rfl) rfl (l1 rfl) (fun hg => .eql (l1 rfl) (.gd hg (.t rfl)) (.const _ _ _))<| .cons (.pickAnd (l1 rfl) (.t rfl) (.t rfl) (.const _ _ _))<| .cons (.move (l1 rfl) (.t rfl))<| .guard (j := 6) (dj := 31) rfl (l1 rfl) rfl (l1 rfl) (fun hg => .move (l1 rfl) (.t rfl))<| .guard (j := 6) (dj := 31) rfl (l1 rfl) rfl (l1 rfl) (fun hg => .eql (l1 rfl) (.gd hg (.t rfl)) (.const _ _ _))<| .cons (.pickAnd (l1 rfl) (.t rfl) (.t rfl) (.const _ _ _))<| .cons (.move (l1 rfl) (.t rfl))<| .guard (j := 10) (dj := 35) rfl (l1 rfl) rfl (l1 rfl) (fun hg => .move (l1 rfl) (.t rfl))<| .guard (j := 10) (dj := 35) rfl (l1 rfl) rfl (l1 rfl) (fun hg => .eql (l1 rfl) (.gd hg (.t rfl)) (.const _ _ _))<| .cons (.pickAnd (l1 rfl) (.t rfl) (.t rfl) (.const _ _ _))<| .cons (.move (l1 rfl) (.t rfl))<| .guard (j := 14) (dj := 39) rfl (l1 rfl) rfl (l1 rfl) (fun hg => .move (l1 rfl) (.t rfl))<| .guard (j := 14) (dj := 39) rfl (l1 rfl) rfl (l1 rfl) (fun hg => .frzAny (fun t ht => AStep.buildSlice (t := t) (out := ([(0 : Int),(1 : Int),(2 : Int),(3 : Int)] : List Int).flatMap eW) (l1 rfl) ht (.cons (.const _ _ _) (by first | exact ⟨rfl,rfl⟩ | rfl) (.cons (.const _ _ _) (by first | exact ⟨rfl,rfl⟩ | rfl) (.cons (.const _ _ _) (by first | exact ⟨rfl,rfl⟩ | rfl) (.cons (.const _ _ _) (by first | exact ⟨rfl,rfl⟩ | rfl) (.nil))))) Try.underlying28 zero3 el3 (by decide) (by decide) rfl (still_all (encI_still .i64) _)) rfl (encI_len .i64))<| .guard (j := 14) (dj := 39) rfl (l1 rfl) rfl (l1 rfl) (fun hg => .call0 (bw := false) (l1 rfl) (c17 (β1 := false) (β2 := false) n y_1.1 ([(0 : Int),(1 : Int),(2 : Int),(3 : Int)] : List Int) (gdB hy_4 hg)) (.cons (.gd hg (.t rfl)) (.ren rfl) (.cons (.gd hg (.t rfl)) (.ren rfl) (.nil))) rfl)<| .cons (.pickAnd (l1 rfl) (.t rfl) (.t rfl) (.const _ _ _))<| .cons (.move (l1 rfl) (.t rfl))<| .guard (j := 19) (dj := 44) rfl (l1 rfl) rfl (l1 rfl) (fun hg => .loadPA (l1 rfl) (.t rfl) agg32 rfl rfl rfl rfl)<| .guard (j := 19) (dj := 44) rfl (l1 rfl) rfl (l1 rfl) (fun hg => .call0 (bw := true) (l1 rfl) (c22 (β1 := true) (β2 := false) n (R24.mk ([(R45.mk (0 : Int) (0 : Int)),(R45.mk (4 : Int) (0 : Int)),(R45.mk (4 : Int) (3 : Int)),(R45.mk (0 : Int) (3 : Int))] : List R45) ([] : List R93)) (gdB hy_5 hg)) (.cons (.gd hg (.t rfl)) (.agg (.cons (.lendRow rfl rfl encR45_len rfl) (.cons (.nil) (.nil)))) (.nil)) rfl)<| .cons (.pickAnd (l1 rfl) (.t rfl) (.t rfl) (.const _ _ _))<| .cons (.assign (l1 rfl) (.t rfl))<| ARun.nil _ _ _) ?_
 refine AWP.ret ?_
 obtain rfl := Option.some.inj h
 refine retJ (Res.vc (s' := ⟨[(0,bW ((((((decide (y_1.2.2 = (0 : Int))) && (decide (y_3.2 = (0 : Int)))) && (decide (y_1.2.1 = (14 : Int)))) && (decide (y_3.1 = (14 : Int)))) && y_4) && y_5))],[]⟩) (VC.sub (.of rfl) (.n _)) ?_)
 refine Res.drop (H := []) rfl ?_
 exact Res.of rfl (.cons (.tmp rfl) (.nil)) rfl rfl
end Go.AB

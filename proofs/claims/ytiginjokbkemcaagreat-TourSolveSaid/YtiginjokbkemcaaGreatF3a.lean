import Derived.Test.YtiginjokbkemcaaGreatProg
import Derived.Test.YtiginjokbkemcaaGreatF0b
import Derived.KernelRfl
set_option linter.unusedVariables false
set_option maxRecDepth 20000
namespace Go.AB
open Go Go.Proofs
theorem c5 {β1 : Bool} {β2 : Bool} (n : Nat) (a0 : R24) {r : Bool} (h : m5 n a0 = some r) : Spec Tryz.prog 5 [] [.agg (pW β1 β2 a0)] [] (bW r) [] := by
 refine Spec.of (fn := Tryz.f5) Tryz.func5 Tryz.ntmps5 rfl rfl (le1 rfl) (fun w0 Zs Zb T0 ι0 => ?_)
 unfold m5 at h
 refine AWP.sv (.cons (.box (t := 1) (n := 2) (l1 rfl) (nm rfl) (.t rfl) (by first | exact ⟨rfl,rfl⟩ | rfl) rfl)<| .cons (.assign (l1 rfl) (.const _ _ _))<| .nil _ _ _) ⟨[(1,.ptr 1 0)],[(1,⟨25,false,(pW β1 β2 a0)⟩)]⟩ rfl rfl ?_
 refine AWP.sr (.cons (.fieldP (l1 rfl) (.t rfl) fld25_0)<| .cons (.loadP (l1 rfl) (.t rfl) one22 rfl rfl rfl)<| .cons (.lenRd (l1 rfl) (.t rfl) Tryz.underlying22)<| .cons (.leq (l1 rfl) (.t rfl) (.const _ _ _))<| .cons (.move (l1 rfl) (.t rfl))<| .guard (j := 4) (dj := 7) rfl (l1 rfl) rfl (l1 rfl) (fun hg => .fieldP (l1 rfl) (.t rfl) fld25_1)<| .guard (j := 4) (dj := 7) rfl (l1 rfl) rfl (l1 rfl) (fun hg => .loadP (l1 rfl) (.gd hg (.t rfl)) one23 rfl rfl rfl)<| .guard (j := 4) (dj := 7) rfl (l1 rfl) rfl (l1 rfl) (fun hg => .lenRd (l1 rfl) (.gd hg (.t rfl)) Tryz.underlying23)<| .guard (j := 4) (dj := 7) rfl (l1 rfl) rfl (l1 rfl) (fun hg => .leq (l1 rfl) (.gd hg (.t rfl)) (.const _ _ _))<| .cons (.pickAnd (l1 rfl) (.t rfl) (.t rfl) (.const _ _ _))<| .cons (.assign (l1 rfl) (.t rfl))<| .nil _ _ _) ?_
 refine AWP.ret ?_
 obtain rfl := Option.some.inj h
 refine retJ (Res.vc (s' := ⟨[(2,bW ((decide ((a0.Pq.length : Int) ≤ (9 : Int))) && (decide ((a0.Bq.length : Int) ≤ (12 : Int)))))],[]⟩) (VC.sub (.of rfl) (.n _)) ?_)
 refine Res.drop (H := []) rfl ?_
 exact Res.of rfl (.cons (.tmp rfl) (.nil)) rfl rfl
theorem c7 {β1 : Bool} {β2 : Bool} (n : Nat) (a0 : R24) {r : R24} (h : m7 n a0 = some r) : Spec Tryz.prog 7 [] [.agg (pW β1 β2 a0)] [] (.agg (pW β1 β2 r)) [] := by
 refine Spec.of (fn := Tryz.f7) Tryz.func7 Tryz.ntmps7 rfl rfl (le1 rfl) (fun w0 Zs Zb T0 ι0 => ?_)
 unfold m7 at h
 refine AWP.sv (.cons (.box (t := 1) (n := 2) (l1 rfl) (nm rfl) (.t rfl) (by first | exact ⟨rfl,rfl⟩ | rfl) rfl)<| .cons (.alloc (t := 2) (k := ⟨37,false,[.sc (.slice none 0 0),.sc (.slice none 0 0)]⟩) (l1 rfl) (nm rfl) zero37 rfl rfl)<| .nil _ _ _) ⟨[(1,.ptr 1 0),(2,.ptr 2 0)],[(2,⟨37,false,[.sc (.slice none 0 0),.sc (.slice none 0 0)]⟩),(1,⟨25,false,(pW β1 β2 a0)⟩)]⟩ rfl rfl ?_
 refine AWP.sr (.cons (.loadPA (l1 rfl) (.t rfl) agg25 rfl rfl rfl rfl)<| .cons (.storePA (.t rfl) (.t rfl) sz37 rfl rfl (le1 rfl) (one_lit rfl) (by intro h; cases h) rfl)<| .nil _ _ _) ?_
 refine AWP.ret ?_
 obtain rfl := Option.some.inj h
 refine retJ (Res.vc (s' := ⟨[(2,.ptr 2 0)],[(2,⟨37,false,(pW β1 β2 a0)⟩)]⟩) (VC.sub (.of rfl) (.of rfl)) ?_)
 refine Res.drop (H := [(2,⟨37,false,(pW β1 β2 a0)⟩)]) rfl ?_
 exact Res.of rfl (.cons (.cell rfl agg37 rfl rfl rfl rfl) (.nil)) rfl rfl
theorem c47 {β1 : Bool} {β2 : Bool} (n : Nat) (a0 : Int) (a1 : Int) (a2_b0 : (List R50)) (a2_b1 : (List R71)) (a3_b0 : Int) {r : Int} (h : m47 n a0 a1 a2_b0 a2_b1 a3_b0 = some r) : Spec Tryz.prog 47 [1,2] [iW a0,iW a1,.ptr 1 0,.ptr 2 0] [(1,⟨37,false,[rW β1 a2_b0 e50,rW β2 a2_b1 e71]⟩),(2,⟨3,false,[iW a3_b0]⟩)] (iW r) [(1,⟨37,false,[rW β1 a2_b0 e50,rW β2 a2_b1 e71]⟩),(2,⟨3,false,[iW a3_b0]⟩)] := by
 refine Spec.of (fn := Tryz.f47) Tryz.func47 Tryz.ntmps47 rfl rfl (le1 rfl) (fun w0 Zs Zb T0 ι0 => ?_)
 unfold m47 at h
 refine AWP.sv (.cons (.assign (l1 rfl) (.const _ _ _))<| .nil _ _ _) ⟨[(0,iW a0),(1,iW a1),(2,.ptr 1 0),(3,.ptr 2 0)],[(1,⟨37,false,[rW β1 a2_b0 e50,rW β2 a2_b1 e71]⟩),(2,⟨3,false,[iW a3_b0]⟩)]⟩ rfl rfl ?_
 refine AWP.seq ?_
 obtain ⟨y_1,hy_1,h⟩ := bindS h
 obtain ⟨y_2,hy_2,h⟩ := bindS h
 obtain ⟨t6_3,ht6_3,h⟩ := letS h
 refine AWP.dw mixed [(0,iW a0),(1,iW a1),(2,.ptr 1 0),(3,.ptr 2 0)] [] [dO [2] 7 (.agg [rW β1 a2_b0 e50,rW β2 a2_b1 e71]),dO [3] 8 (iW a3_b0),dO [0] 9 (iW a0),dO [4,5,6] 10 (iW y_1),dO [2] 11 (.agg [rW β1 a2_b0 e50,rW β2 a2_b1 e71]),dO [3] 12 (iW a3_b0),dO [1] 13 (iW a1),dO [8,9,10] 14 (iW y_2),dO [7,11] 15 (iW (IntKind.wrap .i64 (y_1 - y_2))),dO [12] 6 (iW (IntKind.wrap .i64 (y_1 - y_2)))] [] [[(1,⟨37,false,[rW β1 a2_b0 e50,rW β2 a2_b1 e71]⟩),(2,⟨3,false,[iW a3_b0]⟩)]] [[],[],[],[0,3],[],[],[],[0,7],[0,8],[0,9]] [13] rfl rfl (by kernel_rfl) rfl (.r rfl rfl (fun _ q => .loadPA (l1 rfl) (q.t 0 rfl) agg37 rfl rfl rfl rfl)<| .r rfl rfl (fun _ q => .loadP (l1 rfl) (q.t 0 rfl) one3 rfl rfl rfl)<| .p rfl (fun _ q _ => .move (l1 rfl) (q.t 0 rfl))<| .p rfl (fun _ q _ => .call0 (bw := false) (l1 rfl) (c48 (β1 := β1) (β2 := β2) n (R24.mk a2_b0 a2_b1) a3_b0 a0 hy_1) (.cons (q.t 0 rfl) (.ren rfl) (.cons (q.t 1 rfl) (.ren rfl) (.cons (q.t 2 rfl) (.ren rfl) (.nil)))) rfl)<| .r rfl rfl (fun _ q => .loadPA (l1 rfl) (q.t 0 rfl) agg37 rfl rfl rfl rfl)<| .r rfl rfl (fun _ q => .loadP (l1 rfl) (q.t 0 rfl) one3 rfl rfl rfl)<| .p rfl (fun _ q _ => .move (l1 rfl) (q.t 0 rfl))<| .p rfl (fun _ q _ => .call0 (bw := false) (l1 rfl) (c48 (β1 := β1) (β2 := β2) n (R24.mk a2_b0 a2_b1) a3_b0 a1 hy_2) (.cons (q.t 0 rfl) (.ren rfl) (.cons (q.t 1 rfl) (.ren rfl) (.cons (q.t 2 rfl) (.ren rfl) (.nil)))) rfl)<| .p rfl (fun _ q _ => .sub (l1 rfl) (q.t 0 rfl) (q.t 1 rfl))<| .p rfl (fun _ q _ => .assign (l1 rfl) (q.t 0 rfl))<| .nil _) rfl rfl ?_
 refine AWP.ret ?_
 obtain rfl := Option.some.inj h
 refine retJ (Res.vc (s' := ⟨[(6,iW t6_3)],[(1,⟨37,false,[rW β1 a2_b0 e50,rW β2 a2_b1 e71]⟩),(2,⟨3,false,[iW a3_b0]⟩)]⟩) (by subst ht6_3; exact VC.sub (.of rfl) (.of rfl)) ?_)
 refine Res.sub (H := [(1,⟨37,false,[rW β1 a2_b0 e50,rW β2 a2_b1 e71]⟩),(2,⟨3,false,[iW a3_b0]⟩)]) (.of rfl) ?_
 exact Res.of rfl (.cons (.tmp rfl) (.nil)) rfl rfl
theorem c46 {β1 : Bool} {β2 : Bool} {β3 : Bool} (n : Nat) (a0 : (List Int)) (a1_0_b0 : (List R50)) (a1_0_b1 : (List R71)) (a1_1_b0 : Int) {r : Int} (h : m46 n a0 a1_0_b0 a1_0_b1 a1_1_b0 = some r) : Spec Tryz.prog 46 [1,2] [rW β1 a0 eW,.clo (.func 47) [] [.ptr 1 0,.ptr 2 0]] [(1,⟨37,false,[rW β2 a1_0_b0 e50,rW β3 a1_0_b1 e71]⟩),(2,⟨3,false,[iW a1_1_b0]⟩)] (iW r) [(1,⟨37,false,[rW β2 a1_0_b0 e50,rW β3 a1_0_b1 e71]⟩),(2,⟨3,false,[iW a1_1_b0]⟩)] := by
 refine Spec.of (fn := Tryz.f46) Tryz.func46 Tryz.ntmps46 rfl rfl (le1 rfl) (fun w0 Zs Zb T0 ι0 => ?_)
 unfold m46 at h
 refine AWP.sv (.cons (.assign (l1 rfl) (.const _ _ _))<| .nil _ _ _) ⟨[(0,rW β1 a0 eW),(1,.clo (.func 47) [] [.ptr 1 0,.ptr 2 0])],[(1,⟨37,false,[rW β2 a1_0_b0 e50,rW β3 a1_0_b1 e71]⟩),(2,⟨3,false,[iW a1_1_b0]⟩)]⟩ rfl rfl ?_
 refine AWP.seq ?_
 refine AWP.sv (.cons (.move (l1 rfl) (.t rfl))<| .cons (.lenRd (l1 rfl) (.t rfl) Tryz.underlying28)<| .cons (.lss (l1 rfl) (.t rfl) (.const _ _ _))<| .nil _ _ _) ⟨[(0,rW β1 a0 eW),(1,.clo (.func 47) [] [.ptr 1 0,.ptr 2 0]),(9,bW (decide ((a0.length : Int) < (1 : Int))))],[(1,⟨37,false,[rW β2 a1_0_b0 e50,rW β3 a1_0_b1 e71]⟩),(2,⟨3,false,[iW a1_1_b0]⟩)]⟩ rfl rfl ?_
 refine AWP.cond (.t rfl) (fun hc => ?_) (fun hc => ?_)
 ·have h := iteT hc h
  cases h
 ·have h := iteF hc h
  refine AWP.skip ?_
  obtain ⟨y_1,hy_1,h⟩ := bindS h
  refine AWP.sv (.cons (.move (l1 rfl) (.t rfl))<| .cons (.indexRd (enc := eW) (l1 rfl) (.t rfl) (.const _ _ _) Tryz.underlying28 sz3 (encI_len .i64) rfl hy_1)<| .cons (.loadR (v := iW y_1) (l1 rfl) (.t rfl) one3 rfl)<| .cons (.assign (l1 rfl) (.t rfl))<| .nil _ _ _) ⟨[(0,rW β1 a0 eW),(1,.clo (.func 47) [] [.ptr 1 0,.ptr 2 0]),(5,iW y_1)],[(1,⟨37,false,[rW β2 a1_0_b0 e50,rW β3 a1_0_b1 e71]⟩),(2,⟨3,false,[iW a1_1_b0]⟩)]⟩ rfl rfl ?_
  refine AWP.seq ?_
  refine AWP.sv (.cons (.assign (l1 rfl) (.const _ _ _))<| .nil _ _ _) ⟨[(0,rW β1 a0 eW),(1,.clo (.func 47) [] [.ptr 1 0,.ptr 2 0]),(5,iW y_1),(6,iW (1 : Int))],[(1,⟨37,false,[rW β2 a1_0_b0 e50,rW β3 a1_0_b1 e71]⟩),(2,⟨3,false,[iW a1_1_b0]⟩)]⟩ rfl rfl ?_
  refine AWP.joinB' (S := fun p_24 : Int => ⟨[(5,iW p_24)],[(1,⟨37,false,[rW β2 a1_0_b0 e50,rW β3 a1_0_b1 e71]⟩),(2,⟨3,false,[iW a1_1_b0]⟩)]⟩) h (fun p_24 h => ?_) (fun k_25 h => ?_)
  ·refine AWP.sr (.cons (.move (l1 rfl) (.t rfl))<| .cons (.assign (l1 rfl) (.t rfl))<| .nil _ _ _) ?_
   refine AWP.ret ?_
   obtain rfl := Option.some.inj h
   refine retJ (Res.vc (s' := ⟨[(4,iW p_24)],[(1,⟨37,false,[rW β2 a1_0_b0 e50,rW β3 a1_0_b1 e71]⟩),(2,⟨3,false,[iW a1_1_b0]⟩)]⟩) (VC.sub (.of rfl) (.of rfl)) ?_)
   refine Res.sub (H := [(1,⟨37,false,[rW β2 a1_0_b0 e50,rW β3 a1_0_b1 e71]⟩),(2,⟨3,false,[iW a1_1_b0]⟩)]) (.of rfl) ?_
   exact Res.of rfl (.cons (.tmp rfl) (.nil)) rfl rfl
  ·refine AWP.vs ⟨[(0,rW β1 a0 eW),(1,.clo (.func 47) [] [.ptr 1 0,.ptr 2 0]),(5,iW y_1),(6,iW (1 : Int))],[(1,⟨37,false,[rW β2 a1_0_b0 e50,rW β3 a1_0_b1 e71]⟩),(2,⟨3,false,[iW a1_1_b0]⟩)]⟩ rfl rfl ?_
   refine AWP.loopM (S := fun x_16 : Int × Int => ⟨[(0,rW β1 a0 eW),(1,.clo (.func 47) [] [.ptr 1 0,.ptr 2 0]),(5,iW x_16.1),(6,iW x_16.2)],[(1,⟨37,false,[rW β2 a1_0_b0 e50,rW β3 a1_0_b1 e71]⟩),(2,⟨3,false,[iW a1_1_b0]⟩)]⟩) (x := (y_1,(1 : Int))) (fun nx_17 x_16 h => ?_) h
   unfold m46_L1 at h
   refine AWP.seq ?_
   refine AWP.sv (.cons (.move (l1 rfl) (.t rfl))<| .cons (.move (l1 rfl) (.t rfl))<| .cons (.lenRd (l1 rfl) (.t rfl) Tryz.underlying28)<| .cons (.lss (l1 rfl) (.t rfl) (.t rfl))<| .nil _ _ _) ⟨[(0,rW β1 a0 eW),(1,.clo (.func 47) [] [.ptr 1 0,.ptr 2 0]),(5,iW x_16.1),(6,iW x_16.2),(17,bW (decide (x_16.2 < (a0.length : Int))))],[(1,⟨37,false,[rW β2 a1_0_b0 e50,rW β3 a1_0_b1 e71]⟩),(2,⟨3,false,[iW a1_1_b0]⟩)]⟩ rfl rfl ?_
   refine AWP.cond (.t rfl) (fun hc => ?_) (fun hc => ?_)
   ·have h := iteT hc h
    refine AWP.skip ?_
    refine AWP.seq ?_
    refine AWP.block ?_
    obtain ⟨y_18,hy_18,h⟩ := bindS h
    obtain ⟨y_19,hy_19,h⟩ := bindS h
    refine AWP.sv (.cons (.move (l1 rfl) (.t rfl))<| .cons (.move (l1 rfl) (.t rfl))<| .cons (.move (l1 rfl) (.t rfl))<| .cons (.indexRd (enc := eW) (l1 rfl) (.t rfl) (.t rfl) Tryz.underlying28 sz3 (encI_len .i64) rfl hy_18)<| .cons (.loadR (v := iW y_18) (l1 rfl) (.t rfl) one3 rfl)<| .cons (.move (l1 rfl) (.t rfl))<| .cons (.keep (bw := false) (AStep.callV (us' := []) (avs := [iW y_18,iW x_16.1]) (cs' := [.ptr 1 0,.ptr 2 0]) (σ := sgT [(1,1),(2,2)]) (bw := false) (l1 rfl) (.t rfl) (c47 (β1 := β2) (β2 := β3) n y_18 x_16.1 a1_0_b0 a1_0_b1 a1_1_b0 hy_19) (.nil) (.cons (.t rfl) (.ren rfl) (.cons (.t rfl) (.ren rfl) (.nil))) (.cons (.ren rfl) (.cons (.ren rfl) (.nil))) (CallOk.mk' (.c rfl (.c rfl (.n))) rfl) (fun _ h => by cases h)) (CallOk.mk' (.c rfl (.c rfl (.n))) rfl) rfl rfl)<| .cons (.lss (l1 rfl) (.t rfl) (.const _ _ _))<| .nil _ _ _) ⟨[(0,rW β1 a0 eW),(1,.clo (.func 47) [] [.ptr 1 0,.ptr 2 0]),(5,iW x_16.1),(6,iW x_16.2),(27,bW (decide (y_19 < (0 : Int))))],[(1,⟨37,false,[rW β2 a1_0_b0 e50,rW β3 a1_0_b1 e71]⟩),(2,⟨3,false,[iW a1_1_b0]⟩)]⟩ rfl rfl ?_
    refine AWP.join' (S := fun p_21 : Int => ⟨[(0,rW β1 a0 eW),(1,.clo (.func 47) [] [.ptr 1 0,.ptr 2 0]),(5,iW p_21),(6,iW x_16.2)],[(1,⟨37,false,[rW β2 a1_0_b0 e50,rW β3 a1_0_b1 e71]⟩),(2,⟨3,false,[iW a1_1_b0]⟩)]⟩) h (fun p_21 h => ?_) (fun k_22 h => ?_)
    ·obtain ⟨t6_23,ht6_23,h⟩ := letS h
     refine AWP.rg (.cons (.move (l1 rfl) (.t rfl))<| .cons (.add (l1 rfl) (.t rfl) (.const _ _ _))<| .cons (.assign (l1 rfl) (.t rfl))<| .nil _ _ _) ?_
     exact endJ (p_21,t6_23) h (by subst ht6_23; exact VC.sub (.of rfl) (.of rfl))
    ·refine AWP.cond (.t rfl) (fun hc => ?_) (fun hc => ?_)
     ·have h := iteT hc h
      obtain ⟨y_20,hy_20,h⟩ := bindS h
      refine AWP.rg (.cons (.move (l1 rfl) (.t rfl))<| .cons (.move (l1 rfl) (.t rfl))<| .cons (.indexRd (enc := eW) (l1 rfl) (.t rfl) (.t rfl) Tryz.underlying28 sz3 (encI_len .i64) rfl hy_20)<| .cons (.loadR (v := iW y_20) (l1 rfl) (.t rfl) one3 rfl)<| .cons (.assign (l1 rfl) (.t rfl))<| .nil _ _ _) ?_
      exact endJ y_20 h (VC.sub (.of rfl) (.of rfl))
     ·have h := iteF hc h
      refine AWP.skip ?_
      exact endJ x_16.1 h (VC.sub (.of rfl) (.of rfl))
   ·have h := iteF hc h
    refine AWP.exit ?_
    exact endJ x_16.1 h (VC.sub (.of rfl) (.of rfl))
theorem c45 {β1 : Bool} {β2 : Bool} {β3 : Bool} (n : Nat) (a0 : (List Int)) (a1_b0 : (List R50)) (a1_b1 : (List R71)) (a2_b0 : Int) {r : (Int × Int)} (h : m45 n a0 a1_b0 a1_b1 a2_b0 = some r) : Spec Tryz.prog 45 [1,2] [rW β1 a0 eW,.ptr 1 0,.ptr 2 0] [(1,⟨37,false,[rW β2 a1_b0 e50,rW β3 a1_b1 e71]⟩),(2,⟨3,false,[iW a2_b0]⟩)] (iW r.1) [(1,⟨37,false,[rW β2 a1_b0 e50,rW β3 a1_b1 e71]⟩),(2,⟨3,false,[iW r.2]⟩)] := by
 refine Spec.of (fn := Tryz.f45) Tryz.func45 Tryz.ntmps45 rfl rfl (le1 rfl) (fun w0 Zs Zb T0 ι0 => ?_)
 unfold m45 at h
 refine AWP.sv (.cons (.assign (l1 rfl) (.const _ _ _))<| .nil _ _ _) ⟨[(0,rW β1 a0 eW),(1,.ptr 1 0),(2,.ptr 2 0)],[(1,⟨37,false,[rW β2 a1_b0 e50,rW β3 a1_b1 e71]⟩),(2,⟨3,false,[iW a2_b0]⟩)]⟩ rfl rfl ?_
 obtain ⟨y_1,hy_1,h⟩ := bindS h
 refine AWP.sv (.cons (.move (l1 rfl) (.t rfl))<| .cons (.makeFunc (l1 rfl) (.nil) (.cons (.t rfl) (.cons (.t rfl) (.nil))))<| .cons (.keep (bw := false) (AStep.call (σ := sgT [(1,1),(2,2)]) (bw := false) (l1 rfl) (c46 (β1 := β1) (β2 := β2) (β3 := β3) n a0 a1_b0 a1_b1 a2_b0 hy_1) (.cons (.t rfl) (.ren rfl) (.cons (.t rfl) (.ren rfl) (.nil))) (CallOk.mk' (.c rfl (.c rfl (.n))) rfl)) (CallOk.mk' (.c rfl (.c rfl (.n))) rfl) rfl rfl)<| .cons (.storeP (.t rfl) (.t rfl) sz3 rfl (l1 rfl) rfl (by intro h; cases h) rfl)<| .nil _ _ _) ⟨[(2,.ptr 2 0)],[(1,⟨37,false,[rW β2 a1_b0 e50,rW β3 a1_b1 e71]⟩),(2,⟨3,false,[iW y_1]⟩)]⟩ rfl rfl ?_
 refine AWP.sr (.cons (.loadP (l1 rfl) (.t rfl) one3 rfl rfl rfl)<| .cons (.assign (l1 rfl) (.t rfl))<| .nil _ _ _) ?_
 refine AWP.ret ?_
 obtain rfl := Option.some.inj h
 refine retJ (Res.vc (s' := ⟨[(4,iW y_1)],[(1,⟨37,false,[rW β2 a1_b0 e50,rW β3 a1_b1 e71]⟩),(2,⟨3,false,[iW y_1]⟩)]⟩) (VC.sub (.of rfl) (.of rfl)) ?_)
 refine Res.sub (H := [(1,⟨37,false,[rW β2 a1_b0 e50,rW β3 a1_b1 e71]⟩),(2,⟨3,false,[iW y_1]⟩)]) (.of rfl) ?_
 exact Res.of rfl (.cons (.tmp rfl) (.nil)) rfl rfl
theorem c40x1 {β1 : Bool} {β2 : Bool} {β3 : Bool} {β4 : Bool} (n : Nat) (a0 : R24) (a1_0_b0 : (List R50)) (a1_0_b1 : (List R71)) (a1_1_b0 : Int) {r : ((List Int) × Bool × Int)} (h : m40x1 n a0 a1_0_b0 a1_0_b1 a1_1_b0 = some r) : Spec Tryz.prog 40 [1,2] [.agg (pW β1 β2 a0),.clo (.func 45) [] [.ptr 1 0,.ptr 2 0]] [(1,⟨37,false,[rW β3 a1_0_b0 e50,rW β4 a1_0_b1 e71]⟩),(2,⟨3,false,[iW a1_1_b0]⟩)] (.tup [rW false r.1 eW,bW r.2.1]) [(1,⟨37,false,[rW β3 a1_0_b0 e50,rW β4 a1_0_b1 e71]⟩),(2,⟨3,false,[iW r.2.2]⟩)] := by
 refine Spec.of (fn := Tryz.f40) Tryz.func40 Tryz.ntmps40 rfl rfl (le1 rfl) (fun w0 Zs Zb T0 ι0 => ?_)
 unfold m40x1 at h
 refine AWP.sv (.cons (.box (t := 3) (n := 2) (l1 rfl) (nm rfl) (.t rfl) (by first | exact ⟨rfl,rfl⟩ | rfl) rfl)<| .cons (.assign (l1 rfl) (.const _ _ _))<| .cons (.assign (l1 rfl) (.const _ _ _))<| .nil _ _ _) ⟨[(1,.clo (.func 45) [] [.ptr 1 0,.ptr 2 0]),(2,.ptr 3 0)],[(3,⟨37,false,(pW β1 β2 a0)⟩),(1,⟨37,false,[rW β3 a1_0_b0 e50,rW β4 a1_0_b1 e71]⟩),(2,⟨3,false,[iW a1_1_b0]⟩)]⟩ rfl rfl ?_
 refine AWP.sv (.cons (.buildSlice (t := 4) (out := ([(0 : Int)] : List Int).flatMap eW) (l1 rfl) (nm rfl) (.cons (.const _ _ _) (by first | exact ⟨rfl,rfl⟩ | rfl) (.nil)) Tryz.underlying28 zero3 el3 (by decide) (by decide) rfl (still_all (encI_still .i64) _))<| .cons (.assign (l1 rfl) (.t rfl))<| .nil _ _ _) ⟨[(1,.clo (.func 45) [] [.ptr 1 0,.ptr 2 0]),(2,.ptr 3 0),(6,.own 4 1 0 ([(0 : Int)] : List Int).length)],[(4,⟨3,true,([(0 : Int)] : List Int).flatMap eW⟩),(3,⟨37,false,(pW β1 β2 a0)⟩),(1,⟨37,false,[rW β3 a1_0_b0 e50,rW β4 a1_0_b1 e71]⟩),(2,⟨3,false,[iW a1_1_b0]⟩)]⟩ rfl rfl ?_
 refine AWP.seq ?_
 refine AWP.joinB' (S := fun p_14 : Int × (List Int) => ⟨[(6,.own 4 1 0 p_14.2.length)],[(1,⟨37,false,[rW β3 a1_0_b0 e50,rW β4 a1_0_b1 e71]⟩),(2,⟨3,false,[iW p_14.1]⟩),(4,⟨3,true,p_14.2.flatMap eW⟩)]⟩) h (fun p_14 h => ?_) (fun k_15 h => ?_)
 ·refine AWP.sr (.cons (.move (l1 rfl) (.t rfl))<| .cons (.assign (l1 rfl) (.t rfl))<| .cons (.assign (l1 rfl) (.const _ _ _))<| .nil _ _ _) ?_
  refine AWP.ret ?_
  obtain rfl := Option.some.inj h
  refine retJ (Res.vc (s' := ⟨[(4,rW false p_14.2 eW),(5,bW true)],[(1,⟨37,false,[rW β3 a1_0_b0 e50,rW β4 a1_0_b1 e71]⟩),(2,⟨3,false,[iW p_14.1]⟩)]⟩) (VC.trans (VC.frz (d := 4) (t := 4) rfl rfl (encI_len .i64)) (VC.sub (.of rfl) (.of rfl))) ?_)
  refine Res.sub (H := [(1,⟨37,false,[rW β3 a1_0_b0 e50,rW β4 a1_0_b1 e71]⟩),(2,⟨3,false,[iW p_14.1]⟩)]) (.of rfl) ?_
  exact Res.of rfl (.cons (.tmp rfl) (.cons (.tmp rfl) (.nil))) rfl rfl
 ·refine AWP.vs ⟨[(1,.clo (.func 45) [] [.ptr 1 0,.ptr 2 0]),(2,.ptr 3 0),(6,.own 4 1 0 ([(0 : Int)] : List Int).length)],[(1,⟨37,false,[rW β3 a1_0_b0 e50,rW β4 a1_0_b1 e71]⟩),(2,⟨3,false,[iW a1_1_b0]⟩),(3,⟨37,false,(pW β1 β2 a0)⟩),(4,⟨3,true,([(0 : Int)] : List Int).flatMap eW⟩)]⟩ rfl rfl ?_
  refine AWP.loopM (S := fun x_9 : Int × (List Int) => ⟨[(1,.clo (.func 45) [] [.ptr 1 0,.ptr 2 0]),(2,.ptr 3 0),(6,.own 4 1 0 x_9.2.length)],[(1,⟨37,false,[rW β3 a1_0_b0 e50,rW β4 a1_0_b1 e71]⟩),(2,⟨3,false,[iW x_9.1]⟩),(3,⟨37,false,(pW β1 β2 a0)⟩),(4,⟨3,true,x_9.2.flatMap eW⟩)]⟩) (x := (a1_1_b0,([(0 : Int)] : List Int))) (fun nx_10 x_9 h => ?_) h
  unfold m40x1_L1 at h
  refine AWP.seq ?_
  refine AWP.sv (.cons (.move (l1 rfl) (.t rfl))<| .cons (.lenOwn (l1 rfl) (.t rfl) Tryz.underlying28)<| .cons (.fieldP (l1 rfl) (.t rfl) fld37_0)<| .cons (.loadP (l1 rfl) (.t rfl) one22 rfl rfl rfl)<| .cons (.lenRd (l1 rfl) (.t rfl) Tryz.underlying22)<| .cons (.lss (l1 rfl) (.t rfl) (.t rfl))<| .nil _ _ _) ⟨[(1,.clo (.func 45) [] [.ptr 1 0,.ptr 2 0]),(2,.ptr 3 0),(6,.own 4 1 0 x_9.2.length),(14,bW (decide ((x_9.2.length : Int) < (a0.Pq.length : Int))))],[(1,⟨37,false,[rW β3 a1_0_b0 e50,rW β4 a1_0_b1 e71]⟩),(2,⟨3,false,[iW x_9.1]⟩),(3,⟨37,false,(pW β1 β2 a0)⟩),(4,⟨3,true,x_9.2.flatMap eW⟩)]⟩ rfl rfl ?_
  refine AWP.cond (.t rfl) (fun hc => ?_) (fun hc => ?_)
  ·have h := iteT hc h
   refine AWP.skip ?_
   refine AWP.block ?_
   obtain ⟨y_11,hy_11,h⟩ := bindS h
   refine AWP.sv (.cons (.loadPA (l1 rfl) (.t rfl) agg37 rfl rfl rfl rfl)<| .cons (.move (l1 rfl) (.t rfl))<| .cons (.call0 (bw := true) (l1 rfl) (c54 (β1 := β1) (β2 := β2) (β3 := true) n (R24.mk a0.Pq a0.Bq) x_9.2 hy_11) (.cons (.t rfl) (.ren rfl) (.cons (.t rfl) (.lendRow rfl rfl (encI_len .i64) rfl) (.nil))) rfl)<| .cons (.assign (l1 rfl) (.t rfl))<| .nil _ _ _) ⟨[(1,.clo (.func 45) [] [.ptr 1 0,.ptr 2 0]),(2,.ptr 3 0),(6,.own 4 1 0 x_9.2.length),(7,rW false y_11 eW)],[(1,⟨37,false,[rW β3 a1_0_b0 e50,rW β4 a1_0_b1 e71]⟩),(2,⟨3,false,[iW x_9.1]⟩),(3,⟨37,false,(pW β1 β2 a0)⟩),(4,⟨3,true,x_9.2.flatMap eW⟩)]⟩ rfl rfl ?_
   refine AWP.seq ?_
   refine AWP.sv (.cons (.move (l1 rfl) (.t rfl))<| .cons (.lenRd (l1 rfl) (.t rfl) Tryz.underlying28)<| .cons (.eql (l1 rfl) (.t rfl) (.const _ _ _))<| .nil _ _ _) ⟨[(1,.clo (.func 45) [] [.ptr 1 0,.ptr 2 0]),(2,.ptr 3 0),(6,.own 4 1 0 x_9.2.length),(7,rW false y_11 eW),(20,bW (decide ((y_11.length : Int) = (0 : Int))))],[(1,⟨37,false,[rW β3 a1_0_b0 e50,rW β4 a1_0_b1 e71]⟩),(2,⟨3,false,[iW x_9.1]⟩),(3,⟨37,false,(pW β1 β2 a0)⟩),(4,⟨3,true,x_9.2.flatMap eW⟩)]⟩ rfl rfl ?_
   refine AWP.cond (.t rfl) (fun hc => ?_) (fun hc => ?_)
   ·have h := iteT hc h
    refine AWP.sr (.cons (.assign (l1 rfl) (.const _ _ _))<| .cons (.assign (l1 rfl) (.const _ _ _))<| .nil _ _ _) ?_
    refine AWP.ret ?_
    obtain rfl := Option.some.inj h
    refine retJ (Res.vc (s' := ⟨[(4,rW false ([] : List Int) eW),(5,bW false)],[(1,⟨37,false,[rW β3 a1_0_b0 e50,rW β4 a1_0_b1 e71]⟩),(2,⟨3,false,[iW x_9.1]⟩)]⟩) (VC.trans (VC.nilRd (d := 4) false rfl) (VC.sub (.of rfl) (.of rfl))) ?_)
    refine Res.sub (H := [(1,⟨37,false,[rW β3 a1_0_b0 e50,rW β4 a1_0_b1 e71]⟩),(2,⟨3,false,[iW x_9.1]⟩)]) (.of rfl) ?_
    exact Res.of rfl (.cons (.tmp rfl) (.cons (.tmp rfl) (.nil))) rfl rfl
   ·have h := iteF hc h
    refine AWP.skip ?_
    obtain ⟨y_12,hy_12,h⟩ := bindS h
    obtain ⟨l4_13,hl4_13,h⟩ := bindS h
    refine AWP.rg (.cons (.move (l1 rfl) (.t rfl))<| .cons (.move (l1 rfl) (.t rfl))<| .cons (.move (l1 rfl) (.t rfl))<| .cons (.callV (us' := []) (avs := [rW false y_11 eW]) (cs' := [.ptr 1 0,.ptr 2 0]) (σ := sgT [(1,1),(2,2)]) (bw := false) (l1 rfl) (.t rfl) (c45 (β1 := false) (β2 := β3) (β3 := β4) n y_11 a1_0_b0 a1_0_b1 x_9.1 hy_12) (.nil) (.cons (.t rfl) (.ren rfl) (.nil)) (.cons (.ren rfl) (.cons (.ren rfl) (.nil))) (CallOk.mk' (.c rfl (.c rfl (.n))) rfl) (fun _ h => by cases h))<| .cons (.buildSlice (t := 5) (out := ([y_12.1] : List Int).flatMap eW) (l1 rfl) (nm rfl) (.cons (.t rfl) (by first | exact ⟨rfl,rfl⟩ | rfl) (.nil)) Tryz.underlying28 zero3 el3 (by decide) (by decide) rfl (still_all (encI_still .i64) _))<| .cons (.app (enc := eW) (l1 rfl) (nm rfl) (.t rfl) (Src.own (.t rfl) rfl (lendAll (encI_len .i64) _) (flatMap_length (encI_len .i64) _) (one_all (encI_one .i64) _) (.inl rfl)) Tryz.underlying28 ⟨_,Tryz.underlying28,by intro k hk; cases hk⟩ el3 rfl (encI_len .i64) rfl rfl (by decide) hl4_13)<| .cons (.assign (l1 rfl) (.t rfl))<| .nil _ _ _) ?_
    exact endJ (y_12.2,l4_13) h (VC.sub (.of rfl) (.of rfl))
  ·have h := iteF hc h
   refine AWP.exit ?_
   exact endJ (x_9.1,x_9.2) h (VC.sub (.of rfl) (.of rfl))
theorem c18 {β1 : Bool} {β2 : Bool} (n : Nat) (a0 : R24) {r : (List Int)} (h : m18 n a0 = some r) : Spec Tryz.prog 18 [] [.agg (pW β1 β2 a0)] [] (rW false r eW) [] := by
 refine Spec.of (fn := Tryz.f18) Tryz.func18 Tryz.ntmps18 rfl rfl (le1 rfl) (fun w0 Zs Zb T0 ι0 => ?_)
 unfold m18 at h
 refine AWP.sv (.cons (.box (t := 1) (n := 2) (l1 rfl) (nm rfl) (.t rfl) (by first | exact ⟨rfl,rfl⟩ | rfl) rfl)<| .cons (.assign (l1 rfl) (.const _ _ _))<| .nil _ _ _) ⟨[(1,.ptr 1 0)],[(1,⟨37,false,(pW β1 β2 a0)⟩)]⟩ rfl rfl ?_
 refine AWP.sv (.cons (.alloc (t := 2) (k := ⟨3,false,[iW (0 : Int)]⟩) (l1 rfl) (nm rfl) zero3 rfl rfl)<| .cons (.storeP (.t rfl) (.const _ _ _) sz3 rfl (l1 rfl) rfl (by intro h; cases h) rfl)<| .nil _ _ _) ⟨[(1,.ptr 1 0),(3,.ptr 2 0)],[(2,⟨3,false,[iW (0 : Int)]⟩),(1,⟨37,false,(pW β1 β2 a0)⟩)]⟩ rfl rfl ?_
 obtain ⟨y_1,hy_1,h⟩ := bindS h
 refine AWP.sv (.cons (.loadPA (l1 rfl) (.t rfl) agg37 rfl rfl rfl rfl)<| .cons (.makeFunc (l1 rfl) (.nil) (.cons (.t rfl) (.cons (.t rfl) (.nil))))<| .cons (.call (σ := sgT [(1,1),(2,2)]) (bw := false) (l1 rfl) (c40x1 (β1 := β1) (β2 := β2) (β3 := β1) (β4 := β2) n (R24.mk a0.Pq a0.Bq) a0.Pq a0.Bq (0 : Int) hy_1) (.cons (.t rfl) (.ren rfl) (.cons (.t rfl) (.ren rfl) (.nil))) (CallOk.mk' (.c rfl (.c rfl (.n))) rfl))<| .cons (.move (l1 rfl) (.t rfl))<| .cons (.extract (l1 rfl) (.t rfl) rfl)<| .cons (.extract (l1 rfl) (.t rfl) rfl)<| .cons (.assign (l1 rfl) (.t rfl))<| .cons (.assign (l1 rfl) (.t rfl))<| .nil _ _ _) ⟨[(4,rW false y_1.1 eW)],[]⟩ rfl rfl ?_
 refine AWP.sr (.cons (.move (l1 rfl) (.t rfl))<| .cons (.assign (l1 rfl) (.t rfl))<| .nil _ _ _) ?_
 refine AWP.ret ?_
 obtain rfl := Option.some.inj h
 refine retJ (Res.vc (s' := ⟨[(2,rW false y_1.1 eW)],[]⟩) (VC.sub (.of rfl) (.n _)) ?_)
 refine Res.drop (H := []) rfl ?_
 exact Res.of rfl (.cons (.tmp rfl) (.nil)) rfl rfl
theorem c93 {β1 : Bool} (n : Nat) (a0 : R71) (a1_b0_b : (List Int)) (a2_b0 : (List Int)) {r : Bool} (h : m93 n a0 a1_b0_b a2_b0 = some r) : Spec Tryz.prog 93 [1,2,3] [.agg [iW a0.f0,iW a0.f1],.ptr 1 0,.ptr 3 0] [(1,⟨28,false,[.own 2 1 0 a1_b0_b.length]⟩),(2,⟨3,true,a1_b0_b.flatMap eW⟩),(3,⟨28,false,[rW β1 a2_b0 eW]⟩)] (bW r) [(1,⟨28,false,[.own 2 1 0 a1_b0_b.length]⟩),(2,⟨3,true,a1_b0_b.flatMap eW⟩),(3,⟨28,false,[rW β1 a2_b0 eW]⟩)] := by
 refine Spec.of (fn := Tryz.f93) Tryz.func93 Tryz.ntmps93 rfl rfl (le1 rfl) (fun w0 Zs Zb T0 ι0 => ?_)
 unfold m93 at h
 refine AWP.sv (.cons (.box (t := 4) (n := 2) (l1 rfl) (nm rfl) (.t rfl) (by first | exact ⟨rfl,rfl⟩ | rfl) rfl)<| .cons (.assign (l1 rfl) (.const _ _ _))<| .nil _ _ _) ⟨[(1,.ptr 1 0),(2,.ptr 3 0),(3,.ptr 4 0)],[(4,⟨71,false,[iW a0.f0,iW a0.f1]⟩),(1,⟨28,false,[.own 2 1 0 a1_b0_b.length]⟩),(2,⟨3,true,a1_b0_b.flatMap eW⟩),(3,⟨28,false,[rW β1 a2_b0 eW]⟩)]⟩ rfl rfl ?_
 refine AWP.seq ?_
 obtain ⟨y_1,hy_1,h⟩ := bindS h
 obtain ⟨y_2,hy_2,h⟩ := bindS h
 obtain ⟨y_3,hy_3,h⟩ := bindS h
 refine AWP.dw mixed [(1,.ptr 1 0),(2,.ptr 3 0),(3,.ptr 4 0)] [] [dO [0] 5 (.own 2 1 0 a1_b0_b.length),dO [2] 6 (.ptr 4 (0 + 1)),dO [4] 7 (iW a0.f1),dO [3,5] 8 (.ptr 2 (0 + (a0.f1).toNat * 1)),dO [6] 9 (iW y_1),dO [1] 10 (rW β1 a2_b0 eW),dO [8] 11 (iW (a2_b0.length : Int)),dO [7,9] 12 (bW (decide (y_1 < (a2_b0.length : Int)))),dO [10] 13 (bW (decide (y_1 < (a2_b0.length : Int)))),dO [11,0] 14 (.gd (decide (y_1 < (a2_b0.length : Int))) (.own 2 1 0 a1_b0_b.length)),dO [11,2] 15 (.gd (decide (y_1 < (a2_b0.length : Int))) (.ptr 4 (0 + 0))),dO [11,13] 16 (.gd (decide (y_1 < (a2_b0.length : Int))) (iW a0.f0)),dO [11,12,14] 17 (.gd (decide (y_1 < (a2_b0.length : Int))) (.ptr 2 (0 + (a0.f0).toNat * 1))),dO [11,15] 18 (.gd (decide (y_1 < (a2_b0.length : Int))) (iW y_2)),dO [11,0] 19 (.gd (decide (y_1 < (a2_b0.length : Int))) (.own 2 1 0 a1_b0_b.length)),dO [11,2] 20 (.gd (decide (y_1 < (a2_b0.length : Int))) (.ptr 4 (0 + 1))),dO [11,18] 21 (.gd (decide (y_1 < (a2_b0.length : Int))) (iW a0.f1)),dO [11,17,19] 22 (.gd (decide (y_1 < (a2_b0.length : Int))) (.ptr 2 (0 + (a0.f1).toNat * 1))),dO [11,20] 23 (.gd (decide (y_1 < (a2_b0.length : Int))) (iW y_3)),dO [11,16,21] 24 (.gd (decide (y_1 < (a2_b0.length : Int))) (bW (decide (y_3 ≤ y_2)))),dO [11,22] 25 (bW ((decide (y_1 < (a2_b0.length : Int))) && (decide (y_3 ≤ y_2)))),dO [23] 4 (bW ((decide (y_1 < (a2_b0.length : Int))) && (decide (y_3 ≤ y_2))))] [] [[(4,⟨71,false,[iW a0.f0,iW a0.f1]⟩),(1,⟨28,false,[.own 2 1 0 a1_b0_b.length]⟩),(2,⟨3,true,a1_b0_b.flatMap eW⟩),(3,⟨28,false,[rW β1 a2_b0 eW]⟩)]] [[],[],[1,2],[0,3],[0,4],[],[5,6],[0,7],[0,8],[0,9],[0,9],[0,9,10,11],[0,12],[0,13],[0,9],[0,9],[0,9,15,16],[0,9,14,17],[0,9,14,18],[0,19],[0,20],[0,21]] [24] rfl rfl (by kernel_rfl) rfl (.r rfl rfl (fun _ q => .loadP (l1 rfl) (q.t 0 rfl) one28 rfl rfl rfl)<| .r rfl rfl (fun _ q => .idxP (l1 rfl) (q.t 0 rfl) (.const _ _ _) Tryz.underlying71 sz3 (by decide) rfl)<| .r rfl rfl (fun _ q => .loadP (l1 rfl) (q.t 0 rfl) one3 rfl rfl rfl)<| .r rfl rfl (fun _ q => .idxOwn (l1 rfl) (q.t 0 rfl) (q.t 1 rfl) Tryz.underlying28 sz3 rfl hy_1)<| .r rfl rfl (fun _ q => .loadP (l1 rfl) (q.t 0 rfl) one3 rfl (cell_at1 (encI_len .i64) hy_1) rfl)<| .r rfl rfl (fun _ q => .loadP (l1 rfl) (q.t 0 rfl) one28 rfl rfl rfl)<| .p rfl (fun _ q _ => .lenRd (l1 rfl) (q.t 0 rfl) Tryz.underlying28)<| .p rfl (fun _ q _ => .lss (l1 rfl) (q.t 0 rfl) (q.t 1 rfl))<| .p rfl (fun _ q _ => .move (l1 rfl) (q.t 0 rfl))<| .rt rfl rfl rfl rfl rfl rfl (fun hg _ q => .loadP (l1 rfl) (q.t 1 rfl) one28 rfl rfl rfl)<| .rt rfl rfl rfl rfl rfl rfl (fun hg _ q => .idxP (l1 rfl) (q.t 1 rfl) (.const _ _ _) Tryz.underlying71 sz3 (by decide) rfl)<| .rt rfl rfl rfl rfl rfl rfl (fun hg _ q => .loadP (l1 rfl) (.gd hg (q.t 1 rfl)) one3 rfl rfl rfl)<| .rt rfl rfl rfl rfl rfl rfl (fun hg _ q => .idxOwn (l1 rfl) (.gd hg (q.t 1 rfl)) (.gd hg (q.t 2 rfl)) Tryz.underlying28 sz3 rfl (gdB hy_2 hg))<| .rt rfl rfl rfl rfl rfl rfl (fun hg _ q => .loadP (l1 rfl) (.gd hg (q.t 1 rfl)) one3 rfl (cell_at1 (encI_len .i64) (gdB hy_2 hg)) rfl)<| .rt rfl rfl rfl rfl rfl rfl (fun hg _ q => .loadP (l1 rfl) (q.t 1 rfl) one28 rfl rfl rfl)<| .rt rfl rfl rfl rfl rfl rfl (fun hg _ q => .idxP (l1 rfl) (q.t 1 rfl) (.const _ _ _) Tryz.underlying71 sz3 (by decide) rfl)<| .rt rfl rfl rfl rfl rfl rfl (fun hg _ q => .loadP (l1 rfl) (.gd hg (q.t 1 rfl)) one3 rfl rfl rfl)<| .rt rfl rfl rfl rfl rfl rfl (fun hg _ q => .idxOwn (l1 rfl) (.gd hg (q.t 1 rfl)) (.gd hg (q.t 2 rfl)) Tryz.underlying28 sz3 rfl (gdB hy_3 hg))<| .rt rfl rfl rfl rfl rfl rfl (fun hg _ q => .loadP (l1 rfl) (.gd hg (q.t 1 rfl)) one3 rfl (cell_at1 (encI_len .i64) (gdB hy_3 hg)) rfl)<| .gt rfl rfl rfl rfl rfl (fun hg _ q _ => .geq (l1 rfl) (.gd hg (q.t 1 rfl)) (.gd hg (q.t 2 rfl)))<| .p rfl (fun _ q _ => .pickAnd (l1 rfl) (q.t 0 rfl) (q.t 1 rfl) (.const _ _ _))<| .p rfl (fun _ q _ => .assign (l1 rfl) (q.t 0 rfl))<| .nil _) rfl rfl ?_
 refine AWP.ret ?_
 obtain rfl := Option.some.inj h
 refine retJ (Res.vc (s' := ⟨[(4,bW ((decide (y_1 < (a2_b0.length : Int))) && (decide (y_3 ≤ y_2))))],[(1,⟨28,false,[.own 2 1 0 a1_b0_b.length]⟩),(2,⟨3,true,a1_b0_b.flatMap eW⟩),(3,⟨28,false,[rW β1 a2_b0 eW]⟩)]⟩) (VC.sub (.of rfl) (.of rfl)) ?_)
 refine Res.sub (H := [(1,⟨28,false,[.own 2 1 0 a1_b0_b.length]⟩),(2,⟨3,true,a1_b0_b.flatMap eW⟩),(3,⟨28,false,[rW β1 a2_b0 eW]⟩)]) (.of rfl) ?_
 exact Res.of rfl (.cons (.tmp rfl) (.nil)) rfl rfl
theorem c74x1 {β1 : Bool} {β2 : Bool} (n : Nat) (a0 : (List R71)) (a1_0_b0_b : (List Int)) (a1_1_b0 : (List Int)) {r : Int} (h : m74x1 n a0 a1_0_b0_b a1_1_b0 = some r) : Spec Tryz.prog 74 [1,2,3] [rW β1 a0 e71,.clo (.func 93) [] [.ptr 1 0,.ptr 3 0]] [(1,⟨28,false,[.own 2 1 0 a1_0_b0_b.length]⟩),(2,⟨3,true,a1_0_b0_b.flatMap eW⟩),(3,⟨28,false,[rW β2 a1_1_b0 eW]⟩)] (iW r) [(1,⟨28,false,[.own 2 1 0 a1_0_b0_b.length]⟩),(2,⟨3,true,a1_0_b0_b.flatMap eW⟩),(3,⟨28,false,[rW β2 a1_1_b0 eW]⟩)] := by
 refine Spec.of (fn := Tryz.f74) Tryz.func74 Tryz.ntmps74 rfl rfl (le1 rfl) (fun w0 Zs Zb T0 ι0 => ?_)
 unfold m74x1 at h
 refine AWP.sv (.cons (.assign (l1 rfl) (.const _ _ _))<| .nil _ _ _) ⟨[(0,rW β1 a0 e71),(1,.clo (.func 93) [] [.ptr 1 0,.ptr 3 0])],[(1,⟨28,false,[.own 2 1 0 a1_0_b0_b.length]⟩),(2,⟨3,true,a1_0_b0_b.flatMap eW⟩),(3,⟨28,false,[rW β2 a1_1_b0 eW]⟩)]⟩ rfl rfl ?_
 refine AWP.seq ?_
 refine AWP.sv (.cons (.move (l1 rfl) (.t rfl))<| .cons (.lenRd (l1 rfl) (.t rfl) Tryz.underlying23)<| .cons (.move (l1 rfl) (.const _ _ _))<| .nil _ _ _) ⟨[(0,rW β1 a0 e71),(1,.clo (.func 93) [] [.ptr 1 0,.ptr 3 0]),(7,iW (a0.length : Int)),(8,iW (0 : Int))],[(1,⟨28,false,[.own 2 1 0 a1_0_b0_b.length]⟩),(2,⟨3,true,a1_0_b0_b.flatMap eW⟩),(3,⟨28,false,[rW β2 a1_1_b0 eW]⟩)]⟩ rfl rfl ?_
 refine AWP.joinB' (S := fun p_10 : Unit => ⟨[],[(1,⟨28,false,[.own 2 1 0 a1_0_b0_b.length]⟩),(2,⟨3,true,a1_0_b0_b.flatMap eW⟩),(3,⟨28,false,[rW β2 a1_1_b0 eW]⟩)]⟩) h (fun p_10 h => ?_) (fun k_11 h => ?_)
 ·refine AWP.sr (.cons (.assign (l1 rfl) (.const _ _ _))<| .nil _ _ _) ?_
  refine AWP.ret ?_
  obtain rfl := Option.some.inj h
  refine retJ (Res.vc (s' := ⟨[(4,iW (-1 : Int))],[(1,⟨28,false,[.own 2 1 0 a1_0_b0_b.length]⟩),(2,⟨3,true,a1_0_b0_b.flatMap eW⟩),(3,⟨28,false,[rW β2 a1_1_b0 eW]⟩)]⟩) (VC.sub (.of rfl) (.of rfl)) ?_)
  refine Res.sub (H := [(1,⟨28,false,[.own 2 1 0 a1_0_b0_b.length]⟩),(2,⟨3,true,a1_0_b0_b.flatMap eW⟩),(3,⟨28,false,[rW β2 a1_1_b0 eW]⟩)]) (.of rfl) ?_
  exact Res.of rfl (.cons (.tmp rfl) (.nil)) rfl rfl
 ·refine AWP.vs ⟨[(0,rW β1 a0 e71),(1,.clo (.func 93) [] [.ptr 1 0,.ptr 3 0]),(7,iW (a0.length : Int)),(8,iW (0 : Int))],[(1,⟨28,false,[.own 2 1 0 a1_0_b0_b.length]⟩),(2,⟨3,true,a1_0_b0_b.flatMap eW⟩),(3,⟨28,false,[rW β2 a1_1_b0 eW]⟩)]⟩ rfl rfl ?_
  refine AWP.loopM (S := fun x_5 : Int => ⟨[(0,rW β1 a0 e71),(1,.clo (.func 93) [] [.ptr 1 0,.ptr 3 0]),(7,iW (a0.length : Int)),(8,iW x_5)],[(1,⟨28,false,[.own 2 1 0 a1_0_b0_b.length]⟩),(2,⟨3,true,a1_0_b0_b.flatMap eW⟩),(3,⟨28,false,[rW β2 a1_1_b0 eW]⟩)]⟩) (x := (0 : Int)) (fun nx_6 x_5 h => ?_) h
  unfold m74x1_L1 at h
  refine AWP.sv (.cons (.lss (l1 rfl) (.t rfl) (.t rfl))<| .nil _ _ _) ⟨[(0,rW β1 a0 e71),(1,.clo (.func 93) [] [.ptr 1 0,.ptr 3 0]),(7,iW (a0.length : Int)),(8,iW x_5),(9,bW (decide (x_5 < (a0.length : Int))))],[(1,⟨28,false,[.own 2 1 0 a1_0_b0_b.length]⟩),(2,⟨3,true,a1_0_b0_b.flatMap eW⟩),(3,⟨28,false,[rW β2 a1_1_b0 eW]⟩)]⟩ rfl rfl ?_
  refine AWP.seq ?_
  refine AWP.cond (.t rfl) (fun hc => ?_) (fun hc => ?_)
  ·have h := iteT hc h
   refine AWP.skip ?_
   refine AWP.seq ?_
   refine AWP.block ?_
   refine AWP.sv (.cons (.move (l1 rfl) (.t rfl))<| .cons (.assign (l1 rfl) (.t rfl))<| .nil _ _ _) ⟨[(0,rW β1 a0 e71),(1,.clo (.func 93) [] [.ptr 1 0,.ptr 3 0]),(7,iW (a0.length : Int)),(8,iW x_5),(5,iW x_5)],[(1,⟨28,false,[.own 2 1 0 a1_0_b0_b.length]⟩),(2,⟨3,true,a1_0_b0_b.flatMap eW⟩),(3,⟨28,false,[rW β2 a1_1_b0 eW]⟩)]⟩ rfl rfl ?_
   obtain ⟨y_7,hy_7,h⟩ := bindS h
   obtain ⟨y_8,hy_8,h⟩ := bindS h
   refine AWP.sv (.cons (.move (l1 rfl) (.t rfl))<| .cons (.move (l1 rfl) (.t rfl))<| .cons (.move (l1 rfl) (.t rfl))<| .cons (.indexRd (enc := e71) (l1 rfl) (.t rfl) (.t rfl) Tryz.underlying23 sz71 encR71_len rfl hy_7)<| .cons (.loadRA (out := [iW y_7.f0,iW y_7.f1]) (l1 rfl) (.t rfl) agg71 (Nat.le_of_eq (Eq.symm (encR71_len _))) rfl)<| .cons (.keep (bw := false) (AStep.callV (us' := []) (avs := [.agg [iW ((R71.mk y_7.f0 y_7.f1).f0),iW ((R71.mk y_7.f0 y_7.f1).f1)]]) (cs' := [.ptr 1 0,.ptr 3 0]) (σ := sgT [(1,1),(2,2),(3,3)]) (bw := false) (l1 rfl) (.t rfl) (c93 (β1 := β2) n (R71.mk y_7.f0 y_7.f1) a1_0_b0_b a1_1_b0 hy_8) (.nil) (.cons (.t rfl) (.ren rfl) (.nil)) (.cons (.ren rfl) (.cons (.ren rfl) (.nil))) (CallOk.mk' (.c rfl (.c rfl (.c rfl (.n)))) rfl) (fun _ h => by cases h)) (CallOk.mk' (.c rfl (.c rfl (.c rfl (.n)))) rfl) rfl rfl)<| .nil _ _ _) ⟨[(0,rW β1 a0 e71),(1,.clo (.func 93) [] [.ptr 1 0,.ptr 3 0]),(7,iW (a0.length : Int)),(8,iW x_5),(5,iW x_5),(16,bW y_8)],[(1,⟨28,false,[.own 2 1 0 a1_0_b0_b.length]⟩),(2,⟨3,true,a1_0_b0_b.flatMap eW⟩),(3,⟨28,false,[rW β2 a1_1_b0 eW]⟩)]⟩ rfl rfl ?_
   refine AWP.cond (.t rfl) (fun hc => ?_) (fun hc => ?_)
   ·have h := iteT hc h
    refine AWP.sr (.cons (.move (l1 rfl) (.t rfl))<| .cons (.assign (l1 rfl) (.t rfl))<| .nil _ _ _) ?_
    refine AWP.ret ?_
    obtain rfl := Option.some.inj h
    refine retJ (Res.vc (s' := ⟨[(4,iW x_5)],[(1,⟨28,false,[.own 2 1 0 a1_0_b0_b.length]⟩),(2,⟨3,true,a1_0_b0_b.flatMap eW⟩),(3,⟨28,false,[rW β2 a1_1_b0 eW]⟩)]⟩) (VC.sub (.of rfl) (.of rfl)) ?_)
    refine Res.sub (H := [(1,⟨28,false,[.own 2 1 0 a1_0_b0_b.length]⟩),(2,⟨3,true,a1_0_b0_b.flatMap eW⟩),(3,⟨28,false,[rW β2 a1_1_b0 eW]⟩)]) (.of rfl) ?_
    exact Res.of rfl (.cons (.tmp rfl) (.nil)) rfl rfl
   ·have h := iteF hc h
    refine AWP.skip ?_
    obtain ⟨t8_9,ht8_9,h⟩ := letS h
    refine AWP.rg (.cons (.add (l1 rfl) (.t rfl) (.const _ _ _))<| .cons (.move (l1 rfl) (.t rfl))<| .nil _ _ _) ?_
    exact endJ t8_9 h (by subst ht8_9; exact VC.sub (.of rfl) (.of rfl))
  ·have h := iteF hc h
   refine AWP.exit ?_
   exact endJ () h (VC.sub (.n _) (.of rfl))
theorem c39x1 {β1 : Bool} {β2 : Bool} (n : Nat) (a0 : (List R71)) (a1_0_b0_b : (List Int)) (a1_1_b0 : (List Int)) {r : Bool} (h : m39x1 n a0 a1_0_b0_b a1_1_b0 = some r) : Spec Tryz.prog 39 [1,2,3] [rW β1 a0 e71,.clo (.func 93) [] [.ptr 1 0,.ptr 3 0]] [(1,⟨28,false,[.own 2 1 0 a1_0_b0_b.length]⟩),(2,⟨3,true,a1_0_b0_b.flatMap eW⟩),(3,⟨28,false,[rW β2 a1_1_b0 eW]⟩)] (bW r) [(1,⟨28,false,[.own 2 1 0 a1_0_b0_b.length]⟩),(2,⟨3,true,a1_0_b0_b.flatMap eW⟩),(3,⟨28,false,[rW β2 a1_1_b0 eW]⟩)] := by
 refine Spec.of (fn := Tryz.f39) Tryz.func39 Tryz.ntmps39 rfl rfl (le1 rfl) (fun w0 Zs Zb T0 ι0 => ?_)
 unfold m39x1 at h
 refine AWP.sv (.cons (.assign (l1 rfl) (.const _ _ _))<| .nil _ _ _) ⟨[(0,rW β1 a0 e71),(1,.clo (.func 93) [] [.ptr 1 0,.ptr 3 0])],[(1,⟨28,false,[.own 2 1 0 a1_0_b0_b.length]⟩),(2,⟨3,true,a1_0_b0_b.flatMap eW⟩),(3,⟨28,false,[rW β2 a1_1_b0 eW]⟩)]⟩ rfl rfl ?_
 obtain ⟨y_1,hy_1,h⟩ := bindS h
 refine AWP.sr (.cons (.move (l1 rfl) (.t rfl))<| .cons (.move (l1 rfl) (.t rfl))<| .cons (.keep (bw := false) (AStep.call (σ := sgT [(1,1),(2,2),(3,3)]) (bw := false) (l1 rfl) (c74x1 (β1 := β1) (β2 := β2) n a0 a1_0_b0_b a1_1_b0 hy_1) (.cons (.t rfl) (.ren rfl) (.cons (.t rfl) (.ren rfl) (.nil))) (CallOk.mk' (.c rfl (.c rfl (.c rfl (.n)))) rfl)) (CallOk.mk' (.c rfl (.c rfl (.c rfl (.n)))) rfl) rfl rfl)<| .cons (.geq (l1 rfl) (.t rfl) (.const _ _ _))<| .cons (.assign (l1 rfl) (.t rfl))<| .nil _ _ _) ?_
 refine AWP.ret ?_
 obtain rfl := Option.some.inj h
 refine retJ (Res.vc (s' := ⟨[(4,bW (decide ((0 : Int) ≤ y_1)))],[(1,⟨28,false,[.own 2 1 0 a1_0_b0_b.length]⟩),(2,⟨3,true,a1_0_b0_b.flatMap eW⟩),(3,⟨28,false,[rW β2 a1_1_b0 eW]⟩)]⟩) (VC.sub (.of rfl) (.of rfl)) ?_)
 refine Res.sub (H := [(1,⟨28,false,[.own 2 1 0 a1_0_b0_b.length]⟩),(2,⟨3,true,a1_0_b0_b.flatMap eW⟩),(3,⟨28,false,[rW β2 a1_1_b0 eW]⟩)]) (.of rfl) ?_
 exact Res.of rfl (.cons (.tmp rfl) (.nil)) rfl rfl
theorem c75 {β1 : Bool} {β2 : Bool} {β3 : Bool} (n : Nat) (a0 : R24) (a1 : (List Int)) {r : Bool} (h : m75 n a0 a1 = some r) : Spec Tryz.prog 75 [] [.agg (pW β1 β2 a0),rW β3 a1 eW] [] (bW r) [] := by
 refine Spec.of (fn := Tryz.f75) Tryz.func75 Tryz.ntmps75 rfl rfl (le1 rfl) (fun w0 Zs Zb T0 ι0 => ?_)
 unfold m75 at h
 refine AWP.sv (.cons (.box (t := 1) (n := 2) (l1 rfl) (nm rfl) (.t rfl) (by first | exact ⟨rfl,rfl⟩ | rfl) rfl)<| .cons (.box (t := 2) (n := 1) (l1 rfl) (nm rfl) (.t rfl) (by first | exact ⟨rfl,rfl⟩ | rfl) rfl)<| .cons (.assign (l1 rfl) (.const _ _ _))<| .nil _ _ _) ⟨[(2,.ptr 1 0),(3,.ptr 2 0)],[(2,⟨28,false,[rW β3 a1 eW]⟩),(1,⟨37,false,(pW β1 β2 a0)⟩)]⟩ rfl rfl ?_
 obtain ⟨y_1,hy_1,h⟩ := bindS h
 refine AWP.sv (.cons (.loadP (l1 rfl) (.t rfl) one28 rfl rfl rfl)<| .cons (.lenRd (l1 rfl) (.t rfl) Tryz.underlying28)<| .cons (.buildSlice (t := 3) (out := ([(a1.length : Int)] : List Int).flatMap eW) (l1 rfl) (nm rfl) (.cons (.t rfl) (by first | exact ⟨rfl,rfl⟩ | rfl) (.nil)) Tryz.underlying28 zero3 el3 (by decide) (by decide) rfl (still_all (encI_still .i64) _))<| .cons (.fieldP (l1 rfl) (.t rfl) fld37_0)<| .cons (.loadP (l1 rfl) (.t rfl) one22 rfl rfl rfl)<| .cons (.lenRd (l1 rfl) (.t rfl) Tryz.underlying22)<| .cons (.call (σ := fun _ => 4) (bw := true) (l1 rfl) (c81o (β1 := true) n ([(a1.length : Int)] : List Int) (a0.Pq.length : Int) hy_1) (.cons (.t rfl) (.lendRow rfl rfl (encI_len .i64) rfl) (.cons (.t rfl) (.ren rfl) (.nil))) (CallOk.mk' (.n) rfl))<| .cons (.alloc (t := 5) (k := ⟨28,false,[.sc (.slice none 0 0)]⟩) (l1 rfl) (nm rfl) zero28 rfl rfl)<| .cons (.storeP (.t rfl) (.t rfl) sz28 rfl (l1 rfl) rfl (by intro h; cases h) rfl)<| .nil _ _ _) ⟨[(2,.ptr 1 0),(3,.ptr 2 0),(5,.ptr 5 0)],[(5,⟨28,false,[.own 4 1 0 y_1.length]⟩),(4,⟨3,true,y_1.flatMap eW⟩),(2,⟨28,false,[rW β3 a1 eW]⟩),(1,⟨37,false,(pW β1 β2 a0)⟩)]⟩ rfl rfl ?_
 refine AWP.seq ?_
 refine AWP.sv (.cons (.loadP (l1 rfl) (.t rfl) one28 rfl rfl rfl)<| .cons (.lenRd (l1 rfl) (.t rfl) Tryz.underlying28)<| .cons (.move (l1 rfl) (.const _ _ _))<| .nil _ _ _) ⟨[(2,.ptr 1 0),(3,.ptr 2 0),(5,.ptr 5 0),(16,rW β3 a1 eW),(17,iW (a1.length : Int)),(18,iW (0 : Int))],[(5,⟨28,false,[.own 4 1 0 y_1.length]⟩),(4,⟨3,true,y_1.flatMap eW⟩),(2,⟨28,false,[rW β3 a1 eW]⟩),(1,⟨37,false,(pW β1 β2 a0)⟩)]⟩ rfl rfl ?_
 refine AWP.joinB' (S := fun p_21 : (List Int) => ⟨[(2,.ptr 1 0),(3,.ptr 2 0),(5,.ptr 5 0)],[(1,⟨37,false,(pW β1 β2 a0)⟩),(2,⟨28,false,[rW β3 a1 eW]⟩),(5,⟨28,false,[.own 4 1 0 p_21.length]⟩),(4,⟨3,true,p_21.flatMap eW⟩)]⟩) h (fun p_21 h => ?_) (fun k_22 h => ?_)
 ·refine AWP.sv (.cons (.makeFunc (l1 rfl) (.nil) (.cons (.t rfl) (.cons (.t rfl) (.nil))))<| .cons (.assign (l1 rfl) (.t rfl))<| .nil _ _ _) ⟨[(2,.ptr 1 0),(3,.ptr 2 0),(8,.clo (.func 93) [] [.ptr 5 0,.ptr 2 0])],[(1,⟨37,false,(pW β1 β2 a0)⟩),(2,⟨28,false,[rW β3 a1 eW]⟩),(5,⟨28,false,[.own 4 1 0 p_21.length]⟩),(4,⟨3,true,p_21.flatMap eW⟩)]⟩ rfl rfl ?_
  obtain ⟨y_23,hy_23,h⟩ := bindS h
  obtain ⟨y_24,hy_24,h⟩ := bindS h
  refine AWP.sr (.cons (.loadP (l1 rfl) (.t rfl) one28 rfl rfl rfl)<| .cons (.lenRd (l1 rfl) (.t rfl) Tryz.underlying28)<| .cons (.gtr (l1 rfl) (.t rfl) (.const _ _ _))<| .cons (.move (l1 rfl) (.t rfl))<| .guard (j := 3) (dj := 49) rfl (l1 rfl) rfl (l1 rfl) (fun hg => .loadP (l1 rfl) (.t rfl) one28 rfl rfl rfl)<| .guard (j := 3) (dj := 49) rfl (l1 rfl) rfl (l1 rfl) (fun hg => .indexRd (enc := eW) (l1 rfl) (.gd hg (.t rfl)) (.const _ _ _) Tryz.underlying28 sz3 (encI_len .i64) rfl (gdB hy_23 hg))<| .guard (j := 3) (dj := 49) rfl (l1 rfl) rfl (l1 rfl) (fun hg => .loadR (v := iW y_23) (l1 rfl) (.gd hg (.t rfl)) one3 rfl)<| .guard (j := 3) (dj := 49) rfl (l1 rfl) rfl (l1 rfl) (fun hg => .eql (l1 rfl) (.gd hg (.t rfl)) (.const _ _ _))<| .cons (.pickAnd (l1 rfl) (.t rfl) (.t rfl) (.const _ _ _))<| .cons (.move (l1 rfl) (.t rfl))<| .guard (j := 9) (dj := 55) rfl (l1 rfl) rfl (l1 rfl) (fun hg => .fieldP (l1 rfl) (.t rfl) fld37_1)<| .guard (j := 9) (dj := 55) rfl (l1 rfl) rfl (l1 rfl) (fun hg => .loadP (l1 rfl) (.gd hg (.t rfl)) one23 rfl rfl rfl)<| .guard (j := 9) (dj := 55) rfl (l1 rfl) rfl (l1 rfl) (fun hg => .move (l1 rfl) (.t rfl))<| .guard (j := 9) (dj := 55) rfl (l1 rfl) rfl (l1 rfl) (fun hg => .keep (bw := false) (AStep.call (σ := sgT [(1,5),(2,4),(3,2)]) (bw := false) (l1 rfl) (c39x1 (β1 := β2) (β2 := β3) n a0.Bq p_21 a1 (gdB hy_24 hg)) (.cons (.gd hg (.t rfl)) (.ren rfl) (.cons (.gd hg (.t rfl)) (.ren rfl) (.nil))) (CallOk.mk' (.c rfl (.c rfl (.c rfl (.n)))) rfl)) (CallOk.mk' (.c rfl (.c rfl (.c rfl (.n)))) rfl) rfl rfl)<| .guard (j := 9) (dj := 55) rfl (l1 rfl) rfl (l1 rfl) (fun hg => .not (l1 rfl) (.gd hg (.t rfl)))<| .cons (.pickAnd (l1 rfl) (.t rfl) (.t rfl) (.const _ _ _))<| .cons (.assign (l1 rfl) (.t rfl))<| .nil _ _ _) ?_
  refine AWP.ret ?_
  obtain rfl := Option.some.inj h
  refine retJ (Res.vc (s' := ⟨[(4,bW (((decide ((0 : Int) < (a1.length : Int))) && (decide (y_23 = (0 : Int)))) && (!y_24)))],[]⟩) (VC.sub (.of rfl) (.n _)) ?_)
  refine Res.drop (H := []) rfl ?_
  exact Res.of rfl (.cons (.tmp rfl) (.nil)) rfl rfl
 ·refine AWP.vs ⟨[(2,.ptr 1 0),(3,.ptr 2 0),(5,.ptr 5 0),(16,rW β3 a1 eW),(17,iW (a1.length : Int)),(18,iW (0 : Int))],[(1,⟨37,false,(pW β1 β2 a0)⟩),(2,⟨28,false,[rW β3 a1 eW]⟩),(5,⟨28,false,[.own 4 1 0 y_1.length]⟩),(4,⟨3,true,y_1.flatMap eW⟩)]⟩ rfl rfl ?_
  refine AWP.loopM (S := fun x_14 : Int × (List Int) => ⟨[(2,.ptr 1 0),(3,.ptr 2 0),(5,.ptr 5 0),(16,rW β3 a1 eW),(17,iW (a1.length : Int)),(18,iW x_14.1)],[(1,⟨37,false,(pW β1 β2 a0)⟩),(2,⟨28,false,[rW β3 a1 eW]⟩),(5,⟨28,false,[.own 4 1 0 x_14.2.length]⟩),(4,⟨3,true,x_14.2.flatMap eW⟩)]⟩) (x := ((0 : Int),y_1)) (fun nx_15 x_14 h => ?_) h
  unfold m75_L1 at h
  refine AWP.sv (.cons (.lss (l1 rfl) (.t rfl) (.t rfl))<| .nil _ _ _) ⟨[(2,.ptr 1 0),(3,.ptr 2 0),(5,.ptr 5 0),(16,rW β3 a1 eW),(17,iW (a1.length : Int)),(18,iW x_14.1),(19,bW (decide (x_14.1 < (a1.length : Int))))],[(1,⟨37,false,(pW β1 β2 a0)⟩),(2,⟨28,false,[rW β3 a1 eW]⟩),(5,⟨28,false,[.own 4 1 0 x_14.2.length]⟩),(4,⟨3,true,x_14.2.flatMap eW⟩)]⟩ rfl rfl ?_
  refine AWP.seq ?_
  refine AWP.cond (.t rfl) (fun hc => ?_) (fun hc => ?_)
  ·have h := iteT hc h
   refine AWP.skip ?_
   refine AWP.seq ?_
   refine AWP.block ?_
   obtain ⟨y_16,hy_16,h⟩ := bindS h
   refine AWP.sv (.cons (.move (l1 rfl) (.t rfl))<| .cons (.indexRd (enc := eW) (l1 rfl) (.t rfl) (.t rfl) Tryz.underlying28 sz3 (encI_len .i64) rfl hy_16)<| .cons (.loadR (v := iW y_16) (l1 rfl) (.t rfl) one3 rfl)<| .cons (.assign (l1 rfl) (.t rfl))<| .cons (.assign (l1 rfl) (.t rfl))<| .nil _ _ _) ⟨[(2,.ptr 1 0),(3,.ptr 2 0),(5,.ptr 5 0),(16,rW β3 a1 eW),(17,iW (a1.length : Int)),(18,iW x_14.1),(6,iW x_14.1),(7,iW y_16)],[(1,⟨37,false,(pW β1 β2 a0)⟩),(2,⟨28,false,[rW β3 a1 eW]⟩),(5,⟨28,false,[.own 4 1 0 x_14.2.length]⟩),(4,⟨3,true,x_14.2.flatMap eW⟩)]⟩ rfl rfl ?_
   refine AWP.seq ?_
   refine AWP.seq ?_
   obtain ⟨y_17,hy_17,h⟩ := bindS h
   refine AWP.dw mixed [(2,.ptr 1 0),(3,.ptr 2 0),(5,.ptr 5 0),(6,iW x_14.1),(7,iW y_16),(16,rW β3 a1 eW),(17,iW (a1.length : Int)),(18,iW x_14.1)] [] [dO [4] 23 (iW y_16),dO [8] 24 (bW (decide (y_16 < (0 : Int)))),dO [9] 25 (bW (decide (y_16 < (0 : Int)))),dO [10,4] 26 (.gd (!(decide (y_16 < (0 : Int)))) (iW y_16)),dO [10,2] 27 (.gd (!(decide (y_16 < (0 : Int)))) (.own 4 1 0 x_14.2.length)),dO [10,12] 28 (.gd (!(decide (y_16 < (0 : Int)))) (iW (x_14.2.length : Int))),dO [10,11,13] 29 (.gd (!(decide (y_16 < (0 : Int)))) (bW (decide ((x_14.2.length : Int) ≤ y_16)))),dO [10,14] 30 (bW ((decide (y_16 < (0 : Int))) || (decide ((x_14.2.length : Int) ≤ y_16)))),dO [15] 31 (bW ((decide (y_16 < (0 : Int))) || (decide ((x_14.2.length : Int) ≤ y_16)))),dO [16,2] 32 (.gd (!((decide (y_16 < (0 : Int))) || (decide ((x_14.2.length : Int) ≤ y_16)))) (.own 4 1 0 x_14.2.length)),dO [16,4] 33 (.gd (!((decide (y_16 < (0 : Int))) || (decide ((x_14.2.length : Int) ≤ y_16)))) (iW y_16)),dO [16,17,18] 34 (.gd (!((decide (y_16 < (0 : Int))) || (decide ((x_14.2.length : Int) ≤ y_16)))) (.ptr 4 (0 + (y_16).toNat * 1))),dO [16,19] 35 (.gd (!((decide (y_16 < (0 : Int))) || (decide ((x_14.2.length : Int) ≤ y_16)))) (iW y_17)),dO [16,1] 36 (.gd (!((decide (y_16 < (0 : Int))) || (decide ((x_14.2.length : Int) ≤ y_16)))) (rW β3 a1 eW)),dO [16,21] 37 (.gd (!((decide (y_16 < (0 : Int))) || (decide ((x_14.2.length : Int) ≤ y_16)))) (iW (a1.length : Int))),dO [16,20,22] 38 (.gd (!((decide (y_16 < (0 : Int))) || (decide ((x_14.2.length : Int) ≤ y_16)))) (bW (decide (y_17 < (a1.length : Int))))),dO [16,23] 39 (bW (((decide (y_16 < (0 : Int))) || (decide ((x_14.2.length : Int) ≤ y_16))) || (decide (y_17 < (a1.length : Int)))))] [] [[(1,⟨37,false,(pW β1 β2 a0)⟩),(2,⟨28,false,[rW β3 a1 eW]⟩),(5,⟨28,false,[.own 4 1 0 x_14.2.length]⟩),(4,⟨3,true,x_14.2.flatMap eW⟩)]] [[],[0,1],[0,2],[0,3],[0,3],[0,3,4,5],[0,6],[0,7],[0,8],[0,9],[0,9],[0,11],[0,12],[0,9],[0,9,13,14],[0,15],[0,16]] [0,1,2,3,4,5,6,7,24] rfl rfl (by kernel_rfl) rfl (.p rfl (fun _ q _ => .move (l1 rfl) (q.t 0 rfl))<| .p rfl (fun _ q _ => .lss (l1 rfl) (q.t 0 rfl) (.const _ _ _))<| .p rfl (fun _ q _ => .move (l1 rfl) (q.t 0 rfl))<| .gf rfl rfl rfl rfl rfl (fun hg _ q _ => .move (l1 rfl) (q.t 1 rfl))<| .rf rfl rfl rfl rfl rfl rfl (fun hg _ q => .loadP (l1 rfl) (q.t 1 rfl) one28 rfl rfl rfl)<| .rf rfl rfl rfl rfl rfl rfl (fun hg _ q => .lenOwn (l1 rfl) (.gd hg (q.t 1 rfl)) Tryz.underlying28)<| .gf rfl rfl rfl rfl rfl (fun hg _ q _ => .geq (l1 rfl) (.gd hg (q.t 1 rfl)) (.gd hg (q.t 2 rfl)))<| .p rfl (fun _ q _ => .pickOr (l1 rfl) (q.t 0 rfl) (.const _ _ _) (q.t 1 rfl))<| .p rfl (fun _ q _ => .move (l1 rfl) (q.t 0 rfl))<| .rf rfl rfl rfl rfl rfl rfl (fun hg _ q => .loadP (l1 rfl) (q.t 1 rfl) one28 rfl rfl rfl)<| .gf rfl rfl rfl rfl rfl (fun hg _ q _ => .move (l1 rfl) (q.t 1 rfl))<| .rf rfl rfl rfl rfl rfl rfl (fun hg _ q => .idxOwn (l1 rfl) (.gd hg (q.t 1 rfl)) (.gd hg (q.t 2 rfl)) Tryz.underlying28 sz3 rfl (gdB hy_17 hg))<| .rf rfl rfl rfl rfl rfl rfl (fun hg _ q => .loadP (l1 rfl) (.gd hg (q.t 1 rfl)) one3 rfl (cell_at1 (encI_len .i64) (gdB hy_17 hg)) rfl)<| .rf rfl rfl rfl rfl rfl rfl (fun hg _ q => .loadP (l1 rfl) (q.t 1 rfl) one28 rfl rfl rfl)<| .gf rfl rfl rfl rfl rfl (fun hg _ q _ => .lenRd (l1 rfl) (.gd hg (q.t 1 rfl)) Tryz.underlying28)<| .gf rfl rfl rfl rfl rfl (fun hg _ q _ => .lss (l1 rfl) (.gd hg (q.t 1 rfl)) (.gd hg (q.t 2 rfl)))<| .p rfl (fun _ q _ => .pickOr (l1 rfl) (q.t 0 rfl) (.const _ _ _) (q.t 1 rfl))<| .nil _) rfl rfl ?_
   refine AWP.vs ⟨[(2,.ptr 1 0),(3,.ptr 2 0),(5,.ptr 5 0),(16,rW β3 a1 eW),(17,iW (a1.length : Int)),(18,iW x_14.1),(6,iW x_14.1),(7,iW y_16),(39,bW (((decide (y_16 < (0 : Int))) || (decide ((x_14.2.length : Int) ≤ y_16))) || (decide (y_17 < (a1.length : Int)))))],[(1,⟨37,false,(pW β1 β2 a0)⟩),(2,⟨28,false,[rW β3 a1 eW]⟩),(5,⟨28,false,[.own 4 1 0 x_14.2.length]⟩),(4,⟨3,true,x_14.2.flatMap eW⟩)]⟩ rfl rfl ?_
   refine AWP.cond (.t rfl) (fun hc => ?_) (fun hc => ?_)
   ·have h := iteT hc h
    refine AWP.sr (.cons (.assign (l1 rfl) (.const _ _ _))<| .nil _ _ _) ?_
    refine AWP.ret ?_
    obtain rfl := Option.some.inj h
    refine retJ (Res.vc (s' := ⟨[(4,bW false)],[]⟩) (VC.sub (.of rfl) (.n _)) ?_)
    refine Res.drop (H := []) rfl ?_
    exact Res.of rfl (.cons (.tmp rfl) (.nil)) rfl rfl
   ·have h := iteF hc h
    refine AWP.skip ?_
    obtain ⟨y_18,hy_18,h⟩ := bindS h
    obtain ⟨l4_19,hl4_19,h⟩ := bindS h
    refine AWP.rg (.cons (.loadP (l1 rfl) (.t rfl) one28 rfl rfl rfl)<| .cons (.move (l1 rfl) (.t rfl))<| .cons (.move (l1 rfl) (.t rfl))<| .cons (.idxOwn (l1 rfl) (.t rfl) (.t rfl) Tryz.underlying28 sz3 rfl hy_18)<| .cons (.storeP (.t rfl) (.t rfl) sz3 rfl (lt_at1 (encI_len .i64) hy_18) rfl (fun _ => rfl) (set_at1 (encI_len .i64) hl4_19 rfl))<| .vc (VC.cellEq (t := 5) (i := 0) (v' := .own 4 1 0 l4_19.length) rfl rfl rfl (congrArg (fun n_ => AV.own 4 1 0 n_) (Eq.symm (setLen hl4_19))))<| .nil _ _ _) ?_
    refine AWP.vs ⟨[(2,.ptr 1 0),(3,.ptr 2 0),(5,.ptr 5 0),(16,rW β3 a1 eW),(17,iW (a1.length : Int)),(18,iW x_14.1)],[(1,⟨37,false,(pW β1 β2 a0)⟩),(2,⟨28,false,[rW β3 a1 eW]⟩),(5,⟨28,false,[.own 4 1 0 l4_19.length]⟩),(4,⟨3,true,l4_19.flatMap eW⟩)]⟩ rfl rfl ?_
    obtain ⟨t18_20,ht18_20,h⟩ := letS h
    refine AWP.rg (.cons (.add (l1 rfl) (.t rfl) (.const _ _ _))<| .cons (.move (l1 rfl) (.t rfl))<| .nil _ _ _) ?_
    exact endJ (t18_20,l4_19) h (by subst ht18_20; exact VC.sub (.of rfl) (.of rfl))
  ·have h := iteF hc h
   refine AWP.exit ?_
   exact endJ x_14.2 h (VC.sub (.of rfl) (.of rfl))
theorem c42 {β1 : Bool} {β2 : Bool} {β3 : Bool} (n : Nat) (a0 : R24) (a1 : (List Int)) {r : Bool} (h : m42 n a0 a1 = some r) : Spec Tryz.prog 42 [] [.agg (pW β1 β2 a0),rW β3 a1 eW] [] (bW r) [] := by
 refine Spec.of (fn := Tryz.f42) Tryz.func42 Tryz.ntmps42 rfl rfl (le1 rfl) (fun w0 Zs Zb T0 ι0 => ?_)
 unfold m42 at h
 refine AWP.sv (.cons (.box (t := 1) (n := 2) (l1 rfl) (nm rfl) (.t rfl) (by first | exact ⟨rfl,rfl⟩ | rfl) rfl)<| .cons (.assign (l1 rfl) (.const _ _ _))<| .nil _ _ _) ⟨[(1,rW β3 a1 eW),(2,.ptr 1 0)],[(1,⟨37,false,(pW β1 β2 a0)⟩)]⟩ rfl rfl ?_
 obtain ⟨y_1,hy_1,h⟩ := bindS h
 refine AWP.sr (.cons (.move (l1 rfl) (.t rfl))<| .cons (.lenRd (l1 rfl) (.t rfl) Tryz.underlying28)<| .cons (.fieldP (l1 rfl) (.t rfl) fld37_0)<| .cons (.loadP (l1 rfl) (.t rfl) one22 rfl rfl rfl)<| .cons (.lenRd (l1 rfl) (.t rfl) Tryz.underlying22)<| .cons (.eql (l1 rfl) (.t rfl) (.t rfl))<| .cons (.move (l1 rfl) (.t rfl))<| .guard (j := 6) (dj := 11) rfl (l1 rfl) rfl (l1 rfl) (fun hg => .loadPA (l1 rfl) (.t rfl) agg37 rfl rfl rfl rfl)<| .guard (j := 6) (dj := 11) rfl (l1 rfl) rfl (l1 rfl) (fun hg => .move (l1 rfl) (.t rfl))<| .guard (j := 6) (dj := 11) rfl (l1 rfl) rfl (l1 rfl) (fun hg => .call0 (bw := false) (l1 rfl) (c75 (β1 := β1) (β2 := β2) (β3 := β3) n (R24.mk a0.Pq a0.Bq) a1 (gdB hy_1 hg)) (.cons (.gd hg (.t rfl)) (.ren rfl) (.cons (.gd hg (.t rfl)) (.ren rfl) (.nil))) rfl)<| .cons (.pickAnd (l1 rfl) (.t rfl) (.t rfl) (.const _ _ _))<| .cons (.assign (l1 rfl) (.t rfl))<| .nil _ _ _) ?_
 refine AWP.ret ?_
 obtain rfl := Option.some.inj h
 refine retJ (Res.vc (s' := ⟨[(4,bW ((decide ((a1.length : Int) = (a0.Pq.length : Int))) && y_1))],[]⟩) (VC.sub (.of rfl) (.n _)) ?_)
 refine Res.drop (H := []) rfl ?_
 exact Res.of rfl (.cons (.tmp rfl) (.nil)) rfl rfl
theorem c49 {β1 : Bool} {β2 : Bool} {β3 : Bool} (n : Nat) (a0 : R24) (a1 : (List Int)) {r : Int} (h : m49 n a0 a1 = some r) : Spec Tryz.prog 49 [] [.agg (pW β1 β2 a0),rW β3 a1 eW] [] (iW r) [] := by
 refine Spec.of (fn := Tryz.f49) Tryz.func49 Tryz.ntmps49 rfl rfl (le1 rfl) (fun w0 Zs Zb T0 ι0 => ?_)
 unfold m49 at h
 refine AWP.sv (.cons (.box (t := 1) (n := 2) (l1 rfl) (nm rfl) (.t rfl) (by first | exact ⟨rfl,rfl⟩ | rfl) rfl)<| .cons (.assign (l1 rfl) (.const _ _ _))<| .nil _ _ _) ⟨[(1,rW β3 a1 eW),(2,.ptr 1 0)],[(1,⟨37,false,(pW β1 β2 a0)⟩)]⟩ rfl rfl ?_
 refine AWP.sv (.cons (.assign (l1 rfl) (.const _ _ _))<| .nil _ _ _) ⟨[(1,rW β3 a1 eW),(2,.ptr 1 0),(5,iW (0 : Int))],[(1,⟨37,false,(pW β1 β2 a0)⟩)]⟩ rfl rfl ?_
 refine AWP.seq ?_
 refine AWP.sv (.cons (.assign (l1 rfl) (.const _ _ _))<| .nil _ _ _) ⟨[(1,rW β3 a1 eW),(2,.ptr 1 0),(5,iW (0 : Int)),(6,iW (1 : Int))],[(1,⟨37,false,(pW β1 β2 a0)⟩)]⟩ rfl rfl ?_
 refine AWP.joinB' (S := fun p_14 : Int => ⟨[(5,iW p_14)],[]⟩) h (fun p_14 h => ?_) (fun k_15 h => ?_)
 ·refine AWP.sr (.cons (.move (l1 rfl) (.t rfl))<| .cons (.assign (l1 rfl) (.t rfl))<| .nil _ _ _) ?_
  refine AWP.ret ?_
  obtain rfl := Option.some.inj h
  refine retJ (Res.vc (s' := ⟨[(4,iW p_14)],[]⟩) (VC.sub (.of rfl) (.n _)) ?_)
  refine Res.drop (H := []) rfl ?_
  exact Res.of rfl (.cons (.tmp rfl) (.nil)) rfl rfl
 ·refine AWP.vs ⟨[(1,rW β3 a1 eW),(2,.ptr 1 0),(5,iW (0 : Int)),(6,iW (1 : Int))],[(1,⟨37,false,(pW β1 β2 a0)⟩)]⟩ rfl rfl ?_
  refine AWP.loopM (S := fun x_7 : Int × Int => ⟨[(1,rW β3 a1 eW),(2,.ptr 1 0),(5,iW x_7.1),(6,iW x_7.2)],[(1,⟨37,false,(pW β1 β2 a0)⟩)]⟩) (x := ((0 : Int),(1 : Int))) (fun nx_8 x_7 h => ?_) h
  unfold m49_L1 at h
  refine AWP.seq ?_
  refine AWP.sv (.cons (.move (l1 rfl) (.t rfl))<| .cons (.move (l1 rfl) (.t rfl))<| .cons (.lenRd (l1 rfl) (.t rfl) Tryz.underlying28)<| .cons (.lss (l1 rfl) (.t rfl) (.t rfl))<| .nil _ _ _) ⟨[(1,rW β3 a1 eW),(2,.ptr 1 0),(5,iW x_7.1),(6,iW x_7.2),(10,bW (decide (x_7.2 < (a1.length : Int))))],[(1,⟨37,false,(pW β1 β2 a0)⟩)]⟩ rfl rfl ?_
  refine AWP.cond (.t rfl) (fun hc => ?_) (fun hc => ?_)
  ·have h := iteT hc h
   refine AWP.skip ?_
   refine AWP.seq ?_
   refine AWP.block ?_
   obtain ⟨y_9,hy_9,h⟩ := bindS h
   obtain ⟨y_10,hy_10,h⟩ := bindS h
   obtain ⟨y_11,hy_11,h⟩ := bindS h
   obtain ⟨t5_12,ht5_12,h⟩ := letS h
   refine AWP.dw mixed [(1,rW β3 a1 eW),(2,.ptr 1 0),(5,iW x_7.1),(6,iW x_7.2),(10,bW (decide (x_7.2 < (a1.length : Int))))] [(2,[13])] [dO [2] 13 (iW x_7.1),dO [1] 14 (.agg (pW β1 β2 a0)),dO [0] 15 (rW β3 a1 eW),dO [3] 16 (iW x_7.2),dO [8] 17 (iW (IntKind.wrap .i64 (x_7.2 - (1 : Int)))),dO [7,9] 18 (.rptr β3 [iW y_9]),dO [10] 19 (iW y_9),dO [0] 20 (rW β3 a1 eW),dO [3] 21 (iW x_7.2),dO [12,13] 22 (.rptr β3 [iW y_10]),dO [14] 23 (iW y_10),dO [6,11,15] 24 (iW y_11),dO [5,16] 25 (iW (IntKind.wrap .i64 (x_7.1 + y_11))),dO [17] 5 (iW (IntKind.wrap .i64 (x_7.1 + y_11)))] [] [[(1,⟨37,false,(pW β1 β2 a0)⟩)]] [[],[],[],[],[3,4],[2,5],[2,6],[],[],[7,9],[7,10],[1,11],[0,12],[0,13]] [0,1,18,3] rfl rfl (by kernel_rfl) rfl (.p rfl (fun _ q _ => .move (l1 rfl) (q.t 0 rfl))<| .r rfl rfl (fun _ q => .loadPA (l1 rfl) (q.t 0 rfl) agg37 rfl rfl rfl rfl)<| .p rfl (fun _ q _ => .move (l1 rfl) (q.t 0 rfl))<| .p rfl (fun _ q _ => .move (l1 rfl) (q.t 0 rfl))<| .p rfl (fun _ q _ => .sub (l1 rfl) (q.t 0 rfl) (.const _ _ _))<| .p rfl (fun _ q _ => .indexRd (enc := eW) (l1 rfl) (q.t 0 rfl) (q.t 1 rfl) Tryz.underlying28 sz3 (encI_len .i64) rfl hy_9)<| .p rfl (fun _ q _ => .loadR (v := iW y_9) (l1 rfl) (q.t 0 rfl) one3 rfl)<| .p rfl (fun _ q _ => .move (l1 rfl) (q.t 0 rfl))<| .p rfl (fun _ q _ => .move (l1 rfl) (q.t 0 rfl))<| .p rfl (fun _ q _ => .indexRd (enc := eW) (l1 rfl) (q.t 0 rfl) (q.t 1 rfl) Tryz.underlying28 sz3 (encI_len .i64) rfl hy_10)<| .p rfl (fun _ q _ => .loadR (v := iW y_10) (l1 rfl) (q.t 0 rfl) one3 rfl)<| .p rfl (fun _ q _ => .call0 (bw := false) (l1 rfl) (c48 (β1 := β1) (β2 := β2) n (R24.mk a0.Pq a0.Bq) y_9 y_10 hy_11) (.cons (q.t 0 rfl) (.ren rfl) (.cons (q.t 1 rfl) (.ren rfl) (.cons (q.t 2 rfl) (.ren rfl) (.nil)))) rfl)<| .p rfl (fun _ q _ => .add (l1 rfl) (q.t 0 rfl) (q.t 1 rfl))<| .p rfl (fun _ q _ => .assign (l1 rfl) (q.t 0 rfl))<| .nil _) rfl rfl ?_
   refine AWP.vc (s' := ⟨[(1,rW β3 a1 eW),(2,.ptr 1 0),(5,iW t5_12),(6,iW x_7.2)],[(1,⟨37,false,(pW β1 β2 a0)⟩)]⟩) (by subst ht5_12; exact VC.sub (.of rfl) (.of rfl)) ?_
   obtain ⟨t6_13,ht6_13,h⟩ := letS h
   refine AWP.rg (.cons (.move (l1 rfl) (.t rfl))<| .cons (.add (l1 rfl) (.t rfl) (.const _ _ _))<| .cons (.assign (l1 rfl) (.t rfl))<| .nil _ _ _) ?_
   exact endJ (t5_12,t6_13) h (by subst ht6_13; exact VC.sub (.of rfl) (.of rfl))
  ·have h := iteF hc h
   refine AWP.exit ?_
   exact endJ x_7.1 h (VC.sub (.of rfl) (.n _))
theorem c19 {β1 : Bool} {β2 : Bool} {β3 : Bool} (n : Nat) (a0 : R24) (a1 : (List Int)) {r : Int} (h : m19 n a0 a1 = some r) : Spec Tryz.prog 19 [] [.agg (pW β1 β2 a0),rW β3 a1 eW] [] (iW r) [] := by
 refine Spec.of (fn := Tryz.f19) Tryz.func19 Tryz.ntmps19 rfl rfl (le1 rfl) (fun w0 Zs Zb T0 ι0 => ?_)
 unfold m19 at h
 refine AWP.sv (.cons (.box (t := 1) (n := 2) (l1 rfl) (nm rfl) (.t rfl) (by first | exact ⟨rfl,rfl⟩ | rfl) rfl)<| .cons (.assign (l1 rfl) (.const _ _ _))<| .nil _ _ _) ⟨[(1,rW β3 a1 eW),(2,.ptr 1 0)],[(1,⟨37,false,(pW β1 β2 a0)⟩)]⟩ rfl rfl ?_
 refine AWP.seq ?_
 obtain ⟨y_1,hy_1,h⟩ := bindS h
 obtain ⟨y_2,hy_2,h⟩ := bindS h
 obtain ⟨y_3,hy_3,h⟩ := bindS h
 obtain ⟨t4_4,ht4_4,h⟩ := letS h
 refine AWP.dw mixed [(1,rW β3 a1 eW),(2,.ptr 1 0)] [] [dO [1] 5 (.agg (pW β1 β2 a0)),dO [0] 6 (rW β3 a1 eW),dO [2,3] 7 (iW y_1),dO [1] 8 (.agg (pW β1 β2 a0)),dO [0] 9 (rW β3 a1 eW),dO [0] 10 (rW β3 a1 eW),dO [7] 11 (iW (a1.length : Int)),dO [8] 12 (iW (IntKind.wrap .i64 ((a1.length : Int) - (1 : Int)))),dO [6,9] 13 (.rptr β3 [iW y_2]),dO [10] 14 (iW y_2),dO [5,11] 15 (iW y_3),dO [4,12] 16 (iW (IntKind.wrap .i64 (y_1 + y_3))),dO [13] 4 (iW (IntKind.wrap .i64 (y_1 + y_3)))] [] [[(1,⟨37,false,(pW β1 β2 a0)⟩)]] [[],[],[0,2],[],[],[],[5,6],[5,7],[4,8],[4,9],[0,10],[0,11],[0,12]] [14] rfl rfl (by kernel_rfl) rfl (.r rfl rfl (fun _ q => .loadPA (l1 rfl) (q.t 0 rfl) agg37 rfl rfl rfl rfl)<| .p rfl (fun _ q _ => .move (l1 rfl) (q.t 0 rfl))<| .p rfl (fun _ q _ => .call0 (bw := false) (l1 rfl) (c49 (β1 := β1) (β2 := β2) (β3 := β3) n (R24.mk a0.Pq a0.Bq) a1 hy_1) (.cons (q.t 0 rfl) (.ren rfl) (.cons (q.t 1 rfl) (.ren rfl) (.nil))) rfl)<| .r rfl rfl (fun _ q => .loadPA (l1 rfl) (q.t 0 rfl) agg37 rfl rfl rfl rfl)<| .p rfl (fun _ q _ => .move (l1 rfl) (q.t 0 rfl))<| .p rfl (fun _ q _ => .move (l1 rfl) (q.t 0 rfl))<| .p rfl (fun _ q _ => .lenRd (l1 rfl) (q.t 0 rfl) Tryz.underlying28)<| .p rfl (fun _ q _ => .sub (l1 rfl) (q.t 0 rfl) (.const _ _ _))<| .p rfl (fun _ q _ => .indexRd (enc := eW) (l1 rfl) (q.t 0 rfl) (q.t 1 rfl) Tryz.underlying28 sz3 (encI_len .i64) rfl hy_2)<| .p rfl (fun _ q _ => .loadR (v := iW y_2) (l1 rfl) (q.t 0 rfl) one3 rfl)<| .p rfl (fun _ q _ => .call0 (bw := false) (l1 rfl) (c48 (β1 := β1) (β2 := β2) n (R24.mk a0.Pq a0.Bq) y_2 (0 : Int) hy_3) (.cons (q.t 0 rfl) (.ren rfl) (.cons (q.t 1 rfl) (.ren rfl) (.cons (.const _ _ _) (.ren rfl) (.nil)))) rfl)<| .p rfl (fun _ q _ => .add (l1 rfl) (q.t 0 rfl) (q.t 1 rfl))<| .p rfl (fun _ q _ => .assign (l1 rfl) (q.t 0 rfl))<| .nil _) rfl rfl ?_
 refine AWP.ret ?_
 obtain rfl := Option.some.inj h
 refine retJ (Res.vc (s' := ⟨[(4,iW t4_4)],[]⟩) (by subst ht4_4; exact VC.sub (.of rfl) (.n _)) ?_)
 refine Res.drop (H := []) rfl ?_
 exact Res.of rfl (.cons (.tmp rfl) (.nil)) rfl rfl
theorem c43o {β1 : Bool} (n : Nat) (a0 : (List Int)) {r : (List Int)} (h : m43o n a0 = some r) : Spec Tryz.prog 43 [] [rW β1 a0 eW] [] (.own 1 1 0 r.length) [(1,⟨3,true,r.flatMap eW⟩)] := by
 refine Spec.of (fn := Tryz.f43) Tryz.func43 Tryz.ntmps43 rfl rfl (le1 rfl) (fun w0 Zs Zb T0 ι0 => ?_)
 unfold m43o at h
 refine AWP.sv (.cons (.assign (l1 rfl) (.const _ _ _))<| .nil _ _ _) ⟨[(0,rW β1 a0 eW)],[]⟩ rfl rfl ?_
 refine AWP.seq ?_
 refine AWP.seq ?_
 refine AWP.regionE (S := fun q_1 => ⟨[(0,rW β1 a0 eW),(4,bW (decide (a0.length = 0 ∧ q_1 = 0)))],[]⟩) (.cons (.move (l1 rfl) (.t rfl))<| .consE (AStepE.eqNil0 (l1 rfl) (.t rfl) Tryz.underlying28)<| fun q_1 => ARunE.nilV q_1 (VC.sub (.of rfl) (.n _))) (fun q_1 => ?_)
 refine AWP.cond (.t rfl) (fun hc => ?_) (fun hc => ?_)
 ·have h := cloneNil hc h
  refine AWP.sr (.cons (.assign (l1 rfl) (.const _ _ _))<| .nil _ _ _) ?_
  refine AWP.ret ?_
  obtain rfl := Option.some.inj h
  refine retJ (Res.vc (s' := ⟨[(2,.own 1 1 0 ([] : List Int).length)],[(1,⟨3,true,([] : List Int).flatMap eW⟩)]⟩) (VC.trans (VC.nilOwn (d := 2) (t := 1) (sz := 1) (E := 3) rfl (nm rfl)) (VC.sub (.of rfl) (.of rfl))) ?_)
  refine Res.sub (H := [(1,⟨3,true,([] : List Int).flatMap eW⟩)]) (.of rfl) ?_
  exact Res.of rfl (.cons (.tmp rfl) (.nil)) rfl rfl
 ·refine AWP.skip ?_
  obtain ⟨l1_2,hl1_2,h⟩ := bindS h
  refine AWP.sr (.cons (.buildSlice (t := 1) (out := ([] : List Int).flatMap eW) (l1 rfl) (nm rfl) (.nil) Tryz.underlying28 zero3 el3 (by decide) (by decide) rfl (still_all (encI_still .i64) _))<| .cons (.move (l1 rfl) (.t rfl))<| .cons (.app (enc := eW) (l1 rfl) (nm rfl) (.t rfl) (Src.rd (.t rfl) (flatMap_length (encI_len .i64) _) (one_all (encI_one .i64) _) (.inr (scal_all (encI_scal .i64) _))) Tryz.underlying28 ⟨_,Tryz.underlying28,by intro k hk; cases hk⟩ el3 rfl (encI_len .i64) rfl rfl (by decide) hl1_2)<| .cons (.assign (l1 rfl) (.t rfl))<| .nil _ _ _) ?_
  refine AWP.ret ?_
  obtain rfl := Option.some.inj h
  refine retJ (Res.vc (s' := ⟨[(2,.own 1 1 0 l1_2.length)],[(1,⟨3,true,l1_2.flatMap eW⟩)]⟩) (VC.sub (.of rfl) (.of rfl)) ?_)
  refine Res.sub (H := [(1,⟨3,true,l1_2.flatMap eW⟩)]) (.of rfl) ?_
  exact Res.of rfl (.cons (.tmp rfl) (.nil)) rfl rfl
theorem c76 (n : Nat) (a0_b : (List Int)) (a0_n : Nat) (a0_o : Nat) {r : (List Int)} (h : m76 n a0_b a0_n a0_o = some r) : Spec Tryz.prog 76 [1] [.own 1 1 a0_o a0_n] [(1,⟨3,true,a0_b.flatMap eW⟩)] (.tup []) [(1,⟨3,true,r.flatMap eW⟩)] := by
 refine Spec.of (fn := Tryz.f76) Tryz.func76 Tryz.ntmps76 rfl rfl (le1 rfl) (fun w0 Zs Zb T0 ι0 => ?_)
 unfold m76 at h
 obtain ⟨t3_1,ht3_1,h⟩ := letS h
 refine AWP.sr (.cons (.move (l1 rfl) (.t rfl))<| .cons (.lenOwn (l1 rfl) (.t rfl) Tryz.underlying28)<| .cons (.sub (l1 rfl) (.t rfl) (.const _ _ _))<| .cons (.assign (l1 rfl) (.const _ _ _))<| .cons (.assign (l1 rfl) (.t rfl))<| .nil _ _ _) ?_
 refine AWP.vc (s' := ⟨[(0,.own 1 1 a0_o a0_n),(2,iW (0 : Int)),(3,iW t3_1)],[(1,⟨3,true,a0_b.flatMap eW⟩)]⟩) (by subst ht3_1; exact VC.sub (.of rfl) (.of rfl)) ?_
 refine AWP.joinB' (S := fun p_30 : (List Int) => ⟨[],[(1,⟨3,true,p_30.flatMap eW⟩)]⟩) h (fun p_30 h => ?_) (fun k_31 h => ?_)
 ·obtain rfl := Option.some.inj h
  refine norJ (Res.vc (s' := ⟨[],[(1,⟨3,true,p_30.flatMap eW⟩)]⟩) (VC.sub (.n _) (.of rfl)) ?_)
  refine Res.sub (H := [(1,⟨3,true,p_30.flatMap eW⟩)]) (.of rfl) ?_
  exact Res.of rfl (.nil) rfl rfl
 ·refine AWP.vs ⟨[(0,.own 1 1 a0_o a0_n),(2,iW (0 : Int)),(3,iW t3_1)],[(1,⟨3,true,a0_b.flatMap eW⟩)]⟩ rfl rfl ?_
  refine AWP.loopM (S := fun x_20 : Int × Int × (List Int) => ⟨[(0,.own 1 1 a0_o a0_n),(2,iW x_20.1),(3,iW x_20.2.1)],[(1,⟨3,true,x_20.2.2.flatMap eW⟩)]⟩) (x := ((0 : Int),t3_1,a0_b)) (fun nx_21 x_20 h => ?_) h
  unfold m76_L1 at h
  refine AWP.seq ?_
  refine AWP.sv (.cons (.move (l1 rfl) (.t rfl))<| .cons (.move (l1 rfl) (.t rfl))<| .cons (.lss (l1 rfl) (.t rfl) (.t rfl))<| .nil _ _ _) ⟨[(0,.own 1 1 a0_o a0_n),(2,iW x_20.1),(3,iW x_20.2.1),(9,bW (decide (x_20.1 < x_20.2.1)))],[(1,⟨3,true,x_20.2.2.flatMap eW⟩)]⟩ rfl rfl ?_
  refine AWP.cond (.t rfl) (fun hc => ?_) (fun hc => ?_)
  ·have h := iteT hc h
   refine AWP.skip ?_
   refine AWP.seq ?_
   refine AWP.block ?_
   obtain ⟨y_22,hy_22,h⟩ := bindS h
   obtain ⟨y_23,hy_23,h⟩ := bindS h
   obtain ⟨y_24,hy_24,h⟩ := bindS h
   obtain ⟨l1_25,hl1_25,h⟩ := bindS h
   obtain ⟨y_26,hy_26,h⟩ := bindS h
   obtain ⟨l1_27,hl1_27,h⟩ := bindS h
   refine AWP.dw mixed [(0,.own 1 1 a0_o a0_n),(2,iW x_20.1),(3,iW x_20.2.1),(9,bW (decide (x_20.1 < x_20.2.1)))] [] [dO [0] 14 (.own 1 1 a0_o a0_n),⟨[1],0,2,some (15,iW x_20.1),[]⟩,⟨[0],0,1,some (16,.own 1 1 a0_o a0_n),[]⟩,⟨[2],0,2,some (17,iW x_20.2.1),[]⟩,dO [0] 18 (.own 1 1 a0_o a0_n),⟨[2],0,2,some (19,iW x_20.2.1),[]⟩,dO [8,9] 20 (.ptr 1 (0 + (((a0_o + (x_20.2.1).toNat : Nat) : Int)).toNat * 1)),dO [10] 21 (iW y_22),dO [0] 22 (.own 1 1 a0_o a0_n),⟨[1],0,2,some (23,iW x_20.1),[]⟩,dO [12,13] 24 (.ptr 1 (0 + (((a0_o + (x_20.1).toNat : Nat) : Int)).toNat * 1)),dO [14] 25 (iW y_23),dO [4,5] 26 (.ptr 1 (0 + (((a0_o + (x_20.1).toNat : Nat) : Int)).toNat * 1)),⟨[16,11],0,0,none,[]⟩,⟨[6,7],1,1,some (27,.ptr 1 (0 + (((a0_o + (x_20.2.1).toNat : Nat) : Int)).toNat * 1)),[]⟩,⟨[17,15],1,1,none,[]⟩] [13,15] [[(1,⟨3,true,x_20.2.2.flatMap eW⟩)],[(1,⟨3,true,l1_25.flatMap eW⟩)],[(1,⟨3,true,l1_27.flatMap eW⟩)]] [[],[],[],[],[],[],[4,6],[4,7],[],[],[8,10],[8,11],[0,2,4,12],[0,2,4,13],[0,14],[0,15]] [0,1,2] rfl rfl (by kernel_rfl) rfl (.read rfl (.c (.put (fun E hE => .move (l1 rfl) (hE.t 0 rfl))) (.n))<| .p rfl (fun _ q _ => .move (l1 rfl) (q.t 0 rfl))<| .read rfl (.c (.put (fun E hE => .move (l1 rfl) (hE.t 0 rfl))) (.c (.put (fun E hE => .move (l1 rfl) (hE.t 0 rfl))) (.n)))<| .p rfl (fun _ q _ => .move (l1 rfl) (q.t 0 rfl))<| .read rfl (.c (.put (fun E hE => .move (l1 rfl) (hE.t 0 rfl))) (.n))<| .p rfl (fun _ q _ => .move (l1 rfl) (q.t 0 rfl))<| .read rfl (.c (.put (fun E hE => .idxPart (l1 rfl) (hE.t 0 rfl) (hE.t 1 rfl) Tryz.underlying28 sz3 hy_22)) (.n))<| .read rfl (.c (.put (fun E hE => .loadP (l1 rfl) (hE.t 0 rfl) one3 rfl (cell_at1 (encI_len .i64) (gipS hy_22)) rfl)) (.n))<| .read rfl (.c (.put (fun E hE => .move (l1 rfl) (hE.t 0 rfl))) (.n))<| .p rfl (fun _ q _ => .move (l1 rfl) (q.t 0 rfl))<| .read rfl (.c (.put (fun E hE => .idxPart (l1 rfl) (hE.t 0 rfl) (hE.t 1 rfl) Tryz.underlying28 sz3 hy_23)) (.n))<| .read rfl (.c (.put (fun E hE => .loadP (l1 rfl) (hE.t 0 rfl) one3 rfl (cell_at1 (encI_len .i64) (gipS hy_23)) rfl)) (.n))<| .read rfl (.c (.put (fun E hE => .idxPart (l1 rfl) (hE.t 0 rfl) (hE.t 1 rfl) Tryz.underlying28 sz3 hy_24)) (.n))<| .turn rfl rfl rfl rfl rfl (.store (fun E hE => .storeP (hE.t 0 rfl) (hE.t 1 rfl) sz3 rfl (lt_at1 (encI_len .i64) (gipS hy_24)) rfl (fun _ => rfl) (set_at1 (encI_len .i64) hl1_25 rfl)) rfl)<| .read rfl (.c (.put (fun E hE => .idxPart (l1 rfl) (hE.t 0 rfl) (hE.t 1 rfl) Tryz.underlying28 sz3 hy_26)) (.n))<| .turn rfl rfl rfl rfl rfl (.store (fun E hE => .storeP (hE.t 0 rfl) (hE.t 1 rfl) sz3 rfl (lt_at1 (encI_len .i64) (gipS hy_26)) rfl (fun _ => rfl) (set_at1 (encI_len .i64) hl1_27 rfl)) rfl)<| .nil _) rfl rfl ?_
   refine AWP.vs ⟨[(0,.own 1 1 a0_o a0_n),(2,iW x_20.1),(3,iW x_20.2.1)],[(1,⟨3,true,l1_27.flatMap eW⟩)]⟩ rfl rfl ?_
   obtain ⟨t2_28,ht2_28,h⟩ := letS h
   obtain ⟨t3_29,ht3_29,h⟩ := letS h
   refine AWP.rg (.cons (.move (l1 rfl) (.t rfl))<| .cons (.add (l1 rfl) (.t rfl) (.const _ _ _))<| .cons (.move (l1 rfl) (.t rfl))<| .cons (.sub (l1 rfl) (.t rfl) (.const _ _ _))<| .cons (.assign (l1 rfl) (.t rfl))<| .cons (.assign (l1 rfl) (.t rfl))<| .nil _ _ _) ?_
   exact endJ (t2_28,t3_29,l1_27) h (by subst ht2_28 ht3_29; exact VC.sub (.of rfl) (.of rfl))
  ·have h := iteF hc h
   refine AWP.exit ?_
   exact endJ x_20.2.2 h (VC.sub (.n _) (.of rfl))
theorem c44 {β1 : Bool} {β2 : Bool} {β3 : Bool} (n : Nat) (a0 : R24) (a1 : (List Int)) {r : ((List Int) × Bool)} (h : m44 n a0 a1 = some r) : Spec Tryz.prog 44 [] [.agg (pW β1 β2 a0),rW β3 a1 eW] [] (.tup [rW β3 r.1 eW,bW r.2]) [] := by
 refine Spec.of (fn := Tryz.f44) Tryz.func44 Tryz.ntmps44 rfl rfl (le1 rfl) (fun w0 Zs Zb T0 ι0 => ?_)
 unfold m44 at h
 refine AWP.sv (.cons (.box (t := 1) (n := 2) (l1 rfl) (nm rfl) (.t rfl) (by first | exact ⟨rfl,rfl⟩ | rfl) rfl)<| .cons (.assign (l1 rfl) (.const _ _ _))<| .cons (.assign (l1 rfl) (.const _ _ _))<| .nil _ _ _) ⟨[(1,rW β3 a1 eW),(2,.ptr 1 0)],[(1,⟨37,false,(pW β1 β2 a0)⟩)]⟩ rfl rfl ?_
 obtain ⟨y_1,hy_1,h⟩ := bindS h
 refine AWP.sv (.cons (.loadPA (l1 rfl) (.t rfl) agg37 rfl rfl rfl rfl)<| .cons (.move (l1 rfl) (.t rfl))<| .cons (.call0 (bw := false) (l1 rfl) (c19 (β1 := β1) (β2 := β2) (β3 := β3) n (R24.mk a0.Pq a0.Bq) a1 hy_1) (.cons (.t rfl) (.ren rfl) (.cons (.t rfl) (.ren rfl) (.nil))) rfl)<| .cons (.assign (l1 rfl) (.t rfl))<| .nil _ _ _) ⟨[(1,rW β3 a1 eW),(2,.ptr 1 0),(6,iW y_1)],[(1,⟨37,false,(pW β1 β2 a0)⟩)]⟩ rfl rfl ?_
 refine AWP.seq ?_
 refine AWP.sv (.cons (.assign (l1 rfl) (.const _ _ _))<| .nil _ _ _) ⟨[(1,rW β3 a1 eW),(2,.ptr 1 0),(6,iW y_1),(7,iW (1 : Int))],[(1,⟨37,false,(pW β1 β2 a0)⟩)]⟩ rfl rfl ?_
 refine AWP.joinB' (S := fun p_63 : Unit => ⟨[(1,rW β3 a1 eW)],[]⟩) h (fun p_63 h => ?_) (fun k_64 h => ?_)
 ·refine AWP.sr (.cons (.move (l1 rfl) (.t rfl))<| .cons (.assign (l1 rfl) (.t rfl))<| .cons (.assign (l1 rfl) (.const _ _ _))<| .nil _ _ _) ?_
  refine AWP.ret ?_
  obtain rfl := Option.some.inj h
  refine retJ (Res.vc (s' := ⟨[(4,rW β3 a1 eW),(5,bW false)],[]⟩) (VC.sub (.of rfl) (.n _)) ?_)
  refine Res.drop (H := []) rfl ?_
  exact Res.of rfl (.cons (.tmp rfl) (.cons (.tmp rfl) (.nil))) rfl rfl
 ·refine AWP.vs ⟨[(1,rW β3 a1 eW),(2,.ptr 1 0),(6,iW y_1),(7,iW (1 : Int))],[(1,⟨37,false,(pW β1 β2 a0)⟩)]⟩ rfl rfl ?_
  refine AWP.loopM (S := fun x_32 : Int => ⟨[(1,rW β3 a1 eW),(2,.ptr 1 0),(6,iW y_1),(7,iW x_32)],[(1,⟨37,false,(pW β1 β2 a0)⟩)]⟩) (x := (1 : Int)) (fun nx_33 x_32 h => ?_) h
  unfold m44_L2 at h
  refine AWP.seq ?_
  refine AWP.sv (.cons (.move (l1 rfl) (.t rfl))<| .cons (.move (l1 rfl) (.t rfl))<| .cons (.lenRd (l1 rfl) (.t rfl) Tryz.underlying28)<| .cons (.lss (l1 rfl) (.t rfl) (.t rfl))<| .nil _ _ _) ⟨[(1,rW β3 a1 eW),(2,.ptr 1 0),(6,iW y_1),(7,iW x_32),(16,bW (decide (x_32 < (a1.length : Int))))],[(1,⟨37,false,(pW β1 β2 a0)⟩)]⟩ rfl rfl ?_
  refine AWP.cond (.t rfl) (fun hc => ?_) (fun hc => ?_)
  ·have h := iteT hc h
   refine AWP.skip ?_
   refine AWP.seq ?_
   refine AWP.block ?_
   obtain ⟨t8_34,ht8_34,h⟩ := letS h
   refine AWP.sr (.cons (.move (l1 rfl) (.t rfl))<| .cons (.add (l1 rfl) (.t rfl) (.const _ _ _))<| .cons (.assign (l1 rfl) (.t rfl))<| .nil _ _ _) ?_
   refine AWP.vc (s' := ⟨[(1,rW β3 a1 eW),(2,.ptr 1 0),(6,iW y_1),(7,iW x_32),(8,iW t8_34)],[(1,⟨37,false,(pW β1 β2 a0)⟩)]⟩) (by subst ht8_34; exact VC.sub (.of rfl) (.of rfl)) ?_
   refine AWP.joinB' (S := fun p_60 : Unit => ⟨[(1,rW β3 a1 eW),(2,.ptr 1 0),(6,iW y_1),(7,iW x_32)],[(1,⟨37,false,(pW β1 β2 a0)⟩)]⟩) h (fun p_60 h => ?_) (fun k_61 h => ?_)
   ·obtain ⟨t7_62,ht7_62,h⟩ := letS h
    refine AWP.rg (.cons (.move (l1 rfl) (.t rfl))<| .cons (.add (l1 rfl) (.t rfl) (.const _ _ _))<| .cons (.assign (l1 rfl) (.t rfl))<| .nil _ _ _) ?_
    exact endJ t7_62 h (by subst ht7_62; exact VC.sub (.of rfl) (.of rfl))
   ·refine AWP.vs ⟨[(1,rW β3 a1 eW),(2,.ptr 1 0),(6,iW y_1),(7,iW x_32),(8,iW t8_34)],[(1,⟨37,false,(pW β1 β2 a0)⟩)]⟩ rfl rfl ?_
    refine AWP.loopM (S := fun x_51 : Int => ⟨[(1,rW β3 a1 eW),(2,.ptr 1 0),(6,iW y_1),(7,iW x_32),(8,iW x_51)],[(1,⟨37,false,(pW β1 β2 a0)⟩)]⟩) (x := t8_34) (fun nx_52 x_51 h => ?_) h
    unfold m44_L3 at h
    refine AWP.seq ?_
    refine AWP.sv (.cons (.move (l1 rfl) (.t rfl))<| .cons (.move (l1 rfl) (.t rfl))<| .cons (.lenRd (l1 rfl) (.t rfl) Tryz.underlying28)<| .cons (.lss (l1 rfl) (.t rfl) (.t rfl))<| .nil _ _ _) ⟨[(1,rW β3 a1 eW),(2,.ptr 1 0),(6,iW y_1),(7,iW x_32),(8,iW x_51),(24,bW (decide (x_51 < (a1.length : Int))))],[(1,⟨37,false,(pW β1 β2 a0)⟩)]⟩ rfl rfl ?_
    refine AWP.cond (.t rfl) (fun hc => ?_) (fun hc => ?_)
    ·have h := iteT hc h
     refine AWP.skip ?_
     refine AWP.seq ?_
     refine AWP.block ?_
     obtain ⟨y_53,hy_53,h⟩ := bindS h
     refine AWP.sv (.cons (.move (l1 rfl) (.t rfl))<| .cons (.call (σ := fun _ => 2) (bw := false) (l1 rfl) (c43o (β1 := β3) n a1 hy_53) (.cons (.t rfl) (.ren rfl) (.nil)) (CallOk.mk' (.n) rfl))<| .cons (.assign (l1 rfl) (.t rfl))<| .nil _ _ _) ⟨[(1,rW β3 a1 eW),(2,.ptr 1 0),(6,iW y_1),(7,iW x_32),(8,iW x_51),(9,.own 2 1 0 y_53.length)],[(2,⟨3,true,y_53.flatMap eW⟩),(1,⟨37,false,(pW β1 β2 a0)⟩)]⟩ rfl rfl ?_
     obtain ⟨s_54,hs_54,h⟩ := bindS h
     obtain ⟨y_55,hy_55,h⟩ := bindS h
     obtain ⟨ha_56,h⟩ := asrtS h
     refine AWP.sr (.cons (.move (l1 rfl) (.t rfl))<| .cons (.move (l1 rfl) (.t rfl))<| .cons (.move (l1 rfl) (.t rfl))<| .cons (.add (l1 rfl) (.t rfl) (.const _ _ _))<| .cons (.slBoth (l1 rfl) (.t rfl) Tryz.underlying28 sz3 rfl (.some (.t rfl)) (.some (.t rfl)) hs_54)<| .cons (.call (σ := fun _ => 2) (bw := false) (l1 rfl) (c76 n y_53 (((IntKind.wrap .i64 (x_51 + (1 : Int)))).toNat - (x_32).toNat) (0 + (x_32).toNat * 1) hy_55) (.cons (.t rfl) (.ren rfl) (.nil)) (CallOk.mk' (.c rfl (.n)) rfl))<| .nil _ _ _) ?_
     refine AWP.vc (s' := ⟨[(1,rW β3 a1 eW),(2,.ptr 1 0),(6,iW y_1),(7,iW x_32),(8,iW x_51),(9,.own 2 1 0 y_55.length)],[(2,⟨3,true,y_55.flatMap eW⟩),(1,⟨37,false,(pW β1 β2 a0)⟩)]⟩) (VC.sub (.c rfl<| .c rfl<| .c rfl<| .c rfl<| .c rfl<| .c (lenC (Eq.symm (Eq.symm ha_56)) rfl)<| .n _) (.of rfl)) ?_
     obtain ⟨y_57,hy_57,h⟩ := bindS h
     obtain ⟨y_58,hy_58,h⟩ := bindS h
     refine AWP.sv (.cons (.loadPA (l1 rfl) (.t rfl) agg37 rfl rfl rfl rfl)<| .cons (.move (l1 rfl) (.t rfl))<| .cons (.call0 (bw := true) (l1 rfl) (c19 (β1 := β1) (β2 := β2) (β3 := true) n (R24.mk a0.Pq a0.Bq) y_55 hy_57) (.cons (.t rfl) (.ren rfl) (.cons (.t rfl) (.lendRow rfl rfl (encI_len .i64) rfl) (.nil))) rfl)<| .cons (.move (l1 rfl) (.t rfl))<| .cons (.lss (l1 rfl) (.t rfl) (.t rfl))<| .cons (.move (l1 rfl) (.t rfl))<| .guard (j := 5) (dj := 40) rfl (l1 rfl) rfl (l1 rfl) (fun hg => .loadPA (l1 rfl) (.t rfl) agg37 rfl rfl rfl rfl)<| .guard (j := 5) (dj := 40) rfl (l1 rfl) rfl (l1 rfl) (fun hg => .move (l1 rfl) (.t rfl))<| .guard (j := 5) (dj := 40) rfl (l1 rfl) rfl (l1 rfl) (fun hg => .call0 (bw := true) (l1 rfl) (c42 (β1 := β1) (β2 := β2) (β3 := true) n (R24.mk a0.Pq a0.Bq) y_55 (gdB hy_58 hg)) (.cons (.gd hg (.t rfl)) (.ren rfl) (.cons (.gd hg (.t rfl)) (.lendRow rfl rfl (encI_len .i64) rfl) (.nil))) rfl)<| .cons (.pickAnd (l1 rfl) (.t rfl) (.t rfl) (.const _ _ _))<| .nil _ _ _) ⟨[(1,rW β3 a1 eW),(2,.ptr 1 0),(6,iW y_1),(7,iW x_32),(8,iW x_51),(9,.own 2 1 0 y_55.length),(44,bW ((decide (y_57 < y_1)) && y_58))],[(2,⟨3,true,y_55.flatMap eW⟩),(1,⟨37,false,(pW β1 β2 a0)⟩)]⟩ rfl rfl ?_
     refine AWP.cond (.t rfl) (fun hc => ?_) (fun hc => ?_)
     ·have h := iteT hc h
      refine AWP.sr (.cons (.move (l1 rfl) (.t rfl))<| .cons (.assign (l1 rfl) (.t rfl))<| .cons (.assign (l1 rfl) (.const _ _ _))<| .nil _ _ _) ?_
      refine AWP.ret ?_
      obtain rfl := Option.some.inj h
      refine retJ (Res.vc (s' := ⟨[(4,rW β3 y_55 eW),(5,bW true)],[]⟩) (VC.trans (VC.frz (d := 4) (t := 2) rfl rfl (encI_len .i64)) (VC.trans (VC.flagUp (d := 4) β3 rfl) (VC.sub (.of rfl) (.n _)))) ?_)
      refine Res.drop (H := []) rfl ?_
      exact Res.of rfl (.cons (.tmp rfl) (.cons (.tmp rfl) (.nil))) rfl rfl
     ·have h := iteF hc h
      refine AWP.skip ?_
      obtain ⟨t8_59,ht8_59,h⟩ := letS h
      refine AWP.rg (.cons (.move (l1 rfl) (.t rfl))<| .cons (.add (l1 rfl) (.t rfl) (.const _ _ _))<| .cons (.assign (l1 rfl) (.t rfl))<| .nil _ _ _) ?_
      exact endJ t8_59 h (by subst ht8_59; exact VC.sub (.of rfl) (.of rfl))
    ·have h := iteF hc h
     refine AWP.exit ?_
     exact endJ () h (VC.sub (.of rfl) (.of rfl))
  ·have h := iteF hc h
   refine AWP.exit ?_
   exact endJ () h (VC.sub (.of rfl) (.n _))
theorem c17 {β1 : Bool} {β2 : Bool} {β3 : Bool} (n : Nat) (a0 : R24) (a1 : (List Int)) {r : ((List Int) × Int)} (h : m17 n a0 a1 = some r) : Spec Tryz.prog 17 [] [.agg (pW β1 β2 a0),rW β3 a1 eW] [] (.tup [rW false r.1 eW,iW r.2]) [] := by
 refine Spec.of (fn := Tryz.f17) Tryz.func17 Tryz.ntmps17 rfl rfl (le1 rfl) (fun w0 Zs Zb T0 ι0 => ?_)
 unfold m17 at h
 refine AWP.sv (.cons (.box (t := 1) (n := 2) (l1 rfl) (nm rfl) (.t rfl) (by first | exact ⟨rfl,rfl⟩ | rfl) rfl)<| .cons (.assign (l1 rfl) (.const _ _ _))<| .cons (.assign (l1 rfl) (.const _ _ _))<| .nil _ _ _) ⟨[(1,rW β3 a1 eW),(2,.ptr 1 0)],[(1,⟨37,false,(pW β1 β2 a0)⟩)]⟩ rfl rfl ?_
 refine AWP.seq ?_
 refine AWP.block ?_
 obtain ⟨y_1,hy_1,h⟩ := bindS h
 refine AWP.sv (.cons (.loadPA (l1 rfl) (.t rfl) agg37 rfl rfl rfl rfl)<| .cons (.call0 (bw := false) (l1 rfl) (c16 (β1 := β1) (β2 := β2) n (R24.mk a0.Pq a0.Bq) hy_1) (.cons (.t rfl) (.ren rfl) (.nil)) rfl)<| .cons (.not (l1 rfl) (.t rfl))<| .cons (.assign (l1 rfl) (.t rfl))<| .nil _ _ _) ⟨[(1,rW β3 a1 eW),(2,.ptr 1 0),(8,bW (!y_1))],[(1,⟨37,false,(pW β1 β2 a0)⟩)]⟩ rfl rfl ?_
 refine AWP.cond (.t rfl) (fun hc => ?_) (fun hc => ?_)
 ·have h := iteT hc h
  refine AWP.sr (.cons (.assign (l1 rfl) (.const _ _ _))<| .cons (.assign (l1 rfl) (.const _ _ _))<| .nil _ _ _) ?_
  refine AWP.ret ?_
  obtain rfl := Option.some.inj h
  refine retJ (Res.vc (s' := ⟨[(4,rW false ([] : List Int) eW),(5,iW (1 : Int))],[]⟩) (VC.trans (VC.nilRd (d := 4) false rfl) (VC.sub (.of rfl) (.n _))) ?_)
  refine Res.drop (H := []) rfl ?_
  exact Res.of rfl (.cons (.tmp rfl) (.cons (.tmp rfl) (.nil))) rfl rfl
 ·have h := iteF hc h
  obtain ⟨y_2,hy_2,h⟩ := bindS h
  refine AWP.sv (.cons (.loadPA (l1 rfl) (.t rfl) agg37 rfl rfl rfl rfl)<| .cons (.move (l1 rfl) (.t rfl))<| .cons (.call0 (bw := false) (l1 rfl) (c42 (β1 := β1) (β2 := β2) (β3 := β3) n (R24.mk a0.Pq a0.Bq) a1 hy_2) (.cons (.t rfl) (.ren rfl) (.cons (.t rfl) (.ren rfl) (.nil))) rfl)<| .cons (.not (l1 rfl) (.t rfl))<| .cons (.assign (l1 rfl) (.t rfl))<| .nil _ _ _) ⟨[(1,rW β3 a1 eW),(2,.ptr 1 0),(12,bW (!y_2))],[(1,⟨37,false,(pW β1 β2 a0)⟩)]⟩ rfl rfl ?_
  refine AWP.cond (.t rfl) (fun hc => ?_) (fun hc => ?_)
  ·have h := iteT hc h
   refine AWP.sr (.cons (.assign (l1 rfl) (.const _ _ _))<| .cons (.assign (l1 rfl) (.const _ _ _))<| .nil _ _ _) ?_
   refine AWP.ret ?_
   obtain rfl := Option.some.inj h
   refine retJ (Res.vc (s' := ⟨[(4,rW false ([] : List Int) eW),(5,iW (22 : Int))],[]⟩) (VC.trans (VC.nilRd (d := 4) false rfl) (VC.sub (.of rfl) (.n _))) ?_)
   refine Res.drop (H := []) rfl ?_
   exact Res.of rfl (.cons (.tmp rfl) (.cons (.tmp rfl) (.nil))) rfl rfl
  ·have h := iteF hc h
   refine AWP.skip ?_
   obtain ⟨y_3,hy_3,h⟩ := bindS h
   refine AWP.sv (.cons (.move (l1 rfl) (.t rfl))<| .cons (.call0 (bw := false) (l1 rfl) (c43 (β1 := β3) n a1 hy_3) (.cons (.t rfl) (.ren rfl) (.nil)) rfl)<| .cons (.assign (l1 rfl) (.t rfl))<| .nil _ _ _) ⟨[(2,.ptr 1 0),(6,rW false y_3 eW)],[(1,⟨37,false,(pW β1 β2 a0)⟩)]⟩ rfl rfl ?_
   refine AWP.seq ?_
   refine AWP.sv (.cons (.assign (l1 rfl) (.const _ _ _))<| .nil _ _ _) ⟨[(2,.ptr 1 0),(6,rW false y_3 eW),(7,bW true)],[(1,⟨37,false,(pW β1 β2 a0)⟩)]⟩ rfl rfl ?_
   refine AWP.joinB' (S := fun p_11 : (List Int) => ⟨[(6,rW false p_11 eW)],[]⟩) h (fun p_11 h => ?_) (fun k_12 h => ?_)
   ·refine AWP.sr (.cons (.move (l1 rfl) (.t rfl))<| .cons (.assign (l1 rfl) (.t rfl))<| .cons (.assign (l1 rfl) (.const _ _ _))<| .nil _ _ _) ?_
    refine AWP.ret ?_
    obtain rfl := Option.some.inj h
    refine retJ (Res.vc (s' := ⟨[(4,rW false p_11 eW),(5,iW (0 : Int))],[]⟩) (VC.sub (.of rfl) (.n _)) ?_)
    refine Res.drop (H := []) rfl ?_
    exact Res.of rfl (.cons (.tmp rfl) (.cons (.tmp rfl) (.nil))) rfl rfl
   ·refine AWP.vs ⟨[(2,.ptr 1 0),(6,rW false y_3 eW),(7,bW true)],[(1,⟨37,false,(pW β1 β2 a0)⟩)]⟩ rfl rfl ?_
    refine AWP.loopM (S := fun x_8 : (List Int) × Bool => ⟨[(2,.ptr 1 0),(6,rW false x_8.1 eW),(7,bW x_8.2)],[(1,⟨37,false,(pW β1 β2 a0)⟩)]⟩) (x := (y_3,true)) (fun nx_9 x_8 h => ?_) h
    unfold m17_L1 at h
    refine AWP.seq ?_
    refine AWP.sv (.cons (.move (l1 rfl) (.t rfl))<| .nil _ _ _) ⟨[(2,.ptr 1 0),(6,rW false x_8.1 eW),(19,bW x_8.2)],[(1,⟨37,false,(pW β1 β2 a0)⟩)]⟩ rfl rfl ?_
    refine AWP.cond (.t rfl) (fun hc => ?_) (fun hc => ?_)
    ·have h := iteT hc h
     refine AWP.skip ?_
     refine AWP.block ?_
     obtain ⟨y_10,hy_10,h⟩ := bindS h
     refine AWP.rg (.cons (.loadPA (l1 rfl) (.t rfl) agg37 rfl rfl rfl rfl)<| .cons (.move (l1 rfl) (.t rfl))<| .cons (.call0 (bw := false) (l1 rfl) (c44 (β1 := β1) (β2 := β2) (β3 := false) n (R24.mk a0.Pq a0.Bq) x_8.1 hy_10) (.cons (.t rfl) (.ren rfl) (.cons (.t rfl) (.ren rfl) (.nil))) rfl)<| .cons (.move (l1 rfl) (.t rfl))<| .cons (.extract (l1 rfl) (.t rfl) rfl)<| .cons (.extract (l1 rfl) (.t rfl) rfl)<| .cons (.assign (l1 rfl) (.t rfl))<| .cons (.assign (l1 rfl) (.t rfl))<| .nil _ _ _) ?_
     exact endJ (y_10.1,y_10.2) h (VC.sub (.of rfl) (.of rfl))
    ·have h := iteF hc h
     refine AWP.exit ?_
     exact endJ x_8.1 h (VC.sub (.of rfl) (.n _))
theorem c20 {β1 : Bool} {β2 : Bool} (n : Nat) (a0 : R24) (a1 : Int) {r : (List Int)} (h : m20 n a0 a1 = some r) : Spec Tryz.prog 20 [] [.agg (pW β1 β2 a0),iW a1] [] (rW false r eW) [] := by
 refine Spec.of (fn := Tryz.f20) Tryz.func20 Tryz.ntmps20 rfl rfl (le1 rfl) (fun w0 Zs Zb T0 ι0 => ?_)
 unfold m20 at h
 refine AWP.sv (.cons (.box (t := 1) (n := 2) (l1 rfl) (nm rfl) (.t rfl) (by first | exact ⟨rfl,rfl⟩ | rfl) rfl)<| .cons (.assign (l1 rfl) (.const _ _ _))<| .nil _ _ _) ⟨[(1,iW a1),(2,.ptr 1 0)],[(1,⟨37,false,(pW β1 β2 a0)⟩)]⟩ rfl rfl ?_
 obtain ⟨l2_1,hl2_1,h⟩ := bindS h
 refine AWP.sv (.cons (.fieldP (l1 rfl) (.t rfl) fld37_0)<| .cons (.loadP (l1 rfl) (.t rfl) one22 rfl rfl rfl)<| .cons (.lenRd (l1 rfl) (.t rfl) Tryz.underlying22)<| .cons (.mkS (enc := eW) (t := 2) (l1 rfl) (nm rfl) (.t rfl) (.t rfl) Tryz.underlying28 zero3 el3 rfl (encI_len .i64) (by decide) hl2_1)<| .cons (.assign (l1 rfl) (.t rfl))<| .nil _ _ _) ⟨[(1,iW a1),(2,.ptr 1 0),(5,.own 2 1 0 l2_1.length)],[(2,⟨3,true,l2_1.flatMap eW⟩),(1,⟨37,false,(pW β1 β2 a0)⟩)]⟩ rfl rfl ?_
 obtain ⟨y_2,hy_2,h⟩ := bindS h
 refine AWP.sv (.cons (.loadPA (l1 rfl) (.t rfl) agg37 rfl rfl rfl rfl)<| .cons (.move (l1 rfl) (.t rfl))<| .cons (.call0 (bw := true) (l1 rfl) (c35 (β1 := β1) (β2 := β2) (β3 := true) n (R24.mk a0.Pq a0.Bq) l2_1 hy_2) (.cons (.t rfl) (.ren rfl) (.cons (.t rfl) (.lendRow rfl rfl (encI_len .i64) rfl) (.nil))) rfl)<| .cons (.move (l1 rfl) (.t rfl))<| .cons (.extract (l1 rfl) (.t rfl) rfl)<| .cons (.extract (l1 rfl) (.t rfl) rfl)<| .cons (.assign (l1 rfl) (.t rfl))<| .cons (.assign (l1 rfl) (.t rfl))<| .nil _ _ _) ⟨[(1,iW a1),(2,.ptr 1 0),(5,.own 2 1 0 l2_1.length),(6,iW y_2.1)],[(2,⟨3,true,l2_1.flatMap eW⟩),(1,⟨37,false,(pW β1 β2 a0)⟩)]⟩ rfl rfl ?_
 obtain ⟨y_3,hy_3,h⟩ := bindS h
 refine AWP.sv (.cons (.move (l1 rfl) (.t rfl))<| .cons (.call (σ := fun _ => 3) (bw := true) (l1 rfl) (c43o (β1 := true) n l2_1 hy_3) (.cons (.t rfl) (.lendRow rfl rfl (encI_len .i64) rfl) (.nil)) (CallOk.mk' (.n) rfl))<| .cons (.assign (l1 rfl) (.t rfl))<| .nil _ _ _) ⟨[(1,iW a1),(2,.ptr 1 0),(5,.own 2 1 0 l2_1.length),(6,iW y_2.1),(8,.own 3 1 0 y_3.length)],[(3,⟨3,true,y_3.flatMap eW⟩),(2,⟨3,true,l2_1.flatMap eW⟩),(1,⟨37,false,(pW β1 β2 a0)⟩)]⟩ rfl rfl ?_
 refine AWP.sv (.cons (.assign (l1 rfl) (.const _ _ _))<| .nil _ _ _) ⟨[(1,iW a1),(2,.ptr 1 0),(5,.own 2 1 0 l2_1.length),(6,iW y_2.1),(8,.own 3 1 0 y_3.length),(9,iW (1 : Int))],[(3,⟨3,true,y_3.flatMap eW⟩),(2,⟨3,true,l2_1.flatMap eW⟩),(1,⟨37,false,(pW β1 β2 a0)⟩)]⟩ rfl rfl ?_
 refine AWP.seq ?_
 refine AWP.sv (.cons (.fieldP (l1 rfl) (.t rfl) fld37_0)<| .cons (.loadP (l1 rfl) (.t rfl) one22 rfl rfl rfl)<| .cons (.lenRd (l1 rfl) (.t rfl) Tryz.underlying22)<| .cons (.move (l1 rfl) (.const _ _ _))<| .nil _ _ _) ⟨[(1,iW a1),(2,.ptr 1 0),(5,.own 2 1 0 l2_1.length),(6,iW y_2.1),(8,.own 3 1 0 y_3.length),(9,iW (1 : Int)),(30,iW (a0.Pq.length : Int)),(31,iW (0 : Int))],[(3,⟨3,true,y_3.flatMap eW⟩),(2,⟨3,true,l2_1.flatMap eW⟩),(1,⟨37,false,(pW β1 β2 a0)⟩)]⟩ rfl rfl ?_
 refine AWP.joinB' (S := fun p_13 : Int => ⟨[(1,iW a1),(2,.ptr 1 0),(5,.own 2 1 0 l2_1.length),(6,iW y_2.1),(8,.own 3 1 0 y_3.length),(9,iW p_13)],[(1,⟨37,false,(pW β1 β2 a0)⟩),(2,⟨3,true,l2_1.flatMap eW⟩),(3,⟨3,true,y_3.flatMap eW⟩)]⟩) h (fun p_13 h => ?_) (fun k_14 h => ?_)
 ·refine AWP.seq ?_
  refine AWP.sv (.cons (.move (l1 rfl) (.t rfl))<| .cons (.move (l1 rfl) (.const _ _ _))<| .nil _ _ _) ⟨[(2,.ptr 1 0),(5,.own 2 1 0 l2_1.length),(6,iW y_2.1),(8,.own 3 1 0 y_3.length),(9,iW p_13),(41,iW a1),(42,iW (0 : Int))],[(1,⟨37,false,(pW β1 β2 a0)⟩),(2,⟨3,true,l2_1.flatMap eW⟩),(3,⟨3,true,y_3.flatMap eW⟩)]⟩ rfl rfl ?_
  refine AWP.joinB' (S := fun p_106 : (List Int) => ⟨[(5,.own 2 1 0 p_106.length)],[(2,⟨3,true,p_106.flatMap eW⟩)]⟩) h (fun p_106 h => ?_) (fun k_107 h => ?_)
  ·refine AWP.sr (.cons (.move (l1 rfl) (.t rfl))<| .cons (.assign (l1 rfl) (.t rfl))<| .nil _ _ _) ?_
   refine AWP.ret ?_
   obtain rfl := Option.some.inj h
   refine retJ (Res.vc (s' := ⟨[(4,rW false p_106 eW)],[]⟩) (VC.trans (VC.frz (d := 4) (t := 2) rfl rfl (encI_len .i64)) (VC.sub (.of rfl) (.n _))) ?_)
   refine Res.drop (H := []) rfl ?_
   exact Res.of rfl (.cons (.tmp rfl) (.nil)) rfl rfl
  ·refine AWP.vs ⟨[(2,.ptr 1 0),(5,.own 2 1 0 l2_1.length),(6,iW y_2.1),(8,.own 3 1 0 y_3.length),(9,iW p_13),(41,iW a1),(42,iW (0 : Int))],[(1,⟨37,false,(pW β1 β2 a0)⟩),(2,⟨3,true,l2_1.flatMap eW⟩),(3,⟨3,true,y_3.flatMap eW⟩)]⟩ rfl rfl ?_
   refine AWP.loopM (S := fun x_75 : Int × Int × Int × (List Int) × (List Int) => ⟨[(2,.ptr 1 0),(5,.own 2 1 0 x_75.2.2.2.1.length),(6,iW x_75.1),(8,.own 3 1 0 x_75.2.2.2.2.length),(9,iW x_75.2.1),(41,iW a1),(42,iW x_75.2.2.1)],[(1,⟨37,false,(pW β1 β2 a0)⟩),(2,⟨3,true,x_75.2.2.2.1.flatMap eW⟩),(3,⟨3,true,x_75.2.2.2.2.flatMap eW⟩)]⟩) (x := (y_2.1,p_13,(0 : Int),l2_1,y_3)) (fun nx_76 x_75 h => ?_) h
   unfold m20_L4 at h
   refine AWP.sv (.cons (.lss (l1 rfl) (.t rfl) (.t rfl))<| .nil _ _ _) ⟨[(2,.ptr 1 0),(5,.own 2 1 0 x_75.2.2.2.1.length),(6,iW x_75.1),(8,.own 3 1 0 x_75.2.2.2.2.length),(9,iW x_75.2.1),(41,iW a1),(42,iW x_75.2.2.1),(43,bW (decide (x_75.2.2.1 < a1)))],[(1,⟨37,false,(pW β1 β2 a0)⟩),(2,⟨3,true,x_75.2.2.2.1.flatMap eW⟩),(3,⟨3,true,x_75.2.2.2.2.flatMap eW⟩)]⟩ rfl rfl ?_
   refine AWP.seq ?_
   refine AWP.cond (.t rfl) (fun hc => ?_) (fun hc => ?_)
   ·have h := iteT hc h
    refine AWP.skip ?_
    refine AWP.seq ?_
    refine AWP.block ?_
    refine AWP.sv (.cons (.move (l1 rfl) (.t rfl))<| .cons (.assign (l1 rfl) (.t rfl))<| .nil _ _ _) ⟨[(2,.ptr 1 0),(5,.own 2 1 0 x_75.2.2.2.1.length),(6,iW x_75.1),(8,.own 3 1 0 x_75.2.2.2.2.length),(9,iW x_75.2.1),(41,iW a1),(42,iW x_75.2.2.1),(11,iW x_75.2.2.1)],[(1,⟨37,false,(pW β1 β2 a0)⟩),(2,⟨3,true,x_75.2.2.2.1.flatMap eW⟩),(3,⟨3,true,x_75.2.2.2.2.flatMap eW⟩)]⟩ rfl rfl ?_
    obtain ⟨y_77,hy_77,h⟩ := bindS h
    refine AWP.sv (.cons (.loadPA (l1 rfl) (.t rfl) agg37 rfl rfl rfl rfl)<| .cons (.move (l1 rfl) (.t rfl))<| .cons (.call0 (bw := true) (l1 rfl) (c35 (β1 := β1) (β2 := β2) (β3 := true) n (R24.mk a0.Pq a0.Bq) x_75.2.2.2.2 hy_77) (.cons (.t rfl) (.ren rfl) (.cons (.t rfl) (.lendRow rfl rfl (encI_len .i64) rfl) (.nil))) rfl)<| .cons (.move (l1 rfl) (.t rfl))<| .cons (.extract (l1 rfl) (.t rfl) rfl)<| .cons (.extract (l1 rfl) (.t rfl) rfl)<| .cons (.assign (l1 rfl) (.t rfl))<| .cons (.assign (l1 rfl) (.t rfl))<| .nil _ _ _) ⟨[(2,.ptr 1 0),(5,.own 2 1 0 x_75.2.2.2.1.length),(6,iW x_75.1),(8,.own 3 1 0 x_75.2.2.2.2.length),(9,iW x_75.2.1),(41,iW a1),(42,iW x_75.2.2.1),(11,iW x_75.2.2.1),(12,iW y_77.1),(13,rW false y_77.2 eW)],[(1,⟨37,false,(pW β1 β2 a0)⟩),(2,⟨3,true,x_75.2.2.2.1.flatMap eW⟩),(3,⟨3,true,x_75.2.2.2.2.flatMap eW⟩)]⟩ rfl rfl ?_
    refine AWP.seq ?_
    refine AWP.sv (.cons (.move (l1 rfl) (.t rfl))<| .cons (.move (l1 rfl) (.t rfl))<| .cons (.gtr (l1 rfl) (.t rfl) (.t rfl))<| .nil _ _ _) ⟨[(2,.ptr 1 0),(5,.own 2 1 0 x_75.2.2.2.1.length),(6,iW x_75.1),(8,.own 3 1 0 x_75.2.2.2.2.length),(9,iW x_75.2.1),(41,iW a1),(42,iW x_75.2.2.1),(11,iW x_75.2.2.1),(12,iW y_77.1),(13,rW false y_77.2 eW),(53,bW (decide (x_75.1 < y_77.1)))],[(1,⟨37,false,(pW β1 β2 a0)⟩),(2,⟨3,true,x_75.2.2.2.1.flatMap eW⟩),(3,⟨3,true,x_75.2.2.2.2.flatMap eW⟩)]⟩ rfl rfl ?_
    refine AWP.join' (S := fun p_79 : Int × (List Int) => ⟨[(2,.ptr 1 0),(5,.own 4 1 0 p_79.2.length),(6,iW p_79.1),(8,.own 3 1 0 x_75.2.2.2.2.length),(9,iW x_75.2.1),(11,iW x_75.2.2.1),(13,rW false y_77.2 eW),(41,iW a1),(42,iW x_75.2.2.1)],[(1,⟨37,false,(pW β1 β2 a0)⟩),(3,⟨3,true,x_75.2.2.2.2.flatMap eW⟩),(4,⟨3,true,p_79.2.flatMap eW⟩)]⟩) h (fun p_79 h => ?_) (fun k_80 h => ?_)
    ·refine AWP.seq ?_
     refine AWP.sv (.cons (.move (l1 rfl) (.t rfl))<| .cons (.lenRd (l1 rfl) (.t rfl) Tryz.underlying28)<| .cons (.move (l1 rfl) (.const _ _ _))<| .nil _ _ _) ⟨[(2,.ptr 1 0),(5,.own 4 1 0 p_79.2.length),(6,iW p_79.1),(8,.own 3 1 0 x_75.2.2.2.2.length),(9,iW x_75.2.1),(11,iW x_75.2.2.1),(41,iW a1),(42,iW x_75.2.2.1),(57,rW false y_77.2 eW),(58,iW (y_77.2.length : Int)),(59,iW (0 : Int))],[(1,⟨37,false,(pW β1 β2 a0)⟩),(3,⟨3,true,x_75.2.2.2.2.flatMap eW⟩),(4,⟨3,true,p_79.2.flatMap eW⟩)]⟩ rfl rfl ?_
     refine AWP.joinB' (S := fun p_100 : (List Int) => ⟨[(2,.ptr 1 0),(5,.own 4 1 0 p_79.2.length),(6,iW p_79.1),(8,.own 3 1 0 p_100.length),(9,iW x_75.2.1),(11,iW x_75.2.2.1),(41,iW a1),(42,iW x_75.2.2.1)],[(1,⟨37,false,(pW β1 β2 a0)⟩),(3,⟨3,true,p_100.flatMap eW⟩),(4,⟨3,true,p_79.2.flatMap eW⟩)]⟩) h (fun p_100 h => ?_) (fun k_101 h => ?_)
     ·refine AWP.sv (.cons (.move (l1 rfl) (.t rfl))<| .cons (.rem (l1 rfl) (.t rfl) (.const _ _ _) (by decide))<| .cons (.eql (l1 rfl) (.t rfl) (.const _ _ _))<| .nil _ _ _) ⟨[(2,.ptr 1 0),(5,.own 4 1 0 p_79.2.length),(6,iW p_79.1),(8,.own 3 1 0 p_100.length),(9,iW x_75.2.1),(41,iW a1),(42,iW x_75.2.2.1),(81,bW (decide ((x_75.2.2.1.tmod (5 : Int)) = (4 : Int))))],[(1,⟨37,false,(pW β1 β2 a0)⟩),(3,⟨3,true,p_100.flatMap eW⟩),(4,⟨3,true,p_79.2.flatMap eW⟩)]⟩ rfl rfl ?_
      refine AWP.join' (S := fun p_103 : Int => ⟨[(2,.ptr 1 0),(5,.own 4 1 0 p_79.2.length),(6,iW p_79.1),(8,.own 3 1 0 p_100.length),(9,iW p_103),(41,iW a1),(42,iW x_75.2.2.1)],[(1,⟨37,false,(pW β1 β2 a0)⟩),(3,⟨3,true,p_100.flatMap eW⟩),(4,⟨3,true,p_79.2.flatMap eW⟩)]⟩) h (fun p_103 h => ?_) (fun k_104 h => ?_)
      ·obtain ⟨t42_105,ht42_105,h⟩ := letS h
       refine AWP.rg (.cons (.add (l1 rfl) (.t rfl) (.const _ _ _))<| .cons (.move (l1 rfl) (.t rfl))<| .nil _ _ _) ?_
       exact endJ (p_79.1,p_103,t42_105,p_79.2,p_100) h (VC.trans ((by subst ht42_105; exact VC.sub (.of rfl) (.of rfl) : VC _ _ ⟨[(2,.ptr 1 0),(5,.own 4 1 0 p_79.2.length),(6,iW p_79.1),(8,.own 3 1 0 p_100.length),(9,iW p_103),(41,iW a1),(42,iW t42_105)],[(1,⟨37,false,(pW β1 β2 a0)⟩),(3,⟨3,true,p_100.flatMap eW⟩),(4,⟨3,true,p_79.2.flatMap eW⟩)]⟩)) (VC.trans (VC.retag (t := 4) (t' := 2) (by decide) (nohas rfl) (nm rfl) (nm rfl)) (VC.sub (.of rfl) (.of rfl))))
      ·refine AWP.cond (.t rfl) (fun hc => ?_) (fun hc => ?_)
       ·have h := iteT hc h
        obtain ⟨t9_102,ht9_102,h⟩ := letS h
        refine AWP.rg (.cons (.move (l1 rfl) (.t rfl))<| .cons (.quo (l1 rfl) (.t rfl) (.const _ _ _) (by decide))<| .cons (.max2 (l1 rfl) (.const _ _ _) (.t rfl))<| .cons (.assign (l1 rfl) (.t rfl))<| .nil _ _ _) ?_
        exact endJ t9_102 h (by subst ht9_102; exact VC.sub (.of rfl) (.of rfl))
       ·have h := iteF hc h
        refine AWP.skip ?_
        exact endJ x_75.2.1 h (VC.sub (.of rfl) (.of rfl))
     ·refine AWP.vs ⟨[(2,.ptr 1 0),(5,.own 4 1 0 p_79.2.length),(6,iW p_79.1),(8,.own 3 1 0 x_75.2.2.2.2.length),(9,iW x_75.2.1),(11,iW x_75.2.2.1),(41,iW a1),(42,iW x_75.2.2.1),(57,rW false y_77.2 eW),(58,iW (y_77.2.length : Int)),(59,iW (0 : Int))],[(1,⟨37,false,(pW β1 β2 a0)⟩),(3,⟨3,true,x_75.2.2.2.2.flatMap eW⟩),(4,⟨3,true,p_79.2.flatMap eW⟩)]⟩ rfl rfl ?_
      refine AWP.loopM (S := fun x_93 : Int × (List Int) => ⟨[(2,.ptr 1 0),(5,.own 4 1 0 p_79.2.length),(6,iW p_79.1),(8,.own 3 1 0 x_93.2.length),(9,iW x_75.2.1),(11,iW x_75.2.2.1),(41,iW a1),(42,iW x_75.2.2.1),(57,rW false y_77.2 eW),(58,iW (y_77.2.length : Int)),(59,iW x_93.1)],[(1,⟨37,false,(pW β1 β2 a0)⟩),(3,⟨3,true,x_93.2.flatMap eW⟩),(4,⟨3,true,p_79.2.flatMap eW⟩)]⟩) (x := ((0 : Int),x_75.2.2.2.2)) (fun nx_94 x_93 h => ?_) h
      unfold m20_L5 at h
      refine AWP.sv (.cons (.lss (l1 rfl) (.t rfl) (.t rfl))<| .nil _ _ _) ⟨[(2,.ptr 1 0),(5,.own 4 1 0 p_79.2.length),(6,iW p_79.1),(8,.own 3 1 0 x_93.2.length),(9,iW x_75.2.1),(11,iW x_75.2.2.1),(41,iW a1),(42,iW x_75.2.2.1),(57,rW false y_77.2 eW),(58,iW (y_77.2.length : Int)),(59,iW x_93.1),(60,bW (decide (x_93.1 < (y_77.2.length : Int))))],[(1,⟨37,false,(pW β1 β2 a0)⟩),(3,⟨3,true,x_93.2.flatMap eW⟩),(4,⟨3,true,p_79.2.flatMap eW⟩)]⟩ rfl rfl ?_
      refine AWP.seq ?_
      refine AWP.cond (.t rfl) (fun hc => ?_) (fun hc => ?_)
      ·have h := iteT hc h
       refine AWP.skip ?_
       refine AWP.seq ?_
       refine AWP.block ?_
       obtain ⟨y_95,hy_95,h⟩ := bindS h
       refine AWP.sv (.cons (.move (l1 rfl) (.t rfl))<| .cons (.indexRd (enc := eW) (l1 rfl) (.t rfl) (.t rfl) Tryz.underlying28 sz3 (encI_len .i64) rfl hy_95)<| .cons (.loadR (v := iW y_95) (l1 rfl) (.t rfl) one3 rfl)<| .cons (.assign (l1 rfl) (.t rfl))<| .cons (.assign (l1 rfl) (.t rfl))<| .nil _ _ _) ⟨[(2,.ptr 1 0),(5,.own 4 1 0 p_79.2.length),(6,iW p_79.1),(8,.own 3 1 0 x_93.2.length),(9,iW x_75.2.1),(11,iW x_75.2.2.1),(41,iW a1),(42,iW x_75.2.2.1),(57,rW false y_77.2 eW),(58,iW (y_77.2.length : Int)),(59,iW x_93.1),(14,iW x_93.1),(15,iW y_95)],[(1,⟨37,false,(pW β1 β2 a0)⟩),(3,⟨3,true,x_93.2.flatMap eW⟩),(4,⟨3,true,p_79.2.flatMap eW⟩)]⟩ rfl rfl ?_
       obtain ⟨y_96,hy_96,h⟩ := bindS h
       obtain ⟨y_97,hy_97,h⟩ := bindS h
       obtain ⟨l3_98,hl3_98,h⟩ := bindS h
       refine AWP.rg (.cons (.move (l1 rfl) (.t rfl))<| .cons (.move (l1 rfl) (.t rfl))<| .cons (.move (l1 rfl) (.t rfl))<| .cons (.move (l1 rfl) (.t rfl))<| .cons (.idxOwn (l1 rfl) (.t rfl) (.t rfl) Tryz.underlying28 sz3 rfl hy_96)<| .cons (.loadP (l1 rfl) (.t rfl) one3 rfl (cell_at1 (encI_len .i64) hy_96) rfl)<| .cons (.move (l1 rfl) (.t rfl))<| .cons (.move (l1 rfl) (.t rfl))<| .cons (.sub (l1 rfl) (.t rfl) (.const _ _ _))<| .cons (.mul (l1 rfl) (.t rfl) (.t rfl))<| .cons (.add (l1 rfl) (.t rfl) (.t rfl))<| .cons (.max2 (l1 rfl) (.t rfl) (.const _ _ _))<| .cons (.min2 (l1 rfl) (.t rfl) (.const _ _ _))<| .cons (.idxOwn (l1 rfl) (.t rfl) (.t rfl) Tryz.underlying28 sz3 rfl hy_97)<| .cons (.storeP (.t rfl) (.t rfl) sz3 rfl (lt_at1 (encI_len .i64) hy_97) rfl (fun _ => rfl) (set_at1 (encI_len .i64) hl3_98 rfl))<| .nil _ _ _) ?_
       refine AWP.vc (s' := ⟨[(2,.ptr 1 0),(5,.own 4 1 0 p_79.2.length),(6,iW p_79.1),(8,.own 3 1 0 l3_98.length),(9,iW x_75.2.1),(11,iW x_75.2.2.1),(41,iW a1),(42,iW x_75.2.2.1),(57,rW false y_77.2 eW),(58,iW (y_77.2.length : Int)),(59,iW x_93.1)],[(1,⟨37,false,(pW β1 β2 a0)⟩),(3,⟨3,true,l3_98.flatMap eW⟩),(4,⟨3,true,p_79.2.flatMap eW⟩)]⟩) (VC.sub (.c rfl<| .c rfl<| .c rfl<| .c (lenC (Eq.symm (setLen hl3_98)) rfl)<| .c rfl<| .c rfl<| .c rfl<| .c rfl<| .c rfl<| .c rfl<| .c rfl<| .n _) (.of rfl)) ?_
       obtain ⟨t59_99,ht59_99,h⟩ := letS h
       refine AWP.rg (.cons (.add (l1 rfl) (.t rfl) (.const _ _ _))<| .cons (.move (l1 rfl) (.t rfl))<| .nil _ _ _) ?_
       exact endJ (t59_99,l3_98) h (by subst ht59_99; exact VC.sub (.of rfl) (.of rfl))
      ·have h := iteF hc h
       refine AWP.exit ?_
       exact endJ x_93.2 h (VC.sub (.of rfl) (.of rfl))
    ·refine AWP.cond (.t rfl) (fun hc => ?_) (fun hc => ?_)
     ·have h := iteT hc h
      obtain ⟨y_78,hy_78,h⟩ := bindS h
      refine AWP.rg (.cons (.move (l1 rfl) (.t rfl))<| .cons (.call (σ := fun _ => 4) (bw := true) (l1 rfl) (c43o (β1 := true) n x_75.2.2.2.2 hy_78) (.cons (.t rfl) (.lendRow rfl rfl (encI_len .i64) rfl) (.nil)) (CallOk.mk' (.n) rfl))<| .cons (.move (l1 rfl) (.t rfl))<| .cons (.assign (l1 rfl) (.t rfl))<| .cons (.assign (l1 rfl) (.t rfl))<| .nil _ _ _) ?_
      exact endJ (y_77.1,y_78) h (VC.sub (.of rfl) (.of rfl))
     ·have h := iteF hc h
      refine AWP.skip ?_
      exact endJ (x_75.1,x_75.2.2.2.1) h (VC.trans ((VC.sub (.of rfl) (.of rfl) : VC _ _ ⟨[(2,.ptr 1 0),(5,.own 2 1 0 x_75.2.2.2.1.length),(6,iW x_75.1),(8,.own 3 1 0 x_75.2.2.2.2.length),(9,iW x_75.2.1),(11,iW x_75.2.2.1),(13,rW false y_77.2 eW),(41,iW a1),(42,iW x_75.2.2.1)],[(1,⟨37,false,(pW β1 β2 a0)⟩),(2,⟨3,true,x_75.2.2.2.1.flatMap eW⟩),(3,⟨3,true,x_75.2.2.2.2.flatMap eW⟩)]⟩)) (VC.trans (VC.retag (t := 2) (t' := 4) (by decide) (nohas rfl) (nm rfl) (nm rfl)) (VC.sub (.of rfl) (.of rfl))))
   ·have h := iteF hc h
    refine AWP.exit ?_
    exact endJ x_75.2.2.2.1 h (VC.sub (.of rfl) (.of rfl))
 ·refine AWP.vs ⟨[(1,iW a1),(2,.ptr 1 0),(5,.own 2 1 0 l2_1.length),(6,iW y_2.1),(8,.own 3 1 0 y_3.length),(9,iW (1 : Int)),(30,iW (a0.Pq.length : Int)),(31,iW (0 : Int))],[(1,⟨37,false,(pW β1 β2 a0)⟩),(2,⟨3,true,l2_1.flatMap eW⟩),(3,⟨3,true,y_3.flatMap eW⟩)]⟩ rfl rfl ?_
  refine AWP.loopM (S := fun x_8 : Int × Int => ⟨[(1,iW a1),(2,.ptr 1 0),(5,.own 2 1 0 l2_1.length),(6,iW y_2.1),(8,.own 3 1 0 y_3.length),(9,iW x_8.1),(30,iW (a0.Pq.length : Int)),(31,iW x_8.2)],[(1,⟨37,false,(pW β1 β2 a0)⟩),(2,⟨3,true,l2_1.flatMap eW⟩),(3,⟨3,true,y_3.flatMap eW⟩)]⟩) (x := ((1 : Int),(0 : Int))) (fun nx_9 x_8 h => ?_) h
  unfold m20_L1 at h
  refine AWP.sv (.cons (.lss (l1 rfl) (.t rfl) (.t rfl))<| .nil _ _ _) ⟨[(1,iW a1),(2,.ptr 1 0),(5,.own 2 1 0 l2_1.length),(6,iW y_2.1),(8,.own 3 1 0 y_3.length),(9,iW x_8.1),(30,iW (a0.Pq.length : Int)),(31,iW x_8.2),(32,bW (decide (x_8.2 < (a0.Pq.length : Int))))],[(1,⟨37,false,(pW β1 β2 a0)⟩),(2,⟨3,true,l2_1.flatMap eW⟩),(3,⟨3,true,y_3.flatMap eW⟩)]⟩ rfl rfl ?_
  refine AWP.seq ?_
  refine AWP.cond (.t rfl) (fun hc => ?_) (fun hc => ?_)
  ·have h := iteT hc h
   refine AWP.skip ?_
   refine AWP.seq ?_
   refine AWP.block ?_
   refine AWP.sv (.cons (.move (l1 rfl) (.t rfl))<| .cons (.assign (l1 rfl) (.t rfl))<| .nil _ _ _) ⟨[(1,iW a1),(2,.ptr 1 0),(5,.own 2 1 0 l2_1.length),(6,iW y_2.1),(8,.own 3 1 0 y_3.length),(9,iW x_8.1),(30,iW (a0.Pq.length : Int)),(31,iW x_8.2),(10,iW x_8.2)],[(1,⟨37,false,(pW β1 β2 a0)⟩),(2,⟨3,true,l2_1.flatMap eW⟩),(3,⟨3,true,y_3.flatMap eW⟩)]⟩ rfl rfl ?_
   obtain ⟨y_10,hy_10,h⟩ := bindS h
   obtain ⟨t9_11,ht9_11,h⟩ := letS h
   refine AWP.rg (.cons (.move (l1 rfl) (.t rfl))<| .cons (.loadPA (l1 rfl) (.t rfl) agg37 rfl rfl rfl rfl)<| .cons (.move (l1 rfl) (.t rfl))<| .cons (.call0 (bw := false) (l1 rfl) (c48 (β1 := β1) (β2 := β2) n (R24.mk a0.Pq a0.Bq) (0 : Int) x_8.2 hy_10) (.cons (.t rfl) (.ren rfl) (.cons (.const _ _ _) (.ren rfl) (.cons (.t rfl) (.ren rfl) (.nil)))) rfl)<| .cons (.quo (l1 rfl) (.t rfl) (.const _ _ _) (by decide))<| .cons (.max2 (l1 rfl) (.t rfl) (.t rfl))<| .cons (.assign (l1 rfl) (.t rfl))<| .nil _ _ _) ?_
   refine AWP.vc (s' := ⟨[(1,iW a1),(2,.ptr 1 0),(5,.own 2 1 0 l2_1.length),(6,iW y_2.1),(8,.own 3 1 0 y_3.length),(9,iW t9_11),(30,iW (a0.Pq.length : Int)),(31,iW x_8.2)],[(1,⟨37,false,(pW β1 β2 a0)⟩),(2,⟨3,true,l2_1.flatMap eW⟩),(3,⟨3,true,y_3.flatMap eW⟩)]⟩) (by subst ht9_11; exact VC.sub (.of rfl) (.of rfl)) ?_
   obtain ⟨t31_12,ht31_12,h⟩ := letS h
   refine AWP.rg (.cons (.add (l1 rfl) (.t rfl) (.const _ _ _))<| .cons (.move (l1 rfl) (.t rfl))<| .nil _ _ _) ?_
   exact endJ (t9_11,t31_12) h (by subst ht31_12; exact VC.sub (.of rfl) (.of rfl))
  ·have h := iteF hc h
   refine AWP.exit ?_
   exact endJ x_8.1 h (VC.sub (.of rfl) (.of rfl))
theorem c80 {β1 : Bool} (n : Nat) (a0 : (List Int)) (a1 : Int) {r : Int} (h : m80 n a0 a1 = some r) : Spec Tryz.prog 80 [] [rW β1 a0 eW,iW a1] [] (iW r) [] := by
 refine Spec.of (fn := Tryz.f80) Tryz.func80 Tryz.ntmps80 rfl rfl (le1 rfl) (fun w0 Zs Zb T0 ι0 => ?_)
 unfold m80 at h
 refine AWP.sv (.cons (.assign (l1 rfl) (.const _ _ _))<| .nil _ _ _) ⟨[(0,rW β1 a0 eW),(1,iW a1)],[]⟩ rfl rfl ?_
 refine AWP.seq ?_
 refine AWP.sv (.cons (.move (l1 rfl) (.t rfl))<| .cons (.lenRd (l1 rfl) (.t rfl) Tryz.underlying28)<| .cons (.move (l1 rfl) (.const _ _ _))<| .nil _ _ _) ⟨[(0,rW β1 a0 eW),(1,iW a1),(7,iW (a0.length : Int)),(8,iW (0 : Int))],[]⟩ rfl rfl ?_
 refine AWP.joinB' (S := fun p_8 : Unit => ⟨[],[]⟩) h (fun p_8 h => ?_) (fun k_9 h => ?_)
 ·refine AWP.sr (.cons (.assign (l1 rfl) (.const _ _ _))<| .nil _ _ _) ?_
  refine AWP.ret ?_
  obtain rfl := Option.some.inj h
  refine retJ (Res.vc (s' := ⟨[(4,iW (-1 : Int))],[]⟩) (VC.sub (.of rfl) (.n _)) ?_)
  refine Res.drop (H := []) rfl ?_
  exact Res.of rfl (.cons (.tmp rfl) (.nil)) rfl rfl
 ·refine AWP.vs ⟨[(0,rW β1 a0 eW),(1,iW a1),(7,iW (a0.length : Int)),(8,iW (0 : Int))],[]⟩ rfl rfl ?_
  refine AWP.loopM (S := fun x_4 : Int => ⟨[(0,rW β1 a0 eW),(1,iW a1),(7,iW (a0.length : Int)),(8,iW x_4)],[]⟩) (x := (0 : Int)) (fun nx_5 x_4 h => ?_) h
  unfold m80_L1 at h
  refine AWP.sv (.cons (.lss (l1 rfl) (.t rfl) (.t rfl))<| .nil _ _ _) ⟨[(0,rW β1 a0 eW),(1,iW a1),(7,iW (a0.length : Int)),(8,iW x_4),(9,bW (decide (x_4 < (a0.length : Int))))],[]⟩ rfl rfl ?_
  refine AWP.seq ?_
  refine AWP.cond (.t rfl) (fun hc => ?_) (fun hc => ?_)
  ·have h := iteT hc h
   refine AWP.skip ?_
   refine AWP.seq ?_
   refine AWP.block ?_
   refine AWP.sv (.cons (.move (l1 rfl) (.t rfl))<| .cons (.assign (l1 rfl) (.t rfl))<| .nil _ _ _) ⟨[(0,rW β1 a0 eW),(1,iW a1),(7,iW (a0.length : Int)),(8,iW x_4),(5,iW x_4)],[]⟩ rfl rfl ?_
   obtain ⟨y_6,hy_6,h⟩ := bindS h
   refine AWP.sv (.cons (.move (l1 rfl) (.t rfl))<| .cons (.move (l1 rfl) (.t rfl))<| .cons (.move (l1 rfl) (.t rfl))<| .cons (.indexRd (enc := eW) (l1 rfl) (.t rfl) (.t rfl) Tryz.underlying28 sz3 (encI_len .i64) rfl hy_6)<| .cons (.loadR (v := iW y_6) (l1 rfl) (.t rfl) one3 rfl)<| .cons (.eql (l1 rfl) (.t rfl) (.t rfl))<| .nil _ _ _) ⟨[(0,rW β1 a0 eW),(1,iW a1),(7,iW (a0.length : Int)),(8,iW x_4),(5,iW x_4),(16,bW (decide (a1 = y_6)))],[]⟩ rfl rfl ?_
   refine AWP.cond (.t rfl) (fun hc => ?_) (fun hc => ?_)
   ·have h := iteT hc h
    refine AWP.sr (.cons (.move (l1 rfl) (.t rfl))<| .cons (.assign (l1 rfl) (.t rfl))<| .nil _ _ _) ?_
    refine AWP.ret ?_
    obtain rfl := Option.some.inj h
    refine retJ (Res.vc (s' := ⟨[(4,iW x_4)],[]⟩) (VC.sub (.of rfl) (.n _)) ?_)
    refine Res.drop (H := []) rfl ?_
    exact Res.of rfl (.cons (.tmp rfl) (.nil)) rfl rfl
   ·have h := iteF hc h
    refine AWP.skip ?_
    obtain ⟨t8_7,ht8_7,h⟩ := letS h
    refine AWP.rg (.cons (.add (l1 rfl) (.t rfl) (.const _ _ _))<| .cons (.move (l1 rfl) (.t rfl))<| .nil _ _ _) ?_
    exact endJ t8_7 h (by subst ht8_7; exact VC.sub (.of rfl) (.n _))
  ·have h := iteF hc h
   refine AWP.exit ?_
   exact endJ () h (VC.sub (.n _) (.n _))
theorem c55 {β1 : Bool} (n : Nat) (a0 : (List Int)) (a1 : Int) {r : Bool} (h : m55 n a0 a1 = some r) : Spec Tryz.prog 55 [] [rW β1 a0 eW,iW a1] [] (bW r) [] := by
 refine Spec.of (fn := Tryz.f55) Tryz.func55 Tryz.ntmps55 rfl rfl (le1 rfl) (fun w0 Zs Zb T0 ι0 => ?_)
 unfold m55 at h
 refine AWP.sv (.cons (.assign (l1 rfl) (.const _ _ _))<| .nil _ _ _) ⟨[(0,rW β1 a0 eW),(1,iW a1)],[]⟩ rfl rfl ?_
 obtain ⟨y_1,hy_1,h⟩ := bindS h
 refine AWP.sr (.cons (.move (l1 rfl) (.t rfl))<| .cons (.move (l1 rfl) (.t rfl))<| .cons (.call0 (bw := false) (l1 rfl) (c80 (β1 := β1) n a0 a1 hy_1) (.cons (.t rfl) (.ren rfl) (.cons (.t rfl) (.ren rfl) (.nil))) rfl)<| .cons (.geq (l1 rfl) (.t rfl) (.const _ _ _))<| .cons (.assign (l1 rfl) (.t rfl))<| .nil _ _ _) ?_
 refine AWP.ret ?_
 obtain rfl := Option.some.inj h
 refine retJ (Res.vc (s' := ⟨[(4,bW (decide ((0 : Int) ≤ y_1)))],[]⟩) (VC.sub (.of rfl) (.n _)) ?_)
 refine Res.drop (H := []) rfl ?_
 exact Res.of rfl (.cons (.tmp rfl) (.nil)) rfl rfl
theorem c24 {β1 : Bool} {β2 : Bool} {β3 : Bool} {β4 : Bool} (n : Nat) (a0 : R64) (a1 : (List Int)) {r : Int} (h : m24 n a0 a1 = some r) : Spec Tryz.prog 24 [] [.agg (gW β1 β2 β3 a0.Gq a0.Path a0.Ln),rW β4 a1 eW] [] (iW r) [] := by
 refine Spec.of (fn := Tryz.f24) Tryz.func24 Tryz.ntmps24 rfl rfl (le1 rfl) (fun w0 Zs Zb T0 ι0 => ?_)
 unfold m24 at h
 refine AWP.sv (.cons (.box (t := 1) (n := 4) (l1 rfl) (nm rfl) (.t rfl) (by first | exact ⟨rfl,rfl⟩ | rfl) rfl)<| .cons (.assign (l1 rfl) (.const _ _ _))<| .nil _ _ _) ⟨[(1,rW β4 a1 eW),(2,.ptr 1 0)],[(1,⟨65,false,(gW β1 β2 β3 a0.Gq a0.Path a0.Ln)⟩)]⟩ rfl rfl ?_
 refine AWP.sv (.cons (.fieldP (l1 rfl) (.t rfl) fld65_0)<| .cons (.loadPA (l1 rfl) (.t rfl) agg37 rfl rfl rfl rfl)<| .cons (.alloc (t := 2) (k := ⟨37,false,[.sc (.slice none 0 0),.sc (.slice none 0 0)]⟩) (l1 rfl) (nm rfl) zero37 rfl rfl)<| .cons (.storePA (.t rfl) (.t rfl) sz37 rfl rfl (le1 rfl) (one_lit rfl) (by intro h; cases h) rfl)<| .nil _ _ _) ⟨[(1,rW β4 a1 eW),(2,.ptr 1 0),(5,.ptr 2 0)],[(2,⟨37,false,(pW β1 β2 a0.Gq)⟩),(1,⟨65,false,(gW β1 β2 β3 a0.Gq a0.Path a0.Ln)⟩)]⟩ rfl rfl ?_
 refine AWP.seq ?_
 refine AWP.block ?_
 refine AWP.sv (.cons (.fieldP (l1 rfl) (.t rfl) fld65_1)<| .cons (.loadP (l1 rfl) (.t rfl) one28 rfl rfl rfl)<| .cons (.lenRd (l1 rfl) (.t rfl) Tryz.underlying28)<| .cons (.fieldP (l1 rfl) (.t rfl) fld37_0)<| .cons (.loadP (l1 rfl) (.t rfl) one22 rfl rfl rfl)<| .cons (.lenRd (l1 rfl) (.t rfl) Tryz.underlying22)<| .cons (.eql (l1 rfl) (.t rfl) (.t rfl))<| .cons (.assign (l1 rfl) (.t rfl))<| .nil _ _ _) ⟨[(1,rW β4 a1 eW),(2,.ptr 1 0),(5,.ptr 2 0),(14,bW (decide ((a0.Path.length : Int) = (a0.Gq.Pq.length : Int))))],[(2,⟨37,false,(pW β1 β2 a0.Gq)⟩),(1,⟨65,false,(gW β1 β2 β3 a0.Gq a0.Path a0.Ln)⟩)]⟩ rfl rfl ?_
 refine AWP.cond (.t rfl) (fun hc => ?_) (fun hc => ?_)
 ·have h := iteT hc h
  obtain ⟨y_1,hy_1,h⟩ := bindS h
  refine AWP.sr (.cons (.loadPA (l1 rfl) (.t rfl) agg37 rfl rfl rfl rfl)<| .cons (.fieldP (l1 rfl) (.t rfl) fld65_1)<| .cons (.loadP (l1 rfl) (.t rfl) one28 rfl rfl rfl)<| .cons (.call0 (bw := false) (l1 rfl) (c19 (β1 := β1) (β2 := β2) (β3 := β3) n (R24.mk a0.Gq.Pq a0.Gq.Bq) a0.Path hy_1) (.cons (.t rfl) (.ren rfl) (.cons (.t rfl) (.ren rfl) (.nil))) rfl)<| .cons (.assign (l1 rfl) (.t rfl))<| .nil _ _ _) ?_
  refine AWP.ret ?_
  obtain rfl := Option.some.inj h
  refine retJ (Res.vc (s' := ⟨[(4,iW y_1)],[]⟩) (VC.sub (.of rfl) (.n _)) ?_)
  refine Res.drop (H := []) rfl ?_
  exact Res.of rfl (.cons (.tmp rfl) (.nil)) rfl rfl
 ·have h := iteF hc h
  refine AWP.sv (.cons (.fieldP (l1 rfl) (.t rfl) fld65_1)<| .cons (.loadP (l1 rfl) (.t rfl) one28 rfl rfl rfl)<| .cons (.lenRd (l1 rfl) (.t rfl) Tryz.underlying28)<| .cons (.eql (l1 rfl) (.t rfl) (.const _ _ _))<| .cons (.assign (l1 rfl) (.t rfl))<| .nil _ _ _) ⟨[(1,rW β4 a1 eW),(2,.ptr 1 0),(5,.ptr 2 0),(26,bW (decide ((a0.Path.length : Int) = (1 : Int))))],[(2,⟨37,false,(pW β1 β2 a0.Gq)⟩),(1,⟨65,false,(gW β1 β2 β3 a0.Gq a0.Path a0.Ln)⟩)]⟩ rfl rfl ?_
  refine AWP.cond (.t rfl) (fun hc => ?_) (fun hc => ?_)
  ·have h := iteT hc h
   obtain ⟨y_2,hy_2,h⟩ := bindS h
   refine AWP.sv (.cons (.loadPA (l1 rfl) (.t rfl) agg37 rfl rfl rfl rfl)<| .cons (.move (l1 rfl) (.t rfl))<| .cons (.call0 (bw := false) (l1 rfl) (c35 (β1 := β1) (β2 := β2) (β3 := β4) n (R24.mk a0.Gq.Pq a0.Gq.Bq) a1 hy_2) (.cons (.t rfl) (.ren rfl) (.cons (.t rfl) (.ren rfl) (.nil))) rfl)<| .cons (.move (l1 rfl) (.t rfl))<| .cons (.extract (l1 rfl) (.t rfl) rfl)<| .cons (.extract (l1 rfl) (.t rfl) rfl)<| .cons (.assign (l1 rfl) (.t rfl))<| .cons (.assign (l1 rfl) (.t rfl))<| .nil _ _ _) ⟨[(6,iW y_2.1)],[]⟩ rfl rfl ?_
   refine AWP.sr (.cons (.move (l1 rfl) (.t rfl))<| .cons (.assign (l1 rfl) (.t rfl))<| .nil _ _ _) ?_
   refine AWP.ret ?_
   obtain rfl := Option.some.inj h
   refine retJ (Res.vc (s' := ⟨[(4,iW y_2.1)],[]⟩) (VC.sub (.of rfl) (.n _)) ?_)
   refine Res.drop (H := []) rfl ?_
   exact Res.of rfl (.cons (.tmp rfl) (.nil)) rfl rfl
  ·have h := iteF hc h
   refine AWP.skip ?_
   obtain ⟨y_3,hy_3,h⟩ := bindS h
   refine AWP.sv (.cons (.fieldP (l1 rfl) (.t rfl) fld65_1)<| .cons (.loadP (l1 rfl) (.t rfl) one28 rfl rfl rfl)<| .cons (.fieldP (l1 rfl) (.t rfl) fld65_1)<| .cons (.loadP (l1 rfl) (.t rfl) one28 rfl rfl rfl)<| .cons (.lenRd (l1 rfl) (.t rfl) Tryz.underlying28)<| .cons (.sub (l1 rfl) (.t rfl) (.const _ _ _))<| .cons (.indexRd (enc := eW) (l1 rfl) (.t rfl) (.t rfl) Tryz.underlying28 sz3 (encI_len .i64) rfl hy_3)<| .cons (.loadR (v := iW y_3) (l1 rfl) (.t rfl) one3 rfl)<| .cons (.assign (l1 rfl) (.t rfl))<| .nil _ _ _) ⟨[(1,rW β4 a1 eW),(2,.ptr 1 0),(5,.ptr 2 0),(8,iW y_3)],[(2,⟨37,false,(pW β1 β2 a0.Gq)⟩),(1,⟨65,false,(gW β1 β2 β3 a0.Gq a0.Path a0.Ln)⟩)]⟩ rfl rfl ?_
   obtain ⟨l3_4,hl3_4,h⟩ := letS h
   refine AWP.sr (.cons (.move (l1 rfl) (.t rfl))<| .cons (.buildSlice (t := 3) (out := ([y_3,(0 : Int)] : List Int).flatMap eW) (l1 rfl) (nm rfl) (.cons (.t rfl) (by first | exact ⟨rfl,rfl⟩ | rfl) (.cons (.const _ _ _) (by first | exact ⟨rfl,rfl⟩ | rfl) (.nil))) Tryz.underlying28 zero3 el3 (by decide) (by decide) rfl (still_all (encI_still .i64) _))<| .cons (.assign (l1 rfl) (.t rfl))<| .nil _ _ _) ?_
   refine AWP.vc (s' := ⟨[(1,rW β4 a1 eW),(2,.ptr 1 0),(5,.ptr 2 0),(8,iW y_3),(9,.own 3 1 0 l3_4.length)],[(3,⟨3,true,l3_4.flatMap eW⟩),(2,⟨37,false,(pW β1 β2 a0.Gq)⟩),(1,⟨65,false,(gW β1 β2 β3 a0.Gq a0.Path a0.Ln)⟩)]⟩) (by subst hl3_4; exact VC.sub (.of rfl) (.of rfl)) ?_
   refine AWP.seq ?_
   obtain ⟨y_5,hy_5,h⟩ := bindS h
   obtain ⟨y_6,hy_6,h⟩ := bindS h
   obtain ⟨y_7,hy_7,h⟩ := bindS h
   obtain ⟨t10_8,ht10_8,h⟩ := letS h
   refine AWP.dw mixed [(1,rW β4 a1 eW),(2,.ptr 1 0),(5,.ptr 2 0),(8,iW y_3),(9,.own 3 1 0 l3_4.length)] [] [dO [2] 48 (.agg (pW β1 β2 a0.Gq)),dO [1] 49 (.ptr 1 (0 + 2)),dO [6] 50 (rW β3 a0.Path eW),dO [5,7] 51 (iW y_5),dO [0] 52 (rW β4 a1 eW),dO [3] 53 (iW y_3),dO [9,10] 54 (.rptr β4 [iW y_6]),dO [11] 55 (iW y_6),dO [8,12] 56 (iW (IntKind.wrap .i64 (y_5 - y_6))),dO [0] 57 (rW β4 a1 eW),dO [14] 58 (.rptr β4 [iW y_7]),dO [15] 59 (iW y_7),dO [13,16] 60 (iW (IntKind.wrap .i64 ((IntKind.wrap .i64 (y_5 - y_6)) - y_7))),dO [17] 10 (iW (IntKind.wrap .i64 ((IntKind.wrap .i64 (y_5 - y_6)) - y_7)))] [] [[(3,⟨3,true,l3_4.flatMap eW⟩),(2,⟨37,false,(pW β1 β2 a0.Gq)⟩),(1,⟨65,false,(gW β1 β2 β3 a0.Gq a0.Path a0.Ln)⟩)]] [[],[],[1,2],[0,3],[],[],[4,6],[4,7],[0,8],[],[9,10],[9,11],[0,12],[0,13]] [0,1,2,4,18] rfl rfl (by kernel_rfl) rfl (.r rfl rfl (fun _ q => .loadPA (l1 rfl) (q.t 0 rfl) agg37 rfl rfl rfl rfl)<| .r rfl rfl (fun _ q => .fieldP (l1 rfl) (q.t 0 rfl) fld65_1)<| .r rfl rfl (fun _ q => .loadP (l1 rfl) (q.t 0 rfl) one28 rfl rfl rfl)<| .p rfl (fun _ q _ => .call0 (bw := false) (l1 rfl) (c49 (β1 := β1) (β2 := β2) (β3 := β3) n (R24.mk a0.Gq.Pq a0.Gq.Bq) a0.Path hy_5) (.cons (q.t 0 rfl) (.ren rfl) (.cons (q.t 1 rfl) (.ren rfl) (.nil))) rfl)<| .p rfl (fun _ q _ => .move (l1 rfl) (q.t 0 rfl))<| .p rfl (fun _ q _ => .move (l1 rfl) (q.t 0 rfl))<| .p rfl (fun _ q _ => .indexRd (enc := eW) (l1 rfl) (q.t 0 rfl) (q.t 1 rfl) Tryz.underlying28 sz3 (encI_len .i64) rfl hy_6)<| .p rfl (fun _ q _ => .loadR (v := iW y_6) (l1 rfl) (q.t 0 rfl) one3 rfl)<| .p rfl (fun _ q _ => .sub (l1 rfl) (q.t 0 rfl) (q.t 1 rfl))<| .p rfl (fun _ q _ => .move (l1 rfl) (q.t 0 rfl))<| .p rfl (fun _ q _ => .indexRd (enc := eW) (l1 rfl) (q.t 0 rfl) (.const _ _ _) Tryz.underlying28 sz3 (encI_len .i64) rfl hy_7)<| .p rfl (fun _ q _ => .loadR (v := iW y_7) (l1 rfl) (q.t 0 rfl) one3 rfl)<| .p rfl (fun _ q _ => .sub (l1 rfl) (q.t 0 rfl) (q.t 1 rfl))<| .p rfl (fun _ q _ => .assign (l1 rfl) (q.t 0 rfl))<| .nil _) rfl rfl ?_
   refine AWP.vc (s' := ⟨[(1,rW β4 a1 eW),(2,.ptr 1 0),(5,.ptr 2 0),(9,.own 3 1 0 l3_4.length),(10,iW t10_8)],[(3,⟨3,true,l3_4.flatMap eW⟩),(2,⟨37,false,(pW β1 β2 a0.Gq)⟩),(1,⟨65,false,(gW β1 β2 β3 a0.Gq a0.Path a0.Ln)⟩)]⟩) (by subst ht10_8; exact VC.sub (.of rfl) (.of rfl)) ?_
   refine AWP.seq ?_
   obtain ⟨t63_9,ht63_9,h⟩ := letS h
   refine AWP.sr (.cons (.fieldP (l1 rfl) (.t rfl) fld37_0)<| .cons (.loadP (l1 rfl) (.t rfl) one22 rfl rfl rfl)<| .cons (.lenRd (l1 rfl) (.t rfl) Tryz.underlying22)<| .cons (.move (l1 rfl) (.const _ _ _))<| .nil _ _ _) ?_
   refine AWP.vc (s' := ⟨[(1,rW β4 a1 eW),(2,.ptr 1 0),(5,.ptr 2 0),(9,.own 3 1 0 l3_4.length),(10,iW t10_8),(63,iW t63_9),(64,iW (0 : Int))],[(3,⟨3,true,l3_4.flatMap eW⟩),(2,⟨37,false,(pW β1 β2 a0.Gq)⟩),(1,⟨65,false,(gW β1 β2 β3 a0.Gq a0.Path a0.Ln)⟩)]⟩) (by subst ht63_9; exact VC.sub (.of rfl) (.of rfl)) ?_
   refine AWP.joinB' (S := fun p_35 : Int × (List Int) => ⟨[(1,rW β4 a1 eW),(5,.ptr 2 0),(9,.own 3 1 0 p_35.2.length),(10,iW p_35.1)],[(2,⟨37,false,(pW β1 β2 a0.Gq)⟩),(3,⟨3,true,p_35.2.flatMap eW⟩)]⟩) h (fun p_35 h => ?_) (fun k_36 h => ?_)
   ·refine AWP.seq ?_
    obtain ⟨l5_37,hl5_37,h⟩ := bindS h
    obtain ⟨y_38,hy_38,h⟩ := bindS h
    obtain ⟨ha_39,h⟩ := asrtS h
    obtain ⟨t4_40,ht4_40,h⟩ := letS h
    refine AWP.dw mixed [(1,rW β4 a1 eW),(5,.ptr 2 0),(9,.own 3 1 0 p_35.2.length),(10,iW p_35.1)] [] [⟨[3],0,2,some (84,iW p_35.1),[]⟩,⟨[1],0,1,some (85,.agg (pW β1 β2 a0.Gq)),[]⟩,⟨[2],0,1,some (86,.own 3 1 0 p_35.2.length),[]⟩,⟨[0],0,2,some (87,rW β4 a1 eW),[]⟩,dO [1] 88 (.ptr 2 (0 + 0)),dO [8] 89 (rW β1 a0.Gq.Pq e50),⟨[9],0,2,some (90,iW (a0.Gq.Pq.length : Int)),[]⟩,⟨[10],0,0,some (91,.own 5 1 0 l5_37.length),[5]⟩,⟨[5,6,7,11],1,1,some (92,iW y_38.1),[]⟩,⟨[4,12],0,2,some (93,iW (IntKind.wrap .i64 (p_35.1 + y_38.1))),[]⟩,⟨[13],0,2,some (4,iW (IntKind.wrap .i64 (p_35.1 + y_38.1))),[]⟩] [7,8] [[(2,⟨37,false,(pW β1 β2 a0.Gq)⟩),(3,⟨3,true,p_35.2.flatMap eW⟩)],[(5,⟨3,true,l5_37.flatMap eW⟩),(2,⟨37,false,(pW β1 β2 a0.Gq)⟩),(3,⟨3,true,p_35.2.flatMap eW⟩)],[(5,⟨3,true,y_38.2.flatMap eW⟩),(2,⟨37,false,(pW β1 β2 a0.Gq)⟩),(3,⟨3,true,p_35.2.flatMap eW⟩)]] [[],[],[],[],[],[4,5],[4,6],[4,7],[1,8],[0,9],[0,10]] [14] rfl rfl (by kernel_rfl) rfl (.p rfl (fun _ q _ => .move (l1 rfl) (q.t 0 rfl))<| .read rfl (.c (.put (fun E hE => .loadPA (l1 rfl) (hE.t 0 rfl) agg37 rfl rfl rfl rfl)) (.c (.put (fun E hE => .loadPA (l1 rfl) (hE.t 0 rfl) agg37 rfl rfl rfl rfl)) (.n)))<| .read rfl (.c (.put (fun E hE => .move (l1 rfl) (hE.t 0 rfl))) (.c (.put (fun E hE => .move (l1 rfl) (hE.t 0 rfl))) (.n)))<| .p rfl (fun _ q _ => .move (l1 rfl) (q.t 0 rfl))<| .read rfl (.c (.put (fun E hE => .fieldP (l1 rfl) (hE.t 0 rfl) fld37_0)) (.n))<| .read rfl (.c (.put (fun E hE => .loadP (l1 rfl) (hE.t 0 rfl) one22 rfl rfl rfl)) (.n))<| .p rfl (fun _ q _ => .lenRd (l1 rfl) (q.t 0 rfl) Tryz.underlying22)<| .turn rfl rfl rfl rfl rfl (.new (fun E hE => .mkS (enc := eW) (t := 5) (l1 rfl) (nm rfl) (hE.t 0 rfl) (hE.t 0 rfl) Tryz.underlying28 zero3 el3 rfl (encI_len .i64) (by decide) hl5_37) rfl)<| .turn rfl rfl rfl rfl rfl (.called (fun E hE => AStep.call (σ := fun _ => 5) (bw := true) (l1 rfl) (c56 (β1 := β1) (β2 := β2) (β3 := true) (β4 := β4) n (R24.mk a0.Gq.Pq a0.Gq.Bq) p_35.2 a1 l5_37 hy_38) (.cons (hE.t 0 rfl) (.ren rfl) (.cons (hE.t 1 rfl) (.lendRow rfl rfl (encI_len .i64) rfl) (.cons (hE.t 2 rfl) (.ren rfl) (.cons (hE.t 3 rfl) (.ren rfl) (.nil))))) (CallOk.mk' (.c rfl (.n)) rfl)) rfl rfl rfl)<| .p rfl (fun _ q _ => .add (l1 rfl) (q.t 0 rfl) (q.t 1 rfl))<| .p rfl (fun _ q _ => .assign (l1 rfl) (q.t 0 rfl))<| .nil _) rfl rfl ?_
    refine AWP.ret ?_
    obtain rfl := Option.some.inj h
    refine retJ (Res.vc (s' := ⟨[(4,iW t4_40)],[]⟩) (by subst ht4_40; exact VC.sub (.of rfl) (.n _)) ?_)
    refine Res.drop (H := []) rfl ?_
    exact Res.of rfl (.cons (.tmp rfl) (.nil)) rfl rfl
   ·refine AWP.vs ⟨[(1,rW β4 a1 eW),(2,.ptr 1 0),(5,.ptr 2 0),(9,.own 3 1 0 l3_4.length),(10,iW t10_8),(63,iW t63_9),(64,iW (0 : Int))],[(1,⟨65,false,(gW β1 β2 β3 a0.Gq a0.Path a0.Ln)⟩),(2,⟨37,false,(pW β1 β2 a0.Gq)⟩),(3,⟨3,true,l3_4.flatMap eW⟩)]⟩ rfl rfl ?_
    refine AWP.loopM (S := fun x_26 : Int × Int × (List Int) => ⟨[(1,rW β4 a1 eW),(2,.ptr 1 0),(5,.ptr 2 0),(9,.own 3 1 0 x_26.2.2.length),(10,iW x_26.1),(63,iW t63_9),(64,iW x_26.2.1)],[(1,⟨65,false,(gW β1 β2 β3 a0.Gq a0.Path a0.Ln)⟩),(2,⟨37,false,(pW β1 β2 a0.Gq)⟩),(3,⟨3,true,x_26.2.2.flatMap eW⟩)]⟩) (x := (t10_8,(0 : Int),l3_4)) (fun nx_27 x_26 h => ?_) h
    unfold m24_L1 at h
    refine AWP.sv (.cons (.lss (l1 rfl) (.t rfl) (.t rfl))<| .nil _ _ _) ⟨[(1,rW β4 a1 eW),(2,.ptr 1 0),(5,.ptr 2 0),(9,.own 3 1 0 x_26.2.2.length),(10,iW x_26.1),(63,iW t63_9),(64,iW x_26.2.1),(65,bW (decide (x_26.2.1 < t63_9)))],[(1,⟨65,false,(gW β1 β2 β3 a0.Gq a0.Path a0.Ln)⟩),(2,⟨37,false,(pW β1 β2 a0.Gq)⟩),(3,⟨3,true,x_26.2.2.flatMap eW⟩)]⟩ rfl rfl ?_
    refine AWP.seq ?_
    refine AWP.cond (.t rfl) (fun hc => ?_) (fun hc => ?_)
    ·have h := iteT hc h
     refine AWP.skip ?_
     refine AWP.seq ?_
     refine AWP.block ?_
     refine AWP.sv (.cons (.move (l1 rfl) (.t rfl))<| .cons (.assign (l1 rfl) (.t rfl))<| .nil _ _ _) ⟨[(1,rW β4 a1 eW),(2,.ptr 1 0),(5,.ptr 2 0),(9,.own 3 1 0 x_26.2.2.length),(10,iW x_26.1),(63,iW t63_9),(64,iW x_26.2.1),(11,iW x_26.2.1)],[(1,⟨65,false,(gW β1 β2 β3 a0.Gq a0.Path a0.Ln)⟩),(2,⟨37,false,(pW β1 β2 a0.Gq)⟩),(3,⟨3,true,x_26.2.2.flatMap eW⟩)]⟩ rfl rfl ?_
     obtain ⟨y_28,hy_28,h⟩ := bindS h
     refine AWP.sv (.cons (.fieldP (l1 rfl) (.t rfl) fld65_1)<| .cons (.loadP (l1 rfl) (.t rfl) one28 rfl rfl rfl)<| .cons (.move (l1 rfl) (.t rfl))<| .cons (.call0 (bw := false) (l1 rfl) (c55 (β1 := β3) n a0.Path x_26.2.1 hy_28) (.cons (.t rfl) (.ren rfl) (.cons (.t rfl) (.ren rfl) (.nil))) rfl)<| .cons (.not (l1 rfl) (.t rfl))<| .nil _ _ _) ⟨[(1,rW β4 a1 eW),(2,.ptr 1 0),(5,.ptr 2 0),(9,.own 3 1 0 x_26.2.2.length),(10,iW x_26.1),(63,iW t63_9),(64,iW x_26.2.1),(11,iW x_26.2.1),(71,bW (!y_28))],[(1,⟨65,false,(gW β1 β2 β3 a0.Gq a0.Path a0.Ln)⟩),(2,⟨37,false,(pW β1 β2 a0.Gq)⟩),(3,⟨3,true,x_26.2.2.flatMap eW⟩)]⟩ rfl rfl ?_
     refine AWP.join' (S := fun p_32 : Int × (List Int) => ⟨[(1,rW β4 a1 eW),(2,.ptr 1 0),(5,.ptr 2 0),(9,.own 3 1 0 p_32.2.length),(10,iW p_32.1),(63,iW t63_9),(64,iW x_26.2.1)],[(1,⟨65,false,(gW β1 β2 β3 a0.Gq a0.Path a0.Ln)⟩),(2,⟨37,false,(pW β1 β2 a0.Gq)⟩),(3,⟨3,true,p_32.2.flatMap eW⟩)]⟩) h (fun p_32 h => ?_) (fun k_33 h => ?_)
     ·obtain ⟨t64_34,ht64_34,h⟩ := letS h
      refine AWP.rg (.cons (.add (l1 rfl) (.t rfl) (.const _ _ _))<| .cons (.move (l1 rfl) (.t rfl))<| .nil _ _ _) ?_
      exact endJ (p_32.1,t64_34,p_32.2) h (by subst ht64_34; exact VC.sub (.of rfl) (.of rfl))
     ·refine AWP.cond (.t rfl) (fun hc => ?_) (fun hc => ?_)
      ·have h := iteT hc h
       obtain ⟨l3_29,hl3_29,h⟩ := bindS h
       refine AWP.sv (.cons (.move (l1 rfl) (.t rfl))<| .cons (.move (l1 rfl) (.t rfl))<| .cons (.buildSlice (t := 4) (out := ([x_26.2.1] : List Int).flatMap eW) (l1 rfl) (nm rfl) (.cons (.t rfl) (by first | exact ⟨rfl,rfl⟩ | rfl) (.nil)) Tryz.underlying28 zero3 el3 (by decide) (by decide) rfl (still_all (encI_still .i64) _))<| .cons (.app (enc := eW) (l1 rfl) (nm rfl) (.t rfl) (Src.own (.t rfl) rfl (lendAll (encI_len .i64) _) (flatMap_length (encI_len .i64) _) (one_all (encI_one .i64) _) (.inl rfl)) Tryz.underlying28 ⟨_,Tryz.underlying28,by intro k hk; cases hk⟩ el3 rfl (encI_len .i64) rfl rfl (by decide) hl3_29)<| .cons (.assign (l1 rfl) (.t rfl))<| .nil _ _ _) ⟨[(1,rW β4 a1 eW),(2,.ptr 1 0),(5,.ptr 2 0),(9,.own 3 1 0 l3_29.length),(10,iW x_26.1),(63,iW t63_9),(64,iW x_26.2.1),(11,iW x_26.2.1)],[(3,⟨3,true,l3_29.flatMap eW⟩),(1,⟨65,false,(gW β1 β2 β3 a0.Gq a0.Path a0.Ln)⟩),(2,⟨37,false,(pW β1 β2 a0.Gq)⟩)]⟩ rfl rfl ?_
       obtain ⟨y_30,hy_30,h⟩ := bindS h
       obtain ⟨t10_31,ht10_31,h⟩ := letS h
       refine AWP.rg (.cons (.move (l1 rfl) (.t rfl))<| .cons (.move (l1 rfl) (.t rfl))<| .cons (.move (l1 rfl) (.t rfl))<| .cons (.indexRd (enc := eW) (l1 rfl) (.t rfl) (.t rfl) Tryz.underlying28 sz3 (encI_len .i64) rfl hy_30)<| .cons (.loadR (v := iW y_30) (l1 rfl) (.t rfl) one3 rfl)<| .cons (.mul (l1 rfl) (.const _ _ _) (.t rfl))<| .cons (.sub (l1 rfl) (.t rfl) (.t rfl))<| .cons (.assign (l1 rfl) (.t rfl))<| .nil _ _ _) ?_
       exact endJ (t10_31,l3_29) h (by subst ht10_31; exact VC.sub (.of rfl) (.of rfl))
      ·have h := iteF hc h
       refine AWP.skip ?_
       exact endJ (x_26.1,x_26.2.2) h (VC.sub (.of rfl) (.of rfl))
    ·have h := iteF hc h
     refine AWP.exit ?_
     exact endJ (x_26.1,x_26.2.2) h (VC.sub (.of rfl) (.of rfl))
theorem c23 {β1 : Bool} {β2 : Bool} {β3 : Bool} {β4 : Bool} {β5 : Bool} {β6 : Bool} (n : Nat) (a0 : R64) (a1_b0 : (List (List Int))) (a2_b0 : (List R50)) (a2_b1 : (List R71)) {r : R67} (h : m23 n a0 a1_b0 a2_b0 a2_b1 = some r) : Spec Tryz.prog 23 [1,2] [.agg (gW β1 β2 β3 a0.Gq a0.Path a0.Ln),.ptr 1 0,.ptr 2 0] [(1,⟨61,false,[rW β4 a1_b0 encL3]⟩),(2,⟨37,false,[rW β5 a2_b0 e50,rW β6 a2_b1 e71]⟩)] (.agg [iW r.Kind,iW r.Sp,rW β4 r.Lf eW]) [(1,⟨61,false,[rW β4 a1_b0 encL3]⟩),(2,⟨37,false,[rW β5 a2_b0 e50,rW β6 a2_b1 e71]⟩)] := by
 refine Spec.of (fn := Tryz.f23) Tryz.func23 Tryz.ntmps23 rfl rfl (le1 rfl) (fun w0 Zs Zb T0 ι0 => ?_)
 unfold m23 at h
 refine AWP.sv (.cons (.box (t := 3) (n := 4) (l1 rfl) (nm rfl) (.t rfl) (by first | exact ⟨rfl,rfl⟩ | rfl) rfl)<| .cons (.alloc (t := 4) (k := ⟨68,false,[iW (0 : Int),iW (0 : Int),.sc (.slice none 0 0)]⟩) (l1 rfl) (nm rfl) zero68 rfl rfl)<| .nil _ _ _) ⟨[(1,.ptr 1 0),(2,.ptr 2 0),(3,.ptr 3 0),(4,.ptr 4 0)],[(4,⟨68,false,[iW (0 : Int),iW (0 : Int),.sc (.slice none 0 0)]⟩),(3,⟨65,false,(gW β1 β2 β3 a0.Gq a0.Path a0.Ln)⟩),(1,⟨61,false,[rW β4 a1_b0 encL3]⟩),(2,⟨37,false,[rW β5 a2_b0 e50,rW β6 a2_b1 e71]⟩)]⟩ rfl rfl ?_
 refine AWP.seq ?_
 refine AWP.sv (.cons (.loadP (l1 rfl) (.t rfl) one61 rfl rfl rfl)<| .cons (.lenRd (l1 rfl) (.t rfl) Tryz.underlying61)<| .cons (.move (l1 rfl) (.const _ _ _))<| .nil _ _ _) ⟨[(2,.ptr 2 0),(3,.ptr 3 0),(4,.ptr 4 0),(7,rW β4 a1_b0 encL3),(8,iW (a1_b0.length : Int)),(9,iW (0 : Int))],[(4,⟨68,false,[iW (0 : Int),iW (0 : Int),.sc (.slice none 0 0)]⟩),(3,⟨65,false,(gW β1 β2 β3 a0.Gq a0.Path a0.Ln)⟩),(1,⟨61,false,[rW β4 a1_b0 encL3]⟩),(2,⟨37,false,[rW β5 a2_b0 e50,rW β6 a2_b1 e71]⟩)]⟩ rfl rfl ?_
 refine AWP.joinB' (S := fun p_10 : Unit => ⟨[(2,.ptr 2 0),(3,.ptr 3 0),(4,.ptr 4 0)],[(1,⟨61,false,[rW β4 a1_b0 encL3]⟩),(2,⟨37,false,[rW β5 a2_b0 e50,rW β6 a2_b1 e71]⟩),(3,⟨65,false,(gW β1 β2 β3 a0.Gq a0.Path a0.Ln)⟩),(4,⟨68,false,[iW (0 : Int),iW (0 : Int),.sc (.slice none 0 0)]⟩)]⟩) h (fun p_10 h => ?_) (fun k_11 h => ?_)
 ·refine AWP.seq ?_
  refine AWP.sv (.cons (.fieldP (l1 rfl) (.t rfl) fld65_1)<| .cons (.loadP (l1 rfl) (.t rfl) one28 rfl rfl rfl)<| .cons (.lenRd (l1 rfl) (.t rfl) Tryz.underlying28)<| .cons (.fieldP (l1 rfl) (.t rfl) fld37_0)<| .cons (.loadP (l1 rfl) (.t rfl) one22 rfl rfl rfl)<| .cons (.lenRd (l1 rfl) (.t rfl) Tryz.underlying22)<| .cons (.eql (l1 rfl) (.t rfl) (.t rfl))<| .nil _ _ _) ⟨[(4,.ptr 4 0),(28,bW (decide ((a0.Path.length : Int) = (a2_b0.length : Int))))],[(1,⟨61,false,[rW β4 a1_b0 encL3]⟩),(2,⟨37,false,[rW β5 a2_b0 e50,rW β6 a2_b1 e71]⟩),(4,⟨68,false,[iW (0 : Int),iW (0 : Int),.sc (.slice none 0 0)]⟩)]⟩ rfl rfl ?_
  refine AWP.cond (.t rfl) (fun hc => ?_) (fun hc => ?_)
  ·have h := iteT hc h
   refine AWP.sr (.cons (.buildO (offs := [(0,1),(1,1),(2,1)]) (l1 rfl) (.cons (.const _ _ _) (by first | exact ⟨rfl,rfl⟩ | rfl) (.nil)) zero68 offs68 rfl)<| .cons (.storePA (.t rfl) (.t rfl) sz68 rfl rfl (le1 rfl) (one_lit rfl) (by intro h; cases h) rfl)<| .nil _ _ _) ?_
   refine AWP.ret ?_
   obtain rfl := Option.some.inj h
   refine retJ (Res.vc (s' := ⟨[(4,.ptr 4 0)],[(4,⟨68,false,[iW (0 : Int),iW (0 : Int),rW β4 ([] : List Int) eW]⟩),(1,⟨61,false,[rW β4 a1_b0 encL3]⟩),(2,⟨37,false,[rW β5 a2_b0 e50,rW β6 a2_b1 e71]⟩)]⟩) (VC.trans (VC.cell (t := 4) (i := 2) (v' := rW β4 ([] : List Int) eW) rfl rfl rfl (fun _ _ _ _ h => nil_rd h)) (VC.sub (.of rfl) (.of rfl))) ?_)
   refine Res.sub (H := [(4,⟨68,false,[iW (0 : Int),iW (0 : Int),rW β4 ([] : List Int) eW]⟩),(1,⟨61,false,[rW β4 a1_b0 encL3]⟩),(2,⟨37,false,[rW β5 a2_b0 e50,rW β6 a2_b1 e71]⟩)]) (.of rfl) ?_
   exact Res.of rfl (.cons (.cell rfl agg68 rfl rfl rfl rfl) (.nil)) rfl rfl
  ·have h := iteF hc h
   refine AWP.skip ?_
   refine AWP.sr (.cons (.buildO (offs := [(0,1),(1,1),(2,1)]) (l1 rfl) (.cons (.const _ _ _) (by first | exact ⟨rfl,rfl⟩ | rfl) (.nil)) zero68 offs68 rfl)<| .cons (.storePA (.t rfl) (.t rfl) sz68 rfl rfl (le1 rfl) (one_lit rfl) (by intro h; cases h) rfl)<| .nil _ _ _) ?_
   refine AWP.ret ?_
   obtain rfl := Option.some.inj h
   refine retJ (Res.vc (s' := ⟨[(4,.ptr 4 0)],[(4,⟨68,false,[iW (1 : Int),iW (0 : Int),rW β4 ([] : List Int) eW]⟩),(1,⟨61,false,[rW β4 a1_b0 encL3]⟩),(2,⟨37,false,[rW β5 a2_b0 e50,rW β6 a2_b1 e71]⟩)]⟩) (VC.trans (VC.cell (t := 4) (i := 2) (v' := rW β4 ([] : List Int) eW) rfl rfl rfl (fun _ _ _ _ h => nil_rd h)) (VC.sub (.of rfl) (.of rfl))) ?_)
   refine Res.sub (H := [(4,⟨68,false,[iW (1 : Int),iW (0 : Int),rW β4 ([] : List Int) eW]⟩),(1,⟨61,false,[rW β4 a1_b0 encL3]⟩),(2,⟨37,false,[rW β5 a2_b0 e50,rW β6 a2_b1 e71]⟩)]) (.of rfl) ?_
   exact Res.of rfl (.cons (.cell rfl agg68 rfl rfl rfl rfl) (.nil)) rfl rfl
 ·refine AWP.vs ⟨[(2,.ptr 2 0),(3,.ptr 3 0),(4,.ptr 4 0),(7,rW β4 a1_b0 encL3),(8,iW (a1_b0.length : Int)),(9,iW (0 : Int))],[(1,⟨61,false,[rW β4 a1_b0 encL3]⟩),(2,⟨37,false,[rW β5 a2_b0 e50,rW β6 a2_b1 e71]⟩),(3,⟨65,false,(gW β1 β2 β3 a0.Gq a0.Path a0.Ln)⟩),(4,⟨68,false,[iW (0 : Int),iW (0 : Int),.sc (.slice none 0 0)]⟩)]⟩ rfl rfl ?_
  refine AWP.loopM (S := fun x_5 : Int => ⟨[(2,.ptr 2 0),(3,.ptr 3 0),(4,.ptr 4 0),(7,rW β4 a1_b0 encL3),(8,iW (a1_b0.length : Int)),(9,iW x_5)],[(1,⟨61,false,[rW β4 a1_b0 encL3]⟩),(2,⟨37,false,[rW β5 a2_b0 e50,rW β6 a2_b1 e71]⟩),(3,⟨65,false,(gW β1 β2 β3 a0.Gq a0.Path a0.Ln)⟩),(4,⟨68,false,[iW (0 : Int),iW (0 : Int),.sc (.slice none 0 0)]⟩)]⟩) (x := (0 : Int)) (fun nx_6 x_5 h => ?_) h
  unfold m23_L1 at h
  refine AWP.sv (.cons (.lss (l1 rfl) (.t rfl) (.t rfl))<| .nil _ _ _) ⟨[(2,.ptr 2 0),(3,.ptr 3 0),(4,.ptr 4 0),(7,rW β4 a1_b0 encL3),(8,iW (a1_b0.length : Int)),(9,iW x_5),(10,bW (decide (x_5 < (a1_b0.length : Int))))],[(1,⟨61,false,[rW β4 a1_b0 encL3]⟩),(2,⟨37,false,[rW β5 a2_b0 e50,rW β6 a2_b1 e71]⟩),(3,⟨65,false,(gW β1 β2 β3 a0.Gq a0.Path a0.Ln)⟩),(4,⟨68,false,[iW (0 : Int),iW (0 : Int),.sc (.slice none 0 0)]⟩)]⟩ rfl rfl ?_
  refine AWP.seq ?_
  refine AWP.cond (.t rfl) (fun hc => ?_) (fun hc => ?_)
  ·have h := iteT hc h
   refine AWP.skip ?_
   refine AWP.seq ?_
   refine AWP.block ?_
   obtain ⟨y_7,hy_7,h⟩ := bindS h
   refine AWP.sv (.cons (.indexRd (enc := encL3) (l1 rfl) (.t rfl) (.t rfl) Tryz.underlying61 sz28 encL3_len rfl hy_7)<| .cons (.loadR (v := rW β4 y_7 eW) (l1 rfl) (.t rfl) one28 rfl)<| .cons (.assign (l1 rfl) (.t rfl))<| .nil _ _ _) ⟨[(2,.ptr 2 0),(3,.ptr 3 0),(4,.ptr 4 0),(7,rW β4 a1_b0 encL3),(8,iW (a1_b0.length : Int)),(9,iW x_5),(6,rW β4 y_7 eW)],[(1,⟨61,false,[rW β4 a1_b0 encL3]⟩),(2,⟨37,false,[rW β5 a2_b0 e50,rW β6 a2_b1 e71]⟩),(3,⟨65,false,(gW β1 β2 β3 a0.Gq a0.Path a0.Ln)⟩),(4,⟨68,false,[iW (0 : Int),iW (0 : Int),.sc (.slice none 0 0)]⟩)]⟩ rfl rfl ?_
   refine AWP.seq ?_
   obtain ⟨y_8,hy_8,h⟩ := bindS h
   refine AWP.dw mixed [(2,.ptr 2 0),(3,.ptr 3 0),(4,.ptr 4 0),(6,rW β4 y_7 eW),(7,rW β4 a1_b0 encL3),(8,iW (a1_b0.length : Int)),(9,iW x_5)] [] [dO [1] 13 (.ptr 3 (0 + 3)),dO [7] 14 (iW a0.Ln),dO [1] 15 (.agg (gW β1 β2 β3 a0.Gq a0.Path a0.Ln)),dO [3] 16 (rW β4 y_7 eW),dO [9,10] 17 (iW y_8),dO [8,11] 18 (bW (decide (a0.Ln ≤ y_8)))] [] [[(1,⟨61,false,[rW β4 a1_b0 encL3]⟩),(2,⟨37,false,[rW β5 a2_b0 e50,rW β6 a2_b1 e71]⟩),(3,⟨65,false,(gW β1 β2 β3 a0.Gq a0.Path a0.Ln)⟩),(4,⟨68,false,[iW (0 : Int),iW (0 : Int),.sc (.slice none 0 0)]⟩)]] [[],[0,1],[],[],[2,4],[0,5]] [0,1,2,3,4,5,6,12] rfl rfl (by kernel_rfl) rfl (.r rfl rfl (fun _ q => .fieldP (l1 rfl) (q.t 0 rfl) fld65_2)<| .r rfl rfl (fun _ q => .loadP (l1 rfl) (q.t 0 rfl) one3 rfl rfl rfl)<| .r rfl rfl (fun _ q => .loadPA (l1 rfl) (q.t 0 rfl) agg65 rfl rfl rfl rfl)<| .p rfl (fun _ q _ => .move (l1 rfl) (q.t 0 rfl))<| .p rfl (fun _ q _ => .call0 (bw := false) (l1 rfl) (c24 (β1 := β1) (β2 := β2) (β3 := β3) (β4 := β4) n (R64.mk (R24.mk a0.Gq.Pq a0.Gq.Bq) a0.Path a0.Ln) y_7 hy_8) (.cons (q.t 0 rfl) (.ren rfl) (.cons (q.t 1 rfl) (.ren rfl) (.nil))) rfl)<| .p rfl (fun _ q _ => .leq (l1 rfl) (q.t 0 rfl) (q.t 1 rfl))<| .nil _) rfl rfl ?_
   refine AWP.vs ⟨[(2,.ptr 2 0),(3,.ptr 3 0),(4,.ptr 4 0),(7,rW β4 a1_b0 encL3),(8,iW (a1_b0.length : Int)),(9,iW x_5),(6,rW β4 y_7 eW),(18,bW (decide (a0.Ln ≤ y_8)))],[(1,⟨61,false,[rW β4 a1_b0 encL3]⟩),(2,⟨37,false,[rW β5 a2_b0 e50,rW β6 a2_b1 e71]⟩),(3,⟨65,false,(gW β1 β2 β3 a0.Gq a0.Path a0.Ln)⟩),(4,⟨68,false,[iW (0 : Int),iW (0 : Int),.sc (.slice none 0 0)]⟩)]⟩ rfl rfl ?_
   refine AWP.cond (.t rfl) (fun hc => ?_) (fun hc => ?_)
   ·have h := iteT hc h
    refine AWP.sr (.cons (.move (l1 rfl) (.t rfl))<| .cons (.buildO (offs := [(0,1),(1,1),(2,1)]) (l1 rfl) (.cons (.const _ _ _) (by first | exact ⟨rfl,rfl⟩ | rfl) (.cons (.t rfl) (by first | exact ⟨rfl,rfl⟩ | rfl) (.nil))) zero68 offs68 rfl)<| .cons (.storePA (.t rfl) (.t rfl) sz68 rfl rfl (le1 rfl) (one_lit rfl) (by intro h; cases h) rfl)<| .nil _ _ _) ?_
    refine AWP.ret ?_
    obtain rfl := Option.some.inj h
    refine retJ (Res.vc (s' := ⟨[(4,.ptr 4 0)],[(4,⟨68,false,[iW (2 : Int),iW (0 : Int),rW β4 y_7 eW]⟩),(1,⟨61,false,[rW β4 a1_b0 encL3]⟩),(2,⟨37,false,[rW β5 a2_b0 e50,rW β6 a2_b1 e71]⟩)]⟩) (VC.sub (.of rfl) (.of rfl)) ?_)
    refine Res.sub (H := [(4,⟨68,false,[iW (2 : Int),iW (0 : Int),rW β4 y_7 eW]⟩),(1,⟨61,false,[rW β4 a1_b0 encL3]⟩),(2,⟨37,false,[rW β5 a2_b0 e50,rW β6 a2_b1 e71]⟩)]) (.of rfl) ?_
    exact Res.of rfl (.cons (.cell rfl agg68 rfl rfl rfl rfl) (.nil)) rfl rfl
   ·have h := iteF hc h
    refine AWP.skip ?_
    obtain ⟨t9_9,ht9_9,h⟩ := letS h
    refine AWP.rg (.cons (.add (l1 rfl) (.t rfl) (.const _ _ _))<| .cons (.move (l1 rfl) (.t rfl))<| .nil _ _ _) ?_
    exact endJ t9_9 h (by subst ht9_9; exact VC.sub (.of rfl) (.of rfl))
  ·have h := iteF hc h
   refine AWP.exit ?_
   exact endJ () h (VC.sub (.of rfl) (.of rfl))
theorem c52 (n : Nat) (a0 : Int) {r : Bool} (h : m52 n a0 = some r) : Spec Tryz.prog 52 [] [iW a0] [] (bW r) [] := by
 refine Spec.of (fn := Tryz.f52) Tryz.func52 Tryz.ntmps52 rfl rfl (le1 rfl) (fun w0 Zs Zb T0 ι0 => ?_)
 unfold m52 at h
 refine AWP.sv (.cons (.assign (l1 rfl) (.const _ _ _))<| .nil _ _ _) ⟨[(0,iW a0)],[]⟩ rfl rfl ?_
 refine AWP.sr (.cons (.move (l1 rfl) (.t rfl))<| .cons (.geq (l1 rfl) (.t rfl) (.const _ _ _))<| .cons (.move (l1 rfl) (.t rfl))<| .guard (j := 2) (dj := 5) rfl (l1 rfl) rfl (l1 rfl) (fun hg => .move (l1 rfl) (.t rfl))<| .guard (j := 2) (dj := 5) rfl (l1 rfl) rfl (l1 rfl) (fun hg => .leq (l1 rfl) (.gd hg (.t rfl)) (.const _ _ _))<| .cons (.pickAnd (l1 rfl) (.t rfl) (.t rfl) (.const _ _ _))<| .cons (.assign (l1 rfl) (.t rfl))<| .nil _ _ _) ?_
 refine AWP.ret ?_
 obtain rfl := Option.some.inj h
 refine retJ (Res.vc (s' := ⟨[(2,bW ((decide ((-1073741824 : Int) ≤ a0)) && (decide (a0 ≤ (1073741824 : Int)))))],[]⟩) (VC.sub (.of rfl) (.n _)) ?_)
 refine Res.drop (H := []) rfl ?_
 exact Res.of rfl (.cons (.tmp rfl) (.nil)) rfl rfl
theorem c78 (n : Nat) (a0 : Int) {r : Bool} (h : m78 n a0 = some r) : Spec Tryz.prog 78 [] [iW a0] [] (bW r) [] := by
 refine Spec.of (fn := Tryz.f78) Tryz.func78 Tryz.ntmps78 rfl rfl (le1 rfl) (fun w0 Zs Zb T0 ι0 => ?_)
 unfold m78 at h
 refine AWP.sv (.cons (.assign (l1 rfl) (.const _ _ _))<| .nil _ _ _) ⟨[(0,iW a0)],[]⟩ rfl rfl ?_
 obtain ⟨y_1,hy_1,h⟩ := bindS h
 refine AWP.sr (.cons (.move (l1 rfl) (.t rfl))<| .cons (.call0 (bw := false) (l1 rfl) (c52 n a0 hy_1) (.cons (.t rfl) (.ren rfl) (.nil)) rfl)<| .cons (.not (l1 rfl) (.t rfl))<| .cons (.assign (l1 rfl) (.t rfl))<| .nil _ _ _) ?_
 refine AWP.ret ?_
 obtain rfl := Option.some.inj h
 refine retJ (Res.vc (s' := ⟨[(2,bW (!y_1))],[]⟩) (VC.sub (.of rfl) (.n _)) ?_)
 refine Res.drop (H := []) rfl ?_
 exact Res.of rfl (.cons (.tmp rfl) (.nil)) rfl rfl
theorem c91x1 {β1 : Bool} (n : Nat) (a0 : (List Int)) {r : Int} (h : m91x1 n a0 = some r) : Spec Tryz.prog 91 [] [rW β1 a0 eW,.clo (.func 78) [] []] [] (iW r) [] := by
 refine Spec.of (fn := Tryz.f91) Tryz.func91 Tryz.ntmps91 rfl rfl (le1 rfl) (fun w0 Zs Zb T0 ι0 => ?_)
 unfold m91x1 at h
 refine AWP.sv (.cons (.assign (l1 rfl) (.const _ _ _))<| .nil _ _ _) ⟨[(0,rW β1 a0 eW),(1,.clo (.func 78) [] [])],[]⟩ rfl rfl ?_
 refine AWP.seq ?_
 refine AWP.sv (.cons (.move (l1 rfl) (.t rfl))<| .cons (.lenRd (l1 rfl) (.t rfl) Tryz.underlying28)<| .cons (.move (l1 rfl) (.const _ _ _))<| .nil _ _ _) ⟨[(0,rW β1 a0 eW),(1,.clo (.func 78) [] []),(7,iW (a0.length : Int)),(8,iW (0 : Int))],[]⟩ rfl rfl ?_
 refine AWP.joinB' (S := fun p_10 : Unit => ⟨[],[]⟩) h (fun p_10 h => ?_) (fun k_11 h => ?_)
 ·refine AWP.sr (.cons (.assign (l1 rfl) (.const _ _ _))<| .nil _ _ _) ?_
  refine AWP.ret ?_
  obtain rfl := Option.some.inj h
  refine retJ (Res.vc (s' := ⟨[(4,iW (-1 : Int))],[]⟩) (VC.sub (.of rfl) (.n _)) ?_)
  refine Res.drop (H := []) rfl ?_
  exact Res.of rfl (.cons (.tmp rfl) (.nil)) rfl rfl
 ·refine AWP.vs ⟨[(0,rW β1 a0 eW),(1,.clo (.func 78) [] []),(7,iW (a0.length : Int)),(8,iW (0 : Int))],[]⟩ rfl rfl ?_
  refine AWP.loopM (S := fun x_5 : Int => ⟨[(0,rW β1 a0 eW),(1,.clo (.func 78) [] []),(7,iW (a0.length : Int)),(8,iW x_5)],[]⟩) (x := (0 : Int)) (fun nx_6 x_5 h => ?_) h
  unfold m91x1_L1 at h
  refine AWP.sv (.cons (.lss (l1 rfl) (.t rfl) (.t rfl))<| .nil _ _ _) ⟨[(0,rW β1 a0 eW),(1,.clo (.func 78) [] []),(7,iW (a0.length : Int)),(8,iW x_5),(9,bW (decide (x_5 < (a0.length : Int))))],[]⟩ rfl rfl ?_
  refine AWP.seq ?_
  refine AWP.cond (.t rfl) (fun hc => ?_) (fun hc => ?_)
  ·have h := iteT hc h
   refine AWP.skip ?_
   refine AWP.seq ?_
   refine AWP.block ?_
   refine AWP.sv (.cons (.move (l1 rfl) (.t rfl))<| .cons (.assign (l1 rfl) (.t rfl))<| .nil _ _ _) ⟨[(0,rW β1 a0 eW),(1,.clo (.func 78) [] []),(7,iW (a0.length : Int)),(8,iW x_5),(5,iW x_5)],[]⟩ rfl rfl ?_
   obtain ⟨y_7,hy_7,h⟩ := bindS h
   obtain ⟨y_8,hy_8,h⟩ := bindS h
   refine AWP.sv (.cons (.move (l1 rfl) (.t rfl))<| .cons (.move (l1 rfl) (.t rfl))<| .cons (.move (l1 rfl) (.t rfl))<| .cons (.indexRd (enc := eW) (l1 rfl) (.t rfl) (.t rfl) Tryz.underlying28 sz3 (encI_len .i64) rfl hy_7)<| .cons (.loadR (v := iW y_7) (l1 rfl) (.t rfl) one3 rfl)<| .cons (.keep (bw := false) (AStep.callV (us' := []) (avs := [iW y_7]) (cs' := []) (σ := sgT []) (bw := false) (l1 rfl) (.t rfl) (c78 n y_7 hy_8) (.nil) (.cons (.t rfl) (.ren rfl) (.nil)) (.nil) (CallOk.mk' (.n) rfl) (fun _ h => by cases h)) (CallOk.mk' (.n) rfl) rfl rfl)<| .nil _ _ _) ⟨[(0,rW β1 a0 eW),(1,.clo (.func 78) [] []),(7,iW (a0.length : Int)),(8,iW x_5),(5,iW x_5),(16,bW y_8)],[]⟩ rfl rfl ?_
   refine AWP.cond (.t rfl) (fun hc => ?_) (fun hc => ?_)
   ·have h := iteT hc h
    refine AWP.sr (.cons (.move (l1 rfl) (.t rfl))<| .cons (.assign (l1 rfl) (.t rfl))<| .nil _ _ _) ?_
    refine AWP.ret ?_
    obtain rfl := Option.some.inj h
    refine retJ (Res.vc (s' := ⟨[(4,iW x_5)],[]⟩) (VC.sub (.of rfl) (.n _)) ?_)
    refine Res.drop (H := []) rfl ?_
    exact Res.of rfl (.cons (.tmp rfl) (.nil)) rfl rfl
   ·have h := iteF hc h
    refine AWP.skip ?_
    obtain ⟨t8_9,ht8_9,h⟩ := letS h
    refine AWP.rg (.cons (.add (l1 rfl) (.t rfl) (.const _ _ _))<| .cons (.move (l1 rfl) (.t rfl))<| .nil _ _ _) ?_
    exact endJ t8_9 h (by subst ht8_9; exact VC.sub (.of rfl) (.n _))
  ·have h := iteF hc h
   refine AWP.exit ?_
   exact endJ () h (VC.sub (.n _) (.n _))
theorem c68x1 {β1 : Bool} (n : Nat) (a0 : (List Int)) {r : Bool} (h : m68x1 n a0 = some r) : Spec Tryz.prog 68 [] [rW β1 a0 eW,.clo (.func 78) [] []] [] (bW r) [] := by
 refine Spec.of (fn := Tryz.f68) Tryz.func68 Tryz.ntmps68 rfl rfl (le1 rfl) (fun w0 Zs Zb T0 ι0 => ?_)
 unfold m68x1 at h
 refine AWP.sv (.cons (.assign (l1 rfl) (.const _ _ _))<| .nil _ _ _) ⟨[(0,rW β1 a0 eW),(1,.clo (.func 78) [] [])],[]⟩ rfl rfl ?_
 obtain ⟨y_1,hy_1,h⟩ := bindS h
 refine AWP.sr (.cons (.move (l1 rfl) (.t rfl))<| .cons (.move (l1 rfl) (.t rfl))<| .cons (.call0 (bw := false) (l1 rfl) (c91x1 (β1 := β1) n a0 hy_1) (.cons (.t rfl) (.ren rfl) (.cons (.t rfl) (.ren rfl) (.nil))) rfl)<| .cons (.geq (l1 rfl) (.t rfl) (.const _ _ _))<| .cons (.assign (l1 rfl) (.t rfl))<| .nil _ _ _) ?_
 refine AWP.ret ?_
 obtain rfl := Option.some.inj h
 refine retJ (Res.vc (s' := ⟨[(4,bW (decide ((0 : Int) ≤ y_1)))],[]⟩) (VC.sub (.of rfl) (.n _)) ?_)
 refine Res.drop (H := []) rfl ?_
 exact Res.of rfl (.cons (.tmp rfl) (.nil)) rfl rfl
theorem c51 {β1 : Bool} {β2 : Bool} (n : Nat) (a0 : R30) {r : Bool} (h : m51 n a0 = some r) : Spec Tryz.prog 51 [] [.agg (tW encK30 β1 β2 a0.Sp a0.Kd a0.Lf)] [] (bW r) [] := by
 refine Spec.of (fn := Tryz.f51) Tryz.func51 Tryz.ntmps51 rfl rfl (le1 rfl) (fun w0 Zs Zb T0 ι0 => ?_)
 unfold m51 at h
 refine AWP.sv (.cons (.box (t := 1) (n := 3) (l1 rfl) (nm rfl) (.t rfl) (by first | exact ⟨rfl,rfl⟩ | rfl) rfl)<| .cons (.assign (l1 rfl) (.const _ _ _))<| .nil _ _ _) ⟨[(1,.ptr 1 0)],[(1,⟨31,false,(tW encK30 β1 β2 a0.Sp a0.Kd a0.Lf)⟩)]⟩ rfl rfl ?_
 refine AWP.seq ?_
 refine AWP.sv (.cons (.fieldP (l1 rfl) (.t rfl) fld31_1)<| .cons (.loadP (l1 rfl) (.t rfl) one29 rfl rfl rfl)<| .cons (.lenRd (l1 rfl) (.t rfl) Tryz.underlying29)<| .cons (.gtr (l1 rfl) (.t rfl) (.const _ _ _))<| .nil _ _ _) ⟨[(1,.ptr 1 0),(6,bW (decide ((0 : Int) < (a0.Kd.length : Int))))],[(1,⟨31,false,(tW encK30 β1 β2 a0.Sp a0.Kd a0.Lf)⟩)]⟩ rfl rfl ?_
 refine AWP.cond (.t rfl) (fun hc => ?_) (fun hc => ?_)
 ·have h := iteT hc h
  obtain ⟨y_1,hy_1,h⟩ := bindS h
  refine AWP.sr (.cons (.fieldP (l1 rfl) (.t rfl) fld31_2)<| .cons (.loadP (l1 rfl) (.t rfl) one28 rfl rfl rfl)<| .cons (.lenRd (l1 rfl) (.t rfl) Tryz.underlying28)<| .cons (.eql (l1 rfl) (.t rfl) (.const _ _ _))<| .cons (.move (l1 rfl) (.t rfl))<| .guard (j := 4) (dj := 11) rfl (l1 rfl) rfl (l1 rfl) (fun hg => .fieldP (l1 rfl) (.t rfl) fld31_1)<| .guard (j := 4) (dj := 11) rfl (l1 rfl) rfl (l1 rfl) (fun hg => .loadP (l1 rfl) (.gd hg (.t rfl)) one29 rfl rfl rfl)<| .guard (j := 4) (dj := 11) rfl (l1 rfl) rfl (l1 rfl) (fun hg => .lenRd (l1 rfl) (.gd hg (.t rfl)) Tryz.underlying29)<| .guard (j := 4) (dj := 11) rfl (l1 rfl) rfl (l1 rfl) (fun hg => .leq (l1 rfl) (.gd hg (.t rfl)) (.const _ _ _))<| .cons (.pickAnd (l1 rfl) (.t rfl) (.t rfl) (.const _ _ _))<| .cons (.move (l1 rfl) (.t rfl))<| .guard (j := 10) (dj := 17) rfl (l1 rfl) rfl (l1 rfl) (fun hg => .fieldP (l1 rfl) (.t rfl) fld31_0)<| .guard (j := 10) (dj := 17) rfl (l1 rfl) rfl (l1 rfl) (fun hg => .loadP (l1 rfl) (.gd hg (.t rfl)) one3 rfl rfl rfl)<| .guard (j := 10) (dj := 17) rfl (l1 rfl) rfl (l1 rfl) (fun hg => .call0 (bw := false) (l1 rfl) (c52 n a0.Sp (gdB hy_1 hg)) (.cons (.gd hg (.t rfl)) (.ren rfl) (.nil)) rfl)<| .cons (.pickAnd (l1 rfl) (.t rfl) (.t rfl) (.const _ _ _))<| .cons (.assign (l1 rfl) (.t rfl))<| .nil _ _ _) ?_
  refine AWP.ret ?_
  obtain rfl := Option.some.inj h
  refine retJ (Res.vc (s' := ⟨[(2,bW (((decide ((a0.Lf.length : Int) = (0 : Int))) && (decide ((a0.Kd.length : Int) ≤ (100 : Int)))) && y_1))],[]⟩) (VC.sub (.of rfl) (.n _)) ?_)
  refine Res.drop (H := []) rfl ?_
  exact Res.of rfl (.cons (.tmp rfl) (.nil)) rfl rfl
 ·have h := iteF hc h
  refine AWP.skip ?_
  obtain ⟨y_2,hy_2,h⟩ := bindS h
  refine AWP.sr (.cons (.fieldP (l1 rfl) (.t rfl) fld31_0)<| .cons (.loadP (l1 rfl) (.t rfl) one3 rfl rfl rfl)<| .cons (.eql (l1 rfl) (.t rfl) (.const _ _ _))<| .cons (.move (l1 rfl) (.t rfl))<| .guard (j := 3) (dj := 25) rfl (l1 rfl) rfl (l1 rfl) (fun hg => .fieldP (l1 rfl) (.t rfl) fld31_2)<| .guard (j := 3) (dj := 25) rfl (l1 rfl) rfl (l1 rfl) (fun hg => .loadP (l1 rfl) (.gd hg (.t rfl)) one28 rfl rfl rfl)<| .guard (j := 3) (dj := 25) rfl (l1 rfl) rfl (l1 rfl) (fun hg => .lenRd (l1 rfl) (.gd hg (.t rfl)) Tryz.underlying28)<| .guard (j := 3) (dj := 25) rfl (l1 rfl) rfl (l1 rfl) (fun hg => .leq (l1 rfl) (.gd hg (.t rfl)) (.const _ _ _))<| .cons (.pickAnd (l1 rfl) (.t rfl) (.t rfl) (.const _ _ _))<| .cons (.move (l1 rfl) (.t rfl))<| .guard (j := 9) (dj := 31) rfl (l1 rfl) rfl (l1 rfl) (fun hg => .fieldP (l1 rfl) (.t rfl) fld31_2)<| .guard (j := 9) (dj := 31) rfl (l1 rfl) rfl (l1 rfl) (fun hg => .loadP (l1 rfl) (.gd hg (.t rfl)) one28 rfl rfl rfl)<| .guard (j := 9) (dj := 31) rfl (l1 rfl) rfl (l1 rfl) (fun hg => .call0 (bw := false) (l1 rfl) (c68x1 (β1 := β2) n a0.Lf (gdB hy_2 hg)) (.cons (.gd hg (.t rfl)) (.ren rfl) (.cons (.func _ _ _) (.ren rfl) (.nil))) rfl)<| .guard (j := 9) (dj := 31) rfl (l1 rfl) rfl (l1 rfl) (fun hg => .not (l1 rfl) (.gd hg (.t rfl)))<| .cons (.pickAnd (l1 rfl) (.t rfl) (.t rfl) (.const _ _ _))<| .cons (.assign (l1 rfl) (.t rfl))<| .nil _ _ _) ?_
  refine AWP.ret ?_
  obtain rfl := Option.some.inj h
  refine retJ (Res.vc (s' := ⟨[(2,bW (((decide (a0.Sp = (0 : Int))) && (decide ((a0.Lf.length : Int) ≤ (40 : Int)))) && (!y_2)))],[]⟩) (VC.sub (.of rfl) (.n _)) ?_)
  refine Res.drop (H := []) rfl ?_
  exact Res.of rfl (.cons (.tmp rfl) (.nil)) rfl rfl
theorem c53 {β1 : Bool} {β2 : Bool} {β3 : Bool} (n : Nat) (a0 : R64) {r : Bool} (h : m53 n a0 = some r) : Spec Tryz.prog 53 [] [.agg (gW β1 β2 β3 a0.Gq a0.Path a0.Ln)] [] (bW r) [] := by
 refine Spec.of (fn := Tryz.f53) Tryz.func53 Tryz.ntmps53 rfl rfl (le1 rfl) (fun w0 Zs Zb T0 ι0 => ?_)
 unfold m53 at h
 refine AWP.sv (.cons (.box (t := 1) (n := 4) (l1 rfl) (nm rfl) (.t rfl) (by first | exact ⟨rfl,rfl⟩ | rfl) rfl)<| .cons (.assign (l1 rfl) (.const _ _ _))<| .nil _ _ _) ⟨[(1,.ptr 1 0)],[(1,⟨65,false,(gW β1 β2 β3 a0.Gq a0.Path a0.Ln)⟩)]⟩ rfl rfl ?_
 obtain ⟨y_1,hy_1,h⟩ := bindS h
 obtain ⟨y_2,hy_2,h⟩ := bindS h
 refine AWP.sr (.cons (.fieldP (l1 rfl) (.t rfl) fld65_0)<| .cons (.loadPA (l1 rfl) (.t rfl) agg37 rfl rfl rfl rfl)<| .cons (.call0 (bw := false) (l1 rfl) (c16 (β1 := β1) (β2 := β2) n (R24.mk a0.Gq.Pq a0.Gq.Bq) hy_1) (.cons (.t rfl) (.ren rfl) (.nil)) rfl)<| .cons (.move (l1 rfl) (.t rfl))<| .guard (j := 3) (dj := 6) rfl (l1 rfl) rfl (l1 rfl) (fun hg => .fieldP (l1 rfl) (.t rfl) fld65_0)<| .guard (j := 3) (dj := 6) rfl (l1 rfl) rfl (l1 rfl) (fun hg => .loadPA (l1 rfl) (.gd hg (.t rfl)) agg37 rfl rfl rfl rfl)<| .guard (j := 3) (dj := 6) rfl (l1 rfl) rfl (l1 rfl) (fun hg => .fieldP (l1 rfl) (.t rfl) fld65_1)<| .guard (j := 3) (dj := 6) rfl (l1 rfl) rfl (l1 rfl) (fun hg => .loadP (l1 rfl) (.gd hg (.t rfl)) one28 rfl rfl rfl)<| .guard (j := 3) (dj := 6) rfl (l1 rfl) rfl (l1 rfl) (fun hg => .call0 (bw := false) (l1 rfl) (c75 (β1 := β1) (β2 := β2) (β3 := β3) n (R24.mk a0.Gq.Pq a0.Gq.Bq) a0.Path (gdB hy_2 hg)) (.cons (.gd hg (.t rfl)) (.ren rfl) (.cons (.gd hg (.t rfl)) (.ren rfl) (.nil))) rfl)<| .cons (.pickAnd (l1 rfl) (.t rfl) (.t rfl) (.const _ _ _))<| .cons (.move (l1 rfl) (.t rfl))<| .guard (j := 10) (dj := 13) rfl (l1 rfl) rfl (l1 rfl) (fun hg => .fieldP (l1 rfl) (.t rfl) fld65_2)<| .guard (j := 10) (dj := 13) rfl (l1 rfl) rfl (l1 rfl) (fun hg => .loadP (l1 rfl) (.gd hg (.t rfl)) one3 rfl rfl rfl)<| .guard (j := 10) (dj := 13) rfl (l1 rfl) rfl (l1 rfl) (fun hg => .geq (l1 rfl) (.gd hg (.t rfl)) (.const _ _ _))<| .cons (.pickAnd (l1 rfl) (.t rfl) (.t rfl) (.const _ _ _))<| .cons (.move (l1 rfl) (.t rfl))<| .guard (j := 15) (dj := 18) rfl (l1 rfl) rfl (l1 rfl) (fun hg => .fieldP (l1 rfl) (.t rfl) fld65_2)<| .guard (j := 15) (dj := 18) rfl (l1 rfl) rfl (l1 rfl) (fun hg => .loadP (l1 rfl) (.gd hg (.t rfl)) one3 rfl rfl rfl)<| .guard (j := 15) (dj := 18) rfl (l1 rfl) rfl (l1 rfl) (fun hg => .leq (l1 rfl) (.gd hg (.t rfl)) (.const _ _ _))<| .cons (.pickAnd (l1 rfl) (.t rfl) (.t rfl) (.const _ _ _))<| .cons (.assign (l1 rfl) (.t rfl))<| .nil _ _ _) ?_
 refine AWP.ret ?_
 obtain rfl := Option.some.inj h
 refine retJ (Res.vc (s' := ⟨[(2,bW (((y_1 && y_2) && (decide ((-1073741824 : Int) ≤ a0.Ln))) && (decide (a0.Ln ≤ (1073741824 : Int)))))],[]⟩) (VC.sub (.of rfl) (.n _)) ?_)
 refine Res.drop (H := []) rfl ?_
 exact Res.of rfl (.cons (.tmp rfl) (.nil)) rfl rfl
theorem c22 {β3 : Bool} (n : Nat) (a0 : R64) (a1 : Int) {r : ((List R64) × Bool)} (h : m22 n a0 a1 = some r) : Spec Tryz.prog 22 [] [.agg (gW false false β3 a0.Gq a0.Path a0.Ln),iW a1] [] (.tup [rW false r.1 encR64,bW r.2]) [] := by
 refine Spec.of (fn := Tryz.f22) Tryz.func22 Tryz.ntmps22 rfl rfl (le1 rfl) (fun w0 Zs Zb T0 ι0 => ?_)
 unfold m22 at h
 refine AWP.sv (.cons (.box (t := 1) (n := 4) (l1 rfl) (nm rfl) (.t rfl) (by first | exact ⟨rfl,rfl⟩ | rfl) rfl)<| .cons (.assign (l1 rfl) (.const _ _ _))<| .cons (.assign (l1 rfl) (.const _ _ _))<| .nil _ _ _) ⟨[(1,iW a1),(2,.ptr 1 0)],[(1,⟨65,false,(gW false false β3 a0.Gq a0.Path a0.Ln)⟩)]⟩ rfl rfl ?_
 refine AWP.seq ?_
 obtain ⟨y_1,hy_1,h⟩ := bindS h
 refine AWP.sv (.cons (.move (l1 rfl) (.t rfl))<| .cons (.neq (l1 rfl) (.t rfl) (.const _ _ _))<| .cons (.move (l1 rfl) (.t rfl))<| .guard (j := 2) (dj := 11) rfl (l1 rfl) rfl (l1 rfl) (fun hg => .loadPA (l1 rfl) (.t rfl) agg65 rfl rfl rfl rfl)<| .guard (j := 2) (dj := 11) rfl (l1 rfl) rfl (l1 rfl) (fun hg => .call0 (bw := false) (l1 rfl) (c53 (β1 := false) (β2 := false) (β3 := β3) n (R64.mk (R24.mk a0.Gq.Pq a0.Gq.Bq) a0.Path a0.Ln) (gdB hy_1 hg)) (.cons (.gd hg (.t rfl)) (.ren rfl) (.nil)) rfl)<| .guard (j := 2) (dj := 11) rfl (l1 rfl) rfl (l1 rfl) (fun hg => .not (l1 rfl) (.gd hg (.t rfl)))<| .cons (.pickOr (l1 rfl) (.t rfl) (.const _ _ _) (.t rfl))<| .cons (.move (l1 rfl) (.t rfl))<| .guard (j := 7) (dj := 16) rfl (l1 rfl) rfl (l1 rfl) (fun hg => .fieldP (l1 rfl) (.t rfl) fld65_1)<| .guard (j := 7) (dj := 16) rfl (l1 rfl) rfl (l1 rfl) (fun hg => .loadP (l1 rfl) (.gd hg (.t rfl)) one28 rfl rfl rfl)<| .guard (j := 7) (dj := 16) rfl (l1 rfl) rfl (l1 rfl) (fun hg => .lenRd (l1 rfl) (.gd hg (.t rfl)) Tryz.underlying28)<| .guard (j := 7) (dj := 16) rfl (l1 rfl) rfl (l1 rfl) (fun hg => .fieldP (l1 rfl) (.t rfl) fld65_0)<| .guard (j := 7) (dj := 16) rfl (l1 rfl) rfl (l1 rfl) (fun hg => .fieldP (l1 rfl) (.gd hg (.t rfl)) fld37_0)<| .guard (j := 7) (dj := 16) rfl (l1 rfl) rfl (l1 rfl) (fun hg => .loadP (l1 rfl) (.gd hg (.t rfl)) one22 rfl rfl rfl)<| .guard (j := 7) (dj := 16) rfl (l1 rfl) rfl (l1 rfl) (fun hg => .lenRd (l1 rfl) (.gd hg (.t rfl)) Tryz.underlying22)<| .guard (j := 7) (dj := 16) rfl (l1 rfl) rfl (l1 rfl) (fun hg => .eql (l1 rfl) (.gd hg (.t rfl)) (.gd hg (.t rfl)))<| .cons (.pickOr (l1 rfl) (.t rfl) (.const _ _ _) (.t rfl))<| .nil _ _ _) ⟨[(2,.ptr 1 0),(25,bW (((!decide (a1 = (0 : Int))) || (!y_1)) || (decide ((a0.Path.length : Int) = (a0.Gq.Pq.length : Int)))))],[(1,⟨65,false,(gW false false β3 a0.Gq a0.Path a0.Ln)⟩)]⟩ rfl rfl ?_
 refine AWP.cond (.t rfl) (fun hc => ?_) (fun hc => ?_)
 ·have h := iteT hc h
  refine AWP.sr (.cons (.assign (l1 rfl) (.const _ _ _))<| .cons (.assign (l1 rfl) (.const _ _ _))<| .nil _ _ _) ?_
  refine AWP.ret ?_
  obtain rfl := Option.some.inj h
  refine retJ (Res.vc (s' := ⟨[(4,rW false ([] : List R64) encR64),(5,bW false)],[]⟩) (VC.trans (VC.nilRd (d := 4) false rfl) (VC.sub (.of rfl) (.n _))) ?_)
  refine Res.drop (H := []) rfl ?_
  exact Res.of rfl (.cons (.tmp rfl) (.cons (.tmp rfl) (.nil))) rfl rfl
 ·have h := iteF hc h
  refine AWP.skip ?_
  refine AWP.sv (.cons (.assign (l1 rfl) (.const _ _ _))<| .nil _ _ _) ⟨[(2,.ptr 1 0),(6,.sc (.slice none 0 0))],[(1,⟨65,false,(gW false false β3 a0.Gq a0.Path a0.Ln)⟩)]⟩ rfl rfl ?_
  refine AWP.seq ?_
  obtain ⟨y_2,hy_2,h⟩ := bindS h
  refine AWP.sv (.cons (.fieldP (l1 rfl) (.t rfl) fld65_0)<| .cons (.loadPA (l1 rfl) (.t rfl) agg37 rfl rfl rfl rfl)<| .cons (.fieldP (l1 rfl) (.t rfl) fld65_1)<| .cons (.loadP (l1 rfl) (.t rfl) one28 rfl rfl rfl)<| .cons (.call0 (bw := false) (l1 rfl) (c54 (β1 := false) (β2 := false) (β3 := β3) n (R24.mk a0.Gq.Pq a0.Gq.Bq) a0.Path hy_2) (.cons (.t rfl) (.ren rfl) (.cons (.t rfl) (.ren rfl) (.nil))) rfl)<| .cons (.lenRd (l1 rfl) (.t rfl) Tryz.underlying28)<| .cons (.move (l1 rfl) (.const _ _ _))<| .nil _ _ _) ⟨[(2,.ptr 1 0),(6,.sc (.slice none 0 0)),(30,rW false y_2 eW),(31,iW (y_2.length : Int)),(32,iW (0 : Int))],[(1,⟨65,false,(gW false false β3 a0.Gq a0.Path a0.Ln)⟩)]⟩ rfl rfl ?_
  refine AWP.joinB' (S := fun p_22 : (List R64) => ⟨[(6,.own 2 4 0 p_22.length)],[(2,⟨65,true,p_22.flatMap encR64⟩)]⟩) h (fun p_22 h => ?_) (fun k_23 h => ?_)
  ·refine AWP.sr (.cons (.move (l1 rfl) (.t rfl))<| .cons (.assign (l1 rfl) (.t rfl))<| .cons (.assign (l1 rfl) (.const _ _ _))<| .nil _ _ _) ?_
   refine AWP.ret ?_
   obtain rfl := Option.some.inj h
   refine retJ (Res.vc (s' := ⟨[(4,rW false p_22 encR64),(5,bW true)],[]⟩) (VC.trans (VC.frz (d := 4) (t := 2) rfl rfl encR64_len) (VC.sub (.of rfl) (.n _))) ?_)
   refine Res.drop (H := []) rfl ?_
   exact Res.of rfl (.cons (.tmp rfl) (.cons (.tmp rfl) (.nil))) rfl rfl
  ·refine AWP.vc (VC.nilOwn (d := 6) (t := 2) (sz := 4) (E := 65) rfl (nm rfl)) ?_
   refine AWP.vs ⟨[(2,.ptr 1 0),(6,.own 2 4 0 ([] : List R64).length),(30,rW false y_2 eW),(31,iW (y_2.length : Int)),(32,iW (0 : Int))],[(1,⟨65,false,(gW false false β3 a0.Gq a0.Path a0.Ln)⟩),(2,⟨65,true,([] : List R64).flatMap encR64⟩)]⟩ rfl rfl ?_
   refine AWP.loopM (S := fun x_15 : Int × (List R64) => ⟨[(2,.ptr 1 0),(6,.own 2 4 0 x_15.2.length),(30,rW false y_2 eW),(31,iW (y_2.length : Int)),(32,iW x_15.1)],[(1,⟨65,false,(gW false false β3 a0.Gq a0.Path a0.Ln)⟩),(2,⟨65,true,x_15.2.flatMap encR64⟩)]⟩) (x := ((0 : Int),([] : List R64))) (fun nx_16 x_15 h => ?_) h
   unfold m22_L1 at h
   refine AWP.sv (.cons (.lss (l1 rfl) (.t rfl) (.t rfl))<| .nil _ _ _) ⟨[(2,.ptr 1 0),(6,.own 2 4 0 x_15.2.length),(30,rW false y_2 eW),(31,iW (y_2.length : Int)),(32,iW x_15.1),(33,bW (decide (x_15.1 < (y_2.length : Int))))],[(1,⟨65,false,(gW false false β3 a0.Gq a0.Path a0.Ln)⟩),(2,⟨65,true,x_15.2.flatMap encR64⟩)]⟩ rfl rfl ?_
   refine AWP.seq ?_
   refine AWP.cond (.t rfl) (fun hc => ?_) (fun hc => ?_)
   ·have h := iteT hc h
    refine AWP.skip ?_
    refine AWP.seq ?_
    refine AWP.block ?_
    obtain ⟨y_17,hy_17,h⟩ := bindS h
    refine AWP.sv (.cons (.indexRd (enc := eW) (l1 rfl) (.t rfl) (.t rfl) Tryz.underlying28 sz3 (encI_len .i64) rfl hy_17)<| .cons (.loadR (v := iW y_17) (l1 rfl) (.t rfl) one3 rfl)<| .cons (.assign (l1 rfl) (.t rfl))<| .nil _ _ _) ⟨[(2,.ptr 1 0),(6,.own 2 4 0 x_15.2.length),(30,rW false y_2 eW),(31,iW (y_2.length : Int)),(32,iW x_15.1),(8,iW y_17)],[(1,⟨65,false,(gW false false β3 a0.Gq a0.Path a0.Ln)⟩),(2,⟨65,true,x_15.2.flatMap encR64⟩)]⟩ rfl rfl ?_
    obtain ⟨y_18,hy_18,h⟩ := bindS h
    obtain ⟨l3_19,hl3_19,h⟩ := bindS h
    obtain ⟨l2_20,hl2_20,h⟩ := bindS h
    refine AWP.dw mixed [(2,.ptr 1 0),(6,.own 2 4 0 x_15.2.length),(8,iW y_17),(30,rW false y_2 eW),(31,iW (y_2.length : Int)),(32,iW x_15.1)] [(1,[13,14]),(6,[13]),(11,[8])] [⟨[1],0,2,some (36,.own 2 4 0 x_15.2.length),[]⟩,⟨[0],0,2,some (37,.ptr 1 (0 + 0)),[]⟩,⟨[7],0,2,some (38,.agg (pW false false a0.Gq)),[]⟩,dO [0] 39 (.ptr 1 (0 + 2)),dO [9] 40 (rW β3 a0.Path eW),⟨[10],0,0,some (41,.own 3 1 0 y_18.length),[3]⟩,⟨[2],0,3,some (42,iW y_17),[]⟩,⟨[12],0,3,some (43,rW false ([y_17] : List Int) eW),[]⟩,⟨[11,13],1,1,some (44,rW false l3_19 eW),[3]⟩,⟨[0],0,2,some (45,.ptr 1 (0 + 3)),[]⟩,⟨[15],0,2,some (46,iW a0.Ln),[]⟩,⟨[8,14,16],0,3,some (47,.agg [rW false a0.Gq.Pq e50,rW false a0.Gq.Bq e71,rW false l3_19 eW,iW a0.Ln]),[]⟩,⟨[17],0,3,some (48,rW false ([(R64.mk (R24.mk a0.Gq.Pq a0.Gq.Bq) l3_19 a0.Ln)] : List R64) encR64),[]⟩,⟨[6,18],2,2,some (49,.own 2 4 0 l2_20.length),[2]⟩,⟨[19],3,3,some (6,.own 2 4 0 l2_20.length),[]⟩] [5,8,13] [[(1,⟨65,false,(gW false false β3 a0.Gq a0.Path a0.Ln)⟩),(2,⟨65,true,x_15.2.flatMap encR64⟩)],[(3,⟨3,true,y_18.flatMap eW⟩),(1,⟨65,false,(gW false false β3 a0.Gq a0.Path a0.Ln)⟩),(2,⟨65,true,x_15.2.flatMap encR64⟩)],[(1,⟨65,false,(gW false false β3 a0.Gq a0.Path a0.Ln)⟩),(2,⟨65,true,x_15.2.flatMap encR64⟩)],[(2,⟨65,true,l2_20.flatMap encR64⟩),(1,⟨65,false,(gW false false β3 a0.Gq a0.Path a0.Ln)⟩)]] [[],[],[1,2],[],[3,4],[3,5],[],[6,7],[3,8],[],[9,10],[1,11],[1,12],[0,13],[0,14]] [0,20,3,4,5] rfl rfl (by kernel_rfl) rfl (.read rfl (.c (.put (fun E hE => .move (l1 rfl) (hE.t 0 rfl))) (.c (.put (fun E hE => .move (l1 rfl) (hE.t 0 rfl))) (.c (.put (fun E hE => .move (l1 rfl) (hE.t 0 rfl))) (.n))))<| .read rfl (.c (.put (fun E hE => .fieldP (l1 rfl) (hE.t 0 rfl) fld65_0)) (.c (.put (fun E hE => .fieldP (l1 rfl) (hE.t 0 rfl) fld65_0)) (.c (.put (fun E hE => .fieldP (l1 rfl) (hE.t 0 rfl) fld65_0)) (.n))))<| .read rfl (.c (.put (fun E hE => .loadPA (l1 rfl) (hE.t 0 rfl) agg37 rfl rfl rfl rfl)) (.c (.put (fun E hE => .loadPA (l1 rfl) (hE.t 0 rfl) agg37 rfl rfl rfl rfl)) (.c (.put (fun E hE => .loadPA (l1 rfl) (hE.t 0 rfl) agg37 rfl rfl rfl rfl)) (.n))))<| .read rfl (.c (.put (fun E hE => .fieldP (l1 rfl) (hE.t 0 rfl) fld65_1)) (.n))<| .read rfl (.c (.put (fun E hE => .loadP (l1 rfl) (hE.t 0 rfl) one28 rfl rfl rfl)) (.n))<| .turn rfl rfl rfl rfl rfl (.called (fun E hE => AStep.call (σ := fun _ => 3) (bw := false) (l1 rfl) (c43o (β1 := β3) n a0.Path hy_18) (.cons (hE.t 0 rfl) (.ren rfl) (.nil)) (CallOk.mk' (.n) rfl)) rfl rfl rfl)<| .p rfl (fun _ q _ => .move (l1 rfl) (q.t 0 rfl))<| .p rfl (fun _ q _ => .frzAny (fun t ht => AStep.buildSlice (t := t) (out := ([y_17] : List Int).flatMap eW) (l1 rfl) ht (.cons (q.t 0 rfl) (by first | exact ⟨rfl,rfl⟩ | rfl) (.nil)) Tryz.underlying28 zero3 el3 (by decide) (by decide) rfl (still_all (encI_still .i64) _)) rfl (encI_len .i64))<| .turn rfl rfl rfl rfl rfl (.appFrz (fun E hE => .app (enc := eW) (l1 rfl) (nm rfl) (hE.t 0 rfl) (Src.rd (hE.t 1 rfl) (flatMap_length (encI_len .i64) _) (one_all (encI_one .i64) _) (.inl rfl)) Tryz.underlying28 ⟨_,Tryz.underlying28,by intro k hk; cases hk⟩ el3 rfl (encI_len .i64) rfl rfl (by decide) hl3_19) rfl (encI_len .i64))<| .read rfl (.c (.put (fun E hE => .fieldP (l1 rfl) (hE.t 0 rfl) fld65_2)) (.c (.put (fun E hE => .fieldP (l1 rfl) (hE.t 0 rfl) fld65_2)) (.c (.put (fun E hE => .fieldP (l1 rfl) (hE.t 0 rfl) fld65_2)) (.n))))<| .read rfl (.c (.put (fun E hE => .loadP (l1 rfl) (hE.t 0 rfl) one3 rfl rfl rfl)) (.c (.put (fun E hE => .loadP (l1 rfl) (hE.t 0 rfl) one3 rfl rfl rfl)) (.c (.put (fun E hE => .loadP (l1 rfl) (hE.t 0 rfl) one3 rfl rfl rfl)) (.n))))<| .p rfl (fun _ q _ => .buildO (offs := [(0,2),(2,1),(3,1)]) (l1 rfl) (.cons (q.t 0 rfl) (by first | exact ⟨rfl,rfl⟩ | rfl) (.cons (q.t 1 rfl) (by first | exact ⟨rfl,rfl⟩ | rfl) (.cons (q.t 2 rfl) (by first | exact ⟨rfl,rfl⟩ | rfl) (.nil)))) zero65 offs65 rfl)<| .p rfl (fun _ q _ => .frzAny (fun t ht => AStep.buildSlice (t := t) (out := ([(R64.mk (R24.mk a0.Gq.Pq a0.Gq.Bq) l3_19 a0.Ln)] : List R64).flatMap encR64) (l1 rfl) ht (.cons (q.t 0 rfl) (by first | exact ⟨rfl,rfl⟩ | rfl) (.nil)) Tryz.underlying95 zero65 el65 (by decide) (by decide) rfl (still_all encR64_still _)) rfl encR64_len)<| .turn rfl rfl rfl rfl rfl (.new (fun E hE => .app (enc := encR64) (l1 rfl) (nm rfl) (hE.t 0 rfl) (Src.rd (hE.t 1 rfl) (flatMap_length encR64_len _) (one_all encR64_one _) (.inl rfl)) Tryz.underlying95 ⟨_,Tryz.underlying95,by intro k hk; cases hk⟩ el65 rfl encR64_len rfl rfl (by decide) hl2_20) rfl)<| .read rfl (.c (.put (fun E hE => .assign (l1 rfl) (hE.t 0 rfl))) (.n))<| .nil _) rfl rfl ?_
    refine AWP.vs ⟨[(2,.ptr 1 0),(6,.own 2 4 0 l2_20.length),(30,rW false y_2 eW),(31,iW (y_2.length : Int)),(32,iW x_15.1)],[(2,⟨65,true,l2_20.flatMap encR64⟩),(1,⟨65,false,(gW false false β3 a0.Gq a0.Path a0.Ln)⟩)]⟩ rfl rfl ?_
    obtain ⟨t32_21,ht32_21,h⟩ := letS h
    refine AWP.rg (.cons (.add (l1 rfl) (.t rfl) (.const _ _ _))<| .cons (.move (l1 rfl) (.t rfl))<| .nil _ _ _) ?_
    exact endJ (t32_21,l2_20) h (by subst ht32_21; exact VC.sub (.of rfl) (.of rfl))
   ·have h := iteF hc h
    refine AWP.exit ?_
    exact endJ x_15.2 h (VC.sub (.of rfl) (.of rfl))
end Go.AB

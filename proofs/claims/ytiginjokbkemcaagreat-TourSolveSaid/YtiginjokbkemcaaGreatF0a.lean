import Derived.Test.YtiginjokbkemcaaGreatProg
import Derived.Test.YtiginjokbkemcaaGreatD
import Derived.KernelRfl
set_option linter.unusedVariables false
set_option maxRecDepth 20000
namespace Go.AB
open Go Go.Proofs
theorem c36 (n : Nat) (a0 : R50) {r : Bool} (h : m36 n a0 = some r) : Spec Tryz.prog 36 [] [.agg [iW a0.X,iW a0.Y]] [] (bW r) [] := by
 refine Spec.of (fn := Tryz.f36) Tryz.func36 Tryz.ntmps36 rfl rfl (le1 rfl) (fun w0 Zs Zb T0 ι0 => ?_)
 unfold m36 at h
 refine AWP.sv (.cons (.box (t := 1) (n := 2) (l1 rfl) (nm rfl) (.t rfl) (by first | exact ⟨rfl,rfl⟩ | rfl) rfl)<| .cons (.assign (l1 rfl) (.const _ _ _))<| .nil _ _ _) ⟨[(1,.ptr 1 0)],[(1,⟨51,false,[iW a0.X,iW a0.Y]⟩)]⟩ rfl rfl ?_
 refine AWP.sr (.cons (.fieldP (l1 rfl) (.t rfl) fld51_0)<| .cons (.loadP (l1 rfl) (.t rfl) one3 rfl rfl rfl)<| .cons (.lss (l1 rfl) (.t rfl) (.const _ _ _))<| .cons (.move (l1 rfl) (.t rfl))<| .guard (j := 3) (dj := 6) rfl (l1 rfl) rfl (l1 rfl) (fun hg => .fieldP (l1 rfl) (.t rfl) fld51_0)<| .guard (j := 3) (dj := 6) rfl (l1 rfl) rfl (l1 rfl) (fun hg => .loadP (l1 rfl) (.gd hg (.t rfl)) one3 rfl rfl rfl)<| .guard (j := 3) (dj := 6) rfl (l1 rfl) rfl (l1 rfl) (fun hg => .gtr (l1 rfl) (.gd hg (.t rfl)) (.const _ _ _))<| .cons (.pickOr (l1 rfl) (.t rfl) (.const _ _ _) (.t rfl))<| .cons (.move (l1 rfl) (.t rfl))<| .guard (j := 8) (dj := 11) rfl (l1 rfl) rfl (l1 rfl) (fun hg => .fieldP (l1 rfl) (.t rfl) fld51_1)<| .guard (j := 8) (dj := 11) rfl (l1 rfl) rfl (l1 rfl) (fun hg => .loadP (l1 rfl) (.gd hg (.t rfl)) one3 rfl rfl rfl)<| .guard (j := 8) (dj := 11) rfl (l1 rfl) rfl (l1 rfl) (fun hg => .lss (l1 rfl) (.gd hg (.t rfl)) (.const _ _ _))<| .cons (.pickOr (l1 rfl) (.t rfl) (.const _ _ _) (.t rfl))<| .cons (.move (l1 rfl) (.t rfl))<| .guard (j := 13) (dj := 16) rfl (l1 rfl) rfl (l1 rfl) (fun hg => .fieldP (l1 rfl) (.t rfl) fld51_1)<| .guard (j := 13) (dj := 16) rfl (l1 rfl) rfl (l1 rfl) (fun hg => .loadP (l1 rfl) (.gd hg (.t rfl)) one3 rfl rfl rfl)<| .guard (j := 13) (dj := 16) rfl (l1 rfl) rfl (l1 rfl) (fun hg => .gtr (l1 rfl) (.gd hg (.t rfl)) (.const _ _ _))<| .cons (.pickOr (l1 rfl) (.t rfl) (.const _ _ _) (.t rfl))<| .cons (.assign (l1 rfl) (.t rfl))<| .nil _ _ _) ?_
 refine AWP.ret ?_
 obtain rfl := Option.some.inj h
 refine retJ (Res.vc (s' := ⟨[(2,bW ((((decide (a0.X < (-8000 : Int))) || (decide ((8000 : Int) < a0.X))) || (decide (a0.Y < (-8000 : Int)))) || (decide ((8000 : Int) < a0.Y))))],[]⟩) (VC.sub (.of rfl) (.n _)) ?_)
 refine Res.drop (H := []) rfl ?_
 exact Res.of rfl (.cons (.tmp rfl) (.nil)) rfl rfl
theorem c73 {β1 : Bool} (n : Nat) (a0 : (List R50)) {r : Int} (h : m73 n a0 = some r) : Spec Tryz.prog 73 [] [rW β1 a0 e50,.clo (.func 36) [] []] [] (iW r) [] := by
 refine Spec.of (fn := Tryz.f73) Tryz.func73 Tryz.ntmps73 rfl rfl (le1 rfl) (fun w0 Zs Zb T0 ι0 => ?_)
 unfold m73 at h
 refine AWP.sv (.cons (.assign (l1 rfl) (.const _ _ _))<| .nil _ _ _) ⟨[(0,rW β1 a0 e50),(1,.clo (.func 36) [] [])],[]⟩ rfl rfl ?_
 refine AWP.seq ?_
 refine AWP.sv (.cons (.move (l1 rfl) (.t rfl))<| .cons (.lenRd (l1 rfl) (.t rfl) Tryz.underlying22)<| .cons (.move (l1 rfl) (.const _ _ _))<| .nil _ _ _) ⟨[(0,rW β1 a0 e50),(1,.clo (.func 36) [] []),(7,iW (a0.length : Int)),(8,iW (0 : Int))],[]⟩ rfl rfl ?_
 refine AWP.joinB' (S := fun p_10 : Unit => ⟨[],[]⟩) h (fun p_10 h => ?_) (fun k_11 h => ?_)
 ·refine AWP.sr (.cons (.assign (l1 rfl) (.const _ _ _))<| .nil _ _ _) ?_
  refine AWP.ret ?_
  obtain rfl := Option.some.inj h
  refine retJ (Res.vc (s' := ⟨[(4,iW (-1 : Int))],[]⟩) (VC.sub (.of rfl) (.n _)) ?_)
  refine Res.drop (H := []) rfl ?_
  exact Res.of rfl (.cons (.tmp rfl) (.nil)) rfl rfl
 ·refine AWP.vs ⟨[(0,rW β1 a0 e50),(1,.clo (.func 36) [] []),(7,iW (a0.length : Int)),(8,iW (0 : Int))],[]⟩ rfl rfl ?_
  refine AWP.loopM (S := fun x_5 : Int => ⟨[(0,rW β1 a0 e50),(1,.clo (.func 36) [] []),(7,iW (a0.length : Int)),(8,iW x_5)],[]⟩) (x := (0 : Int)) (fun nx_6 x_5 h => ?_) h
  unfold m73_L1 at h
  refine AWP.sv (.cons (.lss (l1 rfl) (.t rfl) (.t rfl))<| .nil _ _ _) ⟨[(0,rW β1 a0 e50),(1,.clo (.func 36) [] []),(7,iW (a0.length : Int)),(8,iW x_5),(9,bW (decide (x_5 < (a0.length : Int))))],[]⟩ rfl rfl ?_
  refine AWP.seq ?_
  refine AWP.cond (.t rfl) (fun hc => ?_) (fun hc => ?_)
  ·have h := iteT hc h
   refine AWP.skip ?_
   refine AWP.seq ?_
   refine AWP.block ?_
   refine AWP.sv (.cons (.move (l1 rfl) (.t rfl))<| .cons (.assign (l1 rfl) (.t rfl))<| .nil _ _ _) ⟨[(0,rW β1 a0 e50),(1,.clo (.func 36) [] []),(7,iW (a0.length : Int)),(8,iW x_5),(5,iW x_5)],[]⟩ rfl rfl ?_
   obtain ⟨y_7,hy_7,h⟩ := bindS h
   obtain ⟨y_8,hy_8,h⟩ := bindS h
   refine AWP.sv (.cons (.move (l1 rfl) (.t rfl))<| .cons (.move (l1 rfl) (.t rfl))<| .cons (.move (l1 rfl) (.t rfl))<| .cons (.indexRd (enc := e50) (l1 rfl) (.t rfl) (.t rfl) Tryz.underlying22 sz51 encR50_len rfl hy_7)<| .cons (.loadRA (out := [iW y_7.X,iW y_7.Y]) (l1 rfl) (.t rfl) agg51 (Nat.le_of_eq (Eq.symm (encR50_len _))) rfl)<| .cons (.keep (bw := false) (AStep.callV (us' := []) (avs := [.agg [iW ((R50.mk y_7.X y_7.Y).X),iW ((R50.mk y_7.X y_7.Y).Y)]]) (cs' := []) (σ := sgT []) (bw := false) (l1 rfl) (.t rfl) (c36 n (R50.mk y_7.X y_7.Y) hy_8) (.nil) (.cons (.t rfl) (.ren rfl) (.nil)) (.nil) (CallOk.mk' (.n) rfl) (fun _ h => by cases h)) (CallOk.mk' (.n) rfl) rfl rfl)<| .nil _ _ _) ⟨[(0,rW β1 a0 e50),(1,.clo (.func 36) [] []),(7,iW (a0.length : Int)),(8,iW x_5),(5,iW x_5),(16,bW y_8)],[]⟩ rfl rfl ?_
   refine AWP.cond (.t rfl) (fun hc => ?_) (fun hc => ?_)
   ·have h := iteT hc h
    refine AWP.sr (.cons (.move (l1 rfl) (.t rfl))<| .cons (.assign (l1 rfl) (.t rfl))<| .nil _ _ _) ?_
    refine AWP.ret ?_
    obtain rfl := Option.some.inj h
    refine retJ (Res.vc (s' := ⟨[(4,iW x_5)],[]⟩) (VC.sub (.of rfl) (.n _)) ?_)
    refine Res.drop (H := []) rfl ?_
    exact Res.of rfl (.cons (.tmp rfl) (.nil)) rfl rfl
   ·have h := iteF hc h
    refine AWP.skip ?_
    obtain ⟨t8_9,ht8_9,h⟩ := letS h
    refine AWP.rg (.cons (.add (l1 rfl) (.t rfl) (.const _ _ _))<| .cons (.move (l1 rfl) (.t rfl))<| .nil _ _ _) ?_
    exact endJ t8_9 h (by subst ht8_9; exact VC.sub (.of rfl) (.n _))
  ·have h := iteF hc h
   refine AWP.exit ?_
   exact endJ () h (VC.sub (.n _) (.n _))
theorem c38 {β1 : Bool} (n : Nat) (a0 : (List R50)) {r : Bool} (h : m38 n a0 = some r) : Spec Tryz.prog 38 [] [rW β1 a0 e50,.clo (.func 36) [] []] [] (bW r) [] := by
 refine Spec.of (fn := Tryz.f38) Tryz.func38 Tryz.ntmps38 rfl rfl (le1 rfl) (fun w0 Zs Zb T0 ι0 => ?_)
 unfold m38 at h
 refine AWP.sv (.cons (.assign (l1 rfl) (.const _ _ _))<| .nil _ _ _) ⟨[(0,rW β1 a0 e50),(1,.clo (.func 36) [] [])],[]⟩ rfl rfl ?_
 obtain ⟨y_1,hy_1,h⟩ := bindS h
 refine AWP.sr (.cons (.move (l1 rfl) (.t rfl))<| .cons (.move (l1 rfl) (.t rfl))<| .cons (.call0 (bw := false) (l1 rfl) (c73 (β1 := β1) n a0 hy_1) (.cons (.t rfl) (.ren rfl) (.cons (.t rfl) (.ren rfl) (.nil))) rfl)<| .cons (.geq (l1 rfl) (.t rfl) (.const _ _ _))<| .cons (.assign (l1 rfl) (.t rfl))<| .nil _ _ _) ?_
 refine AWP.ret ?_
 obtain rfl := Option.some.inj h
 refine retJ (Res.vc (s' := ⟨[(4,bW (decide ((0 : Int) ≤ y_1)))],[]⟩) (VC.sub (.of rfl) (.n _)) ?_)
 refine Res.drop (H := []) rfl ?_
 exact Res.of rfl (.cons (.tmp rfl) (.nil)) rfl rfl
theorem c37 (n : Nat) (a0 : R71) (a1_b0 : Int) {r : Bool} (h : m37 n a0 a1_b0 = some r) : Spec Tryz.prog 37 [1] [.agg [iW a0.f0,iW a0.f1],.ptr 1 0] [(1,⟨3,false,[iW a1_b0]⟩)] (bW r) [(1,⟨3,false,[iW a1_b0]⟩)] := by
 refine Spec.of (fn := Tryz.f37) Tryz.func37 Tryz.ntmps37 rfl rfl (le1 rfl) (fun w0 Zs Zb T0 ι0 => ?_)
 unfold m37 at h
 refine AWP.sv (.cons (.box (t := 2) (n := 2) (l1 rfl) (nm rfl) (.t rfl) (by first | exact ⟨rfl,rfl⟩ | rfl) rfl)<| .cons (.assign (l1 rfl) (.const _ _ _))<| .nil _ _ _) ⟨[(1,.ptr 1 0),(2,.ptr 2 0)],[(2,⟨71,false,[iW a0.f0,iW a0.f1]⟩),(1,⟨3,false,[iW a1_b0]⟩)]⟩ rfl rfl ?_
 refine AWP.sr (.cons (.idxP (l1 rfl) (.t rfl) (.const _ _ _) Tryz.underlying71 sz3 (by decide) rfl)<| .cons (.loadP (l1 rfl) (.t rfl) one3 rfl rfl rfl)<| .cons (.lss (l1 rfl) (.t rfl) (.const _ _ _))<| .cons (.move (l1 rfl) (.t rfl))<| .guard (j := 3) (dj := 7) rfl (l1 rfl) rfl (l1 rfl) (fun hg => .idxP (l1 rfl) (.t rfl) (.const _ _ _) Tryz.underlying71 sz3 (by decide) rfl)<| .guard (j := 3) (dj := 7) rfl (l1 rfl) rfl (l1 rfl) (fun hg => .loadP (l1 rfl) (.gd hg (.t rfl)) one3 rfl rfl rfl)<| .guard (j := 3) (dj := 7) rfl (l1 rfl) rfl (l1 rfl) (fun hg => .loadP (l1 rfl) (.t rfl) one3 rfl rfl rfl)<| .guard (j := 3) (dj := 7) rfl (l1 rfl) rfl (l1 rfl) (fun hg => .geq (l1 rfl) (.gd hg (.t rfl)) (.gd hg (.t rfl)))<| .cons (.pickOr (l1 rfl) (.t rfl) (.const _ _ _) (.t rfl))<| .cons (.move (l1 rfl) (.t rfl))<| .guard (j := 9) (dj := 13) rfl (l1 rfl) rfl (l1 rfl) (fun hg => .idxP (l1 rfl) (.t rfl) (.const _ _ _) Tryz.underlying71 sz3 (by decide) rfl)<| .guard (j := 9) (dj := 13) rfl (l1 rfl) rfl (l1 rfl) (fun hg => .loadP (l1 rfl) (.gd hg (.t rfl)) one3 rfl rfl rfl)<| .guard (j := 9) (dj := 13) rfl (l1 rfl) rfl (l1 rfl) (fun hg => .lss (l1 rfl) (.gd hg (.t rfl)) (.const _ _ _))<| .cons (.pickOr (l1 rfl) (.t rfl) (.const _ _ _) (.t rfl))<| .cons (.move (l1 rfl) (.t rfl))<| .guard (j := 14) (dj := 18) rfl (l1 rfl) rfl (l1 rfl) (fun hg => .idxP (l1 rfl) (.t rfl) (.const _ _ _) Tryz.underlying71 sz3 (by decide) rfl)<| .guard (j := 14) (dj := 18) rfl (l1 rfl) rfl (l1 rfl) (fun hg => .loadP (l1 rfl) (.gd hg (.t rfl)) one3 rfl rfl rfl)<| .guard (j := 14) (dj := 18) rfl (l1 rfl) rfl (l1 rfl) (fun hg => .loadP (l1 rfl) (.t rfl) one3 rfl rfl rfl)<| .guard (j := 14) (dj := 18) rfl (l1 rfl) rfl (l1 rfl) (fun hg => .geq (l1 rfl) (.gd hg (.t rfl)) (.gd hg (.t rfl)))<| .cons (.pickOr (l1 rfl) (.t rfl) (.const _ _ _) (.t rfl))<| .cons (.move (l1 rfl) (.t rfl))<| .guard (j := 20) (dj := 24) rfl (l1 rfl) rfl (l1 rfl) (fun hg => .idxP (l1 rfl) (.t rfl) (.const _ _ _) Tryz.underlying71 sz3 (by decide) rfl)<| .guard (j := 20) (dj := 24) rfl (l1 rfl) rfl (l1 rfl) (fun hg => .loadP (l1 rfl) (.gd hg (.t rfl)) one3 rfl rfl rfl)<| .guard (j := 20) (dj := 24) rfl (l1 rfl) rfl (l1 rfl) (fun hg => .idxP (l1 rfl) (.t rfl) (.const _ _ _) Tryz.underlying71 sz3 (by decide) rfl)<| .guard (j := 20) (dj := 24) rfl (l1 rfl) rfl (l1 rfl) (fun hg => .loadP (l1 rfl) (.gd hg (.t rfl)) one3 rfl rfl rfl)<| .guard (j := 20) (dj := 24) rfl (l1 rfl) rfl (l1 rfl) (fun hg => .eql (l1 rfl) (.gd hg (.t rfl)) (.gd hg (.t rfl)))<| .cons (.pickOr (l1 rfl) (.t rfl) (.const _ _ _) (.t rfl))<| .cons (.assign (l1 rfl) (.t rfl))<| .nil _ _ _) ?_
 refine AWP.ret ?_
 obtain rfl := Option.some.inj h
 refine retJ (Res.vc (s' := ⟨[(3,bW (((((decide (a0.f0 < (1 : Int))) || (decide (a1_b0 ≤ a0.f0))) || (decide (a0.f1 < (1 : Int)))) || (decide (a1_b0 ≤ a0.f1))) || (decide (a0.f0 = a0.f1))))],[(1,⟨3,false,[iW a1_b0]⟩)]⟩) (VC.sub (.of rfl) (.of rfl)) ?_)
 refine Res.sub (H := [(1,⟨3,false,[iW a1_b0]⟩)]) (.of rfl) ?_
 exact Res.of rfl (.cons (.tmp rfl) (.nil)) rfl rfl
theorem c74 {β1 : Bool} (n : Nat) (a0 : (List R71)) (a1_0_b0 : Int) {r : Int} (h : m74 n a0 a1_0_b0 = some r) : Spec Tryz.prog 74 [1] [rW β1 a0 e71,.clo (.func 37) [] [.ptr 1 0]] [(1,⟨3,false,[iW a1_0_b0]⟩)] (iW r) [(1,⟨3,false,[iW a1_0_b0]⟩)] := by
 refine Spec.of (fn := Tryz.f74) Tryz.func74 Tryz.ntmps74 rfl rfl (le1 rfl) (fun w0 Zs Zb T0 ι0 => ?_)
 unfold m74 at h
 refine AWP.sv (.cons (.assign (l1 rfl) (.const _ _ _))<| .nil _ _ _) ⟨[(0,rW β1 a0 e71),(1,.clo (.func 37) [] [.ptr 1 0])],[(1,⟨3,false,[iW a1_0_b0]⟩)]⟩ rfl rfl ?_
 refine AWP.seq ?_
 refine AWP.sv (.cons (.move (l1 rfl) (.t rfl))<| .cons (.lenRd (l1 rfl) (.t rfl) Tryz.underlying23)<| .cons (.move (l1 rfl) (.const _ _ _))<| .nil _ _ _) ⟨[(0,rW β1 a0 e71),(1,.clo (.func 37) [] [.ptr 1 0]),(7,iW (a0.length : Int)),(8,iW (0 : Int))],[(1,⟨3,false,[iW a1_0_b0]⟩)]⟩ rfl rfl ?_
 refine AWP.joinB' (S := fun p_10 : Unit => ⟨[],[(1,⟨3,false,[iW a1_0_b0]⟩)]⟩) h (fun p_10 h => ?_) (fun k_11 h => ?_)
 ·refine AWP.sr (.cons (.assign (l1 rfl) (.const _ _ _))<| .nil _ _ _) ?_
  refine AWP.ret ?_
  obtain rfl := Option.some.inj h
  refine retJ (Res.vc (s' := ⟨[(4,iW (-1 : Int))],[(1,⟨3,false,[iW a1_0_b0]⟩)]⟩) (VC.sub (.of rfl) (.of rfl)) ?_)
  refine Res.sub (H := [(1,⟨3,false,[iW a1_0_b0]⟩)]) (.of rfl) ?_
  exact Res.of rfl (.cons (.tmp rfl) (.nil)) rfl rfl
 ·refine AWP.vs ⟨[(0,rW β1 a0 e71),(1,.clo (.func 37) [] [.ptr 1 0]),(7,iW (a0.length : Int)),(8,iW (0 : Int))],[(1,⟨3,false,[iW a1_0_b0]⟩)]⟩ rfl rfl ?_
  refine AWP.loopM (S := fun x_5 : Int => ⟨[(0,rW β1 a0 e71),(1,.clo (.func 37) [] [.ptr 1 0]),(7,iW (a0.length : Int)),(8,iW x_5)],[(1,⟨3,false,[iW a1_0_b0]⟩)]⟩) (x := (0 : Int)) (fun nx_6 x_5 h => ?_) h
  unfold m74_L1 at h
  refine AWP.sv (.cons (.lss (l1 rfl) (.t rfl) (.t rfl))<| .nil _ _ _) ⟨[(0,rW β1 a0 e71),(1,.clo (.func 37) [] [.ptr 1 0]),(7,iW (a0.length : Int)),(8,iW x_5),(9,bW (decide (x_5 < (a0.length : Int))))],[(1,⟨3,false,[iW a1_0_b0]⟩)]⟩ rfl rfl ?_
  refine AWP.seq ?_
  refine AWP.cond (.t rfl) (fun hc => ?_) (fun hc => ?_)
  ·have h := iteT hc h
   refine AWP.skip ?_
   refine AWP.seq ?_
   refine AWP.block ?_
   refine AWP.sv (.cons (.move (l1 rfl) (.t rfl))<| .cons (.assign (l1 rfl) (.t rfl))<| .nil _ _ _) ⟨[(0,rW β1 a0 e71),(1,.clo (.func 37) [] [.ptr 1 0]),(7,iW (a0.length : Int)),(8,iW x_5),(5,iW x_5)],[(1,⟨3,false,[iW a1_0_b0]⟩)]⟩ rfl rfl ?_
   obtain ⟨y_7,hy_7,h⟩ := bindS h
   obtain ⟨y_8,hy_8,h⟩ := bindS h
   refine AWP.sv (.cons (.move (l1 rfl) (.t rfl))<| .cons (.move (l1 rfl) (.t rfl))<| .cons (.move (l1 rfl) (.t rfl))<| .cons (.indexRd (enc := e71) (l1 rfl) (.t rfl) (.t rfl) Tryz.underlying23 sz71 encR71_len rfl hy_7)<| .cons (.loadRA (out := [iW y_7.f0,iW y_7.f1]) (l1 rfl) (.t rfl) agg71 (Nat.le_of_eq (Eq.symm (encR71_len _))) rfl)<| .cons (.keep (bw := false) (AStep.callV (us' := []) (avs := [.agg [iW ((R71.mk y_7.f0 y_7.f1).f0),iW ((R71.mk y_7.f0 y_7.f1).f1)]]) (cs' := [.ptr 1 0]) (σ := fun _ => 1) (bw := false) (l1 rfl) (.t rfl) (c37 n (R71.mk y_7.f0 y_7.f1) a1_0_b0 hy_8) (.nil) (.cons (.t rfl) (.ren rfl) (.nil)) (.cons (.ren rfl) (.nil)) (CallOk.mk' (.c rfl (.n)) rfl) (fun _ h => by cases h)) (CallOk.mk' (.c rfl (.n)) rfl) rfl rfl)<| .nil _ _ _) ⟨[(0,rW β1 a0 e71),(1,.clo (.func 37) [] [.ptr 1 0]),(7,iW (a0.length : Int)),(8,iW x_5),(5,iW x_5),(16,bW y_8)],[(1,⟨3,false,[iW a1_0_b0]⟩)]⟩ rfl rfl ?_
   refine AWP.cond (.t rfl) (fun hc => ?_) (fun hc => ?_)
   ·have h := iteT hc h
    refine AWP.sr (.cons (.move (l1 rfl) (.t rfl))<| .cons (.assign (l1 rfl) (.t rfl))<| .nil _ _ _) ?_
    refine AWP.ret ?_
    obtain rfl := Option.some.inj h
    refine retJ (Res.vc (s' := ⟨[(4,iW x_5)],[(1,⟨3,false,[iW a1_0_b0]⟩)]⟩) (VC.sub (.of rfl) (.of rfl)) ?_)
    refine Res.sub (H := [(1,⟨3,false,[iW a1_0_b0]⟩)]) (.of rfl) ?_
    exact Res.of rfl (.cons (.tmp rfl) (.nil)) rfl rfl
   ·have h := iteF hc h
    refine AWP.skip ?_
    obtain ⟨t8_9,ht8_9,h⟩ := letS h
    refine AWP.rg (.cons (.add (l1 rfl) (.t rfl) (.const _ _ _))<| .cons (.move (l1 rfl) (.t rfl))<| .nil _ _ _) ?_
    exact endJ t8_9 h (by subst ht8_9; exact VC.sub (.of rfl) (.of rfl))
  ·have h := iteF hc h
   refine AWP.exit ?_
   exact endJ () h (VC.sub (.n _) (.of rfl))
theorem c39 {β1 : Bool} (n : Nat) (a0 : (List R71)) (a1_0_b0 : Int) {r : Bool} (h : m39 n a0 a1_0_b0 = some r) : Spec Tryz.prog 39 [1] [rW β1 a0 e71,.clo (.func 37) [] [.ptr 1 0]] [(1,⟨3,false,[iW a1_0_b0]⟩)] (bW r) [(1,⟨3,false,[iW a1_0_b0]⟩)] := by
 refine Spec.of (fn := Tryz.f39) Tryz.func39 Tryz.ntmps39 rfl rfl (le1 rfl) (fun w0 Zs Zb T0 ι0 => ?_)
 unfold m39 at h
 refine AWP.sv (.cons (.assign (l1 rfl) (.const _ _ _))<| .nil _ _ _) ⟨[(0,rW β1 a0 e71),(1,.clo (.func 37) [] [.ptr 1 0])],[(1,⟨3,false,[iW a1_0_b0]⟩)]⟩ rfl rfl ?_
 obtain ⟨y_1,hy_1,h⟩ := bindS h
 refine AWP.sr (.cons (.move (l1 rfl) (.t rfl))<| .cons (.move (l1 rfl) (.t rfl))<| .cons (.keep (bw := false) (AStep.call (σ := fun _ => 1) (bw := false) (l1 rfl) (c74 (β1 := β1) n a0 a1_0_b0 hy_1) (.cons (.t rfl) (.ren rfl) (.cons (.t rfl) (.ren rfl) (.nil))) (CallOk.mk' (.c rfl (.n)) rfl)) (CallOk.mk' (.c rfl (.n)) rfl) rfl rfl)<| .cons (.geq (l1 rfl) (.t rfl) (.const _ _ _))<| .cons (.assign (l1 rfl) (.t rfl))<| .nil _ _ _) ?_
 refine AWP.ret ?_
 obtain rfl := Option.some.inj h
 refine retJ (Res.vc (s' := ⟨[(4,bW (decide ((0 : Int) ≤ y_1)))],[(1,⟨3,false,[iW a1_0_b0]⟩)]⟩) (VC.sub (.of rfl) (.of rfl)) ?_)
 refine Res.sub (H := [(1,⟨3,false,[iW a1_0_b0]⟩)]) (.of rfl) ?_
 exact Res.of rfl (.cons (.tmp rfl) (.nil)) rfl rfl
theorem c79o {β1 : Bool} (n : Nat) (a0 : (List Bool)) {r : (List Bool)} (h : m79o n a0 = some r) : Spec Tryz.prog 79 [] [rW β1 a0 encB] [] (.own 1 1 0 r.length) [(1,⟨4,true,r.flatMap encB⟩)] := by
 refine Spec.of (fn := Tryz.f79) Tryz.func79 Tryz.ntmps79 rfl rfl (le1 rfl) (fun w0 Zs Zb T0 ι0 => ?_)
 unfold m79o at h
 refine AWP.sv (.cons (.assign (l1 rfl) (.const _ _ _))<| .nil _ _ _) ⟨[(0,rW β1 a0 encB)],[]⟩ rfl rfl ?_
 refine AWP.seq ?_
 refine AWP.seq ?_
 refine AWP.regionE (S := fun q_1 => ⟨[(0,rW β1 a0 encB),(4,bW (decide (a0.length = 0 ∧ q_1 = 0)))],[]⟩) (.cons (.move (l1 rfl) (.t rfl))<| .consE (AStepE.eqNil0 (l1 rfl) (.t rfl) Tryz.underlying117)<| fun q_1 => ARunE.nilV q_1 (VC.sub (.of rfl) (.n _))) (fun q_1 => ?_)
 refine AWP.cond (.t rfl) (fun hc => ?_) (fun hc => ?_)
 ·have h := cloneNil hc h
  refine AWP.sr (.cons (.assign (l1 rfl) (.const _ _ _))<| .nil _ _ _) ?_
  refine AWP.ret ?_
  obtain rfl := Option.some.inj h
  refine retJ (Res.vc (s' := ⟨[(2,.own 1 1 0 ([] : List Bool).length)],[(1,⟨4,true,([] : List Bool).flatMap encB⟩)]⟩) (VC.trans (VC.nilOwn (d := 2) (t := 1) (sz := 1) (E := 4) rfl (nm rfl)) (VC.sub (.of rfl) (.of rfl))) ?_)
  refine Res.sub (H := [(1,⟨4,true,([] : List Bool).flatMap encB⟩)]) (.of rfl) ?_
  exact Res.of rfl (.cons (.tmp rfl) (.nil)) rfl rfl
 ·refine AWP.skip ?_
  obtain ⟨l1_2,hl1_2,h⟩ := bindS h
  refine AWP.sr (.cons (.buildSlice (t := 1) (out := ([] : List Bool).flatMap encB) (l1 rfl) (nm rfl) (.nil) Tryz.underlying117 zero4 el4 (by decide) (by decide) rfl (still_all encB_still _))<| .cons (.move (l1 rfl) (.t rfl))<| .cons (.app (enc := encB) (l1 rfl) (nm rfl) (.t rfl) (Src.rd (.t rfl) (flatMap_length encB_len _) (one_all encB_one _) (.inr (scal_all encB_scal _))) Tryz.underlying117 ⟨_,Tryz.underlying117,by intro k hk; cases hk⟩ el4 rfl encB_len rfl rfl (by decide) hl1_2)<| .cons (.assign (l1 rfl) (.t rfl))<| .nil _ _ _) ?_
  refine AWP.ret ?_
  obtain rfl := Option.some.inj h
  refine retJ (Res.vc (s' := ⟨[(2,.own 1 1 0 l1_2.length)],[(1,⟨4,true,l1_2.flatMap encB⟩)]⟩) (VC.sub (.of rfl) (.of rfl)) ?_)
  refine Res.sub (H := [(1,⟨4,true,l1_2.flatMap encB⟩)]) (.of rfl) ?_
  exact Res.of rfl (.cons (.tmp rfl) (.nil)) rfl rfl
theorem c54 {β1 : Bool} {β2 : Bool} {β3 : Bool} (n : Nat) (a0 : R24) (a1 : (List Int)) {r : (List Int)} (h : m54 n a0 a1 = some r) : Spec Tryz.prog 54 [] [.agg (pW β1 β2 a0),rW β3 a1 eW] [] (rW false r eW) [] := by
 refine Spec.of (fn := Tryz.f54) Tryz.func54 Tryz.ntmps54 rfl rfl (le1 rfl) (fun w0 Zs Zb T0 ι0 => ?_)
 unfold m54 at h
 refine AWP.sv (.cons (.box (t := 1) (n := 2) (l1 rfl) (nm rfl) (.t rfl) (by first | exact ⟨rfl,rfl⟩ | rfl) rfl)<| .cons (.assign (l1 rfl) (.const _ _ _))<| .nil _ _ _) ⟨[(1,rW β3 a1 eW),(2,.ptr 1 0)],[(1,⟨37,false,(pW β1 β2 a0)⟩)]⟩ rfl rfl ?_
 obtain ⟨l2_1,hl2_1,h⟩ := bindS h
 refine AWP.sv (.cons (.fieldP (l1 rfl) (.t rfl) fld37_0)<| .cons (.loadP (l1 rfl) (.t rfl) one22 rfl rfl rfl)<| .cons (.lenRd (l1 rfl) (.t rfl) Tryz.underlying22)<| .cons (.mkS (enc := encB) (t := 2) (l1 rfl) (nm rfl) (.t rfl) (.t rfl) Tryz.underlying117 zero4 el4 rfl encB_len (by decide) hl2_1)<| .cons (.assign (l1 rfl) (.t rfl))<| .nil _ _ _) ⟨[(1,rW β3 a1 eW),(2,.ptr 1 0),(5,.own 2 1 0 l2_1.length)],[(2,⟨4,true,l2_1.flatMap encB⟩),(1,⟨37,false,(pW β1 β2 a0)⟩)]⟩ rfl rfl ?_
 refine AWP.seq ?_
 refine AWP.sv (.cons (.move (l1 rfl) (.t rfl))<| .cons (.lenRd (l1 rfl) (.t rfl) Tryz.underlying28)<| .cons (.move (l1 rfl) (.const _ _ _))<| .nil _ _ _) ⟨[(2,.ptr 1 0),(5,.own 2 1 0 l2_1.length),(18,rW β3 a1 eW),(19,iW (a1.length : Int)),(20,iW (0 : Int))],[(2,⟨4,true,l2_1.flatMap encB⟩),(1,⟨37,false,(pW β1 β2 a0)⟩)]⟩ rfl rfl ?_
 refine AWP.joinB' (S := fun p_18 : (List Bool) => ⟨[(2,.ptr 1 0),(5,.own 2 1 0 p_18.length)],[(1,⟨37,false,(pW β1 β2 a0)⟩),(2,⟨4,true,p_18.flatMap encB⟩)]⟩) h (fun p_18 h => ?_) (fun k_19 h => ?_)
 ·obtain ⟨y_20,hy_20,h⟩ := bindS h
  refine AWP.sv (.cons (.move (l1 rfl) (.t rfl))<| .cons (.call (σ := fun _ => 3) (bw := true) (l1 rfl) (c79o (β1 := true) n p_18 hy_20) (.cons (.t rfl) (.lendRow rfl rfl encB_len rfl) (.nil)) (CallOk.mk' (.n) rfl))<| .cons (.assign (l1 rfl) (.t rfl))<| .nil _ _ _) ⟨[(2,.ptr 1 0),(5,.own 2 1 0 p_18.length),(8,.own 3 1 0 y_20.length)],[(3,⟨4,true,y_20.flatMap encB⟩),(1,⟨37,false,(pW β1 β2 a0)⟩),(2,⟨4,true,p_18.flatMap encB⟩)]⟩ rfl rfl ?_
  refine AWP.seq ?_
  refine AWP.sv (.cons (.fieldP (l1 rfl) (.t rfl) fld37_1)<| .cons (.loadP (l1 rfl) (.t rfl) one23 rfl rfl rfl)<| .cons (.lenRd (l1 rfl) (.t rfl) Tryz.underlying23)<| .cons (.move (l1 rfl) (.const _ _ _))<| .nil _ _ _) ⟨[(5,.own 2 1 0 p_18.length),(8,.own 3 1 0 y_20.length),(31,rW β2 a0.Bq e71),(32,iW (a0.Bq.length : Int)),(33,iW (0 : Int))],[(3,⟨4,true,y_20.flatMap encB⟩),(2,⟨4,true,p_18.flatMap encB⟩)]⟩ rfl rfl ?_
  refine AWP.joinB' (S := fun p_46 : (List Bool) => ⟨[(8,.own 3 1 0 p_46.length)],[(3,⟨4,true,p_46.flatMap encB⟩)]⟩) h (fun p_46 h => ?_) (fun k_47 h => ?_)
  ·refine AWP.sv (.cons (.assign (l1 rfl) (.const _ _ _))<| .nil _ _ _) ⟨[(8,.own 3 1 0 p_46.length),(11,.sc (.slice none 0 0))],[(3,⟨4,true,p_46.flatMap encB⟩)]⟩ rfl rfl ?_
   refine AWP.seq ?_
   refine AWP.sv (.cons (.move (l1 rfl) (.t rfl))<| .cons (.lenOwn (l1 rfl) (.t rfl) Tryz.underlying117)<| .cons (.move (l1 rfl) (.const _ _ _))<| .nil _ _ _) ⟨[(11,.sc (.slice none 0 0)),(48,.own 3 1 0 p_46.length),(49,iW (p_46.length : Int)),(50,iW (0 : Int))],[(3,⟨4,true,p_46.flatMap encB⟩)]⟩ rfl rfl ?_
   refine AWP.joinB' (S := fun p_67 : (List Int) => ⟨[(11,.own 5 1 0 p_67.length)],[(5,⟨3,true,p_67.flatMap eW⟩)]⟩) h (fun p_67 h => ?_) (fun k_68 h => ?_)
   ·refine AWP.sr (.cons (.move (l1 rfl) (.t rfl))<| .cons (.assign (l1 rfl) (.t rfl))<| .nil _ _ _) ?_
    refine AWP.ret ?_
    obtain rfl := Option.some.inj h
    refine retJ (Res.vc (s' := ⟨[(4,rW false p_67 eW)],[]⟩) (VC.trans (VC.frz (d := 4) (t := 5) rfl rfl (encI_len .i64)) (VC.sub (.of rfl) (.n _))) ?_)
    refine Res.drop (H := []) rfl ?_
    exact Res.of rfl (.cons (.tmp rfl) (.nil)) rfl rfl
   ·refine AWP.vc (VC.nilOwn (d := 11) (t := 5) (sz := 1) (E := 3) rfl (nm rfl)) ?_
    refine AWP.vs ⟨[(11,.own 5 1 0 ([] : List Int).length),(48,.own 3 1 0 p_46.length),(49,iW (p_46.length : Int)),(50,iW (0 : Int))],[(3,⟨4,true,p_46.flatMap encB⟩),(5,⟨3,true,([] : List Int).flatMap eW⟩)]⟩ rfl rfl ?_
    refine AWP.loopM (S := fun x_60 : Int × (List Int) => ⟨[(11,.own 5 1 0 x_60.2.length),(48,.own 3 1 0 p_46.length),(49,iW (p_46.length : Int)),(50,iW x_60.1)],[(3,⟨4,true,p_46.flatMap encB⟩),(5,⟨3,true,x_60.2.flatMap eW⟩)]⟩) (x := ((0 : Int),([] : List Int))) (fun nx_61 x_60 h => ?_) h
    unfold m54_L3 at h
    refine AWP.sv (.cons (.lss (l1 rfl) (.t rfl) (.t rfl))<| .nil _ _ _) ⟨[(11,.own 5 1 0 x_60.2.length),(48,.own 3 1 0 p_46.length),(49,iW (p_46.length : Int)),(50,iW x_60.1),(51,bW (decide (x_60.1 < (p_46.length : Int))))],[(3,⟨4,true,p_46.flatMap encB⟩),(5,⟨3,true,x_60.2.flatMap eW⟩)]⟩ rfl rfl ?_
    refine AWP.seq ?_
    refine AWP.cond (.t rfl) (fun hc => ?_) (fun hc => ?_)
    ·have h := iteT hc h
     refine AWP.skip ?_
     refine AWP.seq ?_
     refine AWP.block ?_
     obtain ⟨y_62,hy_62,h⟩ := bindS h
     refine AWP.sv (.cons (.move (l1 rfl) (.t rfl))<| .cons (.idxOwn (l1 rfl) (.t rfl) (.t rfl) Tryz.underlying117 sz4 rfl hy_62)<| .cons (.loadP (l1 rfl) (.t rfl) one4 rfl (cell_at1 encB_len hy_62) rfl)<| .cons (.assign (l1 rfl) (.t rfl))<| .cons (.assign (l1 rfl) (.t rfl))<| .nil _ _ _) ⟨[(11,.own 5 1 0 x_60.2.length),(48,.own 3 1 0 p_46.length),(49,iW (p_46.length : Int)),(50,iW x_60.1),(12,iW x_60.1),(13,bW y_62)],[(3,⟨4,true,p_46.flatMap encB⟩),(5,⟨3,true,x_60.2.flatMap eW⟩)]⟩ rfl rfl ?_
     refine AWP.sv (.cons (.move (l1 rfl) (.t rfl))<| .cons (.not (l1 rfl) (.t rfl))<| .nil _ _ _) ⟨[(11,.own 5 1 0 x_60.2.length),(48,.own 3 1 0 p_46.length),(49,iW (p_46.length : Int)),(50,iW x_60.1),(12,iW x_60.1),(56,bW (!y_62))],[(3,⟨4,true,p_46.flatMap encB⟩),(5,⟨3,true,x_60.2.flatMap eW⟩)]⟩ rfl rfl ?_
     refine AWP.join' (S := fun p_64 : (List Int) => ⟨[(11,.own 5 1 0 p_64.length),(48,.own 3 1 0 p_46.length),(49,iW (p_46.length : Int)),(50,iW x_60.1)],[(3,⟨4,true,p_46.flatMap encB⟩),(5,⟨3,true,p_64.flatMap eW⟩)]⟩) h (fun p_64 h => ?_) (fun k_65 h => ?_)
     ·obtain ⟨t50_66,ht50_66,h⟩ := letS h
      refine AWP.rg (.cons (.add (l1 rfl) (.t rfl) (.const _ _ _))<| .cons (.move (l1 rfl) (.t rfl))<| .nil _ _ _) ?_
      exact endJ (t50_66,p_64) h (by subst ht50_66; exact VC.sub (.of rfl) (.of rfl))
     ·refine AWP.cond (.t rfl) (fun hc => ?_) (fun hc => ?_)
      ·have h := iteT hc h
       obtain ⟨l5_63,hl5_63,h⟩ := bindS h
       refine AWP.rg (.cons (.move (l1 rfl) (.t rfl))<| .cons (.move (l1 rfl) (.t rfl))<| .cons (.buildSlice (t := 6) (out := ([x_60.1] : List Int).flatMap eW) (l1 rfl) (nm rfl) (.cons (.t rfl) (by first | exact ⟨rfl,rfl⟩ | rfl) (.nil)) Tryz.underlying28 zero3 el3 (by decide) (by decide) rfl (still_all (encI_still .i64) _))<| .cons (.app (enc := eW) (l1 rfl) (nm rfl) (.t rfl) (Src.own (.t rfl) rfl (lendAll (encI_len .i64) _) (flatMap_length (encI_len .i64) _) (one_all (encI_one .i64) _) (.inl rfl)) Tryz.underlying28 ⟨_,Tryz.underlying28,by intro k hk; cases hk⟩ el3 rfl (encI_len .i64) rfl rfl (by decide) hl5_63)<| .cons (.assign (l1 rfl) (.t rfl))<| .nil _ _ _) ?_
       exact endJ l5_63 h (VC.sub (.of rfl) (.of rfl))
      ·have h := iteF hc h
       refine AWP.skip ?_
       exact endJ x_60.2 h (VC.sub (.of rfl) (.of rfl))
    ·have h := iteF hc h
     refine AWP.exit ?_
     exact endJ x_60.2 h (VC.sub (.of rfl) (.of rfl))
  ·refine AWP.vs ⟨[(5,.own 2 1 0 p_18.length),(8,.own 3 1 0 y_20.length),(31,rW β2 a0.Bq e71),(32,iW (a0.Bq.length : Int)),(33,iW (0 : Int))],[(2,⟨4,true,p_18.flatMap encB⟩),(3,⟨4,true,y_20.flatMap encB⟩)]⟩ rfl rfl ?_
   refine AWP.loopM (S := fun x_37 : Int × (List Bool) => ⟨[(5,.own 2 1 0 p_18.length),(8,.own 3 1 0 x_37.2.length),(31,rW β2 a0.Bq e71),(32,iW (a0.Bq.length : Int)),(33,iW x_37.1)],[(2,⟨4,true,p_18.flatMap encB⟩),(3,⟨4,true,x_37.2.flatMap encB⟩)]⟩) (x := ((0 : Int),y_20)) (fun nx_38 x_37 h => ?_) h
   unfold m54_L2 at h
   refine AWP.sv (.cons (.lss (l1 rfl) (.t rfl) (.t rfl))<| .nil _ _ _) ⟨[(5,.own 2 1 0 p_18.length),(8,.own 3 1 0 x_37.2.length),(31,rW β2 a0.Bq e71),(32,iW (a0.Bq.length : Int)),(33,iW x_37.1),(34,bW (decide (x_37.1 < (a0.Bq.length : Int))))],[(2,⟨4,true,p_18.flatMap encB⟩),(3,⟨4,true,x_37.2.flatMap encB⟩)]⟩ rfl rfl ?_
   refine AWP.seq ?_
   refine AWP.cond (.t rfl) (fun hc => ?_) (fun hc => ?_)
   ·have h := iteT hc h
    refine AWP.skip ?_
    refine AWP.seq ?_
    refine AWP.block ?_
    obtain ⟨y_39,hy_39,h⟩ := bindS h
    refine AWP.sv (.cons (.indexRd (enc := e71) (l1 rfl) (.t rfl) (.t rfl) Tryz.underlying23 sz71 encR71_len rfl hy_39)<| .cons (.loadRA (out := [iW y_39.f0,iW y_39.f1]) (l1 rfl) (.t rfl) agg71 (Nat.le_of_eq (Eq.symm (encR71_len _))) rfl)<| .cons (.alloc (t := 4) (k := ⟨71,false,[iW (0 : Int),iW (0 : Int)]⟩) (l1 rfl) (nm rfl) zero71 rfl rfl)<| .cons (.storePA (.t rfl) (.t rfl) sz71 rfl rfl (le1 rfl) (one_lit rfl) (by intro h; cases h) rfl)<| .nil _ _ _) ⟨[(5,.own 2 1 0 p_18.length),(8,.own 3 1 0 x_37.2.length),(31,rW β2 a0.Bq e71),(32,iW (a0.Bq.length : Int)),(33,iW x_37.1),(10,.ptr 4 0)],[(4,⟨71,false,[iW y_39.f0,iW y_39.f1]⟩),(2,⟨4,true,p_18.flatMap encB⟩),(3,⟨4,true,x_37.2.flatMap encB⟩)]⟩ rfl rfl ?_
    obtain ⟨y_40,hy_40,h⟩ := bindS h
    refine AWP.sv (.cons (.move (l1 rfl) (.t rfl))<| .cons (.idxP (l1 rfl) (.t rfl) (.const _ _ _) Tryz.underlying71 sz3 (by decide) rfl)<| .cons (.loadP (l1 rfl) (.t rfl) one3 rfl rfl rfl)<| .cons (.idxOwn (l1 rfl) (.t rfl) (.t rfl) Tryz.underlying117 sz4 rfl hy_40)<| .cons (.loadP (l1 rfl) (.t rfl) one4 rfl (cell_at1 encB_len hy_40) rfl)<| .cons (.not (l1 rfl) (.t rfl))<| .nil _ _ _) ⟨[(5,.own 2 1 0 p_18.length),(8,.own 3 1 0 x_37.2.length),(31,rW β2 a0.Bq e71),(32,iW (a0.Bq.length : Int)),(33,iW x_37.1),(10,.ptr 4 0),(42,bW (!y_40))],[(4,⟨71,false,[iW y_39.f0,iW y_39.f1]⟩),(2,⟨4,true,p_18.flatMap encB⟩),(3,⟨4,true,x_37.2.flatMap encB⟩)]⟩ rfl rfl ?_
    refine AWP.join' (S := fun p_43 : (List Bool) => ⟨[(5,.own 2 1 0 p_18.length),(8,.own 3 1 0 p_43.length),(31,rW β2 a0.Bq e71),(32,iW (a0.Bq.length : Int)),(33,iW x_37.1)],[(2,⟨4,true,p_18.flatMap encB⟩),(3,⟨4,true,p_43.flatMap encB⟩)]⟩) h (fun p_43 h => ?_) (fun k_44 h => ?_)
    ·obtain ⟨t33_45,ht33_45,h⟩ := letS h
     refine AWP.rg (.cons (.add (l1 rfl) (.t rfl) (.const _ _ _))<| .cons (.move (l1 rfl) (.t rfl))<| .nil _ _ _) ?_
     exact endJ (t33_45,p_43) h (by subst ht33_45; exact VC.sub (.of rfl) (.of rfl))
    ·refine AWP.cond (.t rfl) (fun hc => ?_) (fun hc => ?_)
     ·have h := iteT hc h
      obtain ⟨y_41,hy_41,h⟩ := bindS h
      obtain ⟨l3_42,hl3_42,h⟩ := bindS h
      refine AWP.rg (.cons (.move (l1 rfl) (.t rfl))<| .cons (.idxP (l1 rfl) (.t rfl) (.const _ _ _) Tryz.underlying71 sz3 (by decide) rfl)<| .cons (.loadP (l1 rfl) (.t rfl) one3 rfl rfl rfl)<| .cons (.idxOwn (l1 rfl) (.t rfl) (.t rfl) Tryz.underlying117 sz4 rfl hy_41)<| .cons (.storeP (.t rfl) (.const _ _ _) sz4 rfl (lt_at1 encB_len hy_41) rfl (fun _ => rfl) (set_at1 encB_len hl3_42 rfl))<| .nil _ _ _) ?_
      exact endJ l3_42 h (VC.sub (.c rfl<| .c (lenC (Eq.symm (setLen hl3_42)) rfl)<| .c rfl<| .c rfl<| .c rfl<| .n _) (.of rfl))
     ·have h := iteF hc h
      refine AWP.skip ?_
      exact endJ x_37.2 h (VC.sub (.of rfl) (.of rfl))
   ·have h := iteF hc h
    refine AWP.exit ?_
    exact endJ x_37.2 h (VC.sub (.of rfl) (.of rfl))
 ·refine AWP.vs ⟨[(2,.ptr 1 0),(5,.own 2 1 0 l2_1.length),(18,rW β3 a1 eW),(19,iW (a1.length : Int)),(20,iW (0 : Int))],[(1,⟨37,false,(pW β1 β2 a0)⟩),(2,⟨4,true,l2_1.flatMap encB⟩)]⟩ rfl rfl ?_
  refine AWP.loopM (S := fun x_12 : Int × (List Bool) => ⟨[(2,.ptr 1 0),(5,.own 2 1 0 x_12.2.length),(18,rW β3 a1 eW),(19,iW (a1.length : Int)),(20,iW x_12.1)],[(1,⟨37,false,(pW β1 β2 a0)⟩),(2,⟨4,true,x_12.2.flatMap encB⟩)]⟩) (x := ((0 : Int),l2_1)) (fun nx_13 x_12 h => ?_) h
  unfold m54_L1 at h
  refine AWP.sv (.cons (.lss (l1 rfl) (.t rfl) (.t rfl))<| .nil _ _ _) ⟨[(2,.ptr 1 0),(5,.own 2 1 0 x_12.2.length),(18,rW β3 a1 eW),(19,iW (a1.length : Int)),(20,iW x_12.1),(21,bW (decide (x_12.1 < (a1.length : Int))))],[(1,⟨37,false,(pW β1 β2 a0)⟩),(2,⟨4,true,x_12.2.flatMap encB⟩)]⟩ rfl rfl ?_
  refine AWP.seq ?_
  refine AWP.cond (.t rfl) (fun hc => ?_) (fun hc => ?_)
  ·have h := iteT hc h
   refine AWP.skip ?_
   refine AWP.seq ?_
   refine AWP.block ?_
   obtain ⟨y_14,hy_14,h⟩ := bindS h
   refine AWP.sv (.cons (.indexRd (enc := eW) (l1 rfl) (.t rfl) (.t rfl) Tryz.underlying28 sz3 (encI_len .i64) rfl hy_14)<| .cons (.loadR (v := iW y_14) (l1 rfl) (.t rfl) one3 rfl)<| .cons (.assign (l1 rfl) (.t rfl))<| .nil _ _ _) ⟨[(2,.ptr 1 0),(5,.own 2 1 0 x_12.2.length),(18,rW β3 a1 eW),(19,iW (a1.length : Int)),(20,iW x_12.1),(7,iW y_14)],[(1,⟨37,false,(pW β1 β2 a0)⟩),(2,⟨4,true,x_12.2.flatMap encB⟩)]⟩ rfl rfl ?_
   obtain ⟨y_15,hy_15,h⟩ := bindS h
   obtain ⟨l2_16,hl2_16,h⟩ := bindS h
   refine AWP.rg (.cons (.move (l1 rfl) (.t rfl))<| .cons (.move (l1 rfl) (.t rfl))<| .cons (.idxOwn (l1 rfl) (.t rfl) (.t rfl) Tryz.underlying117 sz4 rfl hy_15)<| .cons (.storeP (.t rfl) (.const _ _ _) sz4 rfl (lt_at1 encB_len hy_15) rfl (fun _ => rfl) (set_at1 encB_len hl2_16 rfl))<| .nil _ _ _) ?_
   refine AWP.vc (s' := ⟨[(2,.ptr 1 0),(5,.own 2 1 0 l2_16.length),(18,rW β3 a1 eW),(19,iW (a1.length : Int)),(20,iW x_12.1)],[(1,⟨37,false,(pW β1 β2 a0)⟩),(2,⟨4,true,l2_16.flatMap encB⟩)]⟩) (VC.sub (.c rfl<| .c (lenC (Eq.symm (setLen hl2_16)) rfl)<| .c rfl<| .c rfl<| .c rfl<| .n _) (.of rfl)) ?_
   obtain ⟨t20_17,ht20_17,h⟩ := letS h
   refine AWP.rg (.cons (.add (l1 rfl) (.t rfl) (.const _ _ _))<| .cons (.move (l1 rfl) (.t rfl))<| .nil _ _ _) ?_
   exact endJ (t20_17,l2_16) h (by subst ht20_17; exact VC.sub (.of rfl) (.of rfl))
  ·have h := iteF hc h
   refine AWP.exit ?_
   exact endJ x_12.2 h (VC.sub (.of rfl) (.of rfl))
theorem c41 {β1 : Bool} (n : Nat) (a0 : (List Int)) {r : Int} (h : m41 n a0 = some r) : Spec Tryz.prog 41 [] [rW β1 a0 eW] [] (iW r) [] := by
 refine Spec.of (fn := Tryz.f41) Tryz.func41 Tryz.ntmps41 rfl rfl (le1 rfl) (fun w0 Zs Zb T0 ι0 => ?_)
 unfold m41 at h
 refine AWP.sv (.cons (.assign (l1 rfl) (.const _ _ _))<| .nil _ _ _) ⟨[(0,rW β1 a0 eW)],[]⟩ rfl rfl ?_
 obtain ⟨y_1,hy_1,h⟩ := bindS h
 refine AWP.sr (.cons (.move (l1 rfl) (.t rfl))<| .cons (.indexRd (enc := eW) (l1 rfl) (.t rfl) (.const _ _ _) Tryz.underlying28 sz3 (encI_len .i64) rfl hy_1)<| .cons (.loadR (v := iW y_1) (l1 rfl) (.t rfl) one3 rfl)<| .cons (.assign (l1 rfl) (.t rfl))<| .nil _ _ _) ?_
 refine AWP.ret ?_
 obtain rfl := Option.some.inj h
 refine retJ (Res.vc (s' := ⟨[(2,iW y_1)],[]⟩) (VC.sub (.of rfl) (.n _)) ?_)
 refine Res.drop (H := []) rfl ?_
 exact Res.of rfl (.cons (.tmp rfl) (.nil)) rfl rfl
theorem c40 {β1 : Bool} {β2 : Bool} (n : Nat) (a0 : R24) {r : ((List Int) × Bool)} (h : m40 n a0 = some r) : Spec Tryz.prog 40 [] [.agg (pW β1 β2 a0),.clo (.func 41) [] []] [] (.tup [rW false r.1 eW,bW r.2]) [] := by
 refine Spec.of (fn := Tryz.f40) Tryz.func40 Tryz.ntmps40 rfl rfl (le1 rfl) (fun w0 Zs Zb T0 ι0 => ?_)
 unfold m40 at h
 refine AWP.sv (.cons (.box (t := 1) (n := 2) (l1 rfl) (nm rfl) (.t rfl) (by first | exact ⟨rfl,rfl⟩ | rfl) rfl)<| .cons (.assign (l1 rfl) (.const _ _ _))<| .cons (.assign (l1 rfl) (.const _ _ _))<| .nil _ _ _) ⟨[(1,.clo (.func 41) [] []),(2,.ptr 1 0)],[(1,⟨37,false,(pW β1 β2 a0)⟩)]⟩ rfl rfl ?_
 refine AWP.sv (.cons (.buildSlice (t := 2) (out := ([(0 : Int)] : List Int).flatMap eW) (l1 rfl) (nm rfl) (.cons (.const _ _ _) (by first | exact ⟨rfl,rfl⟩ | rfl) (.nil)) Tryz.underlying28 zero3 el3 (by decide) (by decide) rfl (still_all (encI_still .i64) _))<| .cons (.assign (l1 rfl) (.t rfl))<| .nil _ _ _) ⟨[(1,.clo (.func 41) [] []),(2,.ptr 1 0),(6,.own 2 1 0 ([(0 : Int)] : List Int).length)],[(2,⟨3,true,([(0 : Int)] : List Int).flatMap eW⟩),(1,⟨37,false,(pW β1 β2 a0)⟩)]⟩ rfl rfl ?_
 refine AWP.seq ?_
 refine AWP.joinB' (S := fun p_14 : (List Int) => ⟨[(6,.own 2 1 0 p_14.length)],[(2,⟨3,true,p_14.flatMap eW⟩)]⟩) h (fun p_14 h => ?_) (fun k_15 h => ?_)
 ·refine AWP.sr (.cons (.move (l1 rfl) (.t rfl))<| .cons (.assign (l1 rfl) (.t rfl))<| .cons (.assign (l1 rfl) (.const _ _ _))<| .nil _ _ _) ?_
  refine AWP.ret ?_
  obtain rfl := Option.some.inj h
  refine retJ (Res.vc (s' := ⟨[(4,rW false p_14 eW),(5,bW true)],[]⟩) (VC.trans (VC.frz (d := 4) (t := 2) rfl rfl (encI_len .i64)) (VC.sub (.of rfl) (.n _))) ?_)
  refine Res.drop (H := []) rfl ?_
  exact Res.of rfl (.cons (.tmp rfl) (.cons (.tmp rfl) (.nil))) rfl rfl
 ·refine AWP.vs ⟨[(1,.clo (.func 41) [] []),(2,.ptr 1 0),(6,.own 2 1 0 ([(0 : Int)] : List Int).length)],[(1,⟨37,false,(pW β1 β2 a0)⟩),(2,⟨3,true,([(0 : Int)] : List Int).flatMap eW⟩)]⟩ rfl rfl ?_
  refine AWP.loopM (S := fun x_9 : (List Int) => ⟨[(1,.clo (.func 41) [] []),(2,.ptr 1 0),(6,.own 2 1 0 x_9.length)],[(1,⟨37,false,(pW β1 β2 a0)⟩),(2,⟨3,true,x_9.flatMap eW⟩)]⟩) (x := ([(0 : Int)] : List Int)) (fun nx_10 x_9 h => ?_) h
  unfold m40_L1 at h
  refine AWP.seq ?_
  refine AWP.sv (.cons (.move (l1 rfl) (.t rfl))<| .cons (.lenOwn (l1 rfl) (.t rfl) Tryz.underlying28)<| .cons (.fieldP (l1 rfl) (.t rfl) fld37_0)<| .cons (.loadP (l1 rfl) (.t rfl) one22 rfl rfl rfl)<| .cons (.lenRd (l1 rfl) (.t rfl) Tryz.underlying22)<| .cons (.lss (l1 rfl) (.t rfl) (.t rfl))<| .nil _ _ _) ⟨[(1,.clo (.func 41) [] []),(2,.ptr 1 0),(6,.own 2 1 0 x_9.length),(14,bW (decide ((x_9.length : Int) < (a0.Pq.length : Int))))],[(1,⟨37,false,(pW β1 β2 a0)⟩),(2,⟨3,true,x_9.flatMap eW⟩)]⟩ rfl rfl ?_
  refine AWP.cond (.t rfl) (fun hc => ?_) (fun hc => ?_)
  ·have h := iteT hc h
   refine AWP.skip ?_
   refine AWP.block ?_
   obtain ⟨y_11,hy_11,h⟩ := bindS h
   refine AWP.sv (.cons (.loadPA (l1 rfl) (.t rfl) agg37 rfl rfl rfl rfl)<| .cons (.move (l1 rfl) (.t rfl))<| .cons (.call0 (bw := true) (l1 rfl) (c54 (β1 := β1) (β2 := β2) (β3 := true) n (R24.mk a0.Pq a0.Bq) x_9 hy_11) (.cons (.t rfl) (.ren rfl) (.cons (.t rfl) (.lendRow rfl rfl (encI_len .i64) rfl) (.nil))) rfl)<| .cons (.assign (l1 rfl) (.t rfl))<| .nil _ _ _) ⟨[(1,.clo (.func 41) [] []),(2,.ptr 1 0),(6,.own 2 1 0 x_9.length),(7,rW false y_11 eW)],[(1,⟨37,false,(pW β1 β2 a0)⟩),(2,⟨3,true,x_9.flatMap eW⟩)]⟩ rfl rfl ?_
   refine AWP.seq ?_
   refine AWP.sv (.cons (.move (l1 rfl) (.t rfl))<| .cons (.lenRd (l1 rfl) (.t rfl) Tryz.underlying28)<| .cons (.eql (l1 rfl) (.t rfl) (.const _ _ _))<| .nil _ _ _) ⟨[(1,.clo (.func 41) [] []),(2,.ptr 1 0),(6,.own 2 1 0 x_9.length),(7,rW false y_11 eW),(20,bW (decide ((y_11.length : Int) = (0 : Int))))],[(1,⟨37,false,(pW β1 β2 a0)⟩),(2,⟨3,true,x_9.flatMap eW⟩)]⟩ rfl rfl ?_
   refine AWP.cond (.t rfl) (fun hc => ?_) (fun hc => ?_)
   ·have h := iteT hc h
    refine AWP.sr (.cons (.assign (l1 rfl) (.const _ _ _))<| .cons (.assign (l1 rfl) (.const _ _ _))<| .nil _ _ _) ?_
    refine AWP.ret ?_
    obtain rfl := Option.some.inj h
    refine retJ (Res.vc (s' := ⟨[(4,rW false ([] : List Int) eW),(5,bW false)],[]⟩) (VC.trans (VC.nilRd (d := 4) false rfl) (VC.sub (.of rfl) (.n _))) ?_)
    refine Res.drop (H := []) rfl ?_
    exact Res.of rfl (.cons (.tmp rfl) (.cons (.tmp rfl) (.nil))) rfl rfl
   ·have h := iteF hc h
    refine AWP.skip ?_
    obtain ⟨y_12,hy_12,h⟩ := bindS h
    obtain ⟨l2_13,hl2_13,h⟩ := bindS h
    refine AWP.rg (.cons (.move (l1 rfl) (.t rfl))<| .cons (.move (l1 rfl) (.t rfl))<| .cons (.move (l1 rfl) (.t rfl))<| .cons (.keep (bw := false) (AStep.callV (us' := []) (avs := [rW false y_11 eW]) (cs' := []) (σ := sgT []) (bw := false) (l1 rfl) (.t rfl) (c41 (β1 := false) n y_11 hy_12) (.nil) (.cons (.t rfl) (.ren rfl) (.nil)) (.nil) (CallOk.mk' (.n) rfl) (fun _ h => by cases h)) (CallOk.mk' (.n) rfl) rfl rfl)<| .cons (.buildSlice (t := 3) (out := ([y_12] : List Int).flatMap eW) (l1 rfl) (nm rfl) (.cons (.t rfl) (by first | exact ⟨rfl,rfl⟩ | rfl) (.nil)) Tryz.underlying28 zero3 el3 (by decide) (by decide) rfl (still_all (encI_still .i64) _))<| .cons (.app (enc := eW) (l1 rfl) (nm rfl) (.t rfl) (Src.own (.t rfl) rfl (lendAll (encI_len .i64) _) (flatMap_length (encI_len .i64) _) (one_all (encI_one .i64) _) (.inl rfl)) Tryz.underlying28 ⟨_,Tryz.underlying28,by intro k hk; cases hk⟩ el3 rfl (encI_len .i64) rfl rfl (by decide) hl2_13)<| .cons (.assign (l1 rfl) (.t rfl))<| .nil _ _ _) ?_
    exact endJ l2_13 h (VC.sub (.of rfl) (.of rfl))
  ·have h := iteF hc h
   refine AWP.exit ?_
   exact endJ x_9 h (VC.sub (.of rfl) (.of rfl))
theorem c16 {β1 : Bool} {β2 : Bool} (n : Nat) (a0 : R24) {r : Bool} (h : m16 n a0 = some r) : Spec Tryz.prog 16 [] [.agg (pW β1 β2 a0)] [] (bW r) [] := by
 refine Spec.of (fn := Tryz.f16) Tryz.func16 Tryz.ntmps16 rfl rfl (le1 rfl) (fun w0 Zs Zb T0 ι0 => ?_)
 unfold m16 at h
 refine AWP.sv (.cons (.box (t := 1) (n := 2) (l1 rfl) (nm rfl) (.t rfl) (by first | exact ⟨rfl,rfl⟩ | rfl) rfl)<| .cons (.assign (l1 rfl) (.const _ _ _))<| .nil _ _ _) ⟨[(1,.ptr 1 0)],[(1,⟨37,false,(pW β1 β2 a0)⟩)]⟩ rfl rfl ?_
 refine AWP.sv (.cons (.fieldP (l1 rfl) (.t rfl) fld37_0)<| .cons (.loadP (l1 rfl) (.t rfl) one22 rfl rfl rfl)<| .cons (.lenRd (l1 rfl) (.t rfl) Tryz.underlying22)<| .cons (.alloc (t := 2) (k := ⟨3,false,[iW (0 : Int)]⟩) (l1 rfl) (nm rfl) zero3 rfl rfl)<| .cons (.storeP (.t rfl) (.t rfl) sz3 rfl (l1 rfl) rfl (by intro h; cases h) rfl)<| .nil _ _ _) ⟨[(1,.ptr 1 0),(3,.ptr 2 0)],[(2,⟨3,false,[iW (a0.Pq.length : Int)]⟩),(1,⟨37,false,(pW β1 β2 a0)⟩)]⟩ rfl rfl ?_
 refine AWP.sv (.cons (.assign (l1 rfl) (.func _ _ _))<| .nil _ _ _) ⟨[(1,.ptr 1 0),(3,.ptr 2 0),(4,.clo (.func 36) [] [])],[(2,⟨3,false,[iW (a0.Pq.length : Int)]⟩),(1,⟨37,false,(pW β1 β2 a0)⟩)]⟩ rfl rfl ?_
 refine AWP.sv (.cons (.makeFunc (l1 rfl) (.nil) (.cons (.t rfl) (.nil)))<| .cons (.assign (l1 rfl) (.t rfl))<| .nil _ _ _) ⟨[(1,.ptr 1 0),(3,.ptr 2 0),(4,.clo (.func 36) [] []),(5,.clo (.func 37) [] [.ptr 2 0])],[(2,⟨3,false,[iW (a0.Pq.length : Int)]⟩),(1,⟨37,false,(pW β1 β2 a0)⟩)]⟩ rfl rfl ?_
 refine AWP.seq ?_
 obtain ⟨y_1,hy_1,h⟩ := bindS h
 obtain ⟨y_2,hy_2,h⟩ := bindS h
 obtain ⟨t35_3,ht35_3,h⟩ := letS h
 refine AWP.sr (.cons (.loadP (l1 rfl) (.t rfl) one3 rfl rfl rfl)<| .cons (.lss (l1 rfl) (.t rfl) (.const _ _ _))<| .cons (.move (l1 rfl) (.t rfl))<| .guard (j := 2) (dj := 14) rfl (l1 rfl) rfl (l1 rfl) (fun hg => .loadP (l1 rfl) (.t rfl) one3 rfl rfl rfl)<| .guard (j := 2) (dj := 14) rfl (l1 rfl) rfl (l1 rfl) (fun hg => .gtr (l1 rfl) (.gd hg (.t rfl)) (.const _ _ _))<| .cons (.pickOr (l1 rfl) (.t rfl) (.const _ _ _) (.t rfl))<| .cons (.move (l1 rfl) (.t rfl))<| .guard (j := 6) (dj := 18) rfl (l1 rfl) rfl (l1 rfl) (fun hg => .fieldP (l1 rfl) (.t rfl) fld37_1)<| .guard (j := 6) (dj := 18) rfl (l1 rfl) rfl (l1 rfl) (fun hg => .loadP (l1 rfl) (.gd hg (.t rfl)) one23 rfl rfl rfl)<| .guard (j := 6) (dj := 18) rfl (l1 rfl) rfl (l1 rfl) (fun hg => .lenRd (l1 rfl) (.gd hg (.t rfl)) Tryz.underlying23)<| .guard (j := 6) (dj := 18) rfl (l1 rfl) rfl (l1 rfl) (fun hg => .gtr (l1 rfl) (.gd hg (.t rfl)) (.const _ _ _))<| .cons (.pickOr (l1 rfl) (.t rfl) (.const _ _ _) (.t rfl))<| .cons (.move (l1 rfl) (.t rfl))<| .guard (j := 12) (dj := 24) rfl (l1 rfl) rfl (l1 rfl) (fun hg => .fieldP (l1 rfl) (.t rfl) fld37_0)<| .guard (j := 12) (dj := 24) rfl (l1 rfl) rfl (l1 rfl) (fun hg => .loadP (l1 rfl) (.gd hg (.t rfl)) one22 rfl rfl rfl)<| .guard (j := 12) (dj := 24) rfl (l1 rfl) rfl (l1 rfl) (fun hg => .move (l1 rfl) (.t rfl))<| .guard (j := 12) (dj := 24) rfl (l1 rfl) rfl (l1 rfl) (fun hg => .call0 (bw := false) (l1 rfl) (c38 (β1 := β1) n a0.Pq (gdB hy_1 hg)) (.cons (.gd hg (.t rfl)) (.ren rfl) (.cons (.gd hg (.t rfl)) (.ren rfl) (.nil))) rfl)<| .cons (.pickOr (l1 rfl) (.t rfl) (.const _ _ _) (.t rfl))<| .cons (.move (l1 rfl) (.t rfl))<| .guard (j := 18) (dj := 30) rfl (l1 rfl) rfl (l1 rfl) (fun hg => .fieldP (l1 rfl) (.t rfl) fld37_1)<| .guard (j := 18) (dj := 30) rfl (l1 rfl) rfl (l1 rfl) (fun hg => .loadP (l1 rfl) (.gd hg (.t rfl)) one23 rfl rfl rfl)<| .guard (j := 18) (dj := 30) rfl (l1 rfl) rfl (l1 rfl) (fun hg => .move (l1 rfl) (.t rfl))<| .guard (j := 18) (dj := 30) rfl (l1 rfl) rfl (l1 rfl) (fun hg => .keep (bw := false) (AStep.call (σ := fun _ => 2) (bw := false) (l1 rfl) (c39 (β1 := β2) n a0.Bq (a0.Pq.length : Int) (gdB hy_2 hg)) (.cons (.gd hg (.t rfl)) (.ren rfl) (.cons (.gd hg (.t rfl)) (.ren rfl) (.nil))) (CallOk.mk' (.c rfl (.n)) rfl)) (CallOk.mk' (.c rfl (.n)) rfl) rfl rfl)<| .cons (.pickOr (l1 rfl) (.t rfl) (.const _ _ _) (.t rfl))<| .nil _ _ _) ?_
 refine AWP.vc (s' := ⟨[(1,.ptr 1 0),(35,bW t35_3)],[(1,⟨37,false,(pW β1 β2 a0)⟩)]⟩) (by subst ht35_3; exact VC.sub (.of rfl) (.of rfl)) ?_
 refine AWP.cond (.t rfl) (fun hc => ?_) (fun hc => ?_)
 ·have h := iteT hc h
  refine AWP.sr (.cons (.assign (l1 rfl) (.const _ _ _))<| .nil _ _ _) ?_
  refine AWP.ret ?_
  obtain rfl := Option.some.inj h
  refine retJ (Res.vc (s' := ⟨[(2,bW false)],[]⟩) (VC.sub (.of rfl) (.n _)) ?_)
  refine Res.drop (H := []) rfl ?_
  exact Res.of rfl (.cons (.tmp rfl) (.nil)) rfl rfl
 ·have h := iteF hc h
  refine AWP.skip ?_
  obtain ⟨y_4,hy_4,h⟩ := bindS h
  refine AWP.sv (.cons (.loadPA (l1 rfl) (.t rfl) agg37 rfl rfl rfl rfl)<| .cons (.call0 (bw := false) (l1 rfl) (c40 (β1 := β1) (β2 := β2) n (R24.mk a0.Pq a0.Bq) hy_4) (.cons (.t rfl) (.ren rfl) (.cons (.func _ _ _) (.ren rfl) (.nil))) rfl)<| .cons (.move (l1 rfl) (.t rfl))<| .cons (.extract (l1 rfl) (.t rfl) rfl)<| .cons (.extract (l1 rfl) (.t rfl) rfl)<| .cons (.assign (l1 rfl) (.t rfl))<| .cons (.assign (l1 rfl) (.t rfl))<| .nil _ _ _) ⟨[(7,bW y_4.2)],[]⟩ rfl rfl ?_
  refine AWP.sr (.cons (.move (l1 rfl) (.t rfl))<| .cons (.assign (l1 rfl) (.t rfl))<| .nil _ _ _) ?_
  refine AWP.ret ?_
  obtain rfl := Option.some.inj h
  refine retJ (Res.vc (s' := ⟨[(2,bW y_4.2)],[]⟩) (VC.sub (.of rfl) (.n _)) ?_)
  refine Res.drop (H := []) rfl ?_
  exact Res.of rfl (.cons (.tmp rfl) (.nil)) rfl rfl
theorem c94 (n : Nat) (a0 : Int) {r : Int} (h : m94 n a0 = some r) : Spec Tryz.prog 94 [] [iW a0] [] (iW r) [] := by
 refine Spec.of (fn := Tryz.f94) Tryz.func94 Tryz.ntmps94 rfl rfl (le1 rfl) (fun w0 Zs Zb T0 ι0 => ?_)
 unfold m94 at h
 refine AWP.sv (.cons (.assign (l1 rfl) (.const _ _ _))<| .nil _ _ _) ⟨[(0,iW a0)],[]⟩ rfl rfl ?_
 obtain ⟨t2_1,ht2_1,h⟩ := letS h
 refine AWP.sr (.cons (.move (l1 rfl) (.t rfl))<| .cons (.move (l1 rfl) (.t rfl))<| .cons (.neg (l1 rfl) (.t rfl))<| .cons (.max2 (l1 rfl) (.t rfl) (.t rfl))<| .cons (.assign (l1 rfl) (.t rfl))<| .nil _ _ _) ?_
 refine AWP.ret ?_
 obtain rfl := Option.some.inj h
 refine retJ (Res.vc (s' := ⟨[(2,iW t2_1)],[]⟩) (by subst ht2_1; exact VC.sub (.of rfl) (.n _)) ?_)
 refine Res.drop (H := []) rfl ?_
 exact Res.of rfl (.cons (.tmp rfl) (.nil)) rfl rfl
theorem c77 (n : Nat) (a0 : R50) (a1 : R50) {r : Int} (h : m77 n a0 a1 = some r) : Spec Tryz.prog 77 [] [.agg [iW a0.X,iW a0.Y],.agg [iW a1.X,iW a1.Y]] [] (iW r) [] := by
 refine Spec.of (fn := Tryz.f77) Tryz.func77 Tryz.ntmps77 rfl rfl (le1 rfl) (fun w0 Zs Zb T0 ι0 => ?_)
 unfold m77 at h
 refine AWP.sv (.cons (.box (t := 1) (n := 2) (l1 rfl) (nm rfl) (.t rfl) (by first | exact ⟨rfl,rfl⟩ | rfl) rfl)<| .cons (.box (t := 2) (n := 2) (l1 rfl) (nm rfl) (.t rfl) (by first | exact ⟨rfl,rfl⟩ | rfl) rfl)<| .cons (.assign (l1 rfl) (.const _ _ _))<| .nil _ _ _) ⟨[(2,.ptr 1 0),(3,.ptr 2 0)],[(2,⟨51,false,[iW a1.X,iW a1.Y]⟩),(1,⟨51,false,[iW a0.X,iW a0.Y]⟩)]⟩ rfl rfl ?_
 refine AWP.sv (.cons (.assign (l1 rfl) (.func _ _ _))<| .nil _ _ _) ⟨[(2,.ptr 1 0),(3,.ptr 2 0),(5,.clo (.func 94) [] [])],[(2,⟨51,false,[iW a1.X,iW a1.Y]⟩),(1,⟨51,false,[iW a0.X,iW a0.Y]⟩)]⟩ rfl rfl ?_
 refine AWP.seq ?_
 obtain ⟨y_1,hy_1,h⟩ := bindS h
 obtain ⟨y_2,hy_2,h⟩ := bindS h
 obtain ⟨t4_3,ht4_3,h⟩ := letS h
 refine AWP.dw mixed [(2,.ptr 1 0),(3,.ptr 2 0),(5,.clo (.func 94) [] [])] [] [dO [2] 6 (.clo (.func 94) [] []),dO [0] 7 (.ptr 1 (0 + 0)),dO [4] 8 (iW a0.X),dO [1] 9 (.ptr 2 (0 + 0)),dO [6] 10 (iW a1.X),dO [5,7] 11 (iW (IntKind.wrap .i64 (a0.X - a1.X))),dO [3,8] 12 (iW y_1),dO [2] 13 (.clo (.func 94) [] []),dO [0] 14 (.ptr 1 (0 + 1)),dO [11] 15 (iW a0.Y),dO [1] 16 (.ptr 2 (0 + 1)),dO [13] 17 (iW a1.Y),dO [12,14] 18 (iW (IntKind.wrap .i64 (a0.Y - a1.Y))),dO [10,15] 19 (iW y_2),dO [9,16] 20 (iW (if y_2 > y_1 then y_2 else y_1)),dO [17] 4 (iW (if y_2 > y_1 then y_2 else y_1))] [] [[(2,⟨51,false,[iW a1.X,iW a1.Y]⟩),(1,⟨51,false,[iW a0.X,iW a0.Y]⟩)]] [[],[],[1,2],[],[3,4],[1,5],[0,6],[],[],[8,9],[],[10,11],[8,12],[0,13],[0,14],[0,15]] [18] rfl rfl (by kernel_rfl) rfl (.p rfl (fun _ q _ => .move (l1 rfl) (q.t 0 rfl))<| .r rfl rfl (fun _ q => .fieldP (l1 rfl) (q.t 0 rfl) fld51_0)<| .r rfl rfl (fun _ q => .loadP (l1 rfl) (q.t 0 rfl) one3 rfl rfl rfl)<| .r rfl rfl (fun _ q => .fieldP (l1 rfl) (q.t 0 rfl) fld51_0)<| .r rfl rfl (fun _ q => .loadP (l1 rfl) (q.t 0 rfl) one3 rfl rfl rfl)<| .p rfl (fun _ q _ => .sub (l1 rfl) (q.t 0 rfl) (q.t 1 rfl))<| .r rfl rfl (fun _ q => .keep (bw := false) (AStep.callV (us' := []) (avs := [iW (IntKind.wrap .i64 (a0.X - a1.X))]) (cs' := []) (σ := sgT []) (bw := false) (l1 rfl) (q.t 0 rfl) (c94 n (IntKind.wrap .i64 (a0.X - a1.X)) hy_1) (.nil) (.cons (q.t 1 rfl) (.ren rfl) (.nil)) (.nil) (CallOk.mk' (.n) rfl) (fun _ h => by cases h)) (CallOk.mk' (.n) rfl) rfl rfl)<| .p rfl (fun _ q _ => .move (l1 rfl) (q.t 0 rfl))<| .r rfl rfl (fun _ q => .fieldP (l1 rfl) (q.t 0 rfl) fld51_1)<| .r rfl rfl (fun _ q => .loadP (l1 rfl) (q.t 0 rfl) one3 rfl rfl rfl)<| .r rfl rfl (fun _ q => .fieldP (l1 rfl) (q.t 0 rfl) fld51_1)<| .r rfl rfl (fun _ q => .loadP (l1 rfl) (q.t 0 rfl) one3 rfl rfl rfl)<| .p rfl (fun _ q _ => .sub (l1 rfl) (q.t 0 rfl) (q.t 1 rfl))<| .r rfl rfl (fun _ q => .keep (bw := false) (AStep.callV (us' := []) (avs := [iW (IntKind.wrap .i64 (a0.Y - a1.Y))]) (cs' := []) (σ := sgT []) (bw := false) (l1 rfl) (q.t 0 rfl) (c94 n (IntKind.wrap .i64 (a0.Y - a1.Y)) hy_2) (.nil) (.cons (q.t 1 rfl) (.ren rfl) (.nil)) (.nil) (CallOk.mk' (.n) rfl) (fun _ h => by cases h)) (CallOk.mk' (.n) rfl) rfl rfl)<| .p rfl (fun _ q _ => .max2 (l1 rfl) (q.t 0 rfl) (q.t 1 rfl))<| .p rfl (fun _ q _ => .assign (l1 rfl) (q.t 0 rfl))<| .nil _) rfl rfl ?_
 refine AWP.ret ?_
 obtain rfl := Option.some.inj h
 refine retJ (Res.vc (s' := ⟨[(4,iW t4_3)],[]⟩) (by subst ht4_3; exact VC.sub (.of rfl) (.n _)) ?_)
 refine Res.drop (H := []) rfl ?_
 exact Res.of rfl (.cons (.tmp rfl) (.nil)) rfl rfl
theorem c48 {β1 : Bool} {β2 : Bool} (n : Nat) (a0 : R24) (a1 : Int) (a2 : Int) {r : Int} (h : m48 n a0 a1 a2 = some r) : Spec Tryz.prog 48 [] [.agg (pW β1 β2 a0),iW a1,iW a2] [] (iW r) [] := by
 refine Spec.of (fn := Tryz.f48) Tryz.func48 Tryz.ntmps48 rfl rfl (le1 rfl) (fun w0 Zs Zb T0 ι0 => ?_)
 unfold m48 at h
 refine AWP.sv (.cons (.box (t := 1) (n := 2) (l1 rfl) (nm rfl) (.t rfl) (by first | exact ⟨rfl,rfl⟩ | rfl) rfl)<| .cons (.assign (l1 rfl) (.const _ _ _))<| .nil _ _ _) ⟨[(1,iW a1),(2,iW a2),(3,.ptr 1 0)],[(1,⟨37,false,(pW β1 β2 a0)⟩)]⟩ rfl rfl ?_
 refine AWP.seq ?_
 obtain ⟨y_1,hy_1,h⟩ := bindS h
 obtain ⟨y_2,hy_2,h⟩ := bindS h
 obtain ⟨y_3,hy_3,h⟩ := bindS h
 refine AWP.dw mixed [(1,iW a1),(2,iW a2),(3,.ptr 1 0)] [] [dO [2] 7 (.ptr 1 (0 + 0)),dO [3] 8 (rW β1 a0.Pq e50),dO [0] 9 (iW a1),dO [4,5] 10 (.rptr β1 [iW y_1.X,iW y_1.Y]),dO [6] 11 (.agg [iW y_1.X,iW y_1.Y]),dO [2] 12 (.ptr 1 (0 + 0)),dO [8] 13 (rW β1 a0.Pq e50),dO [1] 14 (iW a2),dO [9,10] 15 (.rptr β1 [iW y_2.X,iW y_2.Y]),dO [11] 16 (.agg [iW y_2.X,iW y_2.Y]),dO [7,12] 17 (iW y_3),dO [13] 6 (iW y_3)] [] [[(1,⟨37,false,(pW β1 β2 a0)⟩)]] [[],[0,1],[],[0,3],[0,4],[],[5,6],[],[5,8],[5,9],[0,10],[0,11]] [14] rfl rfl (by kernel_rfl) rfl (.r rfl rfl (fun _ q => .fieldP (l1 rfl) (q.t 0 rfl) fld37_0)<| .r rfl rfl (fun _ q => .loadP (l1 rfl) (q.t 0 rfl) one22 rfl rfl rfl)<| .p rfl (fun _ q _ => .move (l1 rfl) (q.t 0 rfl))<| .p rfl (fun _ q _ => .indexRd (enc := e50) (l1 rfl) (q.t 0 rfl) (q.t 1 rfl) Tryz.underlying22 sz51 encR50_len rfl hy_1)<| .p rfl (fun _ q _ => .loadRA (out := [iW y_1.X,iW y_1.Y]) (l1 rfl) (q.t 0 rfl) agg51 (Nat.le_of_eq (Eq.symm (encR50_len _))) rfl)<| .r rfl rfl (fun _ q => .fieldP (l1 rfl) (q.t 0 rfl) fld37_0)<| .r rfl rfl (fun _ q => .loadP (l1 rfl) (q.t 0 rfl) one22 rfl rfl rfl)<| .p rfl (fun _ q _ => .move (l1 rfl) (q.t 0 rfl))<| .p rfl (fun _ q _ => .indexRd (enc := e50) (l1 rfl) (q.t 0 rfl) (q.t 1 rfl) Tryz.underlying22 sz51 encR50_len rfl hy_2)<| .p rfl (fun _ q _ => .loadRA (out := [iW y_2.X,iW y_2.Y]) (l1 rfl) (q.t 0 rfl) agg51 (Nat.le_of_eq (Eq.symm (encR50_len _))) rfl)<| .p rfl (fun _ q _ => .call0 (bw := false) (l1 rfl) (c77 n (R50.mk y_1.X y_1.Y) (R50.mk y_2.X y_2.Y) hy_3) (.cons (q.t 0 rfl) (.ren rfl) (.cons (q.t 1 rfl) (.ren rfl) (.nil))) rfl)<| .p rfl (fun _ q _ => .assign (l1 rfl) (q.t 0 rfl))<| .nil _) rfl rfl ?_
 refine AWP.ret ?_
 obtain rfl := Option.some.inj h
 refine retJ (Res.vc (s' := ⟨[(6,iW y_3)],[]⟩) (VC.sub (.of rfl) (.n _)) ?_)
 refine Res.drop (H := []) rfl ?_
 exact Res.of rfl (.cons (.tmp rfl) (.nil)) rfl rfl
theorem c43 {β1 : Bool} (n : Nat) (a0 : (List Int)) {r : (List Int)} (h : m43 n a0 = some r) : Spec Tryz.prog 43 [] [rW β1 a0 eW] [] (rW false r eW) [] := by
 refine Spec.of (fn := Tryz.f43) Tryz.func43 Tryz.ntmps43 rfl rfl (le1 rfl) (fun w0 Zs Zb T0 ι0 => ?_)
 unfold m43 at h
 refine AWP.sv (.cons (.assign (l1 rfl) (.const _ _ _))<| .nil _ _ _) ⟨[(0,rW β1 a0 eW)],[]⟩ rfl rfl ?_
 refine AWP.seq ?_
 refine AWP.seq ?_
 refine AWP.regionE (S := fun q_1 => ⟨[(0,rW β1 a0 eW),(4,bW (decide (a0.length = 0 ∧ q_1 = 0)))],[]⟩) (.cons (.move (l1 rfl) (.t rfl))<| .consE (AStepE.eqNil0 (l1 rfl) (.t rfl) Tryz.underlying28)<| fun q_1 => ARunE.nilV q_1 (VC.sub (.of rfl) (.n _))) (fun q_1 => ?_)
 refine AWP.cond (.t rfl) (fun hc => ?_) (fun hc => ?_)
 ·have h := cloneNil hc h
  refine AWP.sr (.cons (.assign (l1 rfl) (.const _ _ _))<| .nil _ _ _) ?_
  refine AWP.ret ?_
  obtain rfl := Option.some.inj h
  refine retJ (Res.vc (s' := ⟨[(2,rW false ([] : List Int) eW)],[]⟩) (VC.trans (VC.nilRd (d := 2) false rfl) (VC.sub (.of rfl) (.n _))) ?_)
  refine Res.drop (H := []) rfl ?_
  exact Res.of rfl (.cons (.tmp rfl) (.nil)) rfl rfl
 ·refine AWP.skip ?_
  obtain ⟨l1_2,hl1_2,h⟩ := bindS h
  refine AWP.sr (.cons (.buildSlice (t := 1) (out := ([] : List Int).flatMap eW) (l1 rfl) (nm rfl) (.nil) Tryz.underlying28 zero3 el3 (by decide) (by decide) rfl (still_all (encI_still .i64) _))<| .cons (.move (l1 rfl) (.t rfl))<| .cons (.app (enc := eW) (l1 rfl) (nm rfl) (.t rfl) (Src.rd (.t rfl) (flatMap_length (encI_len .i64) _) (one_all (encI_one .i64) _) (.inr (scal_all (encI_scal .i64) _))) Tryz.underlying28 ⟨_,Tryz.underlying28,by intro k hk; cases hk⟩ el3 rfl (encI_len .i64) rfl rfl (by decide) hl1_2)<| .cons (.assign (l1 rfl) (.t rfl))<| .nil _ _ _) ?_
  refine AWP.ret ?_
  obtain rfl := Option.some.inj h
  refine retJ (Res.vc (s' := ⟨[(2,rW false l1_2 eW)],[]⟩) (VC.trans (VC.frz (d := 2) (t := 1) rfl rfl (encI_len .i64)) (VC.sub (.of rfl) (.n _))) ?_)
  refine Res.drop (H := []) rfl ?_
  exact Res.of rfl (.cons (.tmp rfl) (.nil)) rfl rfl
theorem c67F (n : Nat) : ∀ (f : Nat) {β1 : Bool} {β2 : Bool} (a0_b : (List Int)) (a0_c : Nat) (a1 : Int) (a2_b0 : Int) (a3_b0 : (List R50)) (a3_b1 : (List R71)) (a4_b0 : (List Int)) {r : ((List Int) × Int × (List Int))},m67F n f a0_b a0_c a1 a2_b0 a3_b0 a3_b1 a4_b0 = some r → Spec Tryz.prog 67 [1,2,3,4,5] [.ownc 1 1 a0_b.length a0_c,iW a1,.ptr 2 0,.ptr 3 0,.ptr 4 0,.ptr 5 0] [(1,⟨3,true,a0_b.flatMap eW⟩),(2,⟨3,false,[iW a2_b0]⟩),(3,⟨37,false,[rW β1 a3_b0 e50,rW β2 a3_b1 e71]⟩),(4,⟨28,false,[rW false a4_b0 eW]⟩),(5,⟨109,false,[.clo (.func 67) [] [.ptr 2 0,.ptr 3 0,.ptr 4 0,.ptr 5 0]]⟩)] (.tup []) [(1,⟨3,true,r.1.flatMap eW⟩),(2,⟨3,false,[iW r.2.1]⟩),(3,⟨37,false,[rW β1 a3_b0 e50,rW β2 a3_b1 e71]⟩),(4,⟨28,false,[rW false r.2.2 eW]⟩),(5,⟨109,false,[.clo (.func 67) [] [.ptr 2 0,.ptr 3 0,.ptr 4 0,.ptr 5 0]]⟩)] := by
 intro f
 induction f with
 | zero =>
  intro β1 β2 a0_b a0_c a1 a2_b0 a3_b0 a3_b1 a4_b0 r h
  cases (show (none : Option ((List Int) × Int × (List Int))) = some r from h)
 | succ f ih =>
 intro β1 β2 a0_b a0_c a1 a2_b0 a3_b0 a3_b1 a4_b0 r h
 replace h : m67B n (m67F n f) a0_b a0_c a1 a2_b0 a3_b0 a3_b1 a4_b0 = some r := h
 generalize m67F n f = rc_0 at h ih
 refine Spec.of (fn := Tryz.f67) Tryz.func67 Tryz.ntmps67 rfl rfl (le1 rfl) (fun w0 Zs Zb T0 ι0 => ?_)
 unfold m67B at h
 refine AWP.seq ?_
 refine AWP.sv (.cons (.loadP (l1 rfl) (.t rfl) one3 rfl rfl rfl)<| .cons (.geq (l1 rfl) (.t rfl) (.const _ _ _))<| .cons (.move (l1 rfl) (.t rfl))<| .guard (j := 2) (dj := 13) rfl (l1 rfl) rfl (l1 rfl) (fun hg => .move (l1 rfl) (.t rfl))<| .guard (j := 2) (dj := 13) rfl (l1 rfl) rfl (l1 rfl) (fun hg => .loadP (l1 rfl) (.t rfl) one3 rfl rfl rfl)<| .guard (j := 2) (dj := 13) rfl (l1 rfl) rfl (l1 rfl) (fun hg => .geq (l1 rfl) (.gd hg (.t rfl)) (.gd hg (.t rfl)))<| .cons (.pickAnd (l1 rfl) (.t rfl) (.t rfl) (.const _ _ _))<| .nil _ _ _) ⟨[(0,.ownc 1 1 a0_b.length a0_c),(1,iW a1),(2,.ptr 2 0),(3,.ptr 3 0),(4,.ptr 4 0),(5,.ptr 5 0),(17,bW ((decide ((0 : Int) ≤ a2_b0)) && (decide (a2_b0 ≤ a1))))],[(1,⟨3,true,a0_b.flatMap eW⟩),(2,⟨3,false,[iW a2_b0]⟩),(3,⟨37,false,[rW β1 a3_b0 e50,rW β2 a3_b1 e71]⟩),(4,⟨28,false,[rW false a4_b0 eW]⟩),(5,⟨109,false,[.clo (.func 67) [] [.ptr 2 0,.ptr 3 0,.ptr 4 0,.ptr 5 0]]⟩)]⟩ rfl rfl ?_
 refine AWP.cond (.t rfl) (fun hc => ?_) (fun hc => ?_)
 ·have h := iteT hc h
  refine AWP.ret ?_
  obtain rfl := Option.some.inj h
  refine retJ (Res.vc (s' := ⟨[],[(1,⟨3,true,a0_b.flatMap eW⟩),(2,⟨3,false,[iW a2_b0]⟩),(3,⟨37,false,[rW β1 a3_b0 e50,rW β2 a3_b1 e71]⟩),(4,⟨28,false,[rW false a4_b0 eW]⟩),(5,⟨109,false,[.clo (.func 67) [] [.ptr 2 0,.ptr 3 0,.ptr 4 0,.ptr 5 0]]⟩)]⟩) (VC.sub (.n _) (.of rfl)) ?_)
  refine Res.sub (H := [(1,⟨3,true,a0_b.flatMap eW⟩),(2,⟨3,false,[iW a2_b0]⟩),(3,⟨37,false,[rW β1 a3_b0 e50,rW β2 a3_b1 e71]⟩),(4,⟨28,false,[rW false a4_b0 eW]⟩),(5,⟨109,false,[.clo (.func 67) [] [.ptr 2 0,.ptr 3 0,.ptr 4 0,.ptr 5 0]]⟩)]) (.of rfl) ?_
  exact Res.of rfl (.nil) rfl rfl
 ·have h := iteF hc h
  refine AWP.skip ?_
  obtain ⟨y_1,hy_1,h⟩ := bindS h
  refine AWP.sv (.cons (.move (l1 rfl) (.t rfl))<| .cons (.move (l1 rfl) (.t rfl))<| .cons (.lenOwn (l1 rfl) (.ofC (.t rfl)) Tryz.underlying28)<| .cons (.sub (l1 rfl) (.t rfl) (.const _ _ _))<| .cons (.idxOwn (l1 rfl) (.ofC (.t rfl)) (.t rfl) Tryz.underlying28 sz3 rfl hy_1)<| .cons (.loadP (l1 rfl) (.t rfl) one3 rfl (cell_at1 (encI_len .i64) hy_1) rfl)<| .cons (.assign (l1 rfl) (.t rfl))<| .nil _ _ _) ⟨[(0,.ownc 1 1 a0_b.length a0_c),(1,iW a1),(2,.ptr 2 0),(3,.ptr 3 0),(4,.ptr 4 0),(5,.ptr 5 0),(8,iW y_1)],[(1,⟨3,true,a0_b.flatMap eW⟩),(2,⟨3,false,[iW a2_b0]⟩),(3,⟨37,false,[rW β1 a3_b0 e50,rW β2 a3_b1 e71]⟩),(4,⟨28,false,[rW false a4_b0 eW]⟩),(5,⟨109,false,[.clo (.func 67) [] [.ptr 2 0,.ptr 3 0,.ptr 4 0,.ptr 5 0]]⟩)]⟩ rfl rfl ?_
  refine AWP.seq ?_
  refine AWP.sv (.cons (.move (l1 rfl) (.t rfl))<| .cons (.lenOwn (l1 rfl) (.ofC (.t rfl)) Tryz.underlying28)<| .cons (.fieldP (l1 rfl) (.t rfl) fld37_0)<| .cons (.loadP (l1 rfl) (.t rfl) one22 rfl rfl rfl)<| .cons (.lenRd (l1 rfl) (.t rfl) Tryz.underlying22)<| .cons (.eql (l1 rfl) (.t rfl) (.t rfl))<| .nil _ _ _) ⟨[(0,.ownc 1 1 a0_b.length a0_c),(1,iW a1),(2,.ptr 2 0),(3,.ptr 3 0),(4,.ptr 4 0),(5,.ptr 5 0),(8,iW y_1),(29,bW (decide ((a0_b.length : Int) = (a3_b0.length : Int))))],[(1,⟨3,true,a0_b.flatMap eW⟩),(2,⟨3,false,[iW a2_b0]⟩),(3,⟨37,false,[rW β1 a3_b0 e50,rW β2 a3_b1 e71]⟩),(4,⟨28,false,[rW false a4_b0 eW]⟩),(5,⟨109,false,[.clo (.func 67) [] [.ptr 2 0,.ptr 3 0,.ptr 4 0,.ptr 5 0]]⟩)]⟩ rfl rfl ?_
  refine AWP.cond (.t rfl) (fun hc => ?_) (fun hc => ?_)
  ·have h := iteT hc h
   refine AWP.seq ?_
   obtain ⟨y_2,hy_2,h⟩ := bindS h
   obtain ⟨t1_3,ht1_3,h⟩ := letS h
   refine AWP.sr (.cons (.move (l1 rfl) (.t rfl))<| .cons (.loadPA (l1 rfl) (.t rfl) agg37 rfl rfl rfl rfl)<| .cons (.move (l1 rfl) (.t rfl))<| .cons (.call0 (bw := false) (l1 rfl) (c48 (β1 := β1) (β2 := β2) n (R24.mk a3_b0 a3_b1) y_1 (0 : Int) hy_2) (.cons (.t rfl) (.ren rfl) (.cons (.t rfl) (.ren rfl) (.cons (.const _ _ _) (.ren rfl) (.nil)))) rfl)<| .cons (.add (l1 rfl) (.t rfl) (.t rfl))<| .cons (.assign (l1 rfl) (.t rfl))<| .nil _ _ _) ?_
   refine AWP.vc (s' := ⟨[(0,.ownc 1 1 a0_b.length a0_c),(1,iW t1_3),(2,.ptr 2 0),(4,.ptr 4 0)],[(1,⟨3,true,a0_b.flatMap eW⟩),(2,⟨3,false,[iW a2_b0]⟩),(3,⟨37,false,[rW β1 a3_b0 e50,rW β2 a3_b1 e71]⟩),(4,⟨28,false,[rW false a4_b0 eW]⟩),(5,⟨109,false,[.clo (.func 67) [] [.ptr 2 0,.ptr 3 0,.ptr 4 0,.ptr 5 0]]⟩)]⟩) (by subst ht1_3; exact VC.sub (.of rfl) (.of rfl)) ?_
   refine AWP.sv (.cons (.loadP (l1 rfl) (.t rfl) one3 rfl rfl rfl)<| .cons (.lss (l1 rfl) (.t rfl) (.const _ _ _))<| .cons (.move (l1 rfl) (.t rfl))<| .guard (j := 2) (dj := 37) rfl (l1 rfl) rfl (l1 rfl) (fun hg => .move (l1 rfl) (.t rfl))<| .guard (j := 2) (dj := 37) rfl (l1 rfl) rfl (l1 rfl) (fun hg => .loadP (l1 rfl) (.t rfl) one3 rfl rfl rfl)<| .guard (j := 2) (dj := 37) rfl (l1 rfl) rfl (l1 rfl) (fun hg => .lss (l1 rfl) (.gd hg (.t rfl)) (.gd hg (.t rfl)))<| .cons (.pickOr (l1 rfl) (.t rfl) (.const _ _ _) (.t rfl))<| .nil _ _ _) ⟨[(0,.ownc 1 1 a0_b.length a0_c),(1,iW t1_3),(2,.ptr 2 0),(4,.ptr 4 0),(41,bW ((decide (a2_b0 < (0 : Int))) || (decide (t1_3 < a2_b0))))],[(1,⟨3,true,a0_b.flatMap eW⟩),(2,⟨3,false,[iW a2_b0]⟩),(3,⟨37,false,[rW β1 a3_b0 e50,rW β2 a3_b1 e71]⟩),(4,⟨28,false,[rW false a4_b0 eW]⟩),(5,⟨109,false,[.clo (.func 67) [] [.ptr 2 0,.ptr 3 0,.ptr 4 0,.ptr 5 0]]⟩)]⟩ rfl rfl ?_
   refine AWP.join' (S := fun p_5 : Int × (List Int) => ⟨[],[(1,⟨3,true,a0_b.flatMap eW⟩),(2,⟨3,false,[iW p_5.1]⟩),(3,⟨37,false,[rW β1 a3_b0 e50,rW β2 a3_b1 e71]⟩),(4,⟨28,false,[rW false p_5.2 eW]⟩),(5,⟨109,false,[.clo (.func 67) [] [.ptr 2 0,.ptr 3 0,.ptr 4 0,.ptr 5 0]]⟩)]⟩) h (fun p_5 h => ?_) (fun k_6 h => ?_)
   ·refine AWP.ret ?_
    obtain rfl := Option.some.inj h
    refine retJ (Res.vc (s' := ⟨[],[(1,⟨3,true,a0_b.flatMap eW⟩),(2,⟨3,false,[iW p_5.1]⟩),(3,⟨37,false,[rW β1 a3_b0 e50,rW β2 a3_b1 e71]⟩),(4,⟨28,false,[rW false p_5.2 eW]⟩),(5,⟨109,false,[.clo (.func 67) [] [.ptr 2 0,.ptr 3 0,.ptr 4 0,.ptr 5 0]]⟩)]⟩) (VC.sub (.n _) (.of rfl)) ?_)
    refine Res.sub (H := [(1,⟨3,true,a0_b.flatMap eW⟩),(2,⟨3,false,[iW p_5.1]⟩),(3,⟨37,false,[rW β1 a3_b0 e50,rW β2 a3_b1 e71]⟩),(4,⟨28,false,[rW false p_5.2 eW]⟩),(5,⟨109,false,[.clo (.func 67) [] [.ptr 2 0,.ptr 3 0,.ptr 4 0,.ptr 5 0]]⟩)]) (.of rfl) ?_
    exact Res.of rfl (.nil) rfl rfl
   ·refine AWP.cond (.t rfl) (fun hc => ?_) (fun hc => ?_)
    ·have h := iteT hc h
     obtain ⟨y_4,hy_4,h⟩ := bindS h
     refine AWP.rg (.cons (.move (l1 rfl) (.t rfl))<| .cons (.call0 (bw := true) (l1 rfl) (c43 (β1 := true) n a0_b hy_4) (.cons (.ofC (.t rfl)) (.lendRow rfl rfl (encI_len .i64) rfl) (.nil)) rfl)<| .cons (.move (l1 rfl) (.t rfl))<| .cons (.storeP (.t rfl) (.t rfl) sz28 rfl (l1 rfl) rfl (by intro h; cases h) rfl)<| .cons (.storeP (.t rfl) (.t rfl) sz3 rfl (l1 rfl) rfl (by intro h; cases h) rfl)<| .nil _ _ _) ?_
     exact endJ (t1_3,y_4) h (VC.sub (.n _) (.of rfl))
    ·have h := iteF hc h
     refine AWP.skip ?_
     exact endJ (a2_b0,a4_b0) h (VC.sub (.n _) (.of rfl))
  ·have h := iteF hc h
   refine AWP.skip ?_
   obtain ⟨y_7,hy_7,h⟩ := bindS h
   refine AWP.sv (.cons (.loadPA (l1 rfl) (.t rfl) agg37 rfl rfl rfl rfl)<| .cons (.move (l1 rfl) (.t rfl))<| .cons (.call0 (bw := true) (l1 rfl) (c54 (β1 := β1) (β2 := β2) (β3 := true) n (R24.mk a3_b0 a3_b1) a0_b hy_7) (.cons (.t rfl) (.ren rfl) (.cons (.ofC (.t rfl)) (.lendRow rfl rfl (encI_len .i64) rfl) (.nil))) rfl)<| .cons (.lenRd (l1 rfl) (.t rfl) Tryz.underlying28)<| .cons (.move (l1 rfl) (.const _ _ _))<| .nil _ _ _) ⟨[(0,.ownc 1 1 a0_b.length a0_c),(1,iW a1),(3,.ptr 3 0),(5,.ptr 5 0),(8,iW y_1),(47,rW false y_7 eW),(48,iW (y_7.length : Int)),(49,iW (0 : Int))],[(1,⟨3,true,a0_b.flatMap eW⟩),(2,⟨3,false,[iW a2_b0]⟩),(3,⟨37,false,[rW β1 a3_b0 e50,rW β2 a3_b1 e71]⟩),(4,⟨28,false,[rW false a4_b0 eW]⟩),(5,⟨109,false,[.clo (.func 67) [] [.ptr 2 0,.ptr 3 0,.ptr 4 0,.ptr 5 0]]⟩)]⟩ rfl rfl ?_
   refine AWP.joinB' (S := fun p_27 : (List Int) × Int × (List Int) => ⟨[],[(1,⟨3,true,p_27.1.flatMap eW⟩),(2,⟨3,false,[iW p_27.2.1]⟩),(3,⟨37,false,[rW β1 a3_b0 e50,rW β2 a3_b1 e71]⟩),(4,⟨28,false,[rW false p_27.2.2 eW]⟩),(5,⟨109,false,[.clo (.func 67) [] [.ptr 2 0,.ptr 3 0,.ptr 4 0,.ptr 5 0]]⟩)]⟩) h (fun p_27 h => ?_) (fun k_28 h => ?_)
   ·obtain rfl := Option.some.inj h
    refine norJ (Res.vc (s' := ⟨[],[(1,⟨3,true,p_27.1.flatMap eW⟩),(2,⟨3,false,[iW p_27.2.1]⟩),(3,⟨37,false,[rW β1 a3_b0 e50,rW β2 a3_b1 e71]⟩),(4,⟨28,false,[rW false p_27.2.2 eW]⟩),(5,⟨109,false,[.clo (.func 67) [] [.ptr 2 0,.ptr 3 0,.ptr 4 0,.ptr 5 0]]⟩)]⟩) (VC.sub (.n _) (.of rfl)) ?_)
    refine Res.sub (H := [(1,⟨3,true,p_27.1.flatMap eW⟩),(2,⟨3,false,[iW p_27.2.1]⟩),(3,⟨37,false,[rW β1 a3_b0 e50,rW β2 a3_b1 e71]⟩),(4,⟨28,false,[rW false p_27.2.2 eW]⟩),(5,⟨109,false,[.clo (.func 67) [] [.ptr 2 0,.ptr 3 0,.ptr 4 0,.ptr 5 0]]⟩)]) (.of rfl) ?_
    exact Res.of rfl (.nil) rfl rfl
   ·refine AWP.vs ⟨[(0,.ownc 1 1 a0_b.length a0_c),(1,iW a1),(3,.ptr 3 0),(5,.ptr 5 0),(8,iW y_1),(47,rW false y_7 eW),(48,iW (y_7.length : Int)),(49,iW (0 : Int))],[(1,⟨3,true,a0_b.flatMap eW⟩),(2,⟨3,false,[iW a2_b0]⟩),(3,⟨37,false,[rW β1 a3_b0 e50,rW β2 a3_b1 e71]⟩),(4,⟨28,false,[rW false a4_b0 eW]⟩),(5,⟨109,false,[.clo (.func 67) [] [.ptr 2 0,.ptr 3 0,.ptr 4 0,.ptr 5 0]]⟩)]⟩ rfl rfl ?_
    refine AWP.loopM (S := fun x_20 : Int × (List Int) × Int × (List Int) => ⟨[(0,.ownc 1 1 a0_b.length a0_c),(1,iW a1),(3,.ptr 3 0),(5,.ptr 5 0),(8,iW y_1),(47,rW false y_7 eW),(48,iW (y_7.length : Int)),(49,iW x_20.1)],[(1,⟨3,true,x_20.2.1.flatMap eW⟩),(2,⟨3,false,[iW x_20.2.2.1]⟩),(3,⟨37,false,[rW β1 a3_b0 e50,rW β2 a3_b1 e71]⟩),(4,⟨28,false,[rW false x_20.2.2.2 eW]⟩),(5,⟨109,false,[.clo (.func 67) [] [.ptr 2 0,.ptr 3 0,.ptr 4 0,.ptr 5 0]]⟩)]⟩) (x := ((0 : Int),a0_b,a2_b0,a4_b0)) (fun nx_21 x_20 h => ?_) h
    unfold m67_L1 at h
    refine AWP.sv (.cons (.lss (l1 rfl) (.t rfl) (.t rfl))<| .nil _ _ _) ⟨[(0,.ownc 1 1 a0_b.length a0_c),(1,iW a1),(3,.ptr 3 0),(5,.ptr 5 0),(8,iW y_1),(47,rW false y_7 eW),(48,iW (y_7.length : Int)),(49,iW x_20.1),(50,bW (decide (x_20.1 < (y_7.length : Int))))],[(1,⟨3,true,x_20.2.1.flatMap eW⟩),(2,⟨3,false,[iW x_20.2.2.1]⟩),(3,⟨37,false,[rW β1 a3_b0 e50,rW β2 a3_b1 e71]⟩),(4,⟨28,false,[rW false x_20.2.2.2 eW]⟩),(5,⟨109,false,[.clo (.func 67) [] [.ptr 2 0,.ptr 3 0,.ptr 4 0,.ptr 5 0]]⟩)]⟩ rfl rfl ?_
    refine AWP.seq ?_
    refine AWP.cond (.t rfl) (fun hc => ?_) (fun hc => ?_)
    ·have h := iteT hc h
     refine AWP.skip ?_
     refine AWP.seq ?_
     refine AWP.block ?_
     obtain ⟨y_22,hy_22,h⟩ := bindS h
     refine AWP.sv (.cons (.indexRd (enc := eW) (l1 rfl) (.t rfl) (.t rfl) Tryz.underlying28 sz3 (encI_len .i64) rfl hy_22)<| .cons (.loadR (v := iW y_22) (l1 rfl) (.t rfl) one3 rfl)<| .cons (.assign (l1 rfl) (.t rfl))<| .nil _ _ _) ⟨[(0,.ownc 1 1 a0_b.length a0_c),(1,iW a1),(3,.ptr 3 0),(5,.ptr 5 0),(8,iW y_1),(47,rW false y_7 eW),(48,iW (y_7.length : Int)),(49,iW x_20.1),(10,iW y_22)],[(1,⟨3,true,x_20.2.1.flatMap eW⟩),(2,⟨3,false,[iW x_20.2.2.1]⟩),(3,⟨37,false,[rW β1 a3_b0 e50,rW β2 a3_b1 e71]⟩),(4,⟨28,false,[rW false x_20.2.2.2 eW]⟩),(5,⟨109,false,[.clo (.func 67) [] [.ptr 2 0,.ptr 3 0,.ptr 4 0,.ptr 5 0]]⟩)]⟩ rfl rfl ?_
     obtain ⟨l1_23,hl1_23,h⟩ := bindS h
     obtain ⟨y_24,hy_24,h⟩ := bindS h
     obtain ⟨y_25,hy_25,h⟩ := bindS h
     refine AWP.dw mixed [(0,.ownc 1 1 a0_b.length a0_c),(1,iW a1),(3,.ptr 3 0),(5,.ptr 5 0),(8,iW y_1),(10,iW y_22),(47,rW false y_7 eW),(48,iW (y_7.length : Int)),(49,iW x_20.1)] [] [⟨[3],0,1,some (53,.clo (.func 67) [] [.ptr 2 0,.ptr 3 0,.ptr 4 0,.ptr 5 0]),[]⟩,dO [0] 54 (.ownc 1 1 a0_b.length a0_c),⟨[5],0,2,some (55,iW y_22),[]⟩,⟨[11],0,2,some (56,rW false ([y_22] : List Int) eW),[]⟩,dO [10,12] 57 (.ownc 1 1 l1_23.length a0_c),⟨[1],0,2,some (58,iW a1),[]⟩,⟨[2],0,1,some (59,.agg [rW β1 a3_b0 e50,rW β2 a3_b1 e71]),[]⟩,⟨[4],0,2,some (60,iW y_1),[]⟩,⟨[5],0,2,some (61,iW y_22),[]⟩,⟨[15,16,17],0,2,some (62,iW y_24),[]⟩,⟨[14,18],0,2,some (63,iW (IntKind.wrap .i64 (a1 + y_24))),[]⟩,⟨[9,13,19],1,1,some (64,.tup []),[]⟩] [4,11] [[(1,⟨3,true,x_20.2.1.flatMap eW⟩),(2,⟨3,false,[iW x_20.2.2.1]⟩),(3,⟨37,false,[rW β1 a3_b0 e50,rW β2 a3_b1 e71]⟩),(4,⟨28,false,[rW false x_20.2.2.2 eW]⟩),(5,⟨109,false,[.clo (.func 67) [] [.ptr 2 0,.ptr 3 0,.ptr 4 0,.ptr 5 0]]⟩)],[(1,⟨3,true,l1_23.flatMap eW⟩),(2,⟨3,false,[iW x_20.2.2.1]⟩),(3,⟨37,false,[rW β1 a3_b0 e50,rW β2 a3_b1 e71]⟩),(4,⟨28,false,[rW false x_20.2.2.2 eW]⟩),(5,⟨109,false,[.clo (.func 67) [] [.ptr 2 0,.ptr 3 0,.ptr 4 0,.ptr 5 0]]⟩)],[(1,⟨3,true,y_25.1.flatMap eW⟩),(2,⟨3,false,[iW y_25.2.1]⟩),(3,⟨37,false,[rW β1 a3_b0 e50,rW β2 a3_b1 e71]⟩),(4,⟨28,false,[rW false y_25.2.2 eW]⟩),(5,⟨109,false,[.clo (.func 67) [] [.ptr 2 0,.ptr 3 0,.ptr 4 0,.ptr 5 0]]⟩)]] [[],[],[],[2,3],[1,4],[],[],[],[],[1,5,6,9],[1,10],[0,11]] [0,1,2,3,4,6,7,8] rfl rfl (by kernel_rfl) rfl (.read rfl (.c (.put (fun E hE => .loadP (l1 rfl) (hE.t 0 rfl) one109 rfl rfl rfl)) (.c (.put (fun E hE => .loadP (l1 rfl) (hE.t 0 rfl) one109 rfl rfl rfl)) (.n)))<| .read rfl (.c (.put (fun E hE => .move (l1 rfl) (hE.t 0 rfl))) (.n))<| .p rfl (fun _ q _ => .move (l1 rfl) (q.t 0 rfl))<| .p rfl (fun _ q _ => .frzAny (fun t ht => AStep.buildSlice (t := t) (out := ([y_22] : List Int).flatMap eW) (l1 rfl) ht (.cons (q.t 0 rfl) (by first | exact ⟨rfl,rfl⟩ | rfl) (.nil)) Tryz.underlying28 zero3 el3 (by decide) (by decide) rfl (still_all (encI_still .i64) _)) rfl (encI_len .i64))<| .turn rfl rfl rfl rfl rfl (.turnput (fun E hE => .appC (enc := eW) (l1 rfl) (hE.t 0 rfl) (Src.rd (hE.t 1 rfl) (flatMap_length (encI_len .i64) _) (one_all (encI_one .i64) _) (.inl rfl)) Tryz.underlying28 ⟨_,Tryz.underlying28,by intro k hk; cases hk⟩ el3 rfl (encI_len .i64) rfl (by decide) hl1_23) rfl)<| .p rfl (fun _ q _ => .move (l1 rfl) (q.t 0 rfl))<| .read rfl (.c (.put (fun E hE => .loadPA (l1 rfl) (hE.t 0 rfl) agg37 rfl rfl rfl rfl)) (.c (.put (fun E hE => .loadPA (l1 rfl) (hE.t 0 rfl) agg37 rfl rfl rfl rfl)) (.n)))<| .p rfl (fun _ q _ => .move (l1 rfl) (q.t 0 rfl))<| .p rfl (fun _ q _ => .move (l1 rfl) (q.t 0 rfl))<| .p rfl (fun _ q _ => .call0 (bw := false) (l1 rfl) (c48 (β1 := β1) (β2 := β2) n (R24.mk a3_b0 a3_b1) y_1 y_22 hy_24) (.cons (q.t 0 rfl) (.ren rfl) (.cons (q.t 1 rfl) (.ren rfl) (.cons (q.t 2 rfl) (.ren rfl) (.nil)))) rfl)<| .p rfl (fun _ q _ => .add (l1 rfl) (q.t 0 rfl) (q.t 1 rfl))<| .turn rfl rfl rfl rfl rfl (.called (fun E hE => AStep.callV (us' := []) (avs := [.ownc 1 1 l1_23.length a0_c,iW (IntKind.wrap .i64 (a1 + y_24))]) (cs' := [.ptr 2 0,.ptr 3 0,.ptr 4 0,.ptr 5 0]) (σ := sgT [(1,1),(2,2),(3,3),(4,4),(5,5)]) (bw := false) (l1 rfl) (hE.t 0 rfl) (ih (β1 := β1) (β2 := β2) l1_23 a0_c (IntKind.wrap .i64 (a1 + y_24)) x_20.2.2.1 a3_b0 a3_b1 x_20.2.2.2 hy_25) (.nil) (.cons (hE.t 1 rfl) (.ren rfl) (.cons (hE.t 2 rfl) (.ren rfl) (.nil))) (.cons (.ren rfl) (.cons (.ren rfl) (.cons (.ren rfl) (.cons (.ren rfl) (.nil))))) (CallOk.mk' (.c rfl (.c rfl (.c rfl (.c rfl (.c rfl (.n)))))) rfl) (fun _ h => by cases h)) rfl rfl rfl)<| .nil _) rfl rfl ?_
     refine AWP.vs ⟨[(0,.ownc 1 1 a0_b.length a0_c),(1,iW a1),(3,.ptr 3 0),(5,.ptr 5 0),(8,iW y_1),(47,rW false y_7 eW),(48,iW (y_7.length : Int)),(49,iW x_20.1)],[(1,⟨3,true,y_25.1.flatMap eW⟩),(2,⟨3,false,[iW y_25.2.1]⟩),(3,⟨37,false,[rW β1 a3_b0 e50,rW β2 a3_b1 e71]⟩),(4,⟨28,false,[rW false y_25.2.2 eW]⟩),(5,⟨109,false,[.clo (.func 67) [] [.ptr 2 0,.ptr 3 0,.ptr 4 0,.ptr 5 0]]⟩)]⟩ rfl rfl ?_
     obtain ⟨t49_26,ht49_26,h⟩ := letS h
     refine AWP.rg (.cons (.add (l1 rfl) (.t rfl) (.const _ _ _))<| .cons (.move (l1 rfl) (.t rfl))<| .nil _ _ _) ?_
     exact endJ (t49_26,y_25.1,y_25.2.1,y_25.2.2) h (by subst ht49_26; exact VC.sub (.of rfl) (.of rfl))
    ·have h := iteF hc h
     refine AWP.exit ?_
     exact endJ (x_20.2.1,x_20.2.2.1,x_20.2.2.2) h (VC.sub (.n _) (.of rfl))
theorem c67 (n : Nat) {β1 : Bool} {β2 : Bool} (a0_b : (List Int)) (a0_c : Nat) (a1 : Int) (a2_b0 : Int) (a3_b0 : (List R50)) (a3_b1 : (List R71)) (a4_b0 : (List Int)) {r : ((List Int) × Int × (List Int))} (h : m67 n a0_b a0_c a1 a2_b0 a3_b0 a3_b1 a4_b0 = some r) : Spec Tryz.prog 67 [1,2,3,4,5] [.ownc 1 1 a0_b.length a0_c,iW a1,.ptr 2 0,.ptr 3 0,.ptr 4 0,.ptr 5 0] [(1,⟨3,true,a0_b.flatMap eW⟩),(2,⟨3,false,[iW a2_b0]⟩),(3,⟨37,false,[rW β1 a3_b0 e50,rW β2 a3_b1 e71]⟩),(4,⟨28,false,[rW false a4_b0 eW]⟩),(5,⟨109,false,[.clo (.func 67) [] [.ptr 2 0,.ptr 3 0,.ptr 4 0,.ptr 5 0]]⟩)] (.tup []) [(1,⟨3,true,r.1.flatMap eW⟩),(2,⟨3,false,[iW r.2.1]⟩),(3,⟨37,false,[rW β1 a3_b0 e50,rW β2 a3_b1 e71]⟩),(4,⟨28,false,[rW false r.2.2 eW]⟩),(5,⟨109,false,[.clo (.func 67) [] [.ptr 2 0,.ptr 3 0,.ptr 4 0,.ptr 5 0]]⟩)] := c67F n n a0_b a0_c a1 a2_b0 a3_b0 a3_b1 a4_b0 h
theorem c33 {β1 : Bool} {β2 : Bool} (n : Nat) (a0 : R24) {r : ((List Int) × Int)} (h : m33 n a0 = some r) : Spec Tryz.prog 33 [] [.agg (pW β1 β2 a0)] [] (.tup [rW false r.1 eW,iW r.2]) [] := by
 refine Spec.of (fn := Tryz.f33) Tryz.func33 Tryz.ntmps33 rfl rfl (le1 rfl) (fun w0 Zs Zb T0 ι0 => ?_)
 unfold m33 at h
 refine AWP.sv (.cons (.box (t := 1) (n := 2) (l1 rfl) (nm rfl) (.t rfl) (by first | exact ⟨rfl,rfl⟩ | rfl) rfl)<| .cons (.assign (l1 rfl) (.const _ _ _))<| .cons (.assign (l1 rfl) (.const _ _ _))<| .nil _ _ _) ⟨[(1,.ptr 1 0)],[(1,⟨37,false,(pW β1 β2 a0)⟩)]⟩ rfl rfl ?_
 refine AWP.sv (.cons (.alloc (t := 2) (k := ⟨28,false,[.sc (.slice none 0 0)]⟩) (l1 rfl) (nm rfl) zero28 rfl rfl)<| .nil _ _ _) ⟨[(1,.ptr 1 0),(4,.ptr 2 0)],[(2,⟨28,false,[.sc (.slice none 0 0)]⟩),(1,⟨37,false,(pW β1 β2 a0)⟩)]⟩ rfl rfl ?_
 refine AWP.sv (.cons (.alloc (t := 3) (k := ⟨3,false,[iW (0 : Int)]⟩) (l1 rfl) (nm rfl) zero3 rfl rfl)<| .cons (.storeP (.t rfl) (.const _ _ _) sz3 rfl (l1 rfl) rfl (by intro h; cases h) rfl)<| .nil _ _ _) ⟨[(1,.ptr 1 0),(4,.ptr 2 0),(5,.ptr 3 0)],[(3,⟨3,false,[iW (-1 : Int)]⟩),(2,⟨28,false,[.sc (.slice none 0 0)]⟩),(1,⟨37,false,(pW β1 β2 a0)⟩)]⟩ rfl rfl ?_
 refine AWP.sv (.cons (.alloc (t := 4) (k := ⟨109,false,[.sc (.nilFunc)]⟩) (l1 rfl) (nm rfl) zero109 rfl rfl)<| .nil _ _ _) ⟨[(1,.ptr 1 0),(4,.ptr 2 0),(5,.ptr 3 0),(6,.ptr 4 0)],[(4,⟨109,false,[.sc (.nilFunc)]⟩),(3,⟨3,false,[iW (-1 : Int)]⟩),(2,⟨28,false,[.sc (.slice none 0 0)]⟩),(1,⟨37,false,(pW β1 β2 a0)⟩)]⟩ rfl rfl ?_
 refine AWP.sv (.cons (.makeFunc (l1 rfl) (.nil) (.cons (.t rfl) (.cons (.t rfl) (.cons (.t rfl) (.cons (.t rfl) (.nil))))))<| .cons (.storeP (.t rfl) (.t rfl) sz109 rfl (l1 rfl) rfl (by intro h; cases h) rfl)<| .nil _ _ _) ⟨[(1,.ptr 1 0),(4,.ptr 2 0),(5,.ptr 3 0),(6,.ptr 4 0)],[(4,⟨109,false,[.clo (.func 67) [] [.ptr 3 0,.ptr 1 0,.ptr 2 0,.ptr 4 0]]⟩),(3,⟨3,false,[iW (-1 : Int)]⟩),(2,⟨28,false,[.sc (.slice none 0 0)]⟩),(1,⟨37,false,(pW β1 β2 a0)⟩)]⟩ rfl rfl ?_
 refine AWP.seq ?_
 refine AWP.vc (VC.cell (t := 2) (i := 0) (v' := .rd false 0 []) rfl rfl rfl (fun _ _ _ _ h => nil_rd h)) ?_
 obtain ⟨l5_1,hl5_1,h⟩ := bindS h
 obtain ⟨l5_2,hl5_2,h⟩ := bindS h
 obtain ⟨y_3,hy_3,h⟩ := bindS h
 refine AWP.dw mixed [(1,.ptr 1 0),(4,.ptr 2 0),(5,.ptr 3 0),(6,.ptr 4 0)] [] [⟨[3],0,2,some (8,.clo (.func 67) [] [.ptr 3 0,.ptr 1 0,.ptr 2 0,.ptr 4 0]),[]⟩,dO [0] 9 (.ptr 1 (0 + 0)),dO [5] 10 (rW β1 a0.Pq e50),⟨[6],0,3,some (11,iW (a0.Pq.length : Int)),[]⟩,⟨[7],0,0,some (12,.ownc 5 1 l5_1.length (((a0.Pq.length : Int)).toNat)),[5]⟩,⟨[],0,3,some (13,rW false ([(0 : Int)] : List Int) eW),[]⟩,⟨[8,9],1,1,some (14,.ownc 5 1 l5_2.length (((a0.Pq.length : Int)).toNat)),[]⟩,⟨[4,10],2,2,some (15,.tup []),[]⟩] [4,6,7] [[(4,⟨109,false,[.clo (.func 67) [] [.ptr 3 0,.ptr 1 0,.ptr 2 0,.ptr 4 0]]⟩),(3,⟨3,false,[iW (-1 : Int)]⟩),(2,⟨28,false,[rW false ([] : List Int) eW]⟩),(1,⟨37,false,(pW β1 β2 a0)⟩)],[(5,⟨3,true,l5_1.flatMap eW⟩),(4,⟨109,false,[.clo (.func 67) [] [.ptr 3 0,.ptr 1 0,.ptr 2 0,.ptr 4 0]]⟩),(3,⟨3,false,[iW (-1 : Int)]⟩),(2,⟨28,false,[rW false ([] : List Int) eW]⟩),(1,⟨37,false,(pW β1 β2 a0)⟩)],[(5,⟨3,true,l5_2.flatMap eW⟩),(4,⟨109,false,[.clo (.func 67) [] [.ptr 3 0,.ptr 1 0,.ptr 2 0,.ptr 4 0]]⟩),(3,⟨3,false,[iW (-1 : Int)]⟩),(2,⟨28,false,[rW false ([] : List Int) eW]⟩),(1,⟨37,false,(pW β1 β2 a0)⟩)],[(5,⟨3,true,y_3.1.flatMap eW⟩),(3,⟨3,false,[iW y_3.2.1]⟩),(1,⟨37,false,(pW β1 β2 a0)⟩),(2,⟨28,false,[rW false y_3.2.2 eW]⟩),(4,⟨109,false,[.clo (.func 67) [] [.ptr 3 0,.ptr 1 0,.ptr 2 0,.ptr 4 0]]⟩)]] [[],[],[1,2],[1,3],[1,4],[],[1,6],[0,7]] [1,2] rfl rfl (by kernel_rfl) rfl (.read rfl (.c (.put (fun E hE => .loadP (l1 rfl) (hE.t 0 rfl) one109 rfl rfl rfl)) (.c (.put (fun E hE => .loadP (l1 rfl) (hE.t 0 rfl) one109 rfl rfl rfl)) (.c (.put (fun E hE => .loadP (l1 rfl) (hE.t 0 rfl) one109 rfl rfl rfl)) (.n))))<| .read rfl (.c (.put (fun E hE => .fieldP (l1 rfl) (hE.t 0 rfl) fld37_0)) (.n))<| .read rfl (.c (.put (fun E hE => .loadP (l1 rfl) (hE.t 0 rfl) one22 rfl rfl rfl)) (.n))<| .p rfl (fun _ q _ => .lenRd (l1 rfl) (q.t 0 rfl) Tryz.underlying22)<| .turn rfl rfl rfl rfl rfl (.new (fun E hE => .mkC (enc := eW) (t := 5) (l1 rfl) (nm rfl) (.const _ _ _) (hE.t 0 rfl) Tryz.underlying28 zero3 el3 rfl (encI_len .i64) (by decide) hl5_1) rfl)<| .p rfl (fun _ q _ => .frzAny (fun t ht => AStep.buildSlice (t := t) (out := ([(0 : Int)] : List Int).flatMap eW) (l1 rfl) ht (.cons (.const _ _ _) (by first | exact ⟨rfl,rfl⟩ | rfl) (.nil)) Tryz.underlying28 zero3 el3 (by decide) (by decide) rfl (still_all (encI_still .i64) _)) rfl (encI_len .i64))<| .turn rfl rfl rfl rfl rfl (.turnput (fun E hE => .appC (enc := eW) (l1 rfl) (hE.t 0 rfl) (Src.rd (hE.t 1 rfl) (flatMap_length (encI_len .i64) _) (one_all (encI_one .i64) _) (.inl rfl)) Tryz.underlying28 ⟨_,Tryz.underlying28,by intro k hk; cases hk⟩ el3 rfl (encI_len .i64) rfl (by decide) hl5_2) rfl)<| .turn rfl rfl rfl rfl rfl (.called (fun E hE => AStep.callV (us' := []) (avs := [.ownc 1 1 l5_2.length (((a0.Pq.length : Int)).toNat),iW (0 : Int)]) (cs' := [.ptr 2 0,.ptr 3 0,.ptr 4 0,.ptr 5 0]) (σ := sgT [(1,5),(2,3),(3,1),(4,2),(5,4)]) (bw := false) (l1 rfl) (hE.t 0 rfl) (c67 (β1 := β1) (β2 := β2) n l5_2 (((a0.Pq.length : Int)).toNat) (0 : Int) (-1 : Int) a0.Pq a0.Bq ([] : List Int) hy_3) (.nil) (.cons (hE.t 1 rfl) (.ren rfl) (.cons (.const _ _ _) (.ren rfl) (.nil))) (.cons (.ren rfl) (.cons (.ren rfl) (.cons (.ren rfl) (.cons (.ren rfl) (.nil))))) (CallOk.mk' (.c rfl (.c rfl (.c rfl (.c rfl (.c rfl (.n)))))) rfl) (fun _ h => by cases h)) rfl rfl rfl)<| .nil _) rfl rfl ?_
 refine AWP.vs ⟨[(4,.ptr 2 0),(5,.ptr 3 0)],[(3,⟨3,false,[iW y_3.2.1]⟩),(2,⟨28,false,[rW false y_3.2.2 eW]⟩)]⟩ rfl rfl ?_
 refine AWP.seq ?_
 refine AWP.dw mixed [(4,.ptr 2 0),(5,.ptr 3 0)] [] [dO [0] 16 (rW false y_3.2.2 eW),dO [1] 17 (iW y_3.2.1),dO [2] 2 (rW false y_3.2.2 eW),dO [3] 3 (iW y_3.2.1)] [] [[(3,⟨3,false,[iW y_3.2.1]⟩),(2,⟨28,false,[rW false y_3.2.2 eW]⟩)]] [[],[],[0,1],[0,3]] [4,5] rfl rfl (by kernel_rfl) rfl (.r rfl rfl (fun _ q => .loadP (l1 rfl) (q.t 0 rfl) one28 rfl rfl rfl)<| .r rfl rfl (fun _ q => .loadP (l1 rfl) (q.t 0 rfl) one3 rfl rfl rfl)<| .p rfl (fun _ q _ => .assign (l1 rfl) (q.t 0 rfl))<| .p rfl (fun _ q _ => .assign (l1 rfl) (q.t 0 rfl))<| .nil _) rfl rfl ?_
 refine AWP.ret ?_
 obtain rfl := Option.some.inj h
 refine retJ (Res.vc (s' := ⟨[(2,rW false y_3.2.2 eW),(3,iW y_3.2.1)],[]⟩) (VC.sub (.of rfl) (.n _)) ?_)
 refine Res.drop (H := []) rfl ?_
 exact Res.of rfl (.cons (.tmp rfl) (.cons (.tmp rfl) (.nil))) rfl rfl
theorem c13 {β1 : Bool} {β2 : Bool} (n : Nat) (a0 : R24) {r : ((List Int) × Int × Int)} (h : m13 n a0 = some r) : Spec Tryz.prog 13 [] [.agg (pW β1 β2 a0)] [] (.tup [rW false r.1 eW,iW r.2.1,iW r.2.2]) [] := by
 refine Spec.of (fn := Tryz.f13) Tryz.func13 Tryz.ntmps13 rfl rfl (le1 rfl) (fun w0 Zs Zb T0 ι0 => ?_)
 unfold m13 at h
 refine AWP.sv (.cons (.box (t := 1) (n := 2) (l1 rfl) (nm rfl) (.t rfl) (by first | exact ⟨rfl,rfl⟩ | rfl) rfl)<| .cons (.assign (l1 rfl) (.const _ _ _))<| .cons (.assign (l1 rfl) (.const _ _ _))<| .cons (.assign (l1 rfl) (.const _ _ _))<| .nil _ _ _) ⟨[(1,.ptr 1 0)],[(1,⟨37,false,(pW β1 β2 a0)⟩)]⟩ rfl rfl ?_
 refine AWP.seq ?_
 refine AWP.block ?_
 obtain ⟨y_1,hy_1,h⟩ := bindS h
 refine AWP.sv (.cons (.loadPA (l1 rfl) (.t rfl) agg37 rfl rfl rfl rfl)<| .cons (.call0 (bw := false) (l1 rfl) (c16 (β1 := β1) (β2 := β2) n (R24.mk a0.Pq a0.Bq) hy_1) (.cons (.t rfl) (.ren rfl) (.nil)) rfl)<| .cons (.not (l1 rfl) (.t rfl))<| .cons (.assign (l1 rfl) (.t rfl))<| .nil _ _ _) ⟨[(1,.ptr 1 0),(7,bW (!y_1))],[(1,⟨37,false,(pW β1 β2 a0)⟩)]⟩ rfl rfl ?_
 refine AWP.cond (.t rfl) (fun hc => ?_) (fun hc => ?_)
 ·have h := iteT hc h
  refine AWP.sr (.cons (.assign (l1 rfl) (.const _ _ _))<| .cons (.assign (l1 rfl) (.const _ _ _))<| .cons (.assign (l1 rfl) (.const _ _ _))<| .nil _ _ _) ?_
  refine AWP.ret ?_
  obtain rfl := Option.some.inj h
  refine retJ (Res.vc (s' := ⟨[(2,rW false ([] : List Int) eW),(3,iW (0 : Int)),(4,iW (1 : Int))],[]⟩) (VC.trans (VC.nilRd (d := 2) false rfl) (VC.sub (.of rfl) (.n _))) ?_)
  refine Res.drop (H := []) rfl ?_
  exact Res.of rfl (.cons (.tmp rfl) (.cons (.tmp rfl) (.cons (.tmp rfl) (.nil)))) rfl rfl
 ·have h := iteF hc h
  refine AWP.sv (.cons (.fieldP (l1 rfl) (.t rfl) fld37_0)<| .cons (.loadP (l1 rfl) (.t rfl) one22 rfl rfl rfl)<| .cons (.lenRd (l1 rfl) (.t rfl) Tryz.underlying22)<| .cons (.gtr (l1 rfl) (.t rfl) (.const _ _ _))<| .cons (.assign (l1 rfl) (.t rfl))<| .nil _ _ _) ⟨[(1,.ptr 1 0),(11,bW (decide ((8 : Int) < (a0.Pq.length : Int))))],[(1,⟨37,false,(pW β1 β2 a0)⟩)]⟩ rfl rfl ?_
  refine AWP.cond (.t rfl) (fun hc => ?_) (fun hc => ?_)
  ·have h := iteT hc h
   refine AWP.sr (.cons (.assign (l1 rfl) (.const _ _ _))<| .cons (.assign (l1 rfl) (.const _ _ _))<| .cons (.assign (l1 rfl) (.const _ _ _))<| .nil _ _ _) ?_
   refine AWP.ret ?_
   obtain rfl := Option.some.inj h
   refine retJ (Res.vc (s' := ⟨[(2,rW false ([] : List Int) eW),(3,iW (0 : Int)),(4,iW (9 : Int))],[]⟩) (VC.trans (VC.nilRd (d := 2) false rfl) (VC.sub (.of rfl) (.n _))) ?_)
   refine Res.drop (H := []) rfl ?_
   exact Res.of rfl (.cons (.tmp rfl) (.cons (.tmp rfl) (.cons (.tmp rfl) (.nil)))) rfl rfl
  ·have h := iteF hc h
   refine AWP.skip ?_
   obtain ⟨y_2,hy_2,h⟩ := bindS h
   refine AWP.sv (.cons (.loadPA (l1 rfl) (.t rfl) agg37 rfl rfl rfl rfl)<| .cons (.call0 (bw := false) (l1 rfl) (c33 (β1 := β1) (β2 := β2) n (R24.mk a0.Pq a0.Bq) hy_2) (.cons (.t rfl) (.ren rfl) (.nil)) rfl)<| .cons (.move (l1 rfl) (.t rfl))<| .cons (.extract (l1 rfl) (.t rfl) rfl)<| .cons (.extract (l1 rfl) (.t rfl) rfl)<| .cons (.assign (l1 rfl) (.t rfl))<| .cons (.assign (l1 rfl) (.t rfl))<| .nil _ _ _) ⟨[(5,rW false y_2.1 eW),(6,iW y_2.2)],[]⟩ rfl rfl ?_
   refine AWP.sr (.cons (.move (l1 rfl) (.t rfl))<| .cons (.move (l1 rfl) (.t rfl))<| .cons (.assign (l1 rfl) (.t rfl))<| .cons (.assign (l1 rfl) (.t rfl))<| .cons (.assign (l1 rfl) (.const _ _ _))<| .nil _ _ _) ?_
   refine AWP.ret ?_
   obtain rfl := Option.some.inj h
   refine retJ (Res.vc (s' := ⟨[(2,rW false y_2.1 eW),(3,iW y_2.2),(4,iW (0 : Int))],[]⟩) (VC.sub (.of rfl) (.n _)) ?_)
   refine Res.drop (H := []) rfl ?_
   exact Res.of rfl (.cons (.tmp rfl) (.cons (.tmp rfl) (.cons (.tmp rfl) (.nil)))) rfl rfl
theorem c69 (n : Nat) (a0 : Int) {r : Bool} (h : m69 n a0 = some r) : Spec Tryz.prog 69 [] [iW a0] [] (bW r) [] := by
 refine Spec.of (fn := Tryz.f69) Tryz.func69 Tryz.ntmps69 rfl rfl (le1 rfl) (fun w0 Zs Zb T0 ι0 => ?_)
 unfold m69 at h
 refine AWP.sv (.cons (.assign (l1 rfl) (.const _ _ _))<| .nil _ _ _) ⟨[(0,iW a0)],[]⟩ rfl rfl ?_
 refine AWP.sr (.cons (.move (l1 rfl) (.t rfl))<| .cons (.lss (l1 rfl) (.t rfl) (.const _ _ _))<| .cons (.move (l1 rfl) (.t rfl))<| .guard (j := 2) (dj := 5) rfl (l1 rfl) rfl (l1 rfl) (fun hg => .move (l1 rfl) (.t rfl))<| .guard (j := 2) (dj := 5) rfl (l1 rfl) rfl (l1 rfl) (fun hg => .gtr (l1 rfl) (.gd hg (.t rfl)) (.const _ _ _))<| .cons (.pickOr (l1 rfl) (.t rfl) (.const _ _ _) (.t rfl))<| .cons (.assign (l1 rfl) (.t rfl))<| .nil _ _ _) ?_
 refine AWP.ret ?_
 obtain rfl := Option.some.inj h
 refine retJ (Res.vc (s' := ⟨[(2,bW ((decide (a0 < (-20000 : Int))) || (decide ((20000 : Int) < a0))))],[]⟩) (VC.sub (.of rfl) (.n _)) ?_)
 refine Res.drop (H := []) rfl ?_
 exact Res.of rfl (.cons (.tmp rfl) (.nil)) rfl rfl
theorem c91 {β1 : Bool} (n : Nat) (a0 : (List Int)) {r : Int} (h : m91 n a0 = some r) : Spec Tryz.prog 91 [] [rW β1 a0 eW,.clo (.func 69) [] []] [] (iW r) [] := by
 refine Spec.of (fn := Tryz.f91) Tryz.func91 Tryz.ntmps91 rfl rfl (le1 rfl) (fun w0 Zs Zb T0 ι0 => ?_)
 unfold m91 at h
 refine AWP.sv (.cons (.assign (l1 rfl) (.const _ _ _))<| .nil _ _ _) ⟨[(0,rW β1 a0 eW),(1,.clo (.func 69) [] [])],[]⟩ rfl rfl ?_
 refine AWP.seq ?_
 refine AWP.sv (.cons (.move (l1 rfl) (.t rfl))<| .cons (.lenRd (l1 rfl) (.t rfl) Tryz.underlying28)<| .cons (.move (l1 rfl) (.const _ _ _))<| .nil _ _ _) ⟨[(0,rW β1 a0 eW),(1,.clo (.func 69) [] []),(7,iW (a0.length : Int)),(8,iW (0 : Int))],[]⟩ rfl rfl ?_
 refine AWP.joinB' (S := fun p_10 : Unit => ⟨[],[]⟩) h (fun p_10 h => ?_) (fun k_11 h => ?_)
 ·refine AWP.sr (.cons (.assign (l1 rfl) (.const _ _ _))<| .nil _ _ _) ?_
  refine AWP.ret ?_
  obtain rfl := Option.some.inj h
  refine retJ (Res.vc (s' := ⟨[(4,iW (-1 : Int))],[]⟩) (VC.sub (.of rfl) (.n _)) ?_)
  refine Res.drop (H := []) rfl ?_
  exact Res.of rfl (.cons (.tmp rfl) (.nil)) rfl rfl
 ·refine AWP.vs ⟨[(0,rW β1 a0 eW),(1,.clo (.func 69) [] []),(7,iW (a0.length : Int)),(8,iW (0 : Int))],[]⟩ rfl rfl ?_
  refine AWP.loopM (S := fun x_5 : Int => ⟨[(0,rW β1 a0 eW),(1,.clo (.func 69) [] []),(7,iW (a0.length : Int)),(8,iW x_5)],[]⟩) (x := (0 : Int)) (fun nx_6 x_5 h => ?_) h
  unfold m91_L1 at h
  refine AWP.sv (.cons (.lss (l1 rfl) (.t rfl) (.t rfl))<| .nil _ _ _) ⟨[(0,rW β1 a0 eW),(1,.clo (.func 69) [] []),(7,iW (a0.length : Int)),(8,iW x_5),(9,bW (decide (x_5 < (a0.length : Int))))],[]⟩ rfl rfl ?_
  refine AWP.seq ?_
  refine AWP.cond (.t rfl) (fun hc => ?_) (fun hc => ?_)
  ·have h := iteT hc h
   refine AWP.skip ?_
   refine AWP.seq ?_
   refine AWP.block ?_
   refine AWP.sv (.cons (.move (l1 rfl) (.t rfl))<| .cons (.assign (l1 rfl) (.t rfl))<| .nil _ _ _) ⟨[(0,rW β1 a0 eW),(1,.clo (.func 69) [] []),(7,iW (a0.length : Int)),(8,iW x_5),(5,iW x_5)],[]⟩ rfl rfl ?_
   obtain ⟨y_7,hy_7,h⟩ := bindS h
   obtain ⟨y_8,hy_8,h⟩ := bindS h
   refine AWP.sv (.cons (.move (l1 rfl) (.t rfl))<| .cons (.move (l1 rfl) (.t rfl))<| .cons (.move (l1 rfl) (.t rfl))<| .cons (.indexRd (enc := eW) (l1 rfl) (.t rfl) (.t rfl) Tryz.underlying28 sz3 (encI_len .i64) rfl hy_7)<| .cons (.loadR (v := iW y_7) (l1 rfl) (.t rfl) one3 rfl)<| .cons (.keep (bw := false) (AStep.callV (us' := []) (avs := [iW y_7]) (cs' := []) (σ := sgT []) (bw := false) (l1 rfl) (.t rfl) (c69 n y_7 hy_8) (.nil) (.cons (.t rfl) (.ren rfl) (.nil)) (.nil) (CallOk.mk' (.n) rfl) (fun _ h => by cases h)) (CallOk.mk' (.n) rfl) rfl rfl)<| .nil _ _ _) ⟨[(0,rW β1 a0 eW),(1,.clo (.func 69) [] []),(7,iW (a0.length : Int)),(8,iW x_5),(5,iW x_5),(16,bW y_8)],[]⟩ rfl rfl ?_
   refine AWP.cond (.t rfl) (fun hc => ?_) (fun hc => ?_)
   ·have h := iteT hc h
    refine AWP.sr (.cons (.move (l1 rfl) (.t rfl))<| .cons (.assign (l1 rfl) (.t rfl))<| .nil _ _ _) ?_
    refine AWP.ret ?_
    obtain rfl := Option.some.inj h
    refine retJ (Res.vc (s' := ⟨[(4,iW x_5)],[]⟩) (VC.sub (.of rfl) (.n _)) ?_)
    refine Res.drop (H := []) rfl ?_
    exact Res.of rfl (.cons (.tmp rfl) (.nil)) rfl rfl
   ·have h := iteF hc h
    refine AWP.skip ?_
    obtain ⟨t8_9,ht8_9,h⟩ := letS h
    refine AWP.rg (.cons (.add (l1 rfl) (.t rfl) (.const _ _ _))<| .cons (.move (l1 rfl) (.t rfl))<| .nil _ _ _) ?_
    exact endJ t8_9 h (by subst ht8_9; exact VC.sub (.of rfl) (.n _))
  ·have h := iteF hc h
   refine AWP.exit ?_
   exact endJ () h (VC.sub (.n _) (.n _))
theorem c68 {β1 : Bool} (n : Nat) (a0 : (List Int)) {r : Bool} (h : m68 n a0 = some r) : Spec Tryz.prog 68 [] [rW β1 a0 eW,.clo (.func 69) [] []] [] (bW r) [] := by
 refine Spec.of (fn := Tryz.f68) Tryz.func68 Tryz.ntmps68 rfl rfl (le1 rfl) (fun w0 Zs Zb T0 ι0 => ?_)
 unfold m68 at h
 refine AWP.sv (.cons (.assign (l1 rfl) (.const _ _ _))<| .nil _ _ _) ⟨[(0,rW β1 a0 eW),(1,.clo (.func 69) [] [])],[]⟩ rfl rfl ?_
 obtain ⟨y_1,hy_1,h⟩ := bindS h
 refine AWP.sr (.cons (.move (l1 rfl) (.t rfl))<| .cons (.move (l1 rfl) (.t rfl))<| .cons (.call0 (bw := false) (l1 rfl) (c91 (β1 := β1) n a0 hy_1) (.cons (.t rfl) (.ren rfl) (.cons (.t rfl) (.ren rfl) (.nil))) rfl)<| .cons (.geq (l1 rfl) (.t rfl) (.const _ _ _))<| .cons (.assign (l1 rfl) (.t rfl))<| .nil _ _ _) ?_
 refine AWP.ret ?_
 obtain rfl := Option.some.inj h
 refine retJ (Res.vc (s' := ⟨[(4,bW (decide ((0 : Int) ≤ y_1)))],[]⟩) (VC.sub (.of rfl) (.n _)) ?_)
 refine Res.drop (H := []) rfl ?_
 exact Res.of rfl (.cons (.tmp rfl) (.nil)) rfl rfl
theorem c34 {β1 : Bool} {β2 : Bool} {β3 : Bool} (n : Nat) (a0 : R24) (a1 : (List Int)) {r : Bool} (h : m34 n a0 a1 = some r) : Spec Tryz.prog 34 [] [.agg (pW β1 β2 a0),rW β3 a1 eW] [] (bW r) [] := by
 refine Spec.of (fn := Tryz.f34) Tryz.func34 Tryz.ntmps34 rfl rfl (le1 rfl) (fun w0 Zs Zb T0 ι0 => ?_)
 unfold m34 at h
 refine AWP.sv (.cons (.box (t := 1) (n := 2) (l1 rfl) (nm rfl) (.t rfl) (by first | exact ⟨rfl,rfl⟩ | rfl) rfl)<| .cons (.assign (l1 rfl) (.const _ _ _))<| .nil _ _ _) ⟨[(1,rW β3 a1 eW),(2,.ptr 1 0)],[(1,⟨37,false,(pW β1 β2 a0)⟩)]⟩ rfl rfl ?_
 obtain ⟨y_1,hy_1,h⟩ := bindS h
 refine AWP.sr (.cons (.move (l1 rfl) (.t rfl))<| .cons (.lenRd (l1 rfl) (.t rfl) Tryz.underlying28)<| .cons (.fieldP (l1 rfl) (.t rfl) fld37_0)<| .cons (.loadP (l1 rfl) (.t rfl) one22 rfl rfl rfl)<| .cons (.lenRd (l1 rfl) (.t rfl) Tryz.underlying22)<| .cons (.eql (l1 rfl) (.t rfl) (.t rfl))<| .cons (.move (l1 rfl) (.t rfl))<| .guard (j := 6) (dj := 11) rfl (l1 rfl) rfl (l1 rfl) (fun hg => .move (l1 rfl) (.t rfl))<| .guard (j := 6) (dj := 11) rfl (l1 rfl) rfl (l1 rfl) (fun hg => .call0 (bw := false) (l1 rfl) (c68 (β1 := β3) n a1 (gdB hy_1 hg)) (.cons (.gd hg (.t rfl)) (.ren rfl) (.cons (.func _ _ _) (.ren rfl) (.nil))) rfl)<| .guard (j := 6) (dj := 11) rfl (l1 rfl) rfl (l1 rfl) (fun hg => .not (l1 rfl) (.gd hg (.t rfl)))<| .cons (.pickAnd (l1 rfl) (.t rfl) (.t rfl) (.const _ _ _))<| .cons (.assign (l1 rfl) (.t rfl))<| .nil _ _ _) ?_
 refine AWP.ret ?_
 obtain rfl := Option.some.inj h
 refine retJ (Res.vc (s' := ⟨[(4,bW ((decide ((a1.length : Int) = (a0.Pq.length : Int))) && (!y_1)))],[]⟩) (VC.sub (.of rfl) (.n _)) ?_)
 refine Res.drop (H := []) rfl ?_
 exact Res.of rfl (.cons (.tmp rfl) (.nil)) rfl rfl
theorem c102 (n : Nat) (a0 : Int) (a1 : Int) {r : (Int × Int)} (h : m102 n a0 a1 = some r) : Spec Tryz.prog 102 [] [.sc (.int .u64 a0),.sc (.int .u64 a1)] [] (.tup [.sc (.int .u64 r.1),.sc (.int .u64 r.2)]) [] := by
 refine Spec.of (fn := Tryz.f102) Tryz.func102 Tryz.ntmps102 rfl rfl (le1 rfl) (fun w0 Zs Zb T0 ι0 => ?_)
 unfold m102 at h
 refine AWP.sv (.cons (.assign (l1 rfl) (.const _ _ _))<| .cons (.assign (l1 rfl) (.const _ _ _))<| .nil _ _ _) ⟨[(0,.sc (.int .u64 a0)),(1,.sc (.int .u64 a1))],[]⟩ rfl rfl ?_
 obtain ⟨t6_1,ht6_1,h⟩ := letS h
 refine AWP.sr (.cons (.move (l1 rfl) (.t rfl))<| .cons (.band (l1 rfl) (.t rfl) (.const _ _ _))<| .cons (.assign (l1 rfl) (.t rfl))<| .nil _ _ _) ?_
 refine AWP.vc (s' := ⟨[(0,.sc (.int .u64 a0)),(1,.sc (.int .u64 a1)),(6,.sc (.int .u64 t6_1))],[]⟩) (by subst ht6_1; exact VC.sub (.of rfl) (.n _)) ?_
 refine AWP.sv (.cons (.move (l1 rfl) (.t rfl))<| .cons (.shr (l1 rfl) (.t rfl) (.const _ _ _) (by decide))<| .cons (.assign (l1 rfl) (.t rfl))<| .nil _ _ _) ⟨[(0,.sc (.int .u64 a0)),(1,.sc (.int .u64 a1)),(6,.sc (.int .u64 t6_1)),(7,.sc (.int .u64 (shrI .u64 a0 (32 : Int))))],[]⟩ rfl rfl ?_
 obtain ⟨t8_2,ht8_2,h⟩ := letS h
 refine AWP.sr (.cons (.move (l1 rfl) (.t rfl))<| .cons (.band (l1 rfl) (.t rfl) (.const _ _ _))<| .cons (.assign (l1 rfl) (.t rfl))<| .nil _ _ _) ?_
 refine AWP.vc (s' := ⟨[(0,.sc (.int .u64 a0)),(1,.sc (.int .u64 a1)),(6,.sc (.int .u64 t6_1)),(7,.sc (.int .u64 (shrI .u64 a0 (32 : Int)))),(8,.sc (.int .u64 t8_2))],[]⟩) (by subst ht8_2; exact VC.sub (.of rfl) (.n _)) ?_
 refine AWP.sv (.cons (.move (l1 rfl) (.t rfl))<| .cons (.shr (l1 rfl) (.t rfl) (.const _ _ _) (by decide))<| .cons (.assign (l1 rfl) (.t rfl))<| .nil _ _ _) ⟨[(0,.sc (.int .u64 a0)),(1,.sc (.int .u64 a1)),(6,.sc (.int .u64 t6_1)),(7,.sc (.int .u64 (shrI .u64 a0 (32 : Int)))),(8,.sc (.int .u64 t8_2)),(9,.sc (.int .u64 (shrI .u64 a1 (32 : Int))))],[]⟩ rfl rfl ?_
 obtain ⟨t10_3,ht10_3,h⟩ := letS h
 refine AWP.sr (.cons (.move (l1 rfl) (.t rfl))<| .cons (.move (l1 rfl) (.t rfl))<| .cons (.mul (l1 rfl) (.t rfl) (.t rfl))<| .cons (.assign (l1 rfl) (.t rfl))<| .nil _ _ _) ?_
 refine AWP.vc (s' := ⟨[(0,.sc (.int .u64 a0)),(1,.sc (.int .u64 a1)),(6,.sc (.int .u64 t6_1)),(7,.sc (.int .u64 (shrI .u64 a0 (32 : Int)))),(8,.sc (.int .u64 t8_2)),(9,.sc (.int .u64 (shrI .u64 a1 (32 : Int)))),(10,.sc (.int .u64 t10_3))],[]⟩) (by subst ht10_3; exact VC.sub (.of rfl) (.n _)) ?_
 obtain ⟨t11_4,ht11_4,h⟩ := letS h
 refine AWP.sr (.cons (.move (l1 rfl) (.t rfl))<| .cons (.move (l1 rfl) (.t rfl))<| .cons (.mul (l1 rfl) (.t rfl) (.t rfl))<| .cons (.move (l1 rfl) (.t rfl))<| .cons (.shr (l1 rfl) (.t rfl) (.const _ _ _) (by decide))<| .cons (.add (l1 rfl) (.t rfl) (.t rfl))<| .cons (.assign (l1 rfl) (.t rfl))<| .nil _ _ _) ?_
 refine AWP.vc (s' := ⟨[(0,.sc (.int .u64 a0)),(1,.sc (.int .u64 a1)),(6,.sc (.int .u64 t6_1)),(7,.sc (.int .u64 (shrI .u64 a0 (32 : Int)))),(9,.sc (.int .u64 (shrI .u64 a1 (32 : Int)))),(11,.sc (.int .u64 t11_4))],[]⟩) (by subst ht11_4; exact VC.sub (.of rfl) (.n _)) ?_
 obtain ⟨t12_5,ht12_5,h⟩ := letS h
 refine AWP.sr (.cons (.move (l1 rfl) (.t rfl))<| .cons (.band (l1 rfl) (.t rfl) (.const _ _ _))<| .cons (.assign (l1 rfl) (.t rfl))<| .nil _ _ _) ?_
 refine AWP.vc (s' := ⟨[(0,.sc (.int .u64 a0)),(1,.sc (.int .u64 a1)),(6,.sc (.int .u64 t6_1)),(7,.sc (.int .u64 (shrI .u64 a0 (32 : Int)))),(9,.sc (.int .u64 (shrI .u64 a1 (32 : Int)))),(11,.sc (.int .u64 t11_4)),(12,.sc (.int .u64 t12_5))],[]⟩) (by subst ht12_5; exact VC.sub (.of rfl) (.n _)) ?_
 refine AWP.sv (.cons (.move (l1 rfl) (.t rfl))<| .cons (.shr (l1 rfl) (.t rfl) (.const _ _ _) (by decide))<| .cons (.assign (l1 rfl) (.t rfl))<| .nil _ _ _) ⟨[(0,.sc (.int .u64 a0)),(1,.sc (.int .u64 a1)),(6,.sc (.int .u64 t6_1)),(7,.sc (.int .u64 (shrI .u64 a0 (32 : Int)))),(9,.sc (.int .u64 (shrI .u64 a1 (32 : Int)))),(12,.sc (.int .u64 t12_5)),(13,.sc (.int .u64 (shrI .u64 t11_4 (32 : Int))))],[]⟩ rfl rfl ?_
 obtain ⟨t12_6,ht12_6,h⟩ := letS h
 refine AWP.sr (.cons (.move (l1 rfl) (.t rfl))<| .cons (.move (l1 rfl) (.t rfl))<| .cons (.move (l1 rfl) (.t rfl))<| .cons (.mul (l1 rfl) (.t rfl) (.t rfl))<| .cons (.add (l1 rfl) (.t rfl) (.t rfl))<| .cons (.assign (l1 rfl) (.t rfl))<| .nil _ _ _) ?_
 refine AWP.vc (s' := ⟨[(0,.sc (.int .u64 a0)),(1,.sc (.int .u64 a1)),(7,.sc (.int .u64 (shrI .u64 a0 (32 : Int)))),(9,.sc (.int .u64 (shrI .u64 a1 (32 : Int)))),(12,.sc (.int .u64 t12_6)),(13,.sc (.int .u64 (shrI .u64 t11_4 (32 : Int))))],[]⟩) (by subst ht12_6; exact VC.sub (.of rfl) (.n _)) ?_
 obtain ⟨t4_7,ht4_7,h⟩ := letS h
 refine AWP.sr (.cons (.move (l1 rfl) (.t rfl))<| .cons (.move (l1 rfl) (.t rfl))<| .cons (.mul (l1 rfl) (.t rfl) (.t rfl))<| .cons (.move (l1 rfl) (.t rfl))<| .cons (.add (l1 rfl) (.t rfl) (.t rfl))<| .cons (.move (l1 rfl) (.t rfl))<| .cons (.shr (l1 rfl) (.t rfl) (.const _ _ _) (by decide))<| .cons (.add (l1 rfl) (.t rfl) (.t rfl))<| .cons (.assign (l1 rfl) (.t rfl))<| .nil _ _ _) ?_
 refine AWP.vc (s' := ⟨[(0,.sc (.int .u64 a0)),(1,.sc (.int .u64 a1)),(4,.sc (.int .u64 t4_7))],[]⟩) (by subst ht4_7; exact VC.sub (.of rfl) (.n _)) ?_
 obtain ⟨t5_8,ht5_8,h⟩ := letS h
 refine AWP.sr (.cons (.move (l1 rfl) (.t rfl))<| .cons (.move (l1 rfl) (.t rfl))<| .cons (.mul (l1 rfl) (.t rfl) (.t rfl))<| .cons (.assign (l1 rfl) (.t rfl))<| .nil _ _ _) ?_
 refine AWP.ret ?_
 obtain rfl := Option.some.inj h
 refine retJ (Res.vc (s' := ⟨[(4,.sc (.int .u64 t4_7)),(5,.sc (.int .u64 t5_8))],[]⟩) (by subst ht5_8; exact VC.sub (.of rfl) (.n _)) ?_)
 refine Res.drop (H := []) rfl ?_
 exact Res.of rfl (.cons (.tmp rfl) (.cons (.tmp rfl) (.nil))) rfl rfl
theorem c95 (n : Nat) (a0 : Int) (a1 : Int) {r : (Int × Int)} (h : m95 n a0 a1 = some r) : Spec Tryz.prog 95 [] [.sc (.int .u64 a0),.sc (.int .u64 a1)] [] (.tup [.sc (.int .u64 r.1),.sc (.int .u64 r.2)]) [] := by
 refine Spec.of (fn := Tryz.f95) Tryz.func95 Tryz.ntmps95 rfl rfl (le1 rfl) (fun w0 Zs Zb T0 ι0 => ?_)
 unfold m95 at h
 refine AWP.sv (.cons (.assign (l1 rfl) (.const _ _ _))<| .cons (.assign (l1 rfl) (.const _ _ _))<| .nil _ _ _) ⟨[(0,.sc (.int .u64 a0)),(1,.sc (.int .u64 a1))],[]⟩ rfl rfl ?_
 refine AWP.seq ?_
 refine AWP.cond (.const _ _ _) (fun hc => by cases hc) (fun _ => ?_)
 refine AWP.skip ?_
 obtain ⟨y_1,hy_1,h⟩ := bindS h
 refine AWP.sv (.cons (.move (l1 rfl) (.t rfl))<| .cons (.move (l1 rfl) (.t rfl))<| .cons (.call0 (bw := false) (l1 rfl) (c102 n a0 a1 hy_1) (.cons (.t rfl) (.ren rfl) (.cons (.t rfl) (.ren rfl) (.nil))) rfl)<| .cons (.move (l1 rfl) (.t rfl))<| .cons (.extract (l1 rfl) (.t rfl) rfl)<| .cons (.extract (l1 rfl) (.t rfl) rfl)<| .cons (.assign (l1 rfl) (.t rfl))<| .cons (.assign (l1 rfl) (.t rfl))<| .nil _ _ _) ⟨[(8,.sc (.int .u64 y_1.1)),(9,.sc (.int .u64 y_1.2))],[]⟩ rfl rfl ?_
 refine AWP.sr (.cons (.move (l1 rfl) (.t rfl))<| .cons (.move (l1 rfl) (.t rfl))<| .cons (.assign (l1 rfl) (.t rfl))<| .cons (.assign (l1 rfl) (.t rfl))<| .nil _ _ _) ?_
 refine AWP.ret ?_
 obtain rfl := Option.some.inj h
 refine retJ (Res.vc (s' := ⟨[(4,.sc (.int .u64 y_1.1)),(5,.sc (.int .u64 y_1.2))],[]⟩) (VC.sub (.of rfl) (.n _)) ?_)
 refine Res.drop (H := []) rfl ?_
 exact Res.of rfl (.cons (.tmp rfl) (.cons (.tmp rfl) (.nil))) rfl rfl
theorem c81o {β1 : Bool} (n : Nat) (a0 : (List Int)) (a1 : Int) {r : (List Int)} (h : m81o n a0 a1 = some r) : Spec Tryz.prog 81 [] [rW β1 a0 eW,iW a1] [] (.own 1 1 0 r.length) [(1,⟨3,true,r.flatMap eW⟩)] := by
 refine Spec.of (fn := Tryz.f81) Tryz.func81 Tryz.ntmps81 rfl rfl (le1 rfl) (fun w0 Zs Zb T0 ι0 => ?_)
 unfold m81o at h
 refine AWP.sv (.cons (.assign (l1 rfl) (.const _ _ _))<| .nil _ _ _) ⟨[(0,rW β1 a0 eW),(1,iW a1)],[]⟩ rfl rfl ?_
 refine AWP.seq ?_
 refine AWP.sv (.cons (.move (l1 rfl) (.t rfl))<| .cons (.lss (l1 rfl) (.t rfl) (.const _ _ _))<| .nil _ _ _) ⟨[(0,rW β1 a0 eW),(1,iW a1),(10,bW (decide (a1 < (0 : Int))))],[]⟩ rfl rfl ?_
 refine AWP.cond (.t rfl) (fun hc => ?_) (fun hc => ?_)
 ·have h := iteT hc h
  cases h
 ·have h := iteF hc h
  refine AWP.skip ?_
  obtain ⟨y_1,hy_1,h⟩ := bindS h
  refine AWP.sv (.cons (.move (l1 rfl) (.t rfl))<| .cons (.lenRd (l1 rfl) (.t rfl) Tryz.underlying28)<| .cons (.conv (l1 rfl) (.t rfl) Tryz.underlying3 Tryz.underlying131)<| .cons (.move (l1 rfl) (.t rfl))<| .cons (.conv (l1 rfl) (.t rfl) Tryz.underlying3 Tryz.underlying131)<| .cons (.call0 (bw := false) (l1 rfl) (c95 n (IntKind.wrap .u64 (a0.length : Int)) (IntKind.wrap .u64 a1) hy_1) (.cons (.t rfl) (.ren rfl) (.cons (.t rfl) (.ren rfl) (.nil))) rfl)<| .cons (.move (l1 rfl) (.t rfl))<| .cons (.extract (l1 rfl) (.t rfl) rfl)<| .cons (.extract (l1 rfl) (.t rfl) rfl)<| .cons (.assign (l1 rfl) (.t rfl))<| .cons (.assign (l1 rfl) (.t rfl))<| .nil _ _ _) ⟨[(0,rW β1 a0 eW),(5,.sc (.int .u64 y_1.1)),(6,.sc (.int .u64 y_1.2))],[]⟩ rfl rfl ?_
  refine AWP.seq ?_
  refine AWP.sv (.cons (.move (l1 rfl) (.t rfl))<| .cons (.gtr (l1 rfl) (.t rfl) (.const _ _ _))<| .cons (.move (l1 rfl) (.t rfl))<| .guard (j := 2) (dj := 23) rfl (l1 rfl) rfl (l1 rfl) (fun hg => .move (l1 rfl) (.t rfl))<| .guard (j := 2) (dj := 23) rfl (l1 rfl) rfl (l1 rfl) (fun hg => .gtr (l1 rfl) (.gd hg (.t rfl)) (.const _ _ _))<| .cons (.pickOr (l1 rfl) (.t rfl) (.const _ _ _) (.t rfl))<| .nil _ _ _) ⟨[(0,rW β1 a0 eW),(6,.sc (.int .u64 y_1.2)),(26,bW ((decide ((0 : Int) < y_1.1)) || (decide ((9223372036854775807 : Int) < y_1.2))))],[]⟩ rfl rfl ?_
  refine AWP.cond (.t rfl) (fun hc => ?_) (fun hc => ?_)
  ·have h := iteT hc h
   cases h
  ·have h := iteF hc h
   refine AWP.skip ?_
   obtain ⟨l1_2,hl1_2,h⟩ := bindS h
   refine AWP.sv (.cons (.move (l1 rfl) (.t rfl))<| .cons (.conv (l1 rfl) (.t rfl) Tryz.underlying131 Tryz.underlying3)<| .cons (.mkS (enc := eW) (t := 1) (l1 rfl) (nm rfl) (.t rfl) (.t rfl) Tryz.underlying28 zero3 el3 rfl (encI_len .i64) (by decide) hl1_2)<| .cons (.assign (l1 rfl) (.t rfl))<| .nil _ _ _) ⟨[(0,rW β1 a0 eW),(7,.own 1 1 0 l1_2.length)],[(1,⟨3,true,l1_2.flatMap eW⟩)]⟩ rfl rfl ?_
   obtain ⟨l1_3,hl1_3,h⟩ := bindS h
   obtain ⟨t8_4,ht8_4,h⟩ := letS h
   refine AWP.sr (.cons (.move (l1 rfl) (.t rfl))<| .cons (.move (l1 rfl) (.t rfl))<| .cons (.cpyR (enc := eW) (l1 rfl) (.t rfl) (SrcP.rd (.t rfl) (.inr (scal_all (encI_scal .i64) _))) Tryz.underlying28 sz3 rfl (encI_len .i64) (encI_one .i64) rfl hl1_3)<| .cons (.assign (l1 rfl) (.t rfl))<| .nil _ _ _) ?_
   refine AWP.vc (s' := ⟨[(7,.own 1 1 0 l1_3.length),(8,iW t8_4)],[(1,⟨3,true,l1_3.flatMap eW⟩)]⟩) (by subst ht8_4; exact VC.sub (.c (lenC (Eq.symm (Eq.symm (cpyL hl1_3))) rfl)<| .c rfl<| .n _) (.of rfl)) ?_
   refine AWP.seq ?_
   refine AWP.joinB' (S := fun p_21 : (List Int) => ⟨[(7,.own 1 1 0 p_21.length)],[(1,⟨3,true,p_21.flatMap eW⟩)]⟩) h (fun p_21 h => ?_) (fun k_22 h => ?_)
   ·refine AWP.sr (.cons (.move (l1 rfl) (.t rfl))<| .cons (.assign (l1 rfl) (.t rfl))<| .nil _ _ _) ?_
    refine AWP.ret ?_
    obtain rfl := Option.some.inj h
    refine retJ (Res.vc (s' := ⟨[(4,.own 1 1 0 p_21.length)],[(1,⟨3,true,p_21.flatMap eW⟩)]⟩) (VC.sub (.of rfl) (.of rfl)) ?_)
    refine Res.sub (H := [(1,⟨3,true,p_21.flatMap eW⟩)]) (.of rfl) ?_
    exact Res.of rfl (.cons (.tmp rfl) (.nil)) rfl rfl
   ·refine AWP.vs ⟨[(7,.own 1 1 0 l1_3.length),(8,iW t8_4)],[(1,⟨3,true,l1_3.flatMap eW⟩)]⟩ rfl rfl ?_
    refine AWP.loopM (S := fun x_15 : Int × (List Int) => ⟨[(7,.own 1 1 0 x_15.2.length),(8,iW x_15.1)],[(1,⟨3,true,x_15.2.flatMap eW⟩)]⟩) (x := (t8_4,l1_3)) (fun nx_16 x_15 h => ?_) h
    unfold m81o_L1 at h
    refine AWP.seq ?_
    refine AWP.sv (.cons (.move (l1 rfl) (.t rfl))<| .cons (.move (l1 rfl) (.t rfl))<| .cons (.lenOwn (l1 rfl) (.t rfl) Tryz.underlying28)<| .cons (.lss (l1 rfl) (.t rfl) (.t rfl))<| .nil _ _ _) ⟨[(7,.own 1 1 0 x_15.2.length),(8,iW x_15.1),(37,bW (decide (x_15.1 < (x_15.2.length : Int))))],[(1,⟨3,true,x_15.2.flatMap eW⟩)]⟩ rfl rfl ?_
    refine AWP.cond (.t rfl) (fun hc => ?_) (fun hc => ?_)
    ·have h := iteT hc h
     refine AWP.skip ?_
     refine AWP.block ?_
     obtain ⟨s_17,hs_17,h⟩ := bindS h
     obtain ⟨s_18,hs_18,h⟩ := bindS h
     obtain ⟨l1_19,hl1_19,h⟩ := bindS h
     obtain ⟨t8_20,ht8_20,h⟩ := letS h
     refine AWP.dw mixed [(7,.own 1 1 0 x_15.2.length),(8,iW x_15.1),(37,bW (decide (x_15.1 < (x_15.2.length : Int))))] [(1,[9])] [⟨[1],0,1,some (38,iW x_15.1),[]⟩,dO [0] 39 (.own 1 1 0 x_15.2.length),⟨[1],0,1,some (40,iW x_15.1),[]⟩,dO [4,5] 41 (.own 1 1 (0 + (x_15.1).toNat * 1) (x_15.2.length - (x_15.1).toNat)),dO [0] 42 (.own 1 1 0 x_15.2.length),⟨[1],0,1,some (43,iW x_15.1),[]⟩,dO [7,8] 44 (.own 1 1 0 s_18.length),dO [6,9] 45 (iW ((min s_18.length (x_15.2.length - (x_15.1).toNat) : Nat) : Int)),⟨[3,10],0,1,some (46,iW (IntKind.wrap .i64 (x_15.1 + ((min s_18.length (x_15.2.length - (x_15.1).toNat) : Nat) : Int)))),[]⟩,⟨[11],0,1,some (8,iW (IntKind.wrap .i64 (x_15.1 + ((min s_18.length (x_15.2.length - (x_15.1).toNat) : Nat) : Int)))),[]⟩] [7] [[(1,⟨3,true,x_15.2.flatMap eW⟩)],[(1,⟨3,true,l1_19.flatMap eW⟩)]] [[],[],[],[1,3],[],[],[4,6],[1,7],[0,8],[0,9]] [0,12] rfl rfl (by kernel_rfl) rfl (.p rfl (fun _ q _ => .move (l1 rfl) (q.t 0 rfl))<| .read rfl (.c (.put (fun E hE => .move (l1 rfl) (hE.t 0 rfl))) (.n))<| .p rfl (fun _ q _ => .move (l1 rfl) (q.t 0 rfl))<| .read rfl (.c (.put (fun E hE => .slPart (l1 rfl) (hE.t 0 rfl) Tryz.underlying28 sz3 rfl (.some (hE.t 1 rfl)) hs_17)) (.n))<| .read rfl (.c (.put (fun E hE => .move (l1 rfl) (hE.t 0 rfl))) (.n))<| .p rfl (fun _ q _ => .move (l1 rfl) (q.t 0 rfl))<| .read rfl (.c (.put (fun E hE => .slHead (l1 rfl) (hE.t 0 rfl) Tryz.underlying28 sz3 rfl (.some (hE.t 1 rfl)) hs_18)) (.n))<| .turn rfl rfl rfl rfl rfl (.turnput (fun E hE => .cpyR (enc := eW) (l1 rfl) (hE.t 0 rfl) (SrcP.ownR (enc := eW) (hE.t 1 rfl) rfl (encI_len .i64) (slcP hs_18) (slcQ hs_18)) Tryz.underlying28 sz3 rfl (encI_len .i64) (encI_one .i64) rfl hl1_19) rfl)<| .p rfl (fun _ q _ => .add (l1 rfl) (q.t 0 rfl) (q.t 1 rfl))<| .p rfl (fun _ q _ => .assign (l1 rfl) (q.t 0 rfl))<| .nil _) rfl rfl ?_
     exact endJ (t8_20,l1_19) h (by subst ht8_20; exact VC.sub (.c (lenC (Eq.symm (Eq.symm (cpyL hl1_19))) rfl)<| .c rfl<| .n _) (.of rfl))
    ·have h := iteF hc h
     refine AWP.exit ?_
     exact endJ x_15.2 h (VC.sub (.of rfl) (.of rfl))
theorem c72 {β1 : Bool} {β2 : Bool} {β3 : Bool} (n : Nat) (a0 : R24) (a1 : Int) (a2 : Int) (a3 : (List Int)) {r : Int} (h : m72 n a0 a1 a2 a3 = some r) : Spec Tryz.prog 72 [] [.agg (pW β1 β2 a0),iW a1,iW a2,rW β3 a3 eW] [] (iW r) [] := by
 refine Spec.of (fn := Tryz.f72) Tryz.func72 Tryz.ntmps72 rfl rfl (le1 rfl) (fun w0 Zs Zb T0 ι0 => ?_)
 unfold m72 at h
 refine AWP.sv (.cons (.box (t := 1) (n := 2) (l1 rfl) (nm rfl) (.t rfl) (by first | exact ⟨rfl,rfl⟩ | rfl) rfl)<| .cons (.assign (l1 rfl) (.const _ _ _))<| .nil _ _ _) ⟨[(1,iW a1),(2,iW a2),(3,rW β3 a3 eW),(4,.ptr 1 0)],[(1,⟨37,false,(pW β1 β2 a0)⟩)]⟩ rfl rfl ?_
 refine AWP.seq ?_
 obtain ⟨y_1,hy_1,h⟩ := bindS h
 obtain ⟨y_2,hy_2,h⟩ := bindS h
 obtain ⟨y_3,hy_3,h⟩ := bindS h
 obtain ⟨t8_4,ht8_4,h⟩ := letS h
 refine AWP.dw mixed [(1,iW a1),(2,iW a2),(3,rW β3 a3 eW),(4,.ptr 1 0)] [] [dO [3] 9 (.agg (pW β1 β2 a0)),dO [0] 10 (iW a1),dO [1] 11 (iW a2),dO [4,5,6] 12 (iW y_1),dO [2] 13 (rW β3 a3 eW),dO [0] 14 (iW a1),dO [8,9] 15 (.rptr β3 [iW y_2]),dO [10] 16 (iW y_2),dO [7,11] 17 (iW (IntKind.wrap .i64 (y_1 + y_2))),dO [2] 18 (rW β3 a3 eW),dO [1] 19 (iW a2),dO [13,14] 20 (.rptr β3 [iW y_3]),dO [15] 21 (iW y_3),dO [12,16] 22 (iW (IntKind.wrap .i64 ((IntKind.wrap .i64 (y_1 + y_2)) + y_3))),dO [17] 8 (iW (IntKind.wrap .i64 ((IntKind.wrap .i64 (y_1 + y_2)) + y_3)))] [] [[(1,⟨37,false,(pW β1 β2 a0)⟩)]] [[],[],[],[0,3],[],[],[4,6],[4,7],[0,8],[],[],[9,11],[9,12],[0,13],[0,14]] [18] rfl rfl (by kernel_rfl) rfl (.r rfl rfl (fun _ q => .loadPA (l1 rfl) (q.t 0 rfl) agg37 rfl rfl rfl rfl)<| .p rfl (fun _ q _ => .move (l1 rfl) (q.t 0 rfl))<| .p rfl (fun _ q _ => .move (l1 rfl) (q.t 0 rfl))<| .p rfl (fun _ q _ => .call0 (bw := false) (l1 rfl) (c48 (β1 := β1) (β2 := β2) n (R24.mk a0.Pq a0.Bq) a1 a2 hy_1) (.cons (q.t 0 rfl) (.ren rfl) (.cons (q.t 1 rfl) (.ren rfl) (.cons (q.t 2 rfl) (.ren rfl) (.nil)))) rfl)<| .p rfl (fun _ q _ => .move (l1 rfl) (q.t 0 rfl))<| .p rfl (fun _ q _ => .move (l1 rfl) (q.t 0 rfl))<| .p rfl (fun _ q _ => .indexRd (enc := eW) (l1 rfl) (q.t 0 rfl) (q.t 1 rfl) Tryz.underlying28 sz3 (encI_len .i64) rfl hy_2)<| .p rfl (fun _ q _ => .loadR (v := iW y_2) (l1 rfl) (q.t 0 rfl) one3 rfl)<| .p rfl (fun _ q _ => .add (l1 rfl) (q.t 0 rfl) (q.t 1 rfl))<| .p rfl (fun _ q _ => .move (l1 rfl) (q.t 0 rfl))<| .p rfl (fun _ q _ => .move (l1 rfl) (q.t 0 rfl))<| .p rfl (fun _ q _ => .indexRd (enc := eW) (l1 rfl) (q.t 0 rfl) (q.t 1 rfl) Tryz.underlying28 sz3 (encI_len .i64) rfl hy_3)<| .p rfl (fun _ q _ => .loadR (v := iW y_3) (l1 rfl) (q.t 0 rfl) one3 rfl)<| .p rfl (fun _ q _ => .add (l1 rfl) (q.t 0 rfl) (q.t 1 rfl))<| .p rfl (fun _ q _ => .assign (l1 rfl) (q.t 0 rfl))<| .nil _) rfl rfl ?_
 refine AWP.ret ?_
 obtain rfl := Option.some.inj h
 refine retJ (Res.vc (s' := ⟨[(8,iW t8_4)],[]⟩) (by subst ht8_4; exact VC.sub (.of rfl) (.n _)) ?_)
 refine Res.drop (H := []) rfl ?_
 exact Res.of rfl (.cons (.tmp rfl) (.nil)) rfl rfl
theorem c56 {β1 : Bool} {β2 : Bool} {β3 : Bool} {β4 : Bool} (n : Nat) (a0 : R24) (a1 : (List Int)) (a2 : (List Int)) (a3_b : (List Int)) {r : (Int × (List Int))} (h : m56 n a0 a1 a2 a3_b = some r) : Spec Tryz.prog 56 [1] [.agg (pW β1 β2 a0),rW β3 a1 eW,rW β4 a2 eW,.own 1 1 0 a3_b.length] [(1,⟨3,true,a3_b.flatMap eW⟩)] (iW r.1) [(1,⟨3,true,r.2.flatMap eW⟩)] := by
 refine Spec.of (fn := Tryz.f56) Tryz.func56 Tryz.ntmps56 rfl rfl (le1 rfl) (fun w0 Zs Zb T0 ι0 => ?_)
 unfold m56 at h
 refine AWP.sv (.cons (.box (t := 2) (n := 2) (l1 rfl) (nm rfl) (.t rfl) (by first | exact ⟨rfl,rfl⟩ | rfl) rfl)<| .cons (.assign (l1 rfl) (.const _ _ _))<| .nil _ _ _) ⟨[(1,rW β3 a1 eW),(2,rW β4 a2 eW),(3,.own 1 1 0 a3_b.length),(4,.ptr 2 0)],[(2,⟨37,false,(pW β1 β2 a0)⟩),(1,⟨3,true,a3_b.flatMap eW⟩)]⟩ rfl rfl ?_
 refine AWP.seq ?_
 refine AWP.sv (.cons (.move (l1 rfl) (.t rfl))<| .cons (.lenRd (l1 rfl) (.t rfl) Tryz.underlying28)<| .cons (.eql (l1 rfl) (.t rfl) (.const _ _ _))<| .nil _ _ _) ⟨[(1,rW β3 a1 eW),(2,rW β4 a2 eW),(3,.own 1 1 0 a3_b.length),(4,.ptr 2 0),(21,bW (decide ((a1.length : Int) = (0 : Int))))],[(2,⟨37,false,(pW β1 β2 a0)⟩),(1,⟨3,true,a3_b.flatMap eW⟩)]⟩ rfl rfl ?_
 refine AWP.cond (.t rfl) (fun hc => ?_) (fun hc => ?_)
 ·have h := iteT hc h
  refine AWP.sr (.cons (.assign (l1 rfl) (.const _ _ _))<| .nil _ _ _) ?_
  refine AWP.ret ?_
  obtain rfl := Option.some.inj h
  refine retJ (Res.vc (s' := ⟨[(8,iW (0 : Int))],[(1,⟨3,true,a3_b.flatMap eW⟩)]⟩) (VC.sub (.of rfl) (.of rfl)) ?_)
  refine Res.sub (H := [(1,⟨3,true,a3_b.flatMap eW⟩)]) (.of rfl) ?_
  exact Res.of rfl (.cons (.tmp rfl) (.nil)) rfl rfl
 ·have h := iteF hc h
  refine AWP.skip ?_
  obtain ⟨y_1,hy_1,h⟩ := bindS h
  obtain ⟨y_2,hy_2,h⟩ := bindS h
  refine AWP.sv (.cons (.move (l1 rfl) (.t rfl))<| .cons (.indexRd (enc := eW) (l1 rfl) (.t rfl) (.const _ _ _) Tryz.underlying28 sz3 (encI_len .i64) rfl hy_1)<| .cons (.loadR (v := iW y_1) (l1 rfl) (.t rfl) one3 rfl)<| .cons (.buildSlice (t := 3) (out := ([y_1] : List Int).flatMap eW) (l1 rfl) (nm rfl) (.cons (.t rfl) (by first | exact ⟨rfl,rfl⟩ | rfl) (.nil)) Tryz.underlying28 zero3 el3 (by decide) (by decide) rfl (still_all (encI_still .i64) _))<| .cons (.move (l1 rfl) (.t rfl))<| .cons (.lenRd (l1 rfl) (.t rfl) Tryz.underlying28)<| .cons (.call (σ := fun _ => 4) (bw := true) (l1 rfl) (c81o (β1 := true) n ([y_1] : List Int) (a1.length : Int) hy_2) (.cons (.t rfl) (.lendRow rfl rfl (encI_len .i64) rfl) (.cons (.t rfl) (.ren rfl) (.nil))) (CallOk.mk' (.n) rfl))<| .cons (.assign (l1 rfl) (.t rfl))<| .nil _ _ _) ⟨[(1,rW β3 a1 eW),(2,rW β4 a2 eW),(3,.own 1 1 0 a3_b.length),(4,.ptr 2 0),(9,.own 4 1 0 y_2.length)],[(4,⟨3,true,y_2.flatMap eW⟩),(2,⟨37,false,(pW β1 β2 a0)⟩),(1,⟨3,true,a3_b.flatMap eW⟩)]⟩ rfl rfl ?_
  obtain ⟨l5_3,hl5_3,h⟩ := bindS h
  refine AWP.sv (.cons (.move (l1 rfl) (.t rfl))<| .cons (.lenRd (l1 rfl) (.t rfl) Tryz.underlying28)<| .cons (.mkS (enc := encB) (t := 5) (l1 rfl) (nm rfl) (.t rfl) (.t rfl) Tryz.underlying117 zero4 el4 rfl encB_len (by decide) hl5_3)<| .cons (.assign (l1 rfl) (.t rfl))<| .nil _ _ _) ⟨[(1,rW β3 a1 eW),(2,rW β4 a2 eW),(3,.own 1 1 0 a3_b.length),(4,.ptr 2 0),(9,.own 4 1 0 y_2.length),(10,.own 5 1 0 l5_3.length)],[(5,⟨4,true,l5_3.flatMap encB⟩),(4,⟨3,true,y_2.flatMap eW⟩),(2,⟨37,false,(pW β1 β2 a0)⟩),(1,⟨3,true,a3_b.flatMap eW⟩)]⟩ rfl rfl ?_
  obtain ⟨y_4,hy_4,h⟩ := bindS h
  obtain ⟨l5_5,hl5_5,h⟩ := bindS h
  refine AWP.sr (.cons (.move (l1 rfl) (.t rfl))<| .cons (.idxOwn (l1 rfl) (.t rfl) (.const _ _ _) Tryz.underlying117 sz4 rfl hy_4)<| .cons (.storeP (.t rfl) (.const _ _ _) sz4 rfl (lt_at1 encB_len hy_4) rfl (fun _ => rfl) (set_at1 encB_len hl5_5 rfl))<| .nil _ _ _) ?_
  refine AWP.vc (s' := ⟨[(1,rW β3 a1 eW),(2,rW β4 a2 eW),(3,.own 1 1 0 a3_b.length),(4,.ptr 2 0),(9,.own 4 1 0 y_2.length),(10,.own 5 1 0 l5_5.length)],[(5,⟨4,true,l5_5.flatMap encB⟩),(4,⟨3,true,y_2.flatMap eW⟩),(2,⟨37,false,(pW β1 β2 a0)⟩),(1,⟨3,true,a3_b.flatMap eW⟩)]⟩) (VC.sub (.c rfl<| .c rfl<| .c rfl<| .c rfl<| .c rfl<| .c (lenC (Eq.symm (setLen hl5_5)) rfl)<| .n _) (.of rfl)) ?_
  refine AWP.sv (.cons (.assign (l1 rfl) (.const _ _ _))<| .nil _ _ _) ⟨[(1,rW β3 a1 eW),(2,rW β4 a2 eW),(3,.own 1 1 0 a3_b.length),(4,.ptr 2 0),(9,.own 4 1 0 y_2.length),(10,.own 5 1 0 l5_5.length),(11,iW (0 : Int))],[(5,⟨4,true,l5_5.flatMap encB⟩),(4,⟨3,true,y_2.flatMap eW⟩),(2,⟨37,false,(pW β1 β2 a0)⟩),(1,⟨3,true,a3_b.flatMap eW⟩)]⟩ rfl rfl ?_
  refine AWP.seq ?_
  obtain ⟨t36_6,ht36_6,h⟩ := letS h
  refine AWP.sr (.cons (.move (l1 rfl) (.t rfl))<| .cons (.lenRd (l1 rfl) (.t rfl) Tryz.underlying28)<| .cons (.sub (l1 rfl) (.t rfl) (.const _ _ _))<| .cons (.move (l1 rfl) (.const _ _ _))<| .nil _ _ _) ?_
  refine AWP.vc (s' := ⟨[(1,rW β3 a1 eW),(2,rW β4 a2 eW),(3,.own 1 1 0 a3_b.length),(4,.ptr 2 0),(9,.own 4 1 0 y_2.length),(10,.own 5 1 0 l5_5.length),(11,iW (0 : Int)),(36,iW t36_6),(37,iW (0 : Int))],[(5,⟨4,true,l5_5.flatMap encB⟩),(4,⟨3,true,y_2.flatMap eW⟩),(2,⟨37,false,(pW β1 β2 a0)⟩),(1,⟨3,true,a3_b.flatMap eW⟩)]⟩) (by subst ht36_6; exact VC.sub (.of rfl) (.of rfl)) ?_
  refine AWP.joinB' (S := fun p_230 : Int × (List Int) => ⟨[(11,iW p_230.1)],[(1,⟨3,true,p_230.2.flatMap eW⟩)]⟩) h (fun p_230 h => ?_) (fun k_231 h => ?_)
  ·refine AWP.sr (.cons (.move (l1 rfl) (.t rfl))<| .cons (.assign (l1 rfl) (.t rfl))<| .nil _ _ _) ?_
   refine AWP.ret ?_
   obtain rfl := Option.some.inj h
   refine retJ (Res.vc (s' := ⟨[(8,iW p_230.1)],[(1,⟨3,true,p_230.2.flatMap eW⟩)]⟩) (VC.sub (.of rfl) (.of rfl)) ?_)
   refine Res.sub (H := [(1,⟨3,true,p_230.2.flatMap eW⟩)]) (.of rfl) ?_
   exact Res.of rfl (.cons (.tmp rfl) (.nil)) rfl rfl
  ·refine AWP.vs ⟨[(1,rW β3 a1 eW),(2,rW β4 a2 eW),(3,.own 1 1 0 a3_b.length),(4,.ptr 2 0),(9,.own 4 1 0 y_2.length),(10,.own 5 1 0 l5_5.length),(11,iW (0 : Int)),(36,iW t36_6),(37,iW (0 : Int))],[(1,⟨3,true,a3_b.flatMap eW⟩),(2,⟨37,false,(pW β1 β2 a0)⟩),(4,⟨3,true,y_2.flatMap eW⟩),(5,⟨4,true,l5_5.flatMap encB⟩)]⟩ rfl rfl ?_
   refine AWP.loopM (S := fun x_155 : Int × Int × (List Int) × (List Int) × (List Bool) => ⟨[(1,rW β3 a1 eW),(2,rW β4 a2 eW),(3,.own 1 1 0 x_155.2.2.1.length),(4,.ptr 2 0),(9,.own 4 1 0 x_155.2.2.2.1.length),(10,.own 5 1 0 x_155.2.2.2.2.length),(11,iW x_155.1),(36,iW t36_6),(37,iW x_155.2.1)],[(1,⟨3,true,x_155.2.2.1.flatMap eW⟩),(2,⟨37,false,(pW β1 β2 a0)⟩),(4,⟨3,true,x_155.2.2.2.1.flatMap eW⟩),(5,⟨4,true,x_155.2.2.2.2.flatMap encB⟩)]⟩) (x := ((0 : Int),(0 : Int),a3_b,y_2,l5_5)) (fun nx_156 x_155 h => ?_) h
   unfold m56_L5 at h
   refine AWP.sv (.cons (.lss (l1 rfl) (.t rfl) (.t rfl))<| .nil _ _ _) ⟨[(1,rW β3 a1 eW),(2,rW β4 a2 eW),(3,.own 1 1 0 x_155.2.2.1.length),(4,.ptr 2 0),(9,.own 4 1 0 x_155.2.2.2.1.length),(10,.own 5 1 0 x_155.2.2.2.2.length),(11,iW x_155.1),(36,iW t36_6),(37,iW x_155.2.1),(38,bW (decide (x_155.2.1 < t36_6)))],[(1,⟨3,true,x_155.2.2.1.flatMap eW⟩),(2,⟨37,false,(pW β1 β2 a0)⟩),(4,⟨3,true,x_155.2.2.2.1.flatMap eW⟩),(5,⟨4,true,x_155.2.2.2.2.flatMap encB⟩)]⟩ rfl rfl ?_
   refine AWP.seq ?_
   refine AWP.cond (.t rfl) (fun hc => ?_) (fun hc => ?_)
   ·have h := iteT hc h
    refine AWP.skip ?_
    refine AWP.seq ?_
    refine AWP.block ?_
    refine AWP.sv (.cons (.assign (l1 rfl) (.const _ _ _))<| .cons (.assign (l1 rfl) (.const _ _ _))<| .nil _ _ _) ⟨[(1,rW β3 a1 eW),(2,rW β4 a2 eW),(3,.own 1 1 0 x_155.2.2.1.length),(4,.ptr 2 0),(9,.own 4 1 0 x_155.2.2.2.1.length),(10,.own 5 1 0 x_155.2.2.2.2.length),(11,iW x_155.1),(36,iW t36_6),(37,iW x_155.2.1),(12,iW (-1 : Int)),(13,iW (0 : Int))],[(1,⟨3,true,x_155.2.2.1.flatMap eW⟩),(2,⟨37,false,(pW β1 β2 a0)⟩),(4,⟨3,true,x_155.2.2.2.1.flatMap eW⟩),(5,⟨4,true,x_155.2.2.2.2.flatMap encB⟩)]⟩ rfl rfl ?_
    refine AWP.seq ?_
    refine AWP.sv (.cons (.move (l1 rfl) (.t rfl))<| .cons (.lenRd (l1 rfl) (.t rfl) Tryz.underlying28)<| .cons (.move (l1 rfl) (.const _ _ _))<| .nil _ _ _) ⟨[(1,rW β3 a1 eW),(2,rW β4 a2 eW),(3,.own 1 1 0 x_155.2.2.1.length),(4,.ptr 2 0),(9,.own 4 1 0 x_155.2.2.2.1.length),(10,.own 5 1 0 x_155.2.2.2.2.length),(11,iW x_155.1),(36,iW t36_6),(37,iW x_155.2.1),(12,iW (-1 : Int)),(13,iW (0 : Int)),(39,rW β3 a1 eW),(40,iW (a1.length : Int)),(41,iW (0 : Int))],[(1,⟨3,true,x_155.2.2.1.flatMap eW⟩),(2,⟨37,false,(pW β1 β2 a0)⟩),(4,⟨3,true,x_155.2.2.2.1.flatMap eW⟩),(5,⟨4,true,x_155.2.2.2.2.flatMap encB⟩)]⟩ rfl rfl ?_
    refine AWP.joinB' (S := fun p_174 : Int × Int => ⟨[(1,rW β3 a1 eW),(2,rW β4 a2 eW),(3,.own 1 1 0 x_155.2.2.1.length),(4,.ptr 2 0),(9,.own 4 1 0 x_155.2.2.2.1.length),(10,.own 5 1 0 x_155.2.2.2.2.length),(11,iW x_155.1),(12,iW p_174.1),(13,iW p_174.2),(36,iW t36_6),(37,iW x_155.2.1)],[(1,⟨3,true,x_155.2.2.1.flatMap eW⟩),(2,⟨37,false,(pW β1 β2 a0)⟩),(4,⟨3,true,x_155.2.2.2.1.flatMap eW⟩),(5,⟨4,true,x_155.2.2.2.2.flatMap encB⟩)]⟩) h (fun p_174 h => ?_) (fun k_175 h => ?_)
    ·obtain ⟨y_176,hy_176,h⟩ := bindS h
     obtain ⟨l5_177,hl5_177,h⟩ := bindS h
     refine AWP.sr (.cons (.move (l1 rfl) (.t rfl))<| .cons (.move (l1 rfl) (.t rfl))<| .cons (.idxOwn (l1 rfl) (.t rfl) (.t rfl) Tryz.underlying117 sz4 rfl hy_176)<| .cons (.storeP (.t rfl) (.const _ _ _) sz4 rfl (lt_at1 encB_len hy_176) rfl (fun _ => rfl) (set_at1 encB_len hl5_177 rfl))<| .nil _ _ _) ?_
     refine AWP.vc (s' := ⟨[(1,rW β3 a1 eW),(2,rW β4 a2 eW),(3,.own 1 1 0 x_155.2.2.1.length),(4,.ptr 2 0),(9,.own 4 1 0 x_155.2.2.2.1.length),(10,.own 5 1 0 l5_177.length),(11,iW x_155.1),(12,iW p_174.1),(13,iW p_174.2),(36,iW t36_6),(37,iW x_155.2.1)],[(1,⟨3,true,x_155.2.2.1.flatMap eW⟩),(2,⟨37,false,(pW β1 β2 a0)⟩),(4,⟨3,true,x_155.2.2.2.1.flatMap eW⟩),(5,⟨4,true,l5_177.flatMap encB⟩)]⟩) (VC.sub (.c rfl<| .c rfl<| .c rfl<| .c rfl<| .c rfl<| .c (lenC (Eq.symm (setLen hl5_177)) rfl)<| .c rfl<| .c rfl<| .c rfl<| .c rfl<| .c rfl<| .n _) (.of rfl)) ?_
     obtain ⟨t11_178,ht11_178,h⟩ := letS h
     refine AWP.sr (.cons (.move (l1 rfl) (.t rfl))<| .cons (.move (l1 rfl) (.t rfl))<| .cons (.add (l1 rfl) (.t rfl) (.t rfl))<| .cons (.assign (l1 rfl) (.t rfl))<| .nil _ _ _) ?_
     refine AWP.vc (s' := ⟨[(1,rW β3 a1 eW),(2,rW β4 a2 eW),(3,.own 1 1 0 x_155.2.2.1.length),(4,.ptr 2 0),(9,.own 4 1 0 x_155.2.2.2.1.length),(10,.own 5 1 0 l5_177.length),(11,iW t11_178),(12,iW p_174.1),(36,iW t36_6),(37,iW x_155.2.1)],[(1,⟨3,true,x_155.2.2.1.flatMap eW⟩),(2,⟨37,false,(pW β1 β2 a0)⟩),(4,⟨3,true,x_155.2.2.2.1.flatMap eW⟩),(5,⟨4,true,l5_177.flatMap encB⟩)]⟩) (by subst ht11_178; exact VC.sub (.of rfl) (.of rfl)) ?_
     obtain ⟨y_179,hy_179,h⟩ := bindS h
     obtain ⟨y_180,hy_180,h⟩ := bindS h
     obtain ⟨y_181,hy_181,h⟩ := bindS h
     obtain ⟨l1_182,hl1_182,h⟩ := bindS h
     refine AWP.sr (.cons (.move (l1 rfl) (.t rfl))<| .cons (.move (l1 rfl) (.t rfl))<| .cons (.move (l1 rfl) (.t rfl))<| .cons (.indexRd (enc := eW) (l1 rfl) (.t rfl) (.t rfl) Tryz.underlying28 sz3 (encI_len .i64) rfl hy_179)<| .cons (.loadR (v := iW y_179) (l1 rfl) (.t rfl) one3 rfl)<| .cons (.idxOwn (l1 rfl) (.t rfl) (.t rfl) Tryz.underlying28 sz3 rfl hy_180)<| .cons (.loadP (l1 rfl) (.t rfl) one3 rfl (cell_at1 (encI_len .i64) hy_180) rfl)<| .cons (.add (l1 rfl) (.t rfl) (.const _ _ _))<| .cons (.idxOwn (l1 rfl) (.t rfl) (.t rfl) Tryz.underlying28 sz3 rfl hy_181)<| .cons (.storeP (.t rfl) (.t rfl) sz3 rfl (lt_at1 (encI_len .i64) hy_181) rfl (fun _ => rfl) (set_at1 (encI_len .i64) hl1_182 rfl))<| .nil _ _ _) ?_
     refine AWP.vc (s' := ⟨[(1,rW β3 a1 eW),(2,rW β4 a2 eW),(3,.own 1 1 0 l1_182.length),(4,.ptr 2 0),(9,.own 4 1 0 x_155.2.2.2.1.length),(10,.own 5 1 0 l5_177.length),(11,iW t11_178),(12,iW p_174.1),(36,iW t36_6),(37,iW x_155.2.1)],[(1,⟨3,true,l1_182.flatMap eW⟩),(2,⟨37,false,(pW β1 β2 a0)⟩),(4,⟨3,true,x_155.2.2.2.1.flatMap eW⟩),(5,⟨4,true,l5_177.flatMap encB⟩)]⟩) (VC.sub (.c rfl<| .c rfl<| .c (lenC (Eq.symm (setLen hl1_182)) rfl)<| .c rfl<| .c rfl<| .c rfl<| .c rfl<| .c rfl<| .c rfl<| .c rfl<| .n _) (.of rfl)) ?_
     obtain ⟨y_183,hy_183,h⟩ := bindS h
     obtain ⟨y_184,hy_184,h⟩ := bindS h
     obtain ⟨y_185,hy_185,h⟩ := bindS h
     obtain ⟨l1_186,hl1_186,h⟩ := bindS h
     refine AWP.sr (.cons (.move (l1 rfl) (.t rfl))<| .cons (.move (l1 rfl) (.t rfl))<| .cons (.move (l1 rfl) (.t rfl))<| .cons (.idxOwn (l1 rfl) (.t rfl) (.t rfl) Tryz.underlying28 sz3 rfl hy_183)<| .cons (.loadP (l1 rfl) (.t rfl) one3 rfl (cell_at1 (encI_len .i64) hy_183) rfl)<| .cons (.idxOwn (l1 rfl) (.t rfl) (.t rfl) Tryz.underlying28 sz3 rfl hy_184)<| .cons (.loadP (l1 rfl) (.t rfl) one3 rfl (cell_at1 (encI_len .i64) hy_184) rfl)<| .cons (.add (l1 rfl) (.t rfl) (.const _ _ _))<| .cons (.idxOwn (l1 rfl) (.t rfl) (.t rfl) Tryz.underlying28 sz3 rfl hy_185)<| .cons (.storeP (.t rfl) (.t rfl) sz3 rfl (lt_at1 (encI_len .i64) hy_185) rfl (fun _ => rfl) (set_at1 (encI_len .i64) hl1_186 rfl))<| .nil _ _ _) ?_
     refine AWP.vc (s' := ⟨[(1,rW β3 a1 eW),(2,rW β4 a2 eW),(3,.own 1 1 0 l1_186.length),(4,.ptr 2 0),(9,.own 4 1 0 x_155.2.2.2.1.length),(10,.own 5 1 0 l5_177.length),(11,iW t11_178),(12,iW p_174.1),(36,iW t36_6),(37,iW x_155.2.1)],[(1,⟨3,true,l1_186.flatMap eW⟩),(2,⟨37,false,(pW β1 β2 a0)⟩),(4,⟨3,true,x_155.2.2.2.1.flatMap eW⟩),(5,⟨4,true,l5_177.flatMap encB⟩)]⟩) (VC.sub (.c rfl<| .c rfl<| .c (lenC (Eq.symm (setLen hl1_186)) rfl)<| .c rfl<| .c rfl<| .c rfl<| .c rfl<| .c rfl<| .c rfl<| .c rfl<| .n _) (.of rfl)) ?_
     refine AWP.sv (.cons (.move (l1 rfl) (.t rfl))<| .cons (.lenRd (l1 rfl) (.t rfl) Tryz.underlying28)<| .cons (.move (l1 rfl) (.const _ _ _))<| .nil _ _ _) ⟨[(1,rW β3 a1 eW),(2,rW β4 a2 eW),(3,.own 1 1 0 l1_186.length),(4,.ptr 2 0),(9,.own 4 1 0 x_155.2.2.2.1.length),(10,.own 5 1 0 l5_177.length),(11,iW t11_178),(12,iW p_174.1),(36,iW t36_6),(37,iW x_155.2.1),(95,rW β3 a1 eW),(96,iW (a1.length : Int)),(97,iW (0 : Int))],[(1,⟨3,true,l1_186.flatMap eW⟩),(2,⟨37,false,(pW β1 β2 a0)⟩),(4,⟨3,true,x_155.2.2.2.1.flatMap eW⟩),(5,⟨4,true,l5_177.flatMap encB⟩)]⟩ rfl rfl ?_
     refine AWP.joinB' (S := fun p_227 : (List Int) => ⟨[(1,rW β3 a1 eW),(2,rW β4 a2 eW),(3,.own 1 1 0 l1_186.length),(4,.ptr 2 0),(9,.own 4 1 0 p_227.length),(10,.own 5 1 0 l5_177.length),(11,iW t11_178),(36,iW t36_6),(37,iW x_155.2.1)],[(1,⟨3,true,l1_186.flatMap eW⟩),(2,⟨37,false,(pW β1 β2 a0)⟩),(4,⟨3,true,p_227.flatMap eW⟩),(5,⟨4,true,l5_177.flatMap encB⟩)]⟩) h (fun p_227 h => ?_) (fun k_228 h => ?_)
     ·obtain ⟨t37_229,ht37_229,h⟩ := letS h
      refine AWP.rg (.cons (.add (l1 rfl) (.t rfl) (.const _ _ _))<| .cons (.move (l1 rfl) (.t rfl))<| .nil _ _ _) ?_
      exact endJ (t11_178,t37_229,l1_186,p_227,l5_177) h (by subst ht37_229; exact VC.sub (.of rfl) (.of rfl))
     ·refine AWP.vs ⟨[(1,rW β3 a1 eW),(2,rW β4 a2 eW),(3,.own 1 1 0 l1_186.length),(4,.ptr 2 0),(9,.own 4 1 0 x_155.2.2.2.1.length),(10,.own 5 1 0 l5_177.length),(11,iW t11_178),(12,iW p_174.1),(36,iW t36_6),(37,iW x_155.2.1),(95,rW β3 a1 eW),(96,iW (a1.length : Int)),(97,iW (0 : Int))],[(1,⟨3,true,l1_186.flatMap eW⟩),(2,⟨37,false,(pW β1 β2 a0)⟩),(4,⟨3,true,x_155.2.2.2.1.flatMap eW⟩),(5,⟨4,true,l5_177.flatMap encB⟩)]⟩ rfl rfl ?_
      refine AWP.loopM (S := fun x_213 : Int × (List Int) => ⟨[(1,rW β3 a1 eW),(2,rW β4 a2 eW),(3,.own 1 1 0 l1_186.length),(4,.ptr 2 0),(9,.own 4 1 0 x_213.2.length),(10,.own 5 1 0 l5_177.length),(11,iW t11_178),(12,iW p_174.1),(36,iW t36_6),(37,iW x_155.2.1),(95,rW β3 a1 eW),(96,iW (a1.length : Int)),(97,iW x_213.1)],[(1,⟨3,true,l1_186.flatMap eW⟩),(2,⟨37,false,(pW β1 β2 a0)⟩),(4,⟨3,true,x_213.2.flatMap eW⟩),(5,⟨4,true,l5_177.flatMap encB⟩)]⟩) (x := ((0 : Int),x_155.2.2.2.1)) (fun nx_214 x_213 h => ?_) h
      unfold m56_L7 at h
      refine AWP.sv (.cons (.lss (l1 rfl) (.t rfl) (.t rfl))<| .nil _ _ _) ⟨[(1,rW β3 a1 eW),(2,rW β4 a2 eW),(3,.own 1 1 0 l1_186.length),(4,.ptr 2 0),(9,.own 4 1 0 x_213.2.length),(10,.own 5 1 0 l5_177.length),(11,iW t11_178),(12,iW p_174.1),(36,iW t36_6),(37,iW x_155.2.1),(95,rW β3 a1 eW),(96,iW (a1.length : Int)),(97,iW x_213.1),(98,bW (decide (x_213.1 < (a1.length : Int))))],[(1,⟨3,true,l1_186.flatMap eW⟩),(2,⟨37,false,(pW β1 β2 a0)⟩),(4,⟨3,true,x_213.2.flatMap eW⟩),(5,⟨4,true,l5_177.flatMap encB⟩)]⟩ rfl rfl ?_
      refine AWP.seq ?_
      refine AWP.cond (.t rfl) (fun hc => ?_) (fun hc => ?_)
      ·have h := iteT hc h
       refine AWP.skip ?_
       refine AWP.seq ?_
       refine AWP.block ?_
       obtain ⟨y_215,hy_215,h⟩ := bindS h
       refine AWP.sv (.cons (.move (l1 rfl) (.t rfl))<| .cons (.indexRd (enc := eW) (l1 rfl) (.t rfl) (.t rfl) Tryz.underlying28 sz3 (encI_len .i64) rfl hy_215)<| .cons (.loadR (v := iW y_215) (l1 rfl) (.t rfl) one3 rfl)<| .cons (.assign (l1 rfl) (.t rfl))<| .cons (.assign (l1 rfl) (.t rfl))<| .nil _ _ _) ⟨[(1,rW β3 a1 eW),(2,rW β4 a2 eW),(3,.own 1 1 0 l1_186.length),(4,.ptr 2 0),(9,.own 4 1 0 x_213.2.length),(10,.own 5 1 0 l5_177.length),(11,iW t11_178),(12,iW p_174.1),(36,iW t36_6),(37,iW x_155.2.1),(95,rW β3 a1 eW),(96,iW (a1.length : Int)),(97,iW x_213.1),(17,iW x_213.1),(18,iW y_215)],[(1,⟨3,true,l1_186.flatMap eW⟩),(2,⟨37,false,(pW β1 β2 a0)⟩),(4,⟨3,true,x_213.2.flatMap eW⟩),(5,⟨4,true,l5_177.flatMap encB⟩)]⟩ rfl rfl ?_
       refine AWP.seq ?_
       obtain ⟨y_216,hy_216,h⟩ := bindS h
       obtain ⟨y_217,hy_217,h⟩ := bindS h
       obtain ⟨y_218,hy_218,h⟩ := bindS h
       obtain ⟨y_219,hy_219,h⟩ := bindS h
       obtain ⟨y_220,hy_220,h⟩ := bindS h
       refine AWP.dw mixed [(1,rW β3 a1 eW),(2,rW β4 a2 eW),(3,.own 1 1 0 l1_186.length),(4,.ptr 2 0),(9,.own 4 1 0 x_213.2.length),(10,.own 5 1 0 l5_177.length),(11,iW t11_178),(12,iW p_174.1),(17,iW x_213.1),(18,iW y_215),(36,iW t36_6),(37,iW x_155.2.1),(95,rW β3 a1 eW),(96,iW (a1.length : Int)),(97,iW x_213.1)] [] [dO [5] 102 (.own 5 1 0 l5_177.length),dO [8] 103 (iW x_213.1),dO [15,16] 104 (.ptr 5 (0 + (x_213.1).toNat * 1)),dO [17] 105 (bW y_216),dO [18] 106 (bW (!y_216)),dO [19] 107 (bW (!y_216)),dO [20,3] 108 (.gd (!y_216) (.agg (pW β1 β2 a0))),dO [20,9] 109 (.gd (!y_216) (iW y_215)),dO [20,0] 110 (.gd (!y_216) (rW β3 a1 eW)),dO [20,7] 111 (.gd (!y_216) (iW p_174.1)),dO [20,23,24] 112 (.gd (!y_216) (.rptr β3 [iW y_217])),dO [20,25] 113 (.gd (!y_216) (iW y_217)),dO [20,1] 114 (.gd (!y_216) (rW β4 a2 eW)),dO [20,21,22,26,27] 115 (.gd (!y_216) (iW y_218)),dO [20,3] 116 (.gd (!y_216) (.agg (pW β1 β2 a0))),dO [20,9] 117 (.gd (!y_216) (iW y_215)),dO [20,4] 118 (.gd (!y_216) (.own 4 1 0 x_213.2.length)),dO [20,8] 119 (.gd (!y_216) (iW x_213.1)),dO [20,31,32] 120 (.gd (!y_216) (.ptr 4 (0 + (x_213.1).toNat * 1))),dO [20,33] 121 (.gd (!y_216) (iW y_219)),dO [20,1] 122 (.gd (!y_216) (rW β4 a2 eW)),dO [20,29,30,34,35] 123 (.gd (!y_216) (iW y_220)),dO [20,28,36] 124 (.gd (!y_216) (bW (decide (y_218 < y_220)))),dO [20,37] 125 (bW ((!y_216) && (decide (y_218 < y_220))))] [] [[(1,⟨3,true,l1_186.flatMap eW⟩),(2,⟨37,false,(pW β1 β2 a0)⟩),(4,⟨3,true,x_213.2.flatMap eW⟩),(5,⟨4,true,l5_177.flatMap encB⟩)]] [[],[],[0,2],[0,3],[0,4],[0,5],[0,6],[0,6],[0,6],[0,6],[0,6,8,10],[0,6,8,11],[0,6],[0,13],[0,6],[0,6],[0,6],[0,6],[0,6,16,18],[0,6,16,19],[0,6],[0,21],[0,22],[0,23]] [0,1,2,3,4,5,6,7,8,10,11,12,13,14,38] rfl rfl (by kernel_rfl) rfl (.r rfl rfl (fun _ q => .move (l1 rfl) (q.t 0 rfl))<| .p rfl (fun _ q _ => .move (l1 rfl) (q.t 0 rfl))<| .r rfl rfl (fun _ q => .idxOwn (l1 rfl) (q.t 0 rfl) (q.t 1 rfl) Tryz.underlying117 sz4 rfl hy_216)<| .r rfl rfl (fun _ q => .loadP (l1 rfl) (q.t 0 rfl) one4 rfl (cell_at1 encB_len hy_216) rfl)<| .p rfl (fun _ q _ => .not (l1 rfl) (q.t 0 rfl))<| .p rfl (fun _ q _ => .move (l1 rfl) (q.t 0 rfl))<| .rt rfl rfl rfl rfl rfl rfl (fun hg _ q => .loadPA (l1 rfl) (q.t 1 rfl) agg37 rfl rfl rfl rfl)<| .gt rfl rfl rfl rfl rfl (fun hg _ q _ => .move (l1 rfl) (q.t 1 rfl))<| .gt rfl rfl rfl rfl rfl (fun hg _ q _ => .move (l1 rfl) (q.t 1 rfl))<| .gt rfl rfl rfl rfl rfl (fun hg _ q _ => .move (l1 rfl) (q.t 1 rfl))<| .gt rfl rfl rfl rfl rfl (fun hg _ q _ => .indexRd (enc := eW) (l1 rfl) (.gd hg (q.t 1 rfl)) (.gd hg (q.t 2 rfl)) Tryz.underlying28 sz3 (encI_len .i64) rfl (gdB hy_217 hg))<| .gt rfl rfl rfl rfl rfl (fun hg _ q _ => .loadR (v := iW y_217) (l1 rfl) (.gd hg (q.t 1 rfl)) one3 rfl)<| .gt rfl rfl rfl rfl rfl (fun hg _ q _ => .move (l1 rfl) (q.t 1 rfl))<| .gt rfl rfl rfl rfl rfl (fun hg _ q _ => .call0 (bw := false) (l1 rfl) (c72 (β1 := β1) (β2 := β2) (β3 := β4) n (R24.mk a0.Pq a0.Bq) y_215 y_217 a2 (gdB hy_218 hg)) (.cons (.gd hg (q.t 1 rfl)) (.ren rfl) (.cons (.gd hg (q.t 2 rfl)) (.ren rfl) (.cons (.gd hg (q.t 3 rfl)) (.ren rfl) (.cons (.gd hg (q.t 4 rfl)) (.ren rfl) (.nil))))) rfl)<| .rt rfl rfl rfl rfl rfl rfl (fun hg _ q => .loadPA (l1 rfl) (q.t 1 rfl) agg37 rfl rfl rfl rfl)<| .gt rfl rfl rfl rfl rfl (fun hg _ q _ => .move (l1 rfl) (q.t 1 rfl))<| .rt rfl rfl rfl rfl rfl rfl (fun hg _ q => .move (l1 rfl) (q.t 1 rfl))<| .gt rfl rfl rfl rfl rfl (fun hg _ q _ => .move (l1 rfl) (q.t 1 rfl))<| .rt rfl rfl rfl rfl rfl rfl (fun hg _ q => .idxOwn (l1 rfl) (.gd hg (q.t 1 rfl)) (.gd hg (q.t 2 rfl)) Tryz.underlying28 sz3 rfl (gdB hy_219 hg))<| .rt rfl rfl rfl rfl rfl rfl (fun hg _ q => .loadP (l1 rfl) (.gd hg (q.t 1 rfl)) one3 rfl (cell_at1 (encI_len .i64) (gdB hy_219 hg)) rfl)<| .gt rfl rfl rfl rfl rfl (fun hg _ q _ => .move (l1 rfl) (q.t 1 rfl))<| .gt rfl rfl rfl rfl rfl (fun hg _ q _ => .call0 (bw := false) (l1 rfl) (c72 (β1 := β1) (β2 := β2) (β3 := β4) n (R24.mk a0.Pq a0.Bq) y_215 y_219 a2 (gdB hy_220 hg)) (.cons (.gd hg (q.t 1 rfl)) (.ren rfl) (.cons (.gd hg (q.t 2 rfl)) (.ren rfl) (.cons (.gd hg (q.t 3 rfl)) (.ren rfl) (.cons (.gd hg (q.t 4 rfl)) (.ren rfl) (.nil))))) rfl)<| .gt rfl rfl rfl rfl rfl (fun hg _ q _ => .lss (l1 rfl) (.gd hg (q.t 1 rfl)) (.gd hg (q.t 2 rfl)))<| .p rfl (fun _ q _ => .pickAnd (l1 rfl) (q.t 0 rfl) (q.t 1 rfl) (.const _ _ _))<| .nil _) rfl rfl ?_
       refine AWP.vs ⟨[(1,rW β3 a1 eW),(2,rW β4 a2 eW),(3,.own 1 1 0 l1_186.length),(4,.ptr 2 0),(9,.own 4 1 0 x_213.2.length),(10,.own 5 1 0 l5_177.length),(11,iW t11_178),(12,iW p_174.1),(36,iW t36_6),(37,iW x_155.2.1),(95,rW β3 a1 eW),(96,iW (a1.length : Int)),(97,iW x_213.1),(17,iW x_213.1),(125,bW ((!y_216) && (decide (y_218 < y_220))))],[(1,⟨3,true,l1_186.flatMap eW⟩),(2,⟨37,false,(pW β1 β2 a0)⟩),(4,⟨3,true,x_213.2.flatMap eW⟩),(5,⟨4,true,l5_177.flatMap encB⟩)]⟩ rfl rfl ?_
       refine AWP.join' (S := fun p_224 : (List Int) => ⟨[(1,rW β3 a1 eW),(2,rW β4 a2 eW),(3,.own 1 1 0 l1_186.length),(4,.ptr 2 0),(9,.own 4 1 0 p_224.length),(10,.own 5 1 0 l5_177.length),(11,iW t11_178),(12,iW p_174.1),(36,iW t36_6),(37,iW x_155.2.1),(95,rW β3 a1 eW),(96,iW (a1.length : Int)),(97,iW x_213.1)],[(1,⟨3,true,l1_186.flatMap eW⟩),(2,⟨37,false,(pW β1 β2 a0)⟩),(4,⟨3,true,p_224.flatMap eW⟩),(5,⟨4,true,l5_177.flatMap encB⟩)]⟩) h (fun p_224 h => ?_) (fun k_225 h => ?_)
       ·obtain ⟨t97_226,ht97_226,h⟩ := letS h
        refine AWP.rg (.cons (.add (l1 rfl) (.t rfl) (.const _ _ _))<| .cons (.move (l1 rfl) (.t rfl))<| .nil _ _ _) ?_
        exact endJ (t97_226,p_224) h (by subst ht97_226; exact VC.sub (.of rfl) (.of rfl))
       ·refine AWP.cond (.t rfl) (fun hc => ?_) (fun hc => ?_)
        ·have h := iteT hc h
         obtain ⟨y_221,hy_221,h⟩ := bindS h
         obtain ⟨y_222,hy_222,h⟩ := bindS h
         obtain ⟨l4_223,hl4_223,h⟩ := bindS h
         refine AWP.rg (.cons (.move (l1 rfl) (.t rfl))<| .cons (.move (l1 rfl) (.t rfl))<| .cons (.move (l1 rfl) (.t rfl))<| .cons (.move (l1 rfl) (.t rfl))<| .cons (.indexRd (enc := eW) (l1 rfl) (.t rfl) (.t rfl) Tryz.underlying28 sz3 (encI_len .i64) rfl hy_221)<| .cons (.loadR (v := iW y_221) (l1 rfl) (.t rfl) one3 rfl)<| .cons (.idxOwn (l1 rfl) (.t rfl) (.t rfl) Tryz.underlying28 sz3 rfl hy_222)<| .cons (.storeP (.t rfl) (.t rfl) sz3 rfl (lt_at1 (encI_len .i64) hy_222) rfl (fun _ => rfl) (set_at1 (encI_len .i64) hl4_223 rfl))<| .nil _ _ _) ?_
         exact endJ l4_223 h (VC.sub (.c rfl<| .c rfl<| .c rfl<| .c rfl<| .c (lenC (Eq.symm (setLen hl4_223)) rfl)<| .c rfl<| .c rfl<| .c rfl<| .c rfl<| .c rfl<| .c rfl<| .c rfl<| .c rfl<| .n _) (.of rfl))
        ·have h := iteF hc h
         refine AWP.skip ?_
         exact endJ x_213.2 h (VC.sub (.of rfl) (.of rfl))
      ·have h := iteF hc h
       refine AWP.exit ?_
       exact endJ x_213.2 h (VC.sub (.of rfl) (.of rfl))
    ·refine AWP.vs ⟨[(1,rW β3 a1 eW),(2,rW β4 a2 eW),(3,.own 1 1 0 x_155.2.2.1.length),(4,.ptr 2 0),(9,.own 4 1 0 x_155.2.2.2.1.length),(10,.own 5 1 0 x_155.2.2.2.2.length),(11,iW x_155.1),(12,iW (-1 : Int)),(13,iW (0 : Int)),(36,iW t36_6),(37,iW x_155.2.1),(39,rW β3 a1 eW),(40,iW (a1.length : Int)),(41,iW (0 : Int))],[(1,⟨3,true,x_155.2.2.1.flatMap eW⟩),(2,⟨37,false,(pW β1 β2 a0)⟩),(4,⟨3,true,x_155.2.2.2.1.flatMap eW⟩),(5,⟨4,true,x_155.2.2.2.2.flatMap encB⟩)]⟩ rfl rfl ?_
     refine AWP.loopM (S := fun x_165 : Int × Int × Int => ⟨[(1,rW β3 a1 eW),(2,rW β4 a2 eW),(3,.own 1 1 0 x_155.2.2.1.length),(4,.ptr 2 0),(9,.own 4 1 0 x_155.2.2.2.1.length),(10,.own 5 1 0 x_155.2.2.2.2.length),(11,iW x_155.1),(12,iW x_165.1),(13,iW x_165.2.1),(36,iW t36_6),(37,iW x_155.2.1),(39,rW β3 a1 eW),(40,iW (a1.length : Int)),(41,iW x_165.2.2)],[(1,⟨3,true,x_155.2.2.1.flatMap eW⟩),(2,⟨37,false,(pW β1 β2 a0)⟩),(4,⟨3,true,x_155.2.2.2.1.flatMap eW⟩),(5,⟨4,true,x_155.2.2.2.2.flatMap encB⟩)]⟩) (x := ((-1 : Int),(0 : Int),(0 : Int))) (fun nx_166 x_165 h => ?_) h
     unfold m56_L6 at h
     refine AWP.sv (.cons (.lss (l1 rfl) (.t rfl) (.t rfl))<| .nil _ _ _) ⟨[(1,rW β3 a1 eW),(2,rW β4 a2 eW),(3,.own 1 1 0 x_155.2.2.1.length),(4,.ptr 2 0),(9,.own 4 1 0 x_155.2.2.2.1.length),(10,.own 5 1 0 x_155.2.2.2.2.length),(11,iW x_155.1),(12,iW x_165.1),(13,iW x_165.2.1),(36,iW t36_6),(37,iW x_155.2.1),(39,rW β3 a1 eW),(40,iW (a1.length : Int)),(41,iW x_165.2.2),(42,bW (decide (x_165.2.2 < (a1.length : Int))))],[(1,⟨3,true,x_155.2.2.1.flatMap eW⟩),(2,⟨37,false,(pW β1 β2 a0)⟩),(4,⟨3,true,x_155.2.2.2.1.flatMap eW⟩),(5,⟨4,true,x_155.2.2.2.2.flatMap encB⟩)]⟩ rfl rfl ?_
     refine AWP.seq ?_
     refine AWP.cond (.t rfl) (fun hc => ?_) (fun hc => ?_)
     ·have h := iteT hc h
      refine AWP.skip ?_
      refine AWP.seq ?_
      refine AWP.block ?_
      obtain ⟨y_167,hy_167,h⟩ := bindS h
      refine AWP.sv (.cons (.move (l1 rfl) (.t rfl))<| .cons (.indexRd (enc := eW) (l1 rfl) (.t rfl) (.t rfl) Tryz.underlying28 sz3 (encI_len .i64) rfl hy_167)<| .cons (.loadR (v := iW y_167) (l1 rfl) (.t rfl) one3 rfl)<| .cons (.assign (l1 rfl) (.t rfl))<| .cons (.assign (l1 rfl) (.t rfl))<| .nil _ _ _) ⟨[(1,rW β3 a1 eW),(2,rW β4 a2 eW),(3,.own 1 1 0 x_155.2.2.1.length),(4,.ptr 2 0),(9,.own 4 1 0 x_155.2.2.2.1.length),(10,.own 5 1 0 x_155.2.2.2.2.length),(11,iW x_155.1),(12,iW x_165.1),(13,iW x_165.2.1),(36,iW t36_6),(37,iW x_155.2.1),(39,rW β3 a1 eW),(40,iW (a1.length : Int)),(41,iW x_165.2.2),(14,iW x_165.2.2),(15,iW y_167)],[(1,⟨3,true,x_155.2.2.1.flatMap eW⟩),(2,⟨37,false,(pW β1 β2 a0)⟩),(4,⟨3,true,x_155.2.2.2.1.flatMap eW⟩),(5,⟨4,true,x_155.2.2.2.2.flatMap encB⟩)]⟩ rfl rfl ?_
      refine AWP.seq ?_
      obtain ⟨y_168,hy_168,h⟩ := bindS h
      obtain ⟨y_169,hy_169,h⟩ := bindS h
      refine AWP.dw mixed [(1,rW β3 a1 eW),(2,rW β4 a2 eW),(3,.own 1 1 0 x_155.2.2.1.length),(4,.ptr 2 0),(9,.own 4 1 0 x_155.2.2.2.1.length),(10,.own 5 1 0 x_155.2.2.2.2.length),(11,iW x_155.1),(12,iW x_165.1),(13,iW x_165.2.1),(14,iW x_165.2.2),(15,iW y_167),(36,iW t36_6),(37,iW x_155.2.1),(39,rW β3 a1 eW),(40,iW (a1.length : Int)),(41,iW x_165.2.2)] [] [dO [3] 46 (.agg (pW β1 β2 a0)),dO [10] 47 (iW y_167),dO [4] 48 (.own 4 1 0 x_155.2.2.2.1.length),dO [9] 49 (iW x_165.2.2),dO [18,19] 50 (.ptr 4 (0 + (x_165.2.2).toNat * 1)),dO [20] 51 (iW y_168),dO [1] 52 (rW β4 a2 eW),dO [16,17,21,22] 53 (iW y_169),dO [23] 16 (iW y_169)] [] [[(1,⟨3,true,x_155.2.2.1.flatMap eW⟩),(2,⟨37,false,(pW β1 β2 a0)⟩),(4,⟨3,true,x_155.2.2.2.1.flatMap eW⟩),(5,⟨4,true,x_155.2.2.2.2.flatMap encB⟩)]] [[],[],[],[],[2,4],[2,5],[],[0,7],[0,8]] [0,1,2,3,4,5,6,7,8,9,24,11,12,13,14,15] rfl rfl (by kernel_rfl) rfl (.r rfl rfl (fun _ q => .loadPA (l1 rfl) (q.t 0 rfl) agg37 rfl rfl rfl rfl)<| .p rfl (fun _ q _ => .move (l1 rfl) (q.t 0 rfl))<| .r rfl rfl (fun _ q => .move (l1 rfl) (q.t 0 rfl))<| .p rfl (fun _ q _ => .move (l1 rfl) (q.t 0 rfl))<| .r rfl rfl (fun _ q => .idxOwn (l1 rfl) (q.t 0 rfl) (q.t 1 rfl) Tryz.underlying28 sz3 rfl hy_168)<| .r rfl rfl (fun _ q => .loadP (l1 rfl) (q.t 0 rfl) one3 rfl (cell_at1 (encI_len .i64) hy_168) rfl)<| .p rfl (fun _ q _ => .move (l1 rfl) (q.t 0 rfl))<| .p rfl (fun _ q _ => .call0 (bw := false) (l1 rfl) (c72 (β1 := β1) (β2 := β2) (β3 := β4) n (R24.mk a0.Pq a0.Bq) y_167 y_168 a2 hy_169) (.cons (q.t 0 rfl) (.ren rfl) (.cons (q.t 1 rfl) (.ren rfl) (.cons (q.t 2 rfl) (.ren rfl) (.cons (q.t 3 rfl) (.ren rfl) (.nil))))) rfl)<| .p rfl (fun _ q _ => .assign (l1 rfl) (q.t 0 rfl))<| .nil _) rfl rfl ?_
      refine AWP.vs ⟨[(1,rW β3 a1 eW),(2,rW β4 a2 eW),(3,.own 1 1 0 x_155.2.2.1.length),(4,.ptr 2 0),(9,.own 4 1 0 x_155.2.2.2.1.length),(10,.own 5 1 0 x_155.2.2.2.2.length),(11,iW x_155.1),(12,iW x_165.1),(13,iW x_165.2.1),(36,iW t36_6),(37,iW x_155.2.1),(39,rW β3 a1 eW),(40,iW (a1.length : Int)),(41,iW x_165.2.2),(14,iW x_165.2.2),(16,iW y_169)],[(1,⟨3,true,x_155.2.2.1.flatMap eW⟩),(2,⟨37,false,(pW β1 β2 a0)⟩),(4,⟨3,true,x_155.2.2.2.1.flatMap eW⟩),(5,⟨4,true,x_155.2.2.2.2.flatMap encB⟩)]⟩ rfl rfl ?_
      obtain ⟨y_170,hy_170,h⟩ := bindS h
      refine AWP.sv (.cons (.move (l1 rfl) (.t rfl))<| .cons (.move (l1 rfl) (.t rfl))<| .cons (.idxOwn (l1 rfl) (.t rfl) (.t rfl) Tryz.underlying117 sz4 rfl hy_170)<| .cons (.loadP (l1 rfl) (.t rfl) one4 rfl (cell_at1 encB_len hy_170) rfl)<| .cons (.not (l1 rfl) (.t rfl))<| .cons (.move (l1 rfl) (.t rfl))<| .guard (j := 5) (dj := 59) rfl (l1 rfl) rfl (l1 rfl) (fun hg => .move (l1 rfl) (.t rfl))<| .guard (j := 5) (dj := 59) rfl (l1 rfl) rfl (l1 rfl) (fun hg => .lss (l1 rfl) (.gd hg (.t rfl)) (.const _ _ _))<| .guard (j := 5) (dj := 59) rfl (l1 rfl) rfl (l1 rfl) (fun hg => .move (l1 rfl) (.gd hg (.t rfl)))<| .guard2 (j := 8) (dj := 62) rfl (l1 rfl) rfl (l1 rfl) (fun hg => .move (l1 rfl) (.t rfl))<| .guard2 (j := 8) (dj := 62) rfl (l1 rfl) rfl (l1 rfl) (fun hg => .move (l1 rfl) (.t rfl))<| .guard2 (j := 8) (dj := 62) rfl (l1 rfl) rfl (l1 rfl) (fun hg => .lss (l1 rfl) (.gd hg (.t rfl)) (.gd hg (.t rfl)))<| .guard (j := 5) (dj := 59) rfl (l1 rfl) rfl (l1 rfl) (fun hg => .pickOr (l1 rfl) (.gd hg (.t rfl)) (.const _ _ _) (.gdAnd hg (.t rfl)))<| .cons (.pickAnd (l1 rfl) (.t rfl) (.t rfl) (.const _ _ _))<| .nil _ _ _) ⟨[(1,rW β3 a1 eW),(2,rW β4 a2 eW),(3,.own 1 1 0 x_155.2.2.1.length),(4,.ptr 2 0),(9,.own 4 1 0 x_155.2.2.2.1.length),(10,.own 5 1 0 x_155.2.2.2.2.length),(11,iW x_155.1),(12,iW x_165.1),(13,iW x_165.2.1),(36,iW t36_6),(37,iW x_155.2.1),(39,rW β3 a1 eW),(40,iW (a1.length : Int)),(41,iW x_165.2.2),(14,iW x_165.2.2),(16,iW y_169),(67,bW ((!y_170) && ((decide (x_165.1 < (0 : Int))) || (decide (y_169 < x_165.2.1)))))],[(1,⟨3,true,x_155.2.2.1.flatMap eW⟩),(2,⟨37,false,(pW β1 β2 a0)⟩),(4,⟨3,true,x_155.2.2.2.1.flatMap eW⟩),(5,⟨4,true,x_155.2.2.2.2.flatMap encB⟩)]⟩ rfl rfl ?_
      refine AWP.join' (S := fun p_171 : Int × Int => ⟨[(1,rW β3 a1 eW),(2,rW β4 a2 eW),(3,.own 1 1 0 x_155.2.2.1.length),(4,.ptr 2 0),(9,.own 4 1 0 x_155.2.2.2.1.length),(10,.own 5 1 0 x_155.2.2.2.2.length),(11,iW x_155.1),(12,iW p_171.1),(13,iW p_171.2),(36,iW t36_6),(37,iW x_155.2.1),(39,rW β3 a1 eW),(40,iW (a1.length : Int)),(41,iW x_165.2.2)],[(1,⟨3,true,x_155.2.2.1.flatMap eW⟩),(2,⟨37,false,(pW β1 β2 a0)⟩),(4,⟨3,true,x_155.2.2.2.1.flatMap eW⟩),(5,⟨4,true,x_155.2.2.2.2.flatMap encB⟩)]⟩) h (fun p_171 h => ?_) (fun k_172 h => ?_)
      ·obtain ⟨t41_173,ht41_173,h⟩ := letS h
       refine AWP.rg (.cons (.add (l1 rfl) (.t rfl) (.const _ _ _))<| .cons (.move (l1 rfl) (.t rfl))<| .nil _ _ _) ?_
       exact endJ (p_171.1,p_171.2,t41_173) h (by subst ht41_173; exact VC.sub (.of rfl) (.of rfl))
      ·refine AWP.cond (.t rfl) (fun hc => ?_) (fun hc => ?_)
       ·have h := iteT hc h
        refine AWP.rg (.cons (.move (l1 rfl) (.t rfl))<| .cons (.move (l1 rfl) (.t rfl))<| .cons (.assign (l1 rfl) (.t rfl))<| .cons (.assign (l1 rfl) (.t rfl))<| .nil _ _ _) ?_
        exact endJ (x_165.2.2,y_169) h (VC.sub (.of rfl) (.of rfl))
       ·have h := iteF hc h
        refine AWP.skip ?_
        exact endJ (x_165.1,x_165.2.1) h (VC.sub (.of rfl) (.of rfl))
     ·have h := iteF hc h
      refine AWP.exit ?_
      exact endJ (x_165.1,x_165.2.1) h (VC.sub (.of rfl) (.of rfl))
   ·have h := iteF hc h
    refine AWP.exit ?_
    exact endJ (x_155.1,x_155.2.2.1) h (VC.sub (.of rfl) (.of rfl))
theorem c71 {β1 : Bool} {β2 : Bool} {β3 : Bool} (n : Nat) (a0 : Int) (a1 : Int) (a2_b0 : (List R50)) (a2_b1 : (List R71)) (a3_b0 : (List Int)) {r : Int} (h : m71 n a0 a1 a2_b0 a2_b1 a3_b0 = some r) : Spec Tryz.prog 71 [1,2] [iW a0,iW a1,.ptr 1 0,.ptr 2 0] [(1,⟨37,false,[rW β1 a2_b0 e50,rW β2 a2_b1 e71]⟩),(2,⟨28,false,[rW β3 a3_b0 eW]⟩)] (iW r) [(1,⟨37,false,[rW β1 a2_b0 e50,rW β2 a2_b1 e71]⟩),(2,⟨28,false,[rW β3 a3_b0 eW]⟩)] := by
 refine Spec.of (fn := Tryz.f71) Tryz.func71 Tryz.ntmps71 rfl rfl (le1 rfl) (fun w0 Zs Zb T0 ι0 => ?_)
 unfold m71 at h
 refine AWP.sv (.cons (.assign (l1 rfl) (.const _ _ _))<| .nil _ _ _) ⟨[(0,iW a0),(1,iW a1),(2,.ptr 1 0),(3,.ptr 2 0)],[(1,⟨37,false,[rW β1 a2_b0 e50,rW β2 a2_b1 e71]⟩),(2,⟨28,false,[rW β3 a3_b0 eW]⟩)]⟩ rfl rfl ?_
 refine AWP.seq ?_
 obtain ⟨y_1,hy_1,h⟩ := bindS h
 obtain ⟨y_2,hy_2,h⟩ := bindS h
 obtain ⟨t6_3,ht6_3,h⟩ := letS h
 refine AWP.dw mixed [(0,iW a0),(1,iW a1),(2,.ptr 1 0),(3,.ptr 2 0)] [] [dO [2] 7 (.agg [rW β1 a2_b0 e50,rW β2 a2_b1 e71]),dO [0] 8 (iW a0),dO [3] 9 (rW β3 a3_b0 eW),dO [4,5,6] 10 (iW y_1),dO [2] 11 (.agg [rW β1 a2_b0 e50,rW β2 a2_b1 e71]),dO [1] 12 (iW a1),dO [3] 13 (rW β3 a3_b0 eW),dO [8,9,10] 14 (iW y_2),dO [7,11] 15 (iW (IntKind.wrap .i64 (y_1 - y_2))),dO [12] 6 (iW (IntKind.wrap .i64 (y_1 - y_2)))] [] [[(1,⟨37,false,[rW β1 a2_b0 e50,rW β2 a2_b1 e71]⟩),(2,⟨28,false,[rW β3 a3_b0 eW]⟩)]] [[],[],[],[0,3],[],[],[],[0,7],[0,8],[0,9]] [13] rfl rfl (by kernel_rfl) rfl (.r rfl rfl (fun _ q => .loadPA (l1 rfl) (q.t 0 rfl) agg37 rfl rfl rfl rfl)<| .p rfl (fun _ q _ => .move (l1 rfl) (q.t 0 rfl))<| .r rfl rfl (fun _ q => .loadP (l1 rfl) (q.t 0 rfl) one28 rfl rfl rfl)<| .p rfl (fun _ q _ => .call0 (bw := false) (l1 rfl) (c72 (β1 := β1) (β2 := β2) (β3 := β3) n (R24.mk a2_b0 a2_b1) (0 : Int) a0 a3_b0 hy_1) (.cons (q.t 0 rfl) (.ren rfl) (.cons (.const _ _ _) (.ren rfl) (.cons (q.t 1 rfl) (.ren rfl) (.cons (q.t 2 rfl) (.ren rfl) (.nil))))) rfl)<| .r rfl rfl (fun _ q => .loadPA (l1 rfl) (q.t 0 rfl) agg37 rfl rfl rfl rfl)<| .p rfl (fun _ q _ => .move (l1 rfl) (q.t 0 rfl))<| .r rfl rfl (fun _ q => .loadP (l1 rfl) (q.t 0 rfl) one28 rfl rfl rfl)<| .p rfl (fun _ q _ => .call0 (bw := false) (l1 rfl) (c72 (β1 := β1) (β2 := β2) (β3 := β3) n (R24.mk a2_b0 a2_b1) (0 : Int) a1 a3_b0 hy_2) (.cons (q.t 0 rfl) (.ren rfl) (.cons (.const _ _ _) (.ren rfl) (.cons (q.t 1 rfl) (.ren rfl) (.cons (q.t 2 rfl) (.ren rfl) (.nil))))) rfl)<| .p rfl (fun _ q _ => .sub (l1 rfl) (q.t 0 rfl) (q.t 1 rfl))<| .p rfl (fun _ q _ => .assign (l1 rfl) (q.t 0 rfl))<| .nil _) rfl rfl ?_
 refine AWP.ret ?_
 obtain rfl := Option.some.inj h
 refine retJ (Res.vc (s' := ⟨[(6,iW t6_3)],[(1,⟨37,false,[rW β1 a2_b0 e50,rW β2 a2_b1 e71]⟩),(2,⟨28,false,[rW β3 a3_b0 eW]⟩)]⟩) (by subst ht6_3; exact VC.sub (.of rfl) (.of rfl)) ?_)
 refine Res.sub (H := [(1,⟨37,false,[rW β1 a2_b0 e50,rW β2 a2_b1 e71]⟩),(2,⟨28,false,[rW β3 a3_b0 eW]⟩)]) (.of rfl) ?_
 exact Res.of rfl (.cons (.tmp rfl) (.nil)) rfl rfl
theorem c99 {β1 : Bool} {β2 : Bool} {β3 : Bool} (n : Nat) (a0_b : (List Int)) (a1 : Int) (a2 : Int) (a3_0_b0 : (List R50)) (a3_0_b1 : (List R71)) (a3_1_b0 : (List Int)) {r : (List Int)} (h : m99 n a0_b a1 a2 a3_0_b0 a3_0_b1 a3_1_b0 = some r) : Spec Tryz.prog 99 [1,2,3] [.own 1 1 0 a0_b.length,iW a1,iW a2,.clo (.func 71) [] [.ptr 2 0,.ptr 3 0]] [(1,⟨3,true,a0_b.flatMap eW⟩),(2,⟨37,false,[rW β1 a3_0_b0 e50,rW β2 a3_0_b1 e71]⟩),(3,⟨28,false,[rW β3 a3_1_b0 eW]⟩)] (.tup []) [(1,⟨3,true,r.flatMap eW⟩),(2,⟨37,false,[rW β1 a3_0_b0 e50,rW β2 a3_0_b1 e71]⟩),(3,⟨28,false,[rW β3 a3_1_b0 eW]⟩)] := by
 refine Spec.of (fn := Tryz.f99) Tryz.func99 Tryz.ntmps99 rfl rfl (le1 rfl) (fun w0 Zs Zb T0 ι0 => ?_)
 unfold m99 at h
 obtain ⟨t8_1,ht8_1,h⟩ := letS h
 refine AWP.sr (.cons (.move (l1 rfl) (.t rfl))<| .cons (.add (l1 rfl) (.t rfl) (.const _ _ _))<| .cons (.assign (l1 rfl) (.t rfl))<| .nil _ _ _) ?_
 refine AWP.vc (s' := ⟨[(0,.own 1 1 0 a0_b.length),(1,iW a1),(2,iW a2),(3,.clo (.func 71) [] [.ptr 2 0,.ptr 3 0]),(8,iW t8_1)],[(1,⟨3,true,a0_b.flatMap eW⟩),(2,⟨37,false,[rW β1 a3_0_b0 e50,rW β2 a3_0_b1 e71]⟩),(3,⟨28,false,[rW β3 a3_1_b0 eW]⟩)]⟩) (by subst ht8_1; exact VC.sub (.of rfl) (.of rfl)) ?_
 refine AWP.joinB' (S := fun p_117 : (List Int) => ⟨[],[(1,⟨3,true,p_117.flatMap eW⟩),(2,⟨37,false,[rW β1 a3_0_b0 e50,rW β2 a3_0_b1 e71]⟩),(3,⟨28,false,[rW β3 a3_1_b0 eW]⟩)]⟩) h (fun p_117 h => ?_) (fun k_118 h => ?_)
 ·obtain rfl := Option.some.inj h
  refine norJ (Res.vc (s' := ⟨[],[(1,⟨3,true,p_117.flatMap eW⟩),(2,⟨37,false,[rW β1 a3_0_b0 e50,rW β2 a3_0_b1 e71]⟩),(3,⟨28,false,[rW β3 a3_1_b0 eW]⟩)]⟩) (VC.sub (.n _) (.of rfl)) ?_)
  refine Res.sub (H := [(1,⟨3,true,p_117.flatMap eW⟩),(2,⟨37,false,[rW β1 a3_0_b0 e50,rW β2 a3_0_b1 e71]⟩),(3,⟨28,false,[rW β3 a3_1_b0 eW]⟩)]) (.of rfl) ?_
  exact Res.of rfl (.nil) rfl rfl
 ·refine AWP.vs ⟨[(0,.own 1 1 0 a0_b.length),(1,iW a1),(2,iW a2),(3,.clo (.func 71) [] [.ptr 2 0,.ptr 3 0]),(8,iW t8_1)],[(1,⟨3,true,a0_b.flatMap eW⟩),(2,⟨37,false,[rW β1 a3_0_b0 e50,rW β2 a3_0_b1 e71]⟩),(3,⟨28,false,[rW β3 a3_1_b0 eW]⟩)]⟩ rfl rfl ?_
  refine AWP.loopM (S := fun x_78 : Int × (List Int) => ⟨[(0,.own 1 1 0 x_78.2.length),(1,iW a1),(2,iW a2),(3,.clo (.func 71) [] [.ptr 2 0,.ptr 3 0]),(8,iW x_78.1)],[(1,⟨3,true,x_78.2.flatMap eW⟩),(2,⟨37,false,[rW β1 a3_0_b0 e50,rW β2 a3_0_b1 e71]⟩),(3,⟨28,false,[rW β3 a3_1_b0 eW]⟩)]⟩) (x := (t8_1,a0_b)) (fun nx_79 x_78 h => ?_) h
  unfold m99_L3 at h
  refine AWP.seq ?_
  refine AWP.sv (.cons (.move (l1 rfl) (.t rfl))<| .cons (.move (l1 rfl) (.t rfl))<| .cons (.lss (l1 rfl) (.t rfl) (.t rfl))<| .nil _ _ _) ⟨[(0,.own 1 1 0 x_78.2.length),(1,iW a1),(2,iW a2),(3,.clo (.func 71) [] [.ptr 2 0,.ptr 3 0]),(8,iW x_78.1),(14,bW (decide (x_78.1 < a2)))],[(1,⟨3,true,x_78.2.flatMap eW⟩),(2,⟨37,false,[rW β1 a3_0_b0 e50,rW β2 a3_0_b1 e71]⟩),(3,⟨28,false,[rW β3 a3_1_b0 eW]⟩)]⟩ rfl rfl ?_
  refine AWP.cond (.t rfl) (fun hc => ?_) (fun hc => ?_)
  ·have h := iteT hc h
   refine AWP.skip ?_
   refine AWP.seq ?_
   refine AWP.block ?_
   refine AWP.sv (.cons (.move (l1 rfl) (.t rfl))<| .cons (.assign (l1 rfl) (.t rfl))<| .nil _ _ _) ⟨[(0,.own 1 1 0 x_78.2.length),(1,iW a1),(2,iW a2),(3,.clo (.func 71) [] [.ptr 2 0,.ptr 3 0]),(8,iW x_78.1),(9,iW x_78.1)],[(1,⟨3,true,x_78.2.flatMap eW⟩),(2,⟨37,false,[rW β1 a3_0_b0 e50,rW β2 a3_0_b1 e71]⟩),(3,⟨28,false,[rW β3 a3_1_b0 eW]⟩)]⟩ rfl rfl ?_
   refine AWP.joinB' (S := fun p_114 : (List Int) => ⟨[(0,.own 1 1 0 p_114.length),(1,iW a1),(2,iW a2),(3,.clo (.func 71) [] [.ptr 2 0,.ptr 3 0]),(8,iW x_78.1)],[(1,⟨3,true,p_114.flatMap eW⟩),(2,⟨37,false,[rW β1 a3_0_b0 e50,rW β2 a3_0_b1 e71]⟩),(3,⟨28,false,[rW β3 a3_1_b0 eW]⟩)]⟩) h (fun p_114 h => ?_) (fun k_115 h => ?_)
   ·obtain ⟨t8_116,ht8_116,h⟩ := letS h
    refine AWP.rg (.cons (.move (l1 rfl) (.t rfl))<| .cons (.add (l1 rfl) (.t rfl) (.const _ _ _))<| .cons (.assign (l1 rfl) (.t rfl))<| .nil _ _ _) ?_
    exact endJ (t8_116,p_114) h (by subst ht8_116; exact VC.sub (.of rfl) (.of rfl))
   ·refine AWP.vs ⟨[(0,.own 1 1 0 x_78.2.length),(1,iW a1),(2,iW a2),(3,.clo (.func 71) [] [.ptr 2 0,.ptr 3 0]),(8,iW x_78.1),(9,iW x_78.1)],[(1,⟨3,true,x_78.2.flatMap eW⟩),(2,⟨37,false,[rW β1 a3_0_b0 e50,rW β2 a3_0_b1 e71]⟩),(3,⟨28,false,[rW β3 a3_1_b0 eW]⟩)]⟩ rfl rfl ?_
    refine AWP.loopM (S := fun x_102 : Int × (List Int) => ⟨[(0,.own 1 1 0 x_102.2.length),(1,iW a1),(2,iW a2),(3,.clo (.func 71) [] [.ptr 2 0,.ptr 3 0]),(8,iW x_78.1),(9,iW x_102.1)],[(1,⟨3,true,x_102.2.flatMap eW⟩),(2,⟨37,false,[rW β1 a3_0_b0 e50,rW β2 a3_0_b1 e71]⟩),(3,⟨28,false,[rW β3 a3_1_b0 eW]⟩)]⟩) (x := (x_78.1,x_78.2)) (fun nx_103 x_102 h => ?_) h
    unfold m99_L4 at h
    refine AWP.seq ?_
    refine AWP.seq ?_
    obtain ⟨y_104,hy_104,h⟩ := bindS h
    obtain ⟨y_105,hy_105,h⟩ := bindS h
    obtain ⟨y_106,hy_106,h⟩ := bindS h
    refine AWP.dw mixed [(0,.own 1 1 0 x_102.2.length),(1,iW a1),(2,iW a2),(3,.clo (.func 71) [] [.ptr 2 0,.ptr 3 0]),(8,iW x_78.1),(9,iW x_102.1)] [] [dO [5] 18 (iW x_102.1),dO [1] 19 (iW a1),dO [6,7] 20 (bW (decide (a1 < x_102.1))),dO [8] 21 (bW (decide (a1 < x_102.1))),dO [9,3] 22 (.gd (decide (a1 < x_102.1)) (.clo (.func 71) [] [.ptr 2 0,.ptr 3 0])),dO [9,0] 23 (.gd (decide (a1 < x_102.1)) (.own 1 1 0 x_102.2.length)),dO [9,5] 24 (.gd (decide (a1 < x_102.1)) (iW x_102.1)),dO [9,11,12] 25 (.gd (decide (a1 < x_102.1)) (.ptr 1 (0 + (x_102.1).toNat * 1))),dO [9,13] 26 (.gd (decide (a1 < x_102.1)) (iW y_104)),dO [9,0] 27 (.gd (decide (a1 < x_102.1)) (.own 1 1 0 x_102.2.length)),dO [9,5] 28 (.gd (decide (a1 < x_102.1)) (iW x_102.1)),dO [9,16] 29 (.gd (decide (a1 < x_102.1)) (iW (IntKind.wrap .i64 (x_102.1 - (1 : Int))))),dO [9,15,17] 30 (.gd (decide (a1 < x_102.1)) (.ptr 1 (0 + ((IntKind.wrap .i64 (x_102.1 - (1 : Int)))).toNat * 1))),dO [9,18] 31 (.gd (decide (a1 < x_102.1)) (iW y_105)),dO [9,10,14,19] 32 (.gd (decide (a1 < x_102.1)) (iW y_106)),dO [9,20] 33 (.gd (decide (a1 < x_102.1)) (bW (decide (y_106 < (0 : Int))))),dO [9,21] 34 (bW ((decide (a1 < x_102.1)) && (decide (y_106 < (0 : Int)))))] [] [[(1,⟨3,true,x_102.2.flatMap eW⟩),(2,⟨37,false,[rW β1 a3_0_b0 e50,rW β2 a3_0_b1 e71]⟩),(3,⟨28,false,[rW β3 a3_1_b0 eW]⟩)]] [[],[],[0,2],[0,3],[0,4],[0,4],[0,4],[0,4,5,7],[0,4,5,8],[0,4],[0,4],[0,4,10,11],[0,4,9,12],[0,4,9,13],[0,14],[0,15],[0,16]] [0,1,2,3,4,5,22] rfl rfl (by kernel_rfl) rfl (.p rfl (fun _ q _ => .move (l1 rfl) (q.t 0 rfl))<| .p rfl (fun _ q _ => .move (l1 rfl) (q.t 0 rfl))<| .p rfl (fun _ q _ => .gtr (l1 rfl) (q.t 0 rfl) (q.t 1 rfl))<| .p rfl (fun _ q _ => .move (l1 rfl) (q.t 0 rfl))<| .gt rfl rfl rfl rfl rfl (fun hg _ q _ => .move (l1 rfl) (q.t 1 rfl))<| .rt rfl rfl rfl rfl rfl rfl (fun hg _ q => .move (l1 rfl) (q.t 1 rfl))<| .gt rfl rfl rfl rfl rfl (fun hg _ q _ => .move (l1 rfl) (q.t 1 rfl))<| .rt rfl rfl rfl rfl rfl rfl (fun hg _ q => .idxOwn (l1 rfl) (.gd hg (q.t 1 rfl)) (.gd hg (q.t 2 rfl)) Tryz.underlying28 sz3 rfl (gdB hy_104 hg))<| .rt rfl rfl rfl rfl rfl rfl (fun hg _ q => .loadP (l1 rfl) (.gd hg (q.t 1 rfl)) one3 rfl (cell_at1 (encI_len .i64) (gdB hy_104 hg)) rfl)<| .rt rfl rfl rfl rfl rfl rfl (fun hg _ q => .move (l1 rfl) (q.t 1 rfl))<| .gt rfl rfl rfl rfl rfl (fun hg _ q _ => .move (l1 rfl) (q.t 1 rfl))<| .gt rfl rfl rfl rfl rfl (fun hg _ q _ => .sub (l1 rfl) (.gd hg (q.t 1 rfl)) (.const _ _ _))<| .rt rfl rfl rfl rfl rfl rfl (fun hg _ q => .idxOwn (l1 rfl) (.gd hg (q.t 1 rfl)) (.gd hg (q.t 2 rfl)) Tryz.underlying28 sz3 rfl (gdB hy_105 hg))<| .rt rfl rfl rfl rfl rfl rfl (fun hg _ q => .loadP (l1 rfl) (.gd hg (q.t 1 rfl)) one3 rfl (cell_at1 (encI_len .i64) (gdB hy_105 hg)) rfl)<| .rt rfl rfl rfl rfl rfl rfl (fun hg _ q => .keep (bw := false) (AStep.callV (us' := []) (avs := [iW y_104,iW y_105]) (cs' := [.ptr 1 0,.ptr 2 0]) (σ := sgT [(1,2),(2,3)]) (bw := false) (l1 rfl) (.gd hg (q.t 1 rfl)) (c71 (β1 := β1) (β2 := β2) (β3 := β3) n y_104 y_105 a3_0_b0 a3_0_b1 a3_1_b0 (gdB hy_106 hg)) (.nil) (.cons (.gd hg (q.t 2 rfl)) (.ren rfl) (.cons (.gd hg (q.t 3 rfl)) (.ren rfl) (.nil))) (.cons (.ren rfl) (.cons (.ren rfl) (.nil))) (CallOk.mk' (.c rfl (.c rfl (.n))) rfl) (fun _ h => by cases h)) (CallOk.mk' (.c rfl (.c rfl (.n))) rfl) rfl rfl)<| .gt rfl rfl rfl rfl rfl (fun hg _ q _ => .lss (l1 rfl) (.gd hg (q.t 1 rfl)) (.const _ _ _))<| .p rfl (fun _ q _ => .pickAnd (l1 rfl) (q.t 0 rfl) (q.t 1 rfl) (.const _ _ _))<| .nil _) rfl rfl ?_
    refine AWP.vs ⟨[(0,.own 1 1 0 x_102.2.length),(1,iW a1),(2,iW a2),(3,.clo (.func 71) [] [.ptr 2 0,.ptr 3 0]),(8,iW x_78.1),(9,iW x_102.1),(34,bW ((decide (a1 < x_102.1)) && (decide (y_106 < (0 : Int)))))],[(1,⟨3,true,x_102.2.flatMap eW⟩),(2,⟨37,false,[rW β1 a3_0_b0 e50,rW β2 a3_0_b1 e71]⟩),(3,⟨28,false,[rW β3 a3_1_b0 eW]⟩)]⟩ rfl rfl ?_
    refine AWP.cond (.t rfl) (fun hc => ?_) (fun hc => ?_)
    ·have h := iteT hc h
     refine AWP.skip ?_
     refine AWP.seq ?_
     refine AWP.block ?_
     obtain ⟨y_107,hy_107,h⟩ := bindS h
     obtain ⟨y_108,hy_108,h⟩ := bindS h
     obtain ⟨y_109,hy_109,h⟩ := bindS h
     obtain ⟨l1_110,hl1_110,h⟩ := bindS h
     obtain ⟨y_111,hy_111,h⟩ := bindS h
     obtain ⟨l1_112,hl1_112,h⟩ := bindS h
     refine AWP.dw mixed [(0,.own 1 1 0 x_102.2.length),(1,iW a1),(2,iW a2),(3,.clo (.func 71) [] [.ptr 2 0,.ptr 3 0]),(8,iW x_78.1),(9,iW x_102.1),(34,bW ((decide (a1 < x_102.1)) && (decide (y_106 < (0 : Int)))))] [] [dO [0] 37 (.own 1 1 0 x_102.2.length),⟨[5],0,2,some (38,iW x_102.1),[]⟩,⟨[0],0,1,some (39,.own 1 1 0 x_102.2.length),[]⟩,⟨[5],0,2,some (40,iW x_102.1),[]⟩,⟨[10],0,2,some (41,iW (IntKind.wrap .i64 (x_102.1 - (1 : Int)))),[]⟩,dO [0] 42 (.own 1 1 0 x_102.2.length),⟨[5],0,2,some (43,iW x_102.1),[]⟩,⟨[13],0,2,some (44,iW (IntKind.wrap .i64 (x_102.1 - (1 : Int)))),[]⟩,dO [12,14] 45 (.ptr 1 (0 + ((IntKind.wrap .i64 (x_102.1 - (1 : Int)))).toNat * 1)),dO [15] 46 (iW y_107),dO [0] 47 (.own 1 1 0 x_102.2.length),⟨[5],0,2,some (48,iW x_102.1),[]⟩,dO [17,18] 49 (.ptr 1 (0 + (x_102.1).toNat * 1)),dO [19] 50 (iW y_108),dO [7,8] 51 (.ptr 1 (0 + (x_102.1).toNat * 1)),⟨[21,16],0,0,none,[]⟩,⟨[9,11],1,1,some (52,.ptr 1 (0 + ((IntKind.wrap .i64 (x_102.1 - (1 : Int)))).toNat * 1)),[]⟩,⟨[22,20],1,1,none,[]⟩] [15,17] [[(1,⟨3,true,x_102.2.flatMap eW⟩),(2,⟨37,false,[rW β1 a3_0_b0 e50,rW β2 a3_0_b1 e71]⟩),(3,⟨28,false,[rW β3 a3_1_b0 eW]⟩)],[(1,⟨3,true,l1_110.flatMap eW⟩),(2,⟨37,false,[rW β1 a3_0_b0 e50,rW β2 a3_0_b1 e71]⟩),(3,⟨28,false,[rW β3 a3_1_b0 eW]⟩)],[(1,⟨3,true,l1_112.flatMap eW⟩),(2,⟨37,false,[rW β1 a3_0_b0 e50,rW β2 a3_0_b1 e71]⟩),(3,⟨28,false,[rW β3 a3_1_b0 eW]⟩)]] [[],[],[],[],[3,4],[],[],[6,7],[5,8],[5,9],[],[],[10,12],[10,13],[0,2,5,14],[0,2,5,15],[0,16],[0,17]] [0,1,2,3,4,5] rfl rfl (by kernel_rfl) rfl (.read rfl (.c (.put (fun E hE => .move (l1 rfl) (hE.t 0 rfl))) (.n))<| .p rfl (fun _ q _ => .move (l1 rfl) (q.t 0 rfl))<| .read rfl (.c (.put (fun E hE => .move (l1 rfl) (hE.t 0 rfl))) (.c (.put (fun E hE => .move (l1 rfl) (hE.t 0 rfl))) (.n)))<| .p rfl (fun _ q _ => .move (l1 rfl) (q.t 0 rfl))<| .p rfl (fun _ q _ => .sub (l1 rfl) (q.t 0 rfl) (.const _ _ _))<| .read rfl (.c (.put (fun E hE => .move (l1 rfl) (hE.t 0 rfl))) (.n))<| .p rfl (fun _ q _ => .move (l1 rfl) (q.t 0 rfl))<| .p rfl (fun _ q _ => .sub (l1 rfl) (q.t 0 rfl) (.const _ _ _))<| .read rfl (.c (.put (fun E hE => .idxOwn (l1 rfl) (hE.t 0 rfl) (hE.t 1 rfl) Tryz.underlying28 sz3 rfl hy_107)) (.n))<| .read rfl (.c (.put (fun E hE => .loadP (l1 rfl) (hE.t 0 rfl) one3 rfl (cell_at1 (encI_len .i64) hy_107) rfl)) (.n))<| .read rfl (.c (.put (fun E hE => .move (l1 rfl) (hE.t 0 rfl))) (.n))<| .p rfl (fun _ q _ => .move (l1 rfl) (q.t 0 rfl))<| .read rfl (.c (.put (fun E hE => .idxOwn (l1 rfl) (hE.t 0 rfl) (hE.t 1 rfl) Tryz.underlying28 sz3 rfl hy_108)) (.n))<| .read rfl (.c (.put (fun E hE => .loadP (l1 rfl) (hE.t 0 rfl) one3 rfl (cell_at1 (encI_len .i64) hy_108) rfl)) (.n))<| .read rfl (.c (.put (fun E hE => .idxOwn (l1 rfl) (hE.t 0 rfl) (hE.t 1 rfl) Tryz.underlying28 sz3 rfl hy_109)) (.n))<| .turn rfl rfl rfl rfl rfl (.store (fun E hE => .storeP (hE.t 0 rfl) (hE.t 1 rfl) sz3 rfl (lt_at1 (encI_len .i64) hy_109) rfl (fun _ => rfl) (set_at1 (encI_len .i64) hl1_110 rfl)) rfl)<| .read rfl (.c (.put (fun E hE => .idxOwn (l1 rfl) (.ownN (Eq.symm (setLen hl1_110)) (hE.t 0 rfl)) (hE.t 1 rfl) Tryz.underlying28 sz3 rfl hy_111)) (.n))<| .turn rfl rfl rfl rfl rfl (.store (fun E hE => .storeP (hE.t 0 rfl) (hE.t 1 rfl) sz3 rfl (lt_at1 (encI_len .i64) hy_111) rfl (fun _ => rfl) (set_at1 (encI_len .i64) hl1_112 rfl)) rfl)<| .nil _) rfl rfl ?_
     refine AWP.vc (s' := ⟨[(0,.own 1 1 0 l1_112.length),(1,iW a1),(2,iW a2),(3,.clo (.func 71) [] [.ptr 2 0,.ptr 3 0]),(8,iW x_78.1),(9,iW x_102.1)],[(1,⟨3,true,l1_112.flatMap eW⟩),(2,⟨37,false,[rW β1 a3_0_b0 e50,rW β2 a3_0_b1 e71]⟩),(3,⟨28,false,[rW β3 a3_1_b0 eW]⟩)]⟩) (VC.sub (.c (lenC (Eq.symm (Eq.trans (setLen hl1_112) (setLen hl1_110))) rfl)<| .c rfl<| .c rfl<| .c rfl<| .c rfl<| .c rfl<| .n _) (.of rfl)) ?_
     obtain ⟨t9_113,ht9_113,h⟩ := letS h
     refine AWP.rg (.cons (.move (l1 rfl) (.t rfl))<| .cons (.sub (l1 rfl) (.t rfl) (.const _ _ _))<| .cons (.assign (l1 rfl) (.t rfl))<| .nil _ _ _) ?_
     exact endJ (t9_113,l1_112) h (by subst ht9_113; exact VC.sub (.of rfl) (.of rfl))
    ·have h := iteF hc h
     refine AWP.exit ?_
     exact endJ x_102.2 h (VC.sub (.of rfl) (.of rfl))
  ·have h := iteF hc h
   refine AWP.exit ?_
   exact endJ x_78.2 h (VC.sub (.n _) (.of rfl))
end Go.AB

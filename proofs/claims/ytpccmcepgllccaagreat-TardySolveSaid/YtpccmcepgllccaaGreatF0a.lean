import Derived.Test.YtpccmcepgllccaaGreatProg
import Derived.Test.YtpccmcepgllccaaGreatD
import Derived.KernelRfl
set_option linter.unusedVariables false
set_option maxRecDepth 20000
namespace Go.AB
open Go Go.Proofs
theorem c47 (n : Nat) (a0 : R63) {r : Bool} (h : m47 n a0 = some r) : Spec Tryz.prog 47 [] [.agg [iW a0.Rl,iW a0.Ln,iW a0.Due]] [] (bW r) [] := by
 refine Spec.of (fn := Tryz.f47) Tryz.func47 Tryz.ntmps47 rfl rfl (le1 rfl) (fun w0 Zs Zb T0 ι0 => ?_)
 unfold m47 at h
 refine AWP.seq ?_
 refine AWP.rg (.cons (.box (t := 1) (n := 3) (l1 rfl) (nm rfl) (.t rfl) (by first | exact ⟨rfl,rfl⟩ | rfl) rfl)<| .cons (.assign (l1 rfl) (.const _ _ _))<| .nil _ _ _) ?_
 refine AWP.vs ⟨[(1,.ptr 1 0)],[(1,⟨64,false,[iW a0.Rl,iW a0.Ln,iW a0.Due]⟩)]⟩ rfl rfl ?_
 refine AWP.seq ?_
 obtain ⟨t2_1,ht2_1,h⟩ := letS h
 refine AWP.rg (.cons (.fieldP (l1 rfl) (.t rfl) fld64_0)<| .cons (.loadP (l1 rfl) (.t rfl) one3 rfl rfl rfl)<| .cons (.lss (l1 rfl) (.t rfl) (.const _ _ _))<| .cons (.move (l1 rfl) (.t rfl))<| .guard (j := 3) (dj := 6) rfl (l1 rfl) rfl (l1 rfl) (fun hg => .fieldP (l1 rfl) (.t rfl) fld64_0)<| .guard (j := 3) (dj := 6) rfl (l1 rfl) rfl (l1 rfl) (fun hg => .loadP (l1 rfl) (.gd hg (.t rfl)) one3 rfl rfl rfl)<| .guard (j := 3) (dj := 6) rfl (l1 rfl) rfl (l1 rfl) (fun hg => .gtr (l1 rfl) (.gd hg (.t rfl)) (.const _ _ _))<| .cons (.pickOr (l1 rfl) (.t rfl) (.const _ _ _) (.t rfl))<| .cons (.move (l1 rfl) (.t rfl))<| .guard (j := 8) (dj := 11) rfl (l1 rfl) rfl (l1 rfl) (fun hg => .fieldP (l1 rfl) (.t rfl) fld64_1)<| .guard (j := 8) (dj := 11) rfl (l1 rfl) rfl (l1 rfl) (fun hg => .loadP (l1 rfl) (.gd hg (.t rfl)) one3 rfl rfl rfl)<| .guard (j := 8) (dj := 11) rfl (l1 rfl) rfl (l1 rfl) (fun hg => .lss (l1 rfl) (.gd hg (.t rfl)) (.const _ _ _))<| .cons (.pickOr (l1 rfl) (.t rfl) (.const _ _ _) (.t rfl))<| .cons (.move (l1 rfl) (.t rfl))<| .guard (j := 13) (dj := 16) rfl (l1 rfl) rfl (l1 rfl) (fun hg => .fieldP (l1 rfl) (.t rfl) fld64_1)<| .guard (j := 13) (dj := 16) rfl (l1 rfl) rfl (l1 rfl) (fun hg => .loadP (l1 rfl) (.gd hg (.t rfl)) one3 rfl rfl rfl)<| .guard (j := 13) (dj := 16) rfl (l1 rfl) rfl (l1 rfl) (fun hg => .gtr (l1 rfl) (.gd hg (.t rfl)) (.const _ _ _))<| .cons (.pickOr (l1 rfl) (.t rfl) (.const _ _ _) (.t rfl))<| .cons (.move (l1 rfl) (.t rfl))<| .guard (j := 18) (dj := 21) rfl (l1 rfl) rfl (l1 rfl) (fun hg => .fieldP (l1 rfl) (.t rfl) fld64_2)<| .guard (j := 18) (dj := 21) rfl (l1 rfl) rfl (l1 rfl) (fun hg => .loadP (l1 rfl) (.gd hg (.t rfl)) one3 rfl rfl rfl)<| .guard (j := 18) (dj := 21) rfl (l1 rfl) rfl (l1 rfl) (fun hg => .lss (l1 rfl) (.gd hg (.t rfl)) (.const _ _ _))<| .cons (.pickOr (l1 rfl) (.t rfl) (.const _ _ _) (.t rfl))<| .cons (.move (l1 rfl) (.t rfl))<| .guard (j := 23) (dj := 26) rfl (l1 rfl) rfl (l1 rfl) (fun hg => .fieldP (l1 rfl) (.t rfl) fld64_2)<| .guard (j := 23) (dj := 26) rfl (l1 rfl) rfl (l1 rfl) (fun hg => .loadP (l1 rfl) (.gd hg (.t rfl)) one3 rfl rfl rfl)<| .guard (j := 23) (dj := 26) rfl (l1 rfl) rfl (l1 rfl) (fun hg => .gtr (l1 rfl) (.gd hg (.t rfl)) (.const _ _ _))<| .cons (.pickOr (l1 rfl) (.t rfl) (.const _ _ _) (.t rfl))<| .cons (.assign (l1 rfl) (.t rfl))<| .nil _ _ _) ?_
 refine AWP.ret ?_
 obtain rfl := Option.some.inj h
 refine retJ (Res.vc (s' := ⟨[(2,bW t2_1)],[]⟩) (by subst ht2_1; exact VC.sub (.of rfl) (.n _)) ?_)
 refine Res.drop (H := []) rfl ?_
 exact Res.of rfl (.cons (.tmp rfl) (.nil)) rfl rfl
theorem c67 {β1 : Bool} (n : Nat) (a0 : (List R63)) {r : Int} (h : m67 n a0 = some r) : Spec Tryz.prog 67 [] [rW β1 a0 e63,.clo (.func 47) [] []] [] (iW r) [] := by
 refine Spec.of (fn := Tryz.f67) Tryz.func67 Tryz.ntmps67 rfl rfl (le1 rfl) (fun w0 Zs Zb T0 ι0 => ?_)
 unfold m67 at h
 refine AWP.seq ?_
 refine AWP.rg (.cons (.assign (l1 rfl) (.const _ _ _))<| .nil _ _ _) ?_
 refine AWP.vs ⟨[(0,rW β1 a0 e63),(1,.clo (.func 47) [] [])],[]⟩ rfl rfl ?_
 refine AWP.seq ?_
 refine AWP.seq ?_
 refine AWP.rg (.cons (.move (l1 rfl) (.t rfl))<| .cons (.lenRd (l1 rfl) (.t rfl) Tryz.underlying35)<| .cons (.move (l1 rfl) (.const _ _ _))<| .nil _ _ _) ?_
 refine AWP.vs ⟨[(0,rW β1 a0 e63),(1,.clo (.func 47) [] []),(7,iW (a0.length : Int)),(8,iW (0 : Int))],[]⟩ rfl rfl ?_
 refine AWP.joinB' (S := fun p_14 : Unit => ⟨[],[]⟩) h (fun p_14 h => ?_) (fun k_15 h => ?_)
 ·refine AWP.seq ?_
  refine AWP.rg (.cons (.assign (l1 rfl) (.const _ _ _))<| .nil _ _ _) ?_
  refine AWP.ret ?_
  obtain rfl := Option.some.inj h
  refine retJ (Res.vc (s' := ⟨[(4,iW (-1 : Int))],[]⟩) (VC.sub (.of rfl) (.n _)) ?_)
  refine Res.drop (H := []) rfl ?_
  exact Res.of rfl (.cons (.tmp rfl) (.nil)) rfl rfl
 ·refine AWP.vs ⟨[(0,rW β1 a0 e63),(1,.clo (.func 47) [] []),(7,iW (a0.length : Int)),(8,iW (0 : Int))],[]⟩ rfl rfl ?_
  refine AWP.loopM (S := fun x_9 : Int => ⟨[(0,rW β1 a0 e63),(1,.clo (.func 47) [] []),(7,iW (a0.length : Int)),(8,iW x_9)],[]⟩) (x := (0 : Int)) (fun nx_10 x_9 h => ?_) h
  unfold m67_L1 at h
  refine AWP.seq ?_
  refine AWP.rg (.cons (.lss (l1 rfl) (.t rfl) (.t rfl))<| .nil _ _ _) ?_
  refine AWP.vs ⟨[(0,rW β1 a0 e63),(1,.clo (.func 47) [] []),(7,iW (a0.length : Int)),(8,iW x_9),(9,bW (decide (x_9 < (a0.length : Int))))],[]⟩ rfl rfl ?_
  refine AWP.seq ?_
  refine AWP.cond (.t rfl) (fun hc => ?_) (fun hc => ?_)
  ·have h := iteT hc h
   refine AWP.skip ?_
   refine AWP.seq ?_
   refine AWP.block ?_
   refine AWP.seq ?_
   refine AWP.rg (.cons (.move (l1 rfl) (.t rfl))<| .cons (.assign (l1 rfl) (.t rfl))<| .nil _ _ _) ?_
   refine AWP.vs ⟨[(0,rW β1 a0 e63),(1,.clo (.func 47) [] []),(7,iW (a0.length : Int)),(8,iW x_9),(5,iW x_9)],[]⟩ rfl rfl ?_
   refine AWP.seq ?_
   obtain ⟨y_11,hy_11,h⟩ := bindS h
   obtain ⟨y_12,hy_12,h⟩ := bindS h
   refine AWP.rg (.cons (.move (l1 rfl) (.t rfl))<| .cons (.move (l1 rfl) (.t rfl))<| .cons (.move (l1 rfl) (.t rfl))<| .cons (.indexRd (enc := e63) (l1 rfl) (.t rfl) (.t rfl) Tryz.underlying35 sz64 encR63_len rfl hy_11)<| .cons (.loadRA (out := [iW y_11.Rl,iW y_11.Ln,iW y_11.Due]) (l1 rfl) (.t rfl) agg64 (Nat.le_of_eq (Eq.symm (encR63_len _))) rfl)<| .cons (.keep (bw := false) (AStep.callV (us' := []) (avs := [.agg [iW ((R63.mk y_11.Rl y_11.Ln y_11.Due).Rl),iW ((R63.mk y_11.Rl y_11.Ln y_11.Due).Ln),iW ((R63.mk y_11.Rl y_11.Ln y_11.Due).Due)]]) (cs' := []) (σ := sgT []) (bw := false) (l1 rfl) (.t rfl) (c47 n (R63.mk y_11.Rl y_11.Ln y_11.Due) hy_12) (.nil) (.cons (.t rfl) (.ren rfl) (.nil)) (.nil) (CallOk.mk' (.n) rfl) (fun _ h => by cases h)) (CallOk.mk' (.n) rfl) rfl rfl)<| .nil _ _ _) ?_
   refine AWP.vs ⟨[(0,rW β1 a0 e63),(1,.clo (.func 47) [] []),(7,iW (a0.length : Int)),(8,iW x_9),(5,iW x_9),(16,bW y_12)],[]⟩ rfl rfl ?_
   refine AWP.cond (.t rfl) (fun hc => ?_) (fun hc => ?_)
   ·have h := iteT hc h
    refine AWP.seq ?_
    refine AWP.rg (.cons (.move (l1 rfl) (.t rfl))<| .cons (.assign (l1 rfl) (.t rfl))<| .nil _ _ _) ?_
    refine AWP.ret ?_
    obtain rfl := Option.some.inj h
    refine retJ (Res.vc (s' := ⟨[(4,iW x_9)],[]⟩) (VC.sub (.of rfl) (.n _)) ?_)
    refine Res.drop (H := []) rfl ?_
    exact Res.of rfl (.cons (.tmp rfl) (.nil)) rfl rfl
   ·have h := iteF hc h
    refine AWP.skip ?_
    obtain ⟨t8_13,ht8_13,h⟩ := letS h
    refine AWP.rg (.cons (.add (l1 rfl) (.t rfl) (.const _ _ _))<| .cons (.move (l1 rfl) (.t rfl))<| .nil _ _ _) ?_
    exact endJ t8_13 h (by subst ht8_13; exact VC.sub (.of rfl) (.n _))
  ·have h := iteF hc h
   refine AWP.exit ?_
   exact endJ () h (VC.sub (.n _) (.n _))
theorem c48 {β1 : Bool} (n : Nat) (a0 : (List R63)) {r : Bool} (h : m48 n a0 = some r) : Spec Tryz.prog 48 [] [rW β1 a0 e63,.clo (.func 47) [] []] [] (bW r) [] := by
 refine Spec.of (fn := Tryz.f48) Tryz.func48 Tryz.ntmps48 rfl rfl (le1 rfl) (fun w0 Zs Zb T0 ι0 => ?_)
 unfold m48 at h
 refine AWP.seq ?_
 refine AWP.rg (.cons (.assign (l1 rfl) (.const _ _ _))<| .nil _ _ _) ?_
 refine AWP.vs ⟨[(0,rW β1 a0 e63),(1,.clo (.func 47) [] [])],[]⟩ rfl rfl ?_
 refine AWP.seq ?_
 obtain ⟨y_1,hy_1,h⟩ := bindS h
 refine AWP.rg (.cons (.move (l1 rfl) (.t rfl))<| .cons (.move (l1 rfl) (.t rfl))<| .cons (.call0 (bw := false) (l1 rfl) (c67 (β1 := β1) n a0 hy_1) (.cons (.t rfl) (.ren rfl) (.cons (.t rfl) (.ren rfl) (.nil))) rfl)<| .cons (.geq (l1 rfl) (.t rfl) (.const _ _ _))<| .cons (.assign (l1 rfl) (.t rfl))<| .nil _ _ _) ?_
 refine AWP.ret ?_
 obtain rfl := Option.some.inj h
 refine retJ (Res.vc (s' := ⟨[(4,bW (decide ((0 : Int) ≤ y_1)))],[]⟩) (VC.sub (.of rfl) (.n _)) ?_)
 refine Res.drop (H := []) rfl ?_
 exact Res.of rfl (.cons (.tmp rfl) (.nil)) rfl rfl
theorem c25 {β1 : Bool} (n : Nat) (a0 : (List R63)) {r : Bool} (h : m25 n a0 = some r) : Spec Tryz.prog 25 [] [rW β1 a0 e63] [] (bW r) [] := by
 refine Spec.of (fn := Tryz.f25) Tryz.func25 Tryz.ntmps25 rfl rfl (le1 rfl) (fun w0 Zs Zb T0 ι0 => ?_)
 unfold m25 at h
 refine AWP.seq ?_
 refine AWP.rg (.cons (.assign (l1 rfl) (.const _ _ _))<| .nil _ _ _) ?_
 refine AWP.vs ⟨[(0,rW β1 a0 e63)],[]⟩ rfl rfl ?_
 refine AWP.seq ?_
 refine AWP.rg (.cons (.assign (l1 rfl) (.func _ _ _))<| .nil _ _ _) ?_
 refine AWP.vs ⟨[(0,rW β1 a0 e63),(3,.clo (.func 47) [] [])],[]⟩ rfl rfl ?_
 refine AWP.seq ?_
 obtain ⟨y_1,hy_1,h⟩ := bindS h
 refine AWP.rg (.cons (.move (l1 rfl) (.t rfl))<| .cons (.lenRd (l1 rfl) (.t rfl) Tryz.underlying35)<| .cons (.leq (l1 rfl) (.t rfl) (.const _ _ _))<| .cons (.move (l1 rfl) (.t rfl))<| .guard (j := 3) (dj := 7) rfl (l1 rfl) rfl (l1 rfl) (fun hg => .move (l1 rfl) (.t rfl))<| .guard (j := 3) (dj := 7) rfl (l1 rfl) rfl (l1 rfl) (fun hg => .move (l1 rfl) (.t rfl))<| .guard (j := 3) (dj := 7) rfl (l1 rfl) rfl (l1 rfl) (fun hg => .call0 (bw := false) (l1 rfl) (c48 (β1 := β1) n a0 (gdB hy_1 hg)) (.cons (.gd hg (.t rfl)) (.ren rfl) (.cons (.gd hg (.t rfl)) (.ren rfl) (.nil))) rfl)<| .guard (j := 3) (dj := 7) rfl (l1 rfl) rfl (l1 rfl) (fun hg => .not (l1 rfl) (.gd hg (.t rfl)))<| .cons (.pickAnd (l1 rfl) (.t rfl) (.t rfl) (.const _ _ _))<| .cons (.assign (l1 rfl) (.t rfl))<| .nil _ _ _) ?_
 refine AWP.ret ?_
 obtain rfl := Option.some.inj h
 refine retJ (Res.vc (s' := ⟨[(2,bW ((decide ((a0.length : Int) ≤ (40 : Int))) && (!y_1)))],[]⟩) (VC.sub (.of rfl) (.n _)) ?_)
 refine Res.drop (H := []) rfl ?_
 exact Res.of rfl (.cons (.tmp rfl) (.nil)) rfl rfl
theorem c49 {β1 : Bool} {β2 : Bool} (n : Nat) (a0 : (List R63)) (a1 : (List Int)) {r : Bool} (h : m49 n a0 a1 = some r) : Spec Tryz.prog 49 [] [rW β1 a0 e63,rW β2 a1 eW] [] (bW r) [] := by
 refine Spec.of (fn := Tryz.f49) Tryz.func49 Tryz.ntmps49 rfl rfl (le1 rfl) (fun w0 Zs Zb T0 ι0 => ?_)
 unfold m49 at h
 refine AWP.seq ?_
 refine AWP.rg (.cons (.assign (l1 rfl) (.const _ _ _))<| .nil _ _ _) ?_
 refine AWP.vs ⟨[(0,rW β1 a0 e63),(1,rW β2 a1 eW)],[]⟩ rfl rfl ?_
 refine AWP.seq ?_
 obtain ⟨l1_1,hl1_1,h⟩ := bindS h
 refine AWP.rg (.cons (.move (l1 rfl) (.t rfl))<| .cons (.lenRd (l1 rfl) (.t rfl) Tryz.underlying35)<| .cons (.mkS (enc := encB) (t := 1) (l1 rfl) (nm rfl) (.t rfl) (.t rfl) Tryz.underlying111 zero4 el4 rfl encB_len (by decide) hl1_1)<| .cons (.assign (l1 rfl) (.t rfl))<| .nil _ _ _) ?_
 refine AWP.vs ⟨[(0,rW β1 a0 e63),(1,rW β2 a1 eW),(5,.own 1 1 0 l1_1.length)],[(1,⟨4,true,l1_1.flatMap encB⟩)]⟩ rfl rfl ?_
 refine AWP.seq ?_
 refine AWP.seq ?_
 refine AWP.rg (.cons (.move (l1 rfl) (.t rfl))<| .cons (.lenRd (l1 rfl) (.t rfl) Tryz.underlying23)<| .cons (.move (l1 rfl) (.const _ _ _))<| .nil _ _ _) ?_
 refine AWP.vs ⟨[(0,rW β1 a0 e63),(5,.own 1 1 0 l1_1.length),(11,rW β2 a1 eW),(12,iW (a1.length : Int)),(13,iW (0 : Int))],[(1,⟨4,true,l1_1.flatMap encB⟩)]⟩ rfl rfl ?_
 refine AWP.joinB' (S := fun p_21 : Unit => ⟨[],[]⟩) h (fun p_21 h => ?_) (fun k_22 h => ?_)
 ·refine AWP.seq ?_
  refine AWP.rg (.cons (.assign (l1 rfl) (.const _ _ _))<| .nil _ _ _) ?_
  refine AWP.ret ?_
  obtain rfl := Option.some.inj h
  refine retJ (Res.vc (s' := ⟨[(4,bW true)],[]⟩) (VC.sub (.of rfl) (.n _)) ?_)
  refine Res.drop (H := []) rfl ?_
  exact Res.of rfl (.cons (.tmp rfl) (.nil)) rfl rfl
 ·refine AWP.vs ⟨[(0,rW β1 a0 e63),(5,.own 1 1 0 l1_1.length),(11,rW β2 a1 eW),(12,iW (a1.length : Int)),(13,iW (0 : Int))],[(1,⟨4,true,l1_1.flatMap encB⟩)]⟩ rfl rfl ?_
  refine AWP.loopM (S := fun x_14 : Int × (List Bool) => ⟨[(0,rW β1 a0 e63),(5,.own 1 1 0 x_14.2.length),(11,rW β2 a1 eW),(12,iW (a1.length : Int)),(13,iW x_14.1)],[(1,⟨4,true,x_14.2.flatMap encB⟩)]⟩) (x := ((0 : Int),l1_1)) (fun nx_15 x_14 h => ?_) h
  unfold m49_L1 at h
  refine AWP.seq ?_
  refine AWP.rg (.cons (.lss (l1 rfl) (.t rfl) (.t rfl))<| .nil _ _ _) ?_
  refine AWP.vs ⟨[(0,rW β1 a0 e63),(5,.own 1 1 0 x_14.2.length),(11,rW β2 a1 eW),(12,iW (a1.length : Int)),(13,iW x_14.1),(14,bW (decide (x_14.1 < (a1.length : Int))))],[(1,⟨4,true,x_14.2.flatMap encB⟩)]⟩ rfl rfl ?_
  refine AWP.seq ?_
  refine AWP.cond (.t rfl) (fun hc => ?_) (fun hc => ?_)
  ·have h := iteT hc h
   refine AWP.skip ?_
   refine AWP.seq ?_
   refine AWP.block ?_
   refine AWP.seq ?_
   obtain ⟨y_16,hy_16,h⟩ := bindS h
   refine AWP.rg (.cons (.indexRd (enc := eW) (l1 rfl) (.t rfl) (.t rfl) Tryz.underlying23 sz3 (encI_len .i64) rfl hy_16)<| .cons (.loadR (v := iW y_16) (l1 rfl) (.t rfl) one3 rfl)<| .cons (.assign (l1 rfl) (.t rfl))<| .nil _ _ _) ?_
   refine AWP.vs ⟨[(0,rW β1 a0 e63),(5,.own 1 1 0 x_14.2.length),(11,rW β2 a1 eW),(12,iW (a1.length : Int)),(13,iW x_14.1),(7,iW y_16)],[(1,⟨4,true,x_14.2.flatMap encB⟩)]⟩ rfl rfl ?_
   refine AWP.seq ?_
   refine AWP.seq ?_
   obtain ⟨y_17,hy_17,h⟩ := bindS h
   refine AWP.rg (.cons (.move (l1 rfl) (.t rfl))<| .cons (.lss (l1 rfl) (.t rfl) (.const _ _ _))<| .cons (.move (l1 rfl) (.t rfl))<| .guard (j := 2) (dj := 19) rfl (l1 rfl) rfl (l1 rfl) (fun hg => .move (l1 rfl) (.t rfl))<| .guard (j := 2) (dj := 19) rfl (l1 rfl) rfl (l1 rfl) (fun hg => .move (l1 rfl) (.t rfl))<| .guard (j := 2) (dj := 19) rfl (l1 rfl) rfl (l1 rfl) (fun hg => .lenRd (l1 rfl) (.gd hg (.t rfl)) Tryz.underlying35)<| .guard (j := 2) (dj := 19) rfl (l1 rfl) rfl (l1 rfl) (fun hg => .geq (l1 rfl) (.gd hg (.t rfl)) (.gd hg (.t rfl)))<| .cons (.pickOr (l1 rfl) (.t rfl) (.const _ _ _) (.t rfl))<| .cons (.move (l1 rfl) (.t rfl))<| .guard (j := 8) (dj := 25) rfl (l1 rfl) rfl (l1 rfl) (fun hg => .move (l1 rfl) (.t rfl))<| .guard (j := 8) (dj := 25) rfl (l1 rfl) rfl (l1 rfl) (fun hg => .move (l1 rfl) (.t rfl))<| .guard (j := 8) (dj := 25) rfl (l1 rfl) rfl (l1 rfl) (fun hg => .idxOwn (l1 rfl) (.gd hg (.t rfl)) (.gd hg (.t rfl)) Tryz.underlying111 sz4 rfl (gdB hy_17 hg))<| .guard (j := 8) (dj := 25) rfl (l1 rfl) rfl (l1 rfl) (fun hg => .loadP (l1 rfl) (.gd hg (.t rfl)) one4 rfl (cell_at1 encB_len (gdB hy_17 hg)) rfl)<| .cons (.pickOr (l1 rfl) (.t rfl) (.const _ _ _) (.t rfl))<| .nil _ _ _) ?_
   refine AWP.vs ⟨[(0,rW β1 a0 e63),(5,.own 1 1 0 x_14.2.length),(11,rW β2 a1 eW),(12,iW (a1.length : Int)),(13,iW x_14.1),(7,iW y_16),(30,bW (((decide (y_16 < (0 : Int))) || (decide ((a0.length : Int) ≤ y_16))) || y_17))],[(1,⟨4,true,x_14.2.flatMap encB⟩)]⟩ rfl rfl ?_
   refine AWP.cond (.t rfl) (fun hc => ?_) (fun hc => ?_)
   ·have h := iteT hc h
    refine AWP.seq ?_
    refine AWP.rg (.cons (.assign (l1 rfl) (.const _ _ _))<| .nil _ _ _) ?_
    refine AWP.ret ?_
    obtain rfl := Option.some.inj h
    refine retJ (Res.vc (s' := ⟨[(4,bW false)],[]⟩) (VC.sub (.of rfl) (.n _)) ?_)
    refine Res.drop (H := []) rfl ?_
    exact Res.of rfl (.cons (.tmp rfl) (.nil)) rfl rfl
   ·have h := iteF hc h
    refine AWP.skip ?_
    obtain ⟨y_18,hy_18,h⟩ := bindS h
    obtain ⟨l1_19,hl1_19,h⟩ := bindS h
    refine AWP.rg (.cons (.move (l1 rfl) (.t rfl))<| .cons (.move (l1 rfl) (.t rfl))<| .cons (.idxOwn (l1 rfl) (.t rfl) (.t rfl) Tryz.underlying111 sz4 rfl hy_18)<| .cons (.storeP (.t rfl) (.const _ _ _) sz4 rfl (lt_at1 encB_len hy_18) rfl (fun _ => rfl) (set_at1 encB_len hl1_19 rfl))<| .nil _ _ _) ?_
    refine AWP.vc (s' := ⟨[(0,rW β1 a0 e63),(5,.own 1 1 0 l1_19.length),(11,rW β2 a1 eW),(12,iW (a1.length : Int)),(13,iW x_14.1)],[(1,⟨4,true,l1_19.flatMap encB⟩)]⟩) (VC.sub (.c rfl<| .c (lenC (Eq.symm (setLen hl1_19)) rfl)<| .c rfl<| .c rfl<| .c rfl<| .n _) (.of rfl)) ?_
    obtain ⟨t13_20,ht13_20,h⟩ := letS h
    refine AWP.rg (.cons (.add (l1 rfl) (.t rfl) (.const _ _ _))<| .cons (.move (l1 rfl) (.t rfl))<| .nil _ _ _) ?_
    exact endJ (t13_20,l1_19) h (by subst ht13_20; exact VC.sub (.of rfl) (.of rfl))
  ·have h := iteF hc h
   refine AWP.exit ?_
   exact endJ () h (VC.sub (.n _) (.n _))
theorem c34 {β1 : Bool} {β2 : Bool} (n : Nat) (a0 : (List R63)) (a1 : (List Int)) {r : Int} (h : m34 n a0 a1 = some r) : Spec Tryz.prog 34 [] [rW β1 a0 e63,rW β2 a1 eW] [] (iW r) [] := by
 refine Spec.of (fn := Tryz.f34) Tryz.func34 Tryz.ntmps34 rfl rfl (le1 rfl) (fun w0 Zs Zb T0 ι0 => ?_)
 unfold m34 at h
 refine AWP.seq ?_
 refine AWP.rg (.cons (.assign (l1 rfl) (.const _ _ _))<| .nil _ _ _) ?_
 refine AWP.vs ⟨[(0,rW β1 a0 e63),(1,rW β2 a1 eW)],[]⟩ rfl rfl ?_
 refine AWP.seq ?_
 refine AWP.block ?_
 refine AWP.seq ?_
 obtain ⟨y_1,hy_1,h⟩ := bindS h
 refine AWP.rg (.cons (.move (l1 rfl) (.t rfl))<| .cons (.call0 (bw := false) (l1 rfl) (c25 (β1 := β1) n a0 hy_1) (.cons (.t rfl) (.ren rfl) (.nil)) rfl)<| .cons (.not (l1 rfl) (.t rfl))<| .cons (.assign (l1 rfl) (.t rfl))<| .nil _ _ _) ?_
 refine AWP.vs ⟨[(0,rW β1 a0 e63),(1,rW β2 a1 eW),(5,bW (!y_1))],[]⟩ rfl rfl ?_
 refine AWP.cond (.t rfl) (fun hc => ?_) (fun hc => ?_)
 ·have h := iteT hc h
  refine AWP.seq ?_
  refine AWP.rg (.cons (.assign (l1 rfl) (.const _ _ _))<| .nil _ _ _) ?_
  refine AWP.ret ?_
  obtain rfl := Option.some.inj h
  refine retJ (Res.vc (s' := ⟨[(4,iW (1 : Int))],[]⟩) (VC.sub (.of rfl) (.n _)) ?_)
  refine Res.drop (H := []) rfl ?_
  exact Res.of rfl (.cons (.tmp rfl) (.nil)) rfl rfl
 ·have h := iteF hc h
  refine AWP.seq ?_
  obtain ⟨y_2,hy_2,h⟩ := bindS h
  refine AWP.rg (.cons (.move (l1 rfl) (.t rfl))<| .cons (.move (l1 rfl) (.t rfl))<| .cons (.call0 (bw := false) (l1 rfl) (c49 (β1 := β1) (β2 := β2) n a0 a1 hy_2) (.cons (.t rfl) (.ren rfl) (.cons (.t rfl) (.ren rfl) (.nil))) rfl)<| .cons (.not (l1 rfl) (.t rfl))<| .cons (.assign (l1 rfl) (.t rfl))<| .nil _ _ _) ?_
  refine AWP.vs ⟨[(9,bW (!y_2))],[]⟩ rfl rfl ?_
  refine AWP.cond (.t rfl) (fun hc => ?_) (fun hc => ?_)
  ·have h := iteT hc h
   refine AWP.seq ?_
   refine AWP.rg (.cons (.assign (l1 rfl) (.const _ _ _))<| .nil _ _ _) ?_
   refine AWP.ret ?_
   obtain rfl := Option.some.inj h
   refine retJ (Res.vc (s' := ⟨[(4,iW (22 : Int))],[]⟩) (VC.sub (.of rfl) (.n _)) ?_)
   refine Res.drop (H := []) rfl ?_
   exact Res.of rfl (.cons (.tmp rfl) (.nil)) rfl rfl
  ·have h := iteF hc h
   refine AWP.skip ?_
   refine AWP.seq ?_
   refine AWP.rg (.cons (.assign (l1 rfl) (.const _ _ _))<| .nil _ _ _) ?_
   refine AWP.ret ?_
   obtain rfl := Option.some.inj h
   refine retJ (Res.vc (s' := ⟨[(4,iW (0 : Int))],[]⟩) (VC.sub (.of rfl) (.n _)) ?_)
   refine Res.drop (H := []) rfl ?_
   exact Res.of rfl (.cons (.tmp rfl) (.nil)) rfl rfl
theorem c57 {β1 : Bool} {β2 : Bool} (n : Nat) (a0 : (List R63)) (a1 : (List Int)) {r : (List Int)} (h : m57 n a0 a1 = some r) : Spec Tryz.prog 57 [] [rW β1 a0 e63,rW β2 a1 eW] [] (rW false r eW) [] := by
 refine Spec.of (fn := Tryz.f57) Tryz.func57 Tryz.ntmps57 rfl rfl (le1 rfl) (fun w0 Zs Zb T0 ι0 => ?_)
 unfold m57 at h
 refine AWP.seq ?_
 refine AWP.rg (.cons (.assign (l1 rfl) (.const _ _ _))<| .nil _ _ _) ?_
 refine AWP.vs ⟨[(0,rW β1 a0 e63),(1,rW β2 a1 eW)],[]⟩ rfl rfl ?_
 refine AWP.seq ?_
 refine AWP.rg (.cons (.assign (l1 rfl) (.const _ _ _))<| .nil _ _ _) ?_
 refine AWP.vs ⟨[(0,rW β1 a0 e63),(1,rW β2 a1 eW),(5,.sc (.slice none 0 0))],[]⟩ rfl rfl ?_
 refine AWP.seq ?_
 refine AWP.rg (.cons (.assign (l1 rfl) (.const _ _ _))<| .nil _ _ _) ?_
 refine AWP.vs ⟨[(0,rW β1 a0 e63),(1,rW β2 a1 eW),(5,.sc (.slice none 0 0)),(6,iW (0 : Int))],[]⟩ rfl rfl ?_
 refine AWP.seq ?_
 refine AWP.seq ?_
 refine AWP.rg (.cons (.move (l1 rfl) (.t rfl))<| .cons (.lenRd (l1 rfl) (.t rfl) Tryz.underlying23)<| .cons (.move (l1 rfl) (.const _ _ _))<| .nil _ _ _) ?_
 refine AWP.vs ⟨[(0,rW β1 a0 e63),(5,.sc (.slice none 0 0)),(6,iW (0 : Int)),(9,rW β2 a1 eW),(10,iW (a1.length : Int)),(11,iW (0 : Int))],[]⟩ rfl rfl ?_
 refine AWP.joinB' (S := fun p_23 : (List Int) => ⟨[(5,.own 1 1 0 p_23.length)],[(1,⟨3,true,p_23.flatMap eW⟩)]⟩) h (fun p_23 h => ?_) (fun k_24 h => ?_)
 ·refine AWP.seq ?_
  refine AWP.rg (.cons (.move (l1 rfl) (.t rfl))<| .cons (.assign (l1 rfl) (.t rfl))<| .nil _ _ _) ?_
  refine AWP.ret ?_
  obtain rfl := Option.some.inj h
  refine retJ (Res.vc (s' := ⟨[(4,rW false p_23 eW)],[]⟩) (VC.trans (VC.frz (d := 4) (t := 1) rfl rfl (encI_len .i64)) (VC.sub (.of rfl) (.n _))) ?_)
  refine Res.drop (H := []) rfl ?_
  exact Res.of rfl (.cons (.tmp rfl) (.nil)) rfl rfl
 ·refine AWP.vc (VC.nilOwn (d := 5) (t := 1) (sz := 1) (E := 3) rfl (nm rfl)) ?_
  refine AWP.vs ⟨[(0,rW β1 a0 e63),(5,.own 1 1 0 ([] : List Int).length),(6,iW (0 : Int)),(9,rW β2 a1 eW),(10,iW (a1.length : Int)),(11,iW (0 : Int))],[(1,⟨3,true,([] : List Int).flatMap eW⟩)]⟩ rfl rfl ?_
  refine AWP.loopM (S := fun x_15 : Int × Int × (List Int) => ⟨[(0,rW β1 a0 e63),(5,.own 1 1 0 x_15.2.2.length),(6,iW x_15.1),(9,rW β2 a1 eW),(10,iW (a1.length : Int)),(11,iW x_15.2.1)],[(1,⟨3,true,x_15.2.2.flatMap eW⟩)]⟩) (x := ((0 : Int),(0 : Int),([] : List Int))) (fun nx_16 x_15 h => ?_) h
  unfold m57_L1 at h
  refine AWP.seq ?_
  refine AWP.rg (.cons (.lss (l1 rfl) (.t rfl) (.t rfl))<| .nil _ _ _) ?_
  refine AWP.vs ⟨[(0,rW β1 a0 e63),(5,.own 1 1 0 x_15.2.2.length),(6,iW x_15.1),(9,rW β2 a1 eW),(10,iW (a1.length : Int)),(11,iW x_15.2.1),(12,bW (decide (x_15.2.1 < (a1.length : Int))))],[(1,⟨3,true,x_15.2.2.flatMap eW⟩)]⟩ rfl rfl ?_
  refine AWP.seq ?_
  refine AWP.cond (.t rfl) (fun hc => ?_) (fun hc => ?_)
  ·have h := iteT hc h
   refine AWP.skip ?_
   refine AWP.seq ?_
   refine AWP.block ?_
   refine AWP.seq ?_
   obtain ⟨y_17,hy_17,h⟩ := bindS h
   refine AWP.rg (.cons (.indexRd (enc := eW) (l1 rfl) (.t rfl) (.t rfl) Tryz.underlying23 sz3 (encI_len .i64) rfl hy_17)<| .cons (.loadR (v := iW y_17) (l1 rfl) (.t rfl) one3 rfl)<| .cons (.assign (l1 rfl) (.t rfl))<| .nil _ _ _) ?_
   refine AWP.vs ⟨[(0,rW β1 a0 e63),(5,.own 1 1 0 x_15.2.2.length),(6,iW x_15.1),(9,rW β2 a1 eW),(10,iW (a1.length : Int)),(11,iW x_15.2.1),(8,iW y_17)],[(1,⟨3,true,x_15.2.2.flatMap eW⟩)]⟩ rfl rfl ?_
   refine AWP.seq ?_
   obtain ⟨y_18,hy_18,h⟩ := bindS h
   obtain ⟨y_19,hy_19,h⟩ := bindS h
   obtain ⟨t6_20,ht6_20,h⟩ := letS h
   refine AWP.dw mixed [(0,rW β1 a0 e63),(5,.own 1 1 0 x_15.2.2.length),(6,iW x_15.1),(8,iW y_17),(9,rW β2 a1 eW),(10,iW (a1.length : Int)),(11,iW x_15.2.1)] [(2,[13])] [dO [2] 15 (iW x_15.1),dO [0] 16 (rW β1 a0 e63),dO [3] 17 (iW y_17),dO [8,9] 18 (.rptr β1 [iW y_18.Rl,iW y_18.Ln,iW y_18.Due]),dO [10] 19 (.rptr β1 [iW y_18.Rl,iW y_18.Ln,iW y_18.Due]),dO [11] 20 (iW y_18.Rl),dO [7,12] 21 (iW (if y_18.Rl > x_15.1 then y_18.Rl else x_15.1)),dO [0] 22 (rW β1 a0 e63),dO [3] 23 (iW y_17),dO [14,15] 24 (.rptr β1 [iW y_19.Rl,iW y_19.Ln,iW y_19.Due]),dO [16] 25 (.rptr β1 [iW y_19.Ln,iW y_19.Due]),dO [17] 26 (iW y_19.Ln),dO [13,18] 27 (iW (IntKind.wrap .i64 ((if y_18.Rl > x_15.1 then y_18.Rl else x_15.1) + y_19.Ln))),dO [19] 6 (iW (IntKind.wrap .i64 ((if y_18.Rl > x_15.1 then y_18.Rl else x_15.1) + y_19.Ln)))] [] [[(1,⟨3,true,x_15.2.2.flatMap eW⟩)]] [[],[],[],[1,3],[1,4],[1,5],[0,6],[],[],[7,9],[7,10],[7,11],[0,12],[0,13]] [0,1,20,4,5,6] rfl rfl (by kernel_rfl) rfl (.p rfl (fun _ q _ => .move (l1 rfl) (q.t 0 rfl))<| .p rfl (fun _ q _ => .move (l1 rfl) (q.t 0 rfl))<| .p rfl (fun _ q _ => .move (l1 rfl) (q.t 0 rfl))<| .p rfl (fun _ q _ => .indexRd (enc := e63) (l1 rfl) (q.t 0 rfl) (q.t 1 rfl) Tryz.underlying35 sz64 encR63_len rfl hy_18)<| .p rfl (fun _ q _ => .fieldR (l1 rfl) (q.t 0 rfl) fld64_0 rfl)<| .p rfl (fun _ q _ => .loadR (v := iW y_18.Rl) (l1 rfl) (q.t 0 rfl) one3 rfl)<| .p rfl (fun _ q _ => .max2 (l1 rfl) (q.t 0 rfl) (q.t 1 rfl))<| .p rfl (fun _ q _ => .move (l1 rfl) (q.t 0 rfl))<| .p rfl (fun _ q _ => .move (l1 rfl) (q.t 0 rfl))<| .p rfl (fun _ q _ => .indexRd (enc := e63) (l1 rfl) (q.t 0 rfl) (q.t 1 rfl) Tryz.underlying35 sz64 encR63_len rfl hy_19)<| .p rfl (fun _ q _ => .fieldR (l1 rfl) (q.t 0 rfl) fld64_1 rfl)<| .p rfl (fun _ q _ => .loadR (v := iW y_19.Ln) (l1 rfl) (q.t 0 rfl) one3 rfl)<| .p rfl (fun _ q _ => .add (l1 rfl) (q.t 0 rfl) (q.t 1 rfl))<| .p rfl (fun _ q _ => .assign (l1 rfl) (q.t 0 rfl))<| .nil _) rfl rfl ?_
   refine AWP.vc (s' := ⟨[(0,rW β1 a0 e63),(5,.own 1 1 0 x_15.2.2.length),(6,iW t6_20),(9,rW β2 a1 eW),(10,iW (a1.length : Int)),(11,iW x_15.2.1)],[(1,⟨3,true,x_15.2.2.flatMap eW⟩)]⟩) (by subst ht6_20; exact VC.sub (.of rfl) (.of rfl)) ?_
   obtain ⟨l1_21,hl1_21,h⟩ := bindS h
   refine AWP.rg (.cons (.move (l1 rfl) (.t rfl))<| .cons (.move (l1 rfl) (.t rfl))<| .cons (.buildSlice (t := 2) (out := ([t6_20] : List Int).flatMap eW) (l1 rfl) (nm rfl) (.cons (.t rfl) (by first | exact ⟨rfl,rfl⟩ | rfl) (.nil)) Tryz.underlying23 zero3 el3 (by decide) (by decide) rfl (still_all (encI_still .i64) _))<| .cons (.app (enc := eW) (l1 rfl) (nm rfl) (.t rfl) (Src.own (.t rfl) rfl (lendAll (encI_len .i64) _) (flatMap_length (encI_len .i64) _) (one_all (encI_one .i64) _) (.inl rfl)) Tryz.underlying23 ⟨_,Tryz.underlying23,by intro k hk; cases hk⟩ el3 rfl (encI_len .i64) rfl rfl (by decide) hl1_21)<| .cons (.assign (l1 rfl) (.t rfl))<| .nil _ _ _) ?_
   refine AWP.vs ⟨[(0,rW β1 a0 e63),(5,.own 1 1 0 l1_21.length),(6,iW t6_20),(9,rW β2 a1 eW),(10,iW (a1.length : Int)),(11,iW x_15.2.1)],[(1,⟨3,true,l1_21.flatMap eW⟩)]⟩ rfl rfl ?_
   obtain ⟨t11_22,ht11_22,h⟩ := letS h
   refine AWP.rg (.cons (.add (l1 rfl) (.t rfl) (.const _ _ _))<| .cons (.move (l1 rfl) (.t rfl))<| .nil _ _ _) ?_
   exact endJ (t6_20,t11_22,l1_21) h (by subst ht11_22; exact VC.sub (.of rfl) (.of rfl))
  ·have h := iteF hc h
   refine AWP.exit ?_
   exact endJ x_15.2.2 h (VC.sub (.of rfl) (.of rfl))
theorem c35 {β1 : Bool} {β2 : Bool} (n : Nat) (a0 : (List R63)) (a1 : (List Int)) (a2 : Bool) {r : Int} (h : m35 n a0 a1 a2 = some r) : Spec Tryz.prog 35 [] [rW β1 a0 e63,rW β2 a1 eW,bW a2] [] (iW r) [] := by
 refine Spec.of (fn := Tryz.f35) Tryz.func35 Tryz.ntmps35 rfl rfl (le1 rfl) (fun w0 Zs Zb T0 ι0 => ?_)
 unfold m35 at h
 refine AWP.seq ?_
 refine AWP.rg (.cons (.assign (l1 rfl) (.const _ _ _))<| .nil _ _ _) ?_
 refine AWP.vs ⟨[(0,rW β1 a0 e63),(1,rW β2 a1 eW),(2,bW a2)],[]⟩ rfl rfl ?_
 refine AWP.seq ?_
 refine AWP.rg (.cons (.assign (l1 rfl) (.const _ _ _))<| .nil _ _ _) ?_
 refine AWP.vs ⟨[(0,rW β1 a0 e63),(1,rW β2 a1 eW),(2,bW a2),(7,iW (0 : Int))],[]⟩ rfl rfl ?_
 refine AWP.seq ?_
 refine AWP.seq ?_
 obtain ⟨y_1,hy_1,h⟩ := bindS h
 refine AWP.rg (.cons (.move (l1 rfl) (.t rfl))<| .cons (.move (l1 rfl) (.t rfl))<| .cons (.call0 (bw := false) (l1 rfl) (c57 (β1 := β1) (β2 := β2) n a0 a1 hy_1) (.cons (.t rfl) (.ren rfl) (.cons (.t rfl) (.ren rfl) (.nil))) rfl)<| .cons (.lenRd (l1 rfl) (.t rfl) Tryz.underlying23)<| .cons (.move (l1 rfl) (.const _ _ _))<| .nil _ _ _) ?_
 refine AWP.vs ⟨[(0,rW β1 a0 e63),(1,rW β2 a1 eW),(2,bW a2),(7,iW (0 : Int)),(13,rW false y_1 eW),(14,iW (y_1.length : Int)),(15,iW (0 : Int))],[]⟩ rfl rfl ?_
 refine AWP.joinB' (S := fun p_36 : Int => ⟨[(7,iW p_36)],[]⟩) h (fun p_36 h => ?_) (fun k_37 h => ?_)
 ·refine AWP.seq ?_
  refine AWP.rg (.cons (.move (l1 rfl) (.t rfl))<| .cons (.assign (l1 rfl) (.t rfl))<| .nil _ _ _) ?_
  refine AWP.ret ?_
  obtain rfl := Option.some.inj h
  refine retJ (Res.vc (s' := ⟨[(6,iW p_36)],[]⟩) (VC.sub (.of rfl) (.n _)) ?_)
  refine Res.drop (H := []) rfl ?_
  exact Res.of rfl (.cons (.tmp rfl) (.nil)) rfl rfl
 ·refine AWP.vs ⟨[(0,rW β1 a0 e63),(1,rW β2 a1 eW),(2,bW a2),(7,iW (0 : Int)),(13,rW false y_1 eW),(14,iW (y_1.length : Int)),(15,iW (0 : Int))],[]⟩ rfl rfl ?_
  refine AWP.loopM (S := fun x_24 : Int × Int => ⟨[(0,rW β1 a0 e63),(1,rW β2 a1 eW),(2,bW a2),(7,iW x_24.1),(13,rW false y_1 eW),(14,iW (y_1.length : Int)),(15,iW x_24.2)],[]⟩) (x := ((0 : Int),(0 : Int))) (fun nx_25 x_24 h => ?_) h
  unfold m35_L1 at h
  refine AWP.seq ?_
  refine AWP.rg (.cons (.lss (l1 rfl) (.t rfl) (.t rfl))<| .nil _ _ _) ?_
  refine AWP.vs ⟨[(0,rW β1 a0 e63),(1,rW β2 a1 eW),(2,bW a2),(7,iW x_24.1),(13,rW false y_1 eW),(14,iW (y_1.length : Int)),(15,iW x_24.2),(16,bW (decide (x_24.2 < (y_1.length : Int))))],[]⟩ rfl rfl ?_
  refine AWP.seq ?_
  refine AWP.cond (.t rfl) (fun hc => ?_) (fun hc => ?_)
  ·have h := iteT hc h
   refine AWP.skip ?_
   refine AWP.seq ?_
   refine AWP.block ?_
   refine AWP.seq ?_
   obtain ⟨y_26,hy_26,h⟩ := bindS h
   refine AWP.rg (.cons (.move (l1 rfl) (.t rfl))<| .cons (.indexRd (enc := eW) (l1 rfl) (.t rfl) (.t rfl) Tryz.underlying23 sz3 (encI_len .i64) rfl hy_26)<| .cons (.loadR (v := iW y_26) (l1 rfl) (.t rfl) one3 rfl)<| .cons (.assign (l1 rfl) (.t rfl))<| .cons (.assign (l1 rfl) (.t rfl))<| .nil _ _ _) ?_
   refine AWP.vs ⟨[(0,rW β1 a0 e63),(1,rW β2 a1 eW),(2,bW a2),(7,iW x_24.1),(13,rW false y_1 eW),(14,iW (y_1.length : Int)),(15,iW x_24.2),(8,iW x_24.2),(9,iW y_26)],[]⟩ rfl rfl ?_
   refine AWP.seq ?_
   obtain ⟨y_27,hy_27,h⟩ := bindS h
   obtain ⟨y_28,hy_28,h⟩ := bindS h
   obtain ⟨t10_29,ht10_29,h⟩ := letS h
   refine AWP.rg (.cons (.move (l1 rfl) (.t rfl))<| .cons (.move (l1 rfl) (.t rfl))<| .cons (.move (l1 rfl) (.t rfl))<| .cons (.move (l1 rfl) (.t rfl))<| .cons (.indexRd (enc := eW) (l1 rfl) (.t rfl) (.t rfl) Tryz.underlying23 sz3 (encI_len .i64) rfl hy_27)<| .cons (.loadR (v := iW y_27) (l1 rfl) (.t rfl) one3 rfl)<| .cons (.indexRd (enc := e63) (l1 rfl) (.t rfl) (.t rfl) Tryz.underlying35 sz64 encR63_len rfl hy_28)<| .cons (.fieldR (l1 rfl) (.t rfl) fld64_2 rfl)<| .cons (.loadR (v := iW y_28.Due) (l1 rfl) (.t rfl) one3 rfl)<| .cons (.sub (l1 rfl) (.t rfl) (.t rfl))<| .cons (.assign (l1 rfl) (.t rfl))<| .nil _ _ _) ?_
   refine AWP.vc (s' := ⟨[(0,rW β1 a0 e63),(1,rW β2 a1 eW),(2,bW a2),(7,iW x_24.1),(13,rW false y_1 eW),(14,iW (y_1.length : Int)),(15,iW x_24.2),(8,iW x_24.2),(10,iW t10_29)],[]⟩) (by subst ht10_29; exact VC.sub (.of rfl) (.n _)) ?_
   refine AWP.block ?_
   refine AWP.seq ?_
   refine AWP.rg (.cons (.move (l1 rfl) (.t rfl))<| .cons (.not (l1 rfl) (.t rfl))<| .cons (.assign (l1 rfl) (.t rfl))<| .nil _ _ _) ?_
   refine AWP.vs ⟨[(0,rW β1 a0 e63),(1,rW β2 a1 eW),(2,bW a2),(7,iW x_24.1),(13,rW false y_1 eW),(14,iW (y_1.length : Int)),(15,iW x_24.2),(8,iW x_24.2),(10,iW t10_29),(30,bW (!a2))],[]⟩ rfl rfl ?_
   refine AWP.join' (S := fun p_33 : Int => ⟨[(0,rW β1 a0 e63),(1,rW β2 a1 eW),(2,bW a2),(7,iW p_33),(13,rW false y_1 eW),(14,iW (y_1.length : Int)),(15,iW x_24.2)],[]⟩) h (fun p_33 h => ?_) (fun k_34 h => ?_)
   ·obtain ⟨t15_35,ht15_35,h⟩ := letS h
    refine AWP.rg (.cons (.add (l1 rfl) (.t rfl) (.const _ _ _))<| .cons (.move (l1 rfl) (.t rfl))<| .nil _ _ _) ?_
    exact endJ (p_33,t15_35) h (by subst ht15_35; exact VC.sub (.of rfl) (.n _))
   ·refine AWP.cond (.t rfl) (fun hc => ?_) (fun hc => ?_)
    ·have h := iteT hc h
     obtain ⟨t7_30,ht7_30,h⟩ := letS h
     refine AWP.rg (.cons (.move (l1 rfl) (.t rfl))<| .cons (.move (l1 rfl) (.t rfl))<| .cons (.max2 (l1 rfl) (.const _ _ _) (.t rfl))<| .cons (.add (l1 rfl) (.t rfl) (.t rfl))<| .cons (.assign (l1 rfl) (.t rfl))<| .nil _ _ _) ?_
     exact endJ t7_30 h (by subst ht7_30; exact VC.sub (.of rfl) (.n _))
    ·have h := iteF hc h
     refine AWP.seq ?_
     refine AWP.rg (.cons (.move (l1 rfl) (.t rfl))<| .cons (.eql (l1 rfl) (.t rfl) (.const _ _ _))<| .cons (.move (l1 rfl) (.t rfl))<| .guard (j := 2) (dj := 40) rfl (l1 rfl) rfl (l1 rfl) (fun hg => .move (l1 rfl) (.t rfl))<| .guard (j := 2) (dj := 40) rfl (l1 rfl) rfl (l1 rfl) (fun hg => .move (l1 rfl) (.t rfl))<| .guard (j := 2) (dj := 40) rfl (l1 rfl) rfl (l1 rfl) (fun hg => .gtr (l1 rfl) (.gd hg (.t rfl)) (.gd hg (.t rfl)))<| .cons (.pickOr (l1 rfl) (.t rfl) (.const _ _ _) (.t rfl))<| .cons (.assign (l1 rfl) (.t rfl))<| .nil _ _ _) ?_
     refine AWP.vs ⟨[(0,rW β1 a0 e63),(1,rW β2 a1 eW),(2,bW a2),(7,iW x_24.1),(13,rW false y_1 eW),(14,iW (y_1.length : Int)),(15,iW x_24.2),(10,iW t10_29),(37,bW ((decide (x_24.2 = (0 : Int))) || (decide (x_24.1 < t10_29))))],[]⟩ rfl rfl ?_
     refine AWP.join' (S := fun p_31 : Int => ⟨[(0,rW β1 a0 e63),(1,rW β2 a1 eW),(2,bW a2),(7,iW p_31),(13,rW false y_1 eW),(14,iW (y_1.length : Int)),(15,iW x_24.2)],[]⟩) h (fun p_31 h => ?_) (fun k_32 h => ?_)
     ·exact endJ p_31 h (VC.sub (.of rfl) (.n _))
     ·refine AWP.cond (.t rfl) (fun hc => ?_) (fun hc => ?_)
      ·have h := iteT hc h
       refine AWP.rg (.cons (.move (l1 rfl) (.t rfl))<| .cons (.assign (l1 rfl) (.t rfl))<| .nil _ _ _) ?_
       exact endJ t10_29 h (VC.sub (.of rfl) (.n _))
      ·have h := iteF hc h
       refine AWP.skip ?_
       exact endJ x_24.1 h (VC.sub (.of rfl) (.n _))
  ·have h := iteF hc h
   refine AWP.exit ?_
   exact endJ x_24.1 h (VC.sub (.of rfl) (.n _))
theorem c23 {β1 : Bool} {β2 : Bool} (n : Nat) (a0 : (List R63)) (a1 : (List Int)) {r : (Int × Int)} (h : m23 n a0 a1 = some r) : Spec Tryz.prog 23 [] [rW β1 a0 e63,rW β2 a1 eW] [] (.tup [iW r.1,iW r.2]) [] := by
 refine Spec.of (fn := Tryz.f23) Tryz.func23 Tryz.ntmps23 rfl rfl (le1 rfl) (fun w0 Zs Zb T0 ι0 => ?_)
 unfold m23 at h
 refine AWP.seq ?_
 refine AWP.rg (.cons (.assign (l1 rfl) (.const _ _ _))<| .cons (.assign (l1 rfl) (.const _ _ _))<| .nil _ _ _) ?_
 refine AWP.vs ⟨[(0,rW β1 a0 e63),(1,rW β2 a1 eW)],[]⟩ rfl rfl ?_
 refine AWP.seq ?_
 refine AWP.seq ?_
 obtain ⟨y_1,hy_1,h⟩ := bindS h
 refine AWP.rg (.cons (.move (l1 rfl) (.t rfl))<| .cons (.move (l1 rfl) (.t rfl))<| .cons (.call0 (bw := false) (l1 rfl) (c34 (β1 := β1) (β2 := β2) n a0 a1 hy_1) (.cons (.t rfl) (.ren rfl) (.cons (.t rfl) (.ren rfl) (.nil))) rfl)<| .cons (.assign (l1 rfl) (.t rfl))<| .nil _ _ _) ?_
 refine AWP.vs ⟨[(0,rW β1 a0 e63),(1,rW β2 a1 eW),(6,iW y_1)],[]⟩ rfl rfl ?_
 refine AWP.seq ?_
 refine AWP.rg (.cons (.move (l1 rfl) (.t rfl))<| .cons (.neq (l1 rfl) (.t rfl) (.const _ _ _))<| .nil _ _ _) ?_
 refine AWP.vs ⟨[(0,rW β1 a0 e63),(1,rW β2 a1 eW),(6,iW y_1),(11,bW (!decide (y_1 = (0 : Int))))],[]⟩ rfl rfl ?_
 refine AWP.cond (.t rfl) (fun hc => ?_) (fun hc => ?_)
 ·have h := iteT hc h
  refine AWP.seq ?_
  refine AWP.rg (.cons (.move (l1 rfl) (.t rfl))<| .cons (.assign (l1 rfl) (.const _ _ _))<| .cons (.assign (l1 rfl) (.t rfl))<| .nil _ _ _) ?_
  refine AWP.ret ?_
  obtain rfl := Option.some.inj h
  refine retJ (Res.vc (s' := ⟨[(4,iW (0 : Int)),(5,iW y_1)],[]⟩) (VC.sub (.of rfl) (.n _)) ?_)
  refine Res.drop (H := []) rfl ?_
  exact Res.of rfl (.cons (.tmp rfl) (.cons (.tmp rfl) (.nil))) rfl rfl
 ·have h := iteF hc h
  refine AWP.skip ?_
  refine AWP.seq ?_
  obtain ⟨y_2,hy_2,h⟩ := bindS h
  refine AWP.rg (.cons (.move (l1 rfl) (.t rfl))<| .cons (.move (l1 rfl) (.t rfl))<| .cons (.call0 (bw := false) (l1 rfl) (c35 (β1 := β1) (β2 := β2) n a0 a1 false hy_2) (.cons (.t rfl) (.ren rfl) (.cons (.t rfl) (.ren rfl) (.cons (.const _ _ _) (.ren rfl) (.nil)))) rfl)<| .cons (.assign (l1 rfl) (.t rfl))<| .cons (.assign (l1 rfl) (.const _ _ _))<| .nil _ _ _) ?_
  refine AWP.ret ?_
  obtain rfl := Option.some.inj h
  refine retJ (Res.vc (s' := ⟨[(4,iW y_2),(5,iW (0 : Int))],[]⟩) (VC.sub (.of rfl) (.n _)) ?_)
  refine Res.drop (H := []) rfl ?_
  exact Res.of rfl (.cons (.tmp rfl) (.cons (.tmp rfl) (.nil))) rfl rfl
theorem c52 {β1 : Bool} (n : Nat) (a0 : (List Int)) {r : (List Int)} (h : m52 n a0 = some r) : Spec Tryz.prog 52 [] [rW β1 a0 eW] [] (rW false r eW) [] := by
 refine Spec.of (fn := Tryz.f52) Tryz.func52 Tryz.ntmps52 rfl rfl (le1 rfl) (fun w0 Zs Zb T0 ι0 => ?_)
 unfold m52 at h
 refine AWP.seq ?_
 refine AWP.rg (.cons (.assign (l1 rfl) (.const _ _ _))<| .nil _ _ _) ?_
 refine AWP.vs ⟨[(0,rW β1 a0 eW)],[]⟩ rfl rfl ?_
 refine AWP.seq ?_
 refine AWP.seq ?_
 refine AWP.regionE (S := fun q_1 => ⟨[(0,rW β1 a0 eW),(4,bW (decide (a0.length = 0 ∧ q_1 = 0)))],[]⟩) (.cons (.move (l1 rfl) (.t rfl))<| .consE (AStepE.eqNil0 (l1 rfl) (.t rfl) Tryz.underlying23)<| fun q_1 => ARunE.nilV q_1 (VC.sub (.of rfl) (.n _))) (fun q_1 => ?_)
 refine AWP.cond (.t rfl) (fun hc => ?_) (fun hc => ?_)
 ·have h := cloneNil hc h
  refine AWP.seq ?_
  refine AWP.rg (.cons (.assign (l1 rfl) (.const _ _ _))<| .nil _ _ _) ?_
  refine AWP.ret ?_
  obtain rfl := Option.some.inj h
  refine retJ (Res.vc (s' := ⟨[(2,rW false ([] : List Int) eW)],[]⟩) (VC.trans (VC.nilRd (d := 2) false rfl) (VC.sub (.of rfl) (.n _))) ?_)
  refine Res.drop (H := []) rfl ?_
  exact Res.of rfl (.cons (.tmp rfl) (.nil)) rfl rfl
 ·refine AWP.skip ?_
  refine AWP.seq ?_
  obtain ⟨l1_2,hl1_2,h⟩ := bindS h
  refine AWP.rg (.cons (.buildSlice (t := 1) (out := ([] : List Int).flatMap eW) (l1 rfl) (nm rfl) (.nil) Tryz.underlying23 zero3 el3 (by decide) (by decide) rfl (still_all (encI_still .i64) _))<| .cons (.move (l1 rfl) (.t rfl))<| .cons (.app (enc := eW) (l1 rfl) (nm rfl) (.t rfl) (Src.rd (.t rfl) (flatMap_length (encI_len .i64) _) (one_all (encI_one .i64) _) (.inr (scal_all (encI_scal .i64) _))) Tryz.underlying23 ⟨_,Tryz.underlying23,by intro k hk; cases hk⟩ el3 rfl (encI_len .i64) rfl rfl (by decide) hl1_2)<| .cons (.assign (l1 rfl) (.t rfl))<| .nil _ _ _) ?_
  refine AWP.ret ?_
  obtain rfl := Option.some.inj h
  refine retJ (Res.vc (s' := ⟨[(2,rW false l1_2 eW)],[]⟩) (VC.trans (VC.frz (d := 2) (t := 1) rfl rfl (encI_len .i64)) (VC.sub (.of rfl) (.n _))) ?_)
  refine Res.drop (H := []) rfl ?_
  exact Res.of rfl (.cons (.tmp rfl) (.nil)) rfl rfl
theorem c68 {β1 : Bool} (n : Nat) (a0 : (List Int)) (a1 : Int) {r : Int} (h : m68 n a0 a1 = some r) : Spec Tryz.prog 68 [] [rW β1 a0 eW,iW a1] [] (iW r) [] := by
 refine Spec.of (fn := Tryz.f68) Tryz.func68 Tryz.ntmps68 rfl rfl (le1 rfl) (fun w0 Zs Zb T0 ι0 => ?_)
 unfold m68 at h
 refine AWP.seq ?_
 refine AWP.rg (.cons (.assign (l1 rfl) (.const _ _ _))<| .nil _ _ _) ?_
 refine AWP.vs ⟨[(0,rW β1 a0 eW),(1,iW a1)],[]⟩ rfl rfl ?_
 refine AWP.seq ?_
 refine AWP.seq ?_
 refine AWP.rg (.cons (.move (l1 rfl) (.t rfl))<| .cons (.lenRd (l1 rfl) (.t rfl) Tryz.underlying23)<| .cons (.move (l1 rfl) (.const _ _ _))<| .nil _ _ _) ?_
 refine AWP.vs ⟨[(0,rW β1 a0 eW),(1,iW a1),(7,iW (a0.length : Int)),(8,iW (0 : Int))],[]⟩ rfl rfl ?_
 refine AWP.joinB' (S := fun p_11 : Unit => ⟨[],[]⟩) h (fun p_11 h => ?_) (fun k_12 h => ?_)
 ·refine AWP.seq ?_
  refine AWP.rg (.cons (.assign (l1 rfl) (.const _ _ _))<| .nil _ _ _) ?_
  refine AWP.ret ?_
  obtain rfl := Option.some.inj h
  refine retJ (Res.vc (s' := ⟨[(4,iW (-1 : Int))],[]⟩) (VC.sub (.of rfl) (.n _)) ?_)
  refine Res.drop (H := []) rfl ?_
  exact Res.of rfl (.cons (.tmp rfl) (.nil)) rfl rfl
 ·refine AWP.vs ⟨[(0,rW β1 a0 eW),(1,iW a1),(7,iW (a0.length : Int)),(8,iW (0 : Int))],[]⟩ rfl rfl ?_
  refine AWP.loopM (S := fun x_7 : Int => ⟨[(0,rW β1 a0 eW),(1,iW a1),(7,iW (a0.length : Int)),(8,iW x_7)],[]⟩) (x := (0 : Int)) (fun nx_8 x_7 h => ?_) h
  unfold m68_L1 at h
  refine AWP.seq ?_
  refine AWP.rg (.cons (.lss (l1 rfl) (.t rfl) (.t rfl))<| .nil _ _ _) ?_
  refine AWP.vs ⟨[(0,rW β1 a0 eW),(1,iW a1),(7,iW (a0.length : Int)),(8,iW x_7),(9,bW (decide (x_7 < (a0.length : Int))))],[]⟩ rfl rfl ?_
  refine AWP.seq ?_
  refine AWP.cond (.t rfl) (fun hc => ?_) (fun hc => ?_)
  ·have h := iteT hc h
   refine AWP.skip ?_
   refine AWP.seq ?_
   refine AWP.block ?_
   refine AWP.seq ?_
   refine AWP.rg (.cons (.move (l1 rfl) (.t rfl))<| .cons (.assign (l1 rfl) (.t rfl))<| .nil _ _ _) ?_
   refine AWP.vs ⟨[(0,rW β1 a0 eW),(1,iW a1),(7,iW (a0.length : Int)),(8,iW x_7),(5,iW x_7)],[]⟩ rfl rfl ?_
   refine AWP.seq ?_
   obtain ⟨y_9,hy_9,h⟩ := bindS h
   refine AWP.rg (.cons (.move (l1 rfl) (.t rfl))<| .cons (.move (l1 rfl) (.t rfl))<| .cons (.move (l1 rfl) (.t rfl))<| .cons (.indexRd (enc := eW) (l1 rfl) (.t rfl) (.t rfl) Tryz.underlying23 sz3 (encI_len .i64) rfl hy_9)<| .cons (.loadR (v := iW y_9) (l1 rfl) (.t rfl) one3 rfl)<| .cons (.eql (l1 rfl) (.t rfl) (.t rfl))<| .nil _ _ _) ?_
   refine AWP.vs ⟨[(0,rW β1 a0 eW),(1,iW a1),(7,iW (a0.length : Int)),(8,iW x_7),(5,iW x_7),(16,bW (decide (a1 = y_9)))],[]⟩ rfl rfl ?_
   refine AWP.cond (.t rfl) (fun hc => ?_) (fun hc => ?_)
   ·have h := iteT hc h
    refine AWP.seq ?_
    refine AWP.rg (.cons (.move (l1 rfl) (.t rfl))<| .cons (.assign (l1 rfl) (.t rfl))<| .nil _ _ _) ?_
    refine AWP.ret ?_
    obtain rfl := Option.some.inj h
    refine retJ (Res.vc (s' := ⟨[(4,iW x_7)],[]⟩) (VC.sub (.of rfl) (.n _)) ?_)
    refine Res.drop (H := []) rfl ?_
    exact Res.of rfl (.cons (.tmp rfl) (.nil)) rfl rfl
   ·have h := iteF hc h
    refine AWP.skip ?_
    obtain ⟨t8_10,ht8_10,h⟩ := letS h
    refine AWP.rg (.cons (.add (l1 rfl) (.t rfl) (.const _ _ _))<| .cons (.move (l1 rfl) (.t rfl))<| .nil _ _ _) ?_
    exact endJ t8_10 h (by subst ht8_10; exact VC.sub (.of rfl) (.n _))
  ·have h := iteF hc h
   refine AWP.exit ?_
   exact endJ () h (VC.sub (.n _) (.n _))
theorem c51 {β1 : Bool} (n : Nat) (a0 : (List Int)) (a1 : Int) {r : Bool} (h : m51 n a0 a1 = some r) : Spec Tryz.prog 51 [] [rW β1 a0 eW,iW a1] [] (bW r) [] := by
 refine Spec.of (fn := Tryz.f51) Tryz.func51 Tryz.ntmps51 rfl rfl (le1 rfl) (fun w0 Zs Zb T0 ι0 => ?_)
 unfold m51 at h
 refine AWP.seq ?_
 refine AWP.rg (.cons (.assign (l1 rfl) (.const _ _ _))<| .nil _ _ _) ?_
 refine AWP.vs ⟨[(0,rW β1 a0 eW),(1,iW a1)],[]⟩ rfl rfl ?_
 refine AWP.seq ?_
 obtain ⟨y_1,hy_1,h⟩ := bindS h
 refine AWP.rg (.cons (.move (l1 rfl) (.t rfl))<| .cons (.move (l1 rfl) (.t rfl))<| .cons (.call0 (bw := false) (l1 rfl) (c68 (β1 := β1) n a0 a1 hy_1) (.cons (.t rfl) (.ren rfl) (.cons (.t rfl) (.ren rfl) (.nil))) rfl)<| .cons (.geq (l1 rfl) (.t rfl) (.const _ _ _))<| .cons (.assign (l1 rfl) (.t rfl))<| .nil _ _ _) ?_
 refine AWP.ret ?_
 obtain rfl := Option.some.inj h
 refine retJ (Res.vc (s' := ⟨[(4,bW (decide ((0 : Int) ≤ y_1)))],[]⟩) (VC.sub (.of rfl) (.n _)) ?_)
 refine Res.drop (H := []) rfl ?_
 exact Res.of rfl (.cons (.tmp rfl) (.nil)) rfl rfl
theorem c60F (n : Nat) : ∀ (f : Nat) {β1 : Bool} (a0_b0_b : (List Int)) (a1_b0 : (List R63)) (a2_b0 : Bool) (a3_b0 : Bool) (a4_b0 : Int) (a5_b0 : (List Int)) {r : ((List Int) × Bool × Int × (List Int))},m60F n f a0_b0_b a1_b0 a2_b0 a3_b0 a4_b0 a5_b0 = some r → Spec Tryz.prog 60 [1,3,4,5,6,7,8] [.ptr 1 0,.ptr 3 0,.ptr 4 0,.ptr 5 0,.ptr 6 0,.ptr 7 0,.ptr 8 0] [(1,⟨23,false,[.own 2 1 0 a0_b0_b.length]⟩),(2,⟨3,true,a0_b0_b.flatMap eW⟩),(3,⟨35,false,[rW β1 a1_b0 e63]⟩),(4,⟨4,false,[bW a2_b0]⟩),(5,⟨4,false,[bW a3_b0]⟩),(6,⟨3,false,[iW a4_b0]⟩),(7,⟨23,false,[rW false a5_b0 eW]⟩),(8,⟨1,false,[.clo (.func 60) [] [.ptr 1 0,.ptr 3 0,.ptr 4 0,.ptr 5 0,.ptr 6 0,.ptr 7 0,.ptr 8 0]]⟩)] (.tup []) [(1,⟨23,false,[.own 2 1 0 r.1.length]⟩),(2,⟨3,true,r.1.flatMap eW⟩),(3,⟨35,false,[rW β1 a1_b0 e63]⟩),(4,⟨4,false,[bW a2_b0]⟩),(5,⟨4,false,[bW r.2.1]⟩),(6,⟨3,false,[iW r.2.2.1]⟩),(7,⟨23,false,[rW false r.2.2.2 eW]⟩),(8,⟨1,false,[.clo (.func 60) [] [.ptr 1 0,.ptr 3 0,.ptr 4 0,.ptr 5 0,.ptr 6 0,.ptr 7 0,.ptr 8 0]]⟩)] := by
 intro f
 induction f with
 | zero =>
  intro β1 a0_b0_b a1_b0 a2_b0 a3_b0 a4_b0 a5_b0 r h
  cases (show (none : Option ((List Int) × Bool × Int × (List Int))) = some r from h)
 | succ f ih =>
 intro β1 a0_b0_b a1_b0 a2_b0 a3_b0 a4_b0 a5_b0 r h
 replace h : m60B n (m60F n f) a0_b0_b a1_b0 a2_b0 a3_b0 a4_b0 a5_b0 = some r := h
 generalize m60F n f = rc_0 at h ih
 refine Spec.of (fn := Tryz.f60) Tryz.func60 Tryz.ntmps60 rfl rfl (le1 rfl) (fun w0 Zs Zb T0 ι0 => ?_)
 unfold m60B at h
 refine AWP.seq ?_
 refine AWP.seq ?_
 refine AWP.rg (.cons (.loadP (l1 rfl) (.t rfl) one23 rfl rfl rfl)<| .cons (.lenOwn (l1 rfl) (.t rfl) Tryz.underlying23)<| .cons (.loadP (l1 rfl) (.t rfl) one35 rfl rfl rfl)<| .cons (.lenRd (l1 rfl) (.t rfl) Tryz.underlying35)<| .cons (.eql (l1 rfl) (.t rfl) (.t rfl))<| .nil _ _ _) ?_
 refine AWP.vs ⟨[(0,.ptr 1 0),(1,.ptr 3 0),(2,.ptr 4 0),(3,.ptr 5 0),(4,.ptr 6 0),(5,.ptr 7 0),(6,.ptr 8 0),(13,bW (decide ((a0_b0_b.length : Int) = (a1_b0.length : Int))))],[(1,⟨23,false,[.own 2 1 0 a0_b0_b.length]⟩),(2,⟨3,true,a0_b0_b.flatMap eW⟩),(3,⟨35,false,[rW β1 a1_b0 e63]⟩),(4,⟨4,false,[bW a2_b0]⟩),(5,⟨4,false,[bW a3_b0]⟩),(6,⟨3,false,[iW a4_b0]⟩),(7,⟨23,false,[rW false a5_b0 eW]⟩),(8,⟨1,false,[.clo (.func 60) [] [.ptr 1 0,.ptr 3 0,.ptr 4 0,.ptr 5 0,.ptr 6 0,.ptr 7 0,.ptr 8 0]]⟩)]⟩ rfl rfl ?_
 refine AWP.cond (.t rfl) (fun hc => ?_) (fun hc => ?_)
 ·have h := iteT hc h
  refine AWP.seq ?_
  refine AWP.seq ?_
  obtain ⟨y_1,hy_1,h⟩ := bindS h
  refine AWP.rg (.cons (.loadP (l1 rfl) (.t rfl) one35 rfl rfl rfl)<| .cons (.loadP (l1 rfl) (.t rfl) one23 rfl rfl rfl)<| .cons (.loadP (l1 rfl) (.t rfl) one4 rfl rfl rfl)<| .cons (.call0 (bw := true) (l1 rfl) (c35 (β1 := β1) (β2 := true) n a1_b0 a0_b0_b a2_b0 hy_1) (.cons (.t rfl) (.ren rfl) (.cons (.t rfl) (.lendRow rfl rfl (encI_len .i64) rfl) (.cons (.t rfl) (.ren rfl) (.nil)))) rfl)<| .cons (.assign (l1 rfl) (.t rfl))<| .nil _ _ _) ?_
  refine AWP.vs ⟨[(0,.ptr 1 0),(3,.ptr 5 0),(4,.ptr 6 0),(5,.ptr 7 0),(7,iW y_1)],[(1,⟨23,false,[.own 2 1 0 a0_b0_b.length]⟩),(2,⟨3,true,a0_b0_b.flatMap eW⟩),(3,⟨35,false,[rW β1 a1_b0 e63]⟩),(4,⟨4,false,[bW a2_b0]⟩),(5,⟨4,false,[bW a3_b0]⟩),(6,⟨3,false,[iW a4_b0]⟩),(7,⟨23,false,[rW false a5_b0 eW]⟩),(8,⟨1,false,[.clo (.func 60) [] [.ptr 1 0,.ptr 3 0,.ptr 4 0,.ptr 5 0,.ptr 6 0,.ptr 7 0,.ptr 8 0]]⟩)]⟩ rfl rfl ?_
  refine AWP.seq ?_
  refine AWP.rg (.cons (.loadP (l1 rfl) (.t rfl) one4 rfl rfl rfl)<| .cons (.not (l1 rfl) (.t rfl))<| .cons (.move (l1 rfl) (.t rfl))<| .guard (j := 2) (dj := 20) rfl (l1 rfl) rfl (l1 rfl) (fun hg => .move (l1 rfl) (.t rfl))<| .guard (j := 2) (dj := 20) rfl (l1 rfl) rfl (l1 rfl) (fun hg => .loadP (l1 rfl) (.t rfl) one3 rfl rfl rfl)<| .guard (j := 2) (dj := 20) rfl (l1 rfl) rfl (l1 rfl) (fun hg => .lss (l1 rfl) (.gd hg (.t rfl)) (.gd hg (.t rfl)))<| .cons (.pickOr (l1 rfl) (.t rfl) (.const _ _ _) (.t rfl))<| .nil _ _ _) ?_
  refine AWP.vs ⟨[(0,.ptr 1 0),(3,.ptr 5 0),(4,.ptr 6 0),(5,.ptr 7 0),(7,iW y_1),(24,bW ((!a3_b0) || (decide (y_1 < a4_b0))))],[(1,⟨23,false,[.own 2 1 0 a0_b0_b.length]⟩),(2,⟨3,true,a0_b0_b.flatMap eW⟩),(3,⟨35,false,[rW β1 a1_b0 e63]⟩),(4,⟨4,false,[bW a2_b0]⟩),(5,⟨4,false,[bW a3_b0]⟩),(6,⟨3,false,[iW a4_b0]⟩),(7,⟨23,false,[rW false a5_b0 eW]⟩),(8,⟨1,false,[.clo (.func 60) [] [.ptr 1 0,.ptr 3 0,.ptr 4 0,.ptr 5 0,.ptr 6 0,.ptr 7 0,.ptr 8 0]]⟩)]⟩ rfl rfl ?_
  refine AWP.join' (S := fun p_3 : Bool × Int × (List Int) => ⟨[],[(1,⟨23,false,[.own 2 1 0 a0_b0_b.length]⟩),(2,⟨3,true,a0_b0_b.flatMap eW⟩),(3,⟨35,false,[rW β1 a1_b0 e63]⟩),(4,⟨4,false,[bW a2_b0]⟩),(5,⟨4,false,[bW p_3.1]⟩),(6,⟨3,false,[iW p_3.2.1]⟩),(7,⟨23,false,[rW false p_3.2.2 eW]⟩),(8,⟨1,false,[.clo (.func 60) [] [.ptr 1 0,.ptr 3 0,.ptr 4 0,.ptr 5 0,.ptr 6 0,.ptr 7 0,.ptr 8 0]]⟩)]⟩) h (fun p_3 h => ?_) (fun k_4 h => ?_)
  ·refine AWP.ret ?_
   obtain rfl := Option.some.inj h
   refine retJ (Res.vc (s' := ⟨[],[(1,⟨23,false,[.own 2 1 0 a0_b0_b.length]⟩),(2,⟨3,true,a0_b0_b.flatMap eW⟩),(3,⟨35,false,[rW β1 a1_b0 e63]⟩),(4,⟨4,false,[bW a2_b0]⟩),(5,⟨4,false,[bW p_3.1]⟩),(6,⟨3,false,[iW p_3.2.1]⟩),(7,⟨23,false,[rW false p_3.2.2 eW]⟩),(8,⟨1,false,[.clo (.func 60) [] [.ptr 1 0,.ptr 3 0,.ptr 4 0,.ptr 5 0,.ptr 6 0,.ptr 7 0,.ptr 8 0]]⟩)]⟩) (VC.sub (.n _) (.of rfl)) ?_)
   refine Res.sub (H := [(1,⟨23,false,[.own 2 1 0 a0_b0_b.length]⟩),(2,⟨3,true,a0_b0_b.flatMap eW⟩),(3,⟨35,false,[rW β1 a1_b0 e63]⟩),(4,⟨4,false,[bW a2_b0]⟩),(5,⟨4,false,[bW p_3.1]⟩),(6,⟨3,false,[iW p_3.2.1]⟩),(7,⟨23,false,[rW false p_3.2.2 eW]⟩),(8,⟨1,false,[.clo (.func 60) [] [.ptr 1 0,.ptr 3 0,.ptr 4 0,.ptr 5 0,.ptr 6 0,.ptr 7 0,.ptr 8 0]]⟩)]) (.of rfl) ?_
   exact Res.of rfl (.nil) rfl rfl
  ·refine AWP.cond (.t rfl) (fun hc => ?_) (fun hc => ?_)
   ·have h := iteT hc h
    obtain ⟨y_2,hy_2,h⟩ := bindS h
    refine AWP.rg (.cons (.loadP (l1 rfl) (.t rfl) one23 rfl rfl rfl)<| .cons (.call0 (bw := true) (l1 rfl) (c52 (β1 := true) n a0_b0_b hy_2) (.cons (.t rfl) (.lendRow rfl rfl (encI_len .i64) rfl) (.nil)) rfl)<| .cons (.move (l1 rfl) (.t rfl))<| .cons (.storeP (.t rfl) (.t rfl) sz23 rfl (l1 rfl) rfl (by intro h; cases h) rfl)<| .cons (.storeP (.t rfl) (.t rfl) sz3 rfl (l1 rfl) rfl (by intro h; cases h) rfl)<| .cons (.storeP (.t rfl) (.const _ _ _) sz4 rfl (l1 rfl) rfl (by intro h; cases h) rfl)<| .nil _ _ _) ?_
    exact endJ (true,y_1,y_2) h (VC.sub (.n _) (.of rfl))
   ·have h := iteF hc h
    refine AWP.skip ?_
    exact endJ (a3_b0,a4_b0,a5_b0) h (VC.sub (.n _) (.of rfl))
 ·have h := iteF hc h
  refine AWP.skip ?_
  refine AWP.seq ?_
  refine AWP.rg (.cons (.loadP (l1 rfl) (.t rfl) one35 rfl rfl rfl)<| .cons (.lenRd (l1 rfl) (.t rfl) Tryz.underlying35)<| .cons (.move (l1 rfl) (.const _ _ _))<| .nil _ _ _) ?_
  refine AWP.vs ⟨[(0,.ptr 1 0),(6,.ptr 8 0),(29,iW (a1_b0.length : Int)),(30,iW (0 : Int))],[(1,⟨23,false,[.own 2 1 0 a0_b0_b.length]⟩),(2,⟨3,true,a0_b0_b.flatMap eW⟩),(3,⟨35,false,[rW β1 a1_b0 e63]⟩),(4,⟨4,false,[bW a2_b0]⟩),(5,⟨4,false,[bW a3_b0]⟩),(6,⟨3,false,[iW a4_b0]⟩),(7,⟨23,false,[rW false a5_b0 eW]⟩),(8,⟨1,false,[.clo (.func 60) [] [.ptr 1 0,.ptr 3 0,.ptr 4 0,.ptr 5 0,.ptr 6 0,.ptr 7 0,.ptr 8 0]]⟩)]⟩ rfl rfl ?_
  refine AWP.joinB' (S := fun p_30 : (List Int) × Bool × Int × (List Int) => ⟨[],[(1,⟨23,false,[.own 2 1 0 p_30.1.length]⟩),(2,⟨3,true,p_30.1.flatMap eW⟩),(3,⟨35,false,[rW β1 a1_b0 e63]⟩),(4,⟨4,false,[bW a2_b0]⟩),(5,⟨4,false,[bW p_30.2.1]⟩),(6,⟨3,false,[iW p_30.2.2.1]⟩),(7,⟨23,false,[rW false p_30.2.2.2 eW]⟩),(8,⟨1,false,[.clo (.func 60) [] [.ptr 1 0,.ptr 3 0,.ptr 4 0,.ptr 5 0,.ptr 6 0,.ptr 7 0,.ptr 8 0]]⟩)]⟩) h (fun p_30 h => ?_) (fun k_31 h => ?_)
  ·obtain rfl := Option.some.inj h
   refine norJ (Res.vc (s' := ⟨[],[(1,⟨23,false,[.own 2 1 0 p_30.1.length]⟩),(2,⟨3,true,p_30.1.flatMap eW⟩),(3,⟨35,false,[rW β1 a1_b0 e63]⟩),(4,⟨4,false,[bW a2_b0]⟩),(5,⟨4,false,[bW p_30.2.1]⟩),(6,⟨3,false,[iW p_30.2.2.1]⟩),(7,⟨23,false,[rW false p_30.2.2.2 eW]⟩),(8,⟨1,false,[.clo (.func 60) [] [.ptr 1 0,.ptr 3 0,.ptr 4 0,.ptr 5 0,.ptr 6 0,.ptr 7 0,.ptr 8 0]]⟩)]⟩) (VC.sub (.n _) (.of rfl)) ?_)
   refine Res.sub (H := [(1,⟨23,false,[.own 2 1 0 p_30.1.length]⟩),(2,⟨3,true,p_30.1.flatMap eW⟩),(3,⟨35,false,[rW β1 a1_b0 e63]⟩),(4,⟨4,false,[bW a2_b0]⟩),(5,⟨4,false,[bW p_30.2.1]⟩),(6,⟨3,false,[iW p_30.2.2.1]⟩),(7,⟨23,false,[rW false p_30.2.2.2 eW]⟩),(8,⟨1,false,[.clo (.func 60) [] [.ptr 1 0,.ptr 3 0,.ptr 4 0,.ptr 5 0,.ptr 6 0,.ptr 7 0,.ptr 8 0]]⟩)]) (.of rfl) ?_
   exact Res.of rfl (.nil) rfl rfl
  ·refine AWP.vs ⟨[(0,.ptr 1 0),(6,.ptr 8 0),(29,iW (a1_b0.length : Int)),(30,iW (0 : Int))],[(1,⟨23,false,[.own 2 1 0 a0_b0_b.length]⟩),(2,⟨3,true,a0_b0_b.flatMap eW⟩),(3,⟨35,false,[rW β1 a1_b0 e63]⟩),(4,⟨4,false,[bW a2_b0]⟩),(5,⟨4,false,[bW a3_b0]⟩),(6,⟨3,false,[iW a4_b0]⟩),(7,⟨23,false,[rW false a5_b0 eW]⟩),(8,⟨1,false,[.clo (.func 60) [] [.ptr 1 0,.ptr 3 0,.ptr 4 0,.ptr 5 0,.ptr 6 0,.ptr 7 0,.ptr 8 0]]⟩)]⟩ rfl rfl ?_
   refine AWP.loopM (S := fun x_21 : Int × (List Int) × Bool × Int × (List Int) => ⟨[(0,.ptr 1 0),(6,.ptr 8 0),(29,iW (a1_b0.length : Int)),(30,iW x_21.1)],[(1,⟨23,false,[.own 2 1 0 x_21.2.1.length]⟩),(2,⟨3,true,x_21.2.1.flatMap eW⟩),(3,⟨35,false,[rW β1 a1_b0 e63]⟩),(4,⟨4,false,[bW a2_b0]⟩),(5,⟨4,false,[bW x_21.2.2.1]⟩),(6,⟨3,false,[iW x_21.2.2.2.1]⟩),(7,⟨23,false,[rW false x_21.2.2.2.2 eW]⟩),(8,⟨1,false,[.clo (.func 60) [] [.ptr 1 0,.ptr 3 0,.ptr 4 0,.ptr 5 0,.ptr 6 0,.ptr 7 0,.ptr 8 0]]⟩)]⟩) (x := ((0 : Int),a0_b0_b,a3_b0,a4_b0,a5_b0)) (fun nx_22 x_21 h => ?_) h
   unfold m60_L1 at h
   refine AWP.seq ?_
   refine AWP.rg (.cons (.lss (l1 rfl) (.t rfl) (.t rfl))<| .nil _ _ _) ?_
   refine AWP.vs ⟨[(0,.ptr 1 0),(6,.ptr 8 0),(29,iW (a1_b0.length : Int)),(30,iW x_21.1),(31,bW (decide (x_21.1 < (a1_b0.length : Int))))],[(1,⟨23,false,[.own 2 1 0 x_21.2.1.length]⟩),(2,⟨3,true,x_21.2.1.flatMap eW⟩),(3,⟨35,false,[rW β1 a1_b0 e63]⟩),(4,⟨4,false,[bW a2_b0]⟩),(5,⟨4,false,[bW x_21.2.2.1]⟩),(6,⟨3,false,[iW x_21.2.2.2.1]⟩),(7,⟨23,false,[rW false x_21.2.2.2.2 eW]⟩),(8,⟨1,false,[.clo (.func 60) [] [.ptr 1 0,.ptr 3 0,.ptr 4 0,.ptr 5 0,.ptr 6 0,.ptr 7 0,.ptr 8 0]]⟩)]⟩ rfl rfl ?_
   refine AWP.seq ?_
   refine AWP.cond (.t rfl) (fun hc => ?_) (fun hc => ?_)
   ·have h := iteT hc h
    refine AWP.skip ?_
    refine AWP.seq ?_
    refine AWP.block ?_
    refine AWP.seq ?_
    refine AWP.rg (.cons (.move (l1 rfl) (.t rfl))<| .cons (.assign (l1 rfl) (.t rfl))<| .nil _ _ _) ?_
    refine AWP.vs ⟨[(0,.ptr 1 0),(6,.ptr 8 0),(29,iW (a1_b0.length : Int)),(30,iW x_21.1),(8,iW x_21.1)],[(1,⟨23,false,[.own 2 1 0 x_21.2.1.length]⟩),(2,⟨3,true,x_21.2.1.flatMap eW⟩),(3,⟨35,false,[rW β1 a1_b0 e63]⟩),(4,⟨4,false,[bW a2_b0]⟩),(5,⟨4,false,[bW x_21.2.2.1]⟩),(6,⟨3,false,[iW x_21.2.2.2.1]⟩),(7,⟨23,false,[rW false x_21.2.2.2.2 eW]⟩),(8,⟨1,false,[.clo (.func 60) [] [.ptr 1 0,.ptr 3 0,.ptr 4 0,.ptr 5 0,.ptr 6 0,.ptr 7 0,.ptr 8 0]]⟩)]⟩ rfl rfl ?_
    refine AWP.seq ?_
    obtain ⟨y_23,hy_23,h⟩ := bindS h
    refine AWP.rg (.cons (.loadP (l1 rfl) (.t rfl) one23 rfl rfl rfl)<| .cons (.move (l1 rfl) (.t rfl))<| .cons (.call0 (bw := true) (l1 rfl) (c51 (β1 := true) n x_21.2.1 x_21.1 hy_23) (.cons (.t rfl) (.lendRow rfl rfl (encI_len .i64) rfl) (.cons (.t rfl) (.ren rfl) (.nil))) rfl)<| .cons (.not (l1 rfl) (.t rfl))<| .nil _ _ _) ?_
    refine AWP.vs ⟨[(0,.ptr 1 0),(6,.ptr 8 0),(29,iW (a1_b0.length : Int)),(30,iW x_21.1),(8,iW x_21.1),(36,bW (!y_23))],[(1,⟨23,false,[.own 2 1 0 x_21.2.1.length]⟩),(2,⟨3,true,x_21.2.1.flatMap eW⟩),(3,⟨35,false,[rW β1 a1_b0 e63]⟩),(4,⟨4,false,[bW a2_b0]⟩),(5,⟨4,false,[bW x_21.2.2.1]⟩),(6,⟨3,false,[iW x_21.2.2.2.1]⟩),(7,⟨23,false,[rW false x_21.2.2.2.2 eW]⟩),(8,⟨1,false,[.clo (.func 60) [] [.ptr 1 0,.ptr 3 0,.ptr 4 0,.ptr 5 0,.ptr 6 0,.ptr 7 0,.ptr 8 0]]⟩)]⟩ rfl rfl ?_
    refine AWP.join' (S := fun p_27 : (List Int) × Bool × Int × (List Int) => ⟨[(0,.ptr 1 0),(6,.ptr 8 0),(29,iW (a1_b0.length : Int)),(30,iW x_21.1)],[(1,⟨23,false,[.own 2 1 0 p_27.1.length]⟩),(2,⟨3,true,p_27.1.flatMap eW⟩),(3,⟨35,false,[rW β1 a1_b0 e63]⟩),(4,⟨4,false,[bW a2_b0]⟩),(5,⟨4,false,[bW p_27.2.1]⟩),(6,⟨3,false,[iW p_27.2.2.1]⟩),(7,⟨23,false,[rW false p_27.2.2.2 eW]⟩),(8,⟨1,false,[.clo (.func 60) [] [.ptr 1 0,.ptr 3 0,.ptr 4 0,.ptr 5 0,.ptr 6 0,.ptr 7 0,.ptr 8 0]]⟩)]⟩) h (fun p_27 h => ?_) (fun k_28 h => ?_)
    ·obtain ⟨t30_29,ht30_29,h⟩ := letS h
     refine AWP.rg (.cons (.add (l1 rfl) (.t rfl) (.const _ _ _))<| .cons (.move (l1 rfl) (.t rfl))<| .nil _ _ _) ?_
     exact endJ (t30_29,p_27.1,p_27.2.1,p_27.2.2.1,p_27.2.2.2) h (by subst ht30_29; exact VC.sub (.of rfl) (.of rfl))
    ·refine AWP.cond (.t rfl) (fun hc => ?_) (fun hc => ?_)
     ·have h := iteT hc h
      refine AWP.seq ?_
      obtain ⟨l2_24,hl2_24,h⟩ := bindS h
      refine AWP.rg (.cons (.loadP (l1 rfl) (.t rfl) one23 rfl rfl rfl)<| .cons (.move (l1 rfl) (.t rfl))<| .cons (.buildSlice (t := 9) (out := ([x_21.1] : List Int).flatMap eW) (l1 rfl) (nm rfl) (.cons (.t rfl) (by first | exact ⟨rfl,rfl⟩ | rfl) (.nil)) Tryz.underlying23 zero3 el3 (by decide) (by decide) rfl (still_all (encI_still .i64) _))<| .cons (.app (enc := eW) (l1 rfl) (nm rfl) (.t rfl) (Src.own (.t rfl) rfl (lendAll (encI_len .i64) _) (flatMap_length (encI_len .i64) _) (one_all (encI_one .i64) _) (.inl rfl)) Tryz.underlying23 ⟨_,Tryz.underlying23,by intro k hk; cases hk⟩ el3 rfl (encI_len .i64) rfl rfl (by decide) hl2_24)<| .cons (.storeP (.t rfl) (.t rfl) sz23 rfl (l1 rfl) rfl (by intro h; cases h) rfl)<| .nil _ _ _) ?_
      refine AWP.vs ⟨[(0,.ptr 1 0),(6,.ptr 8 0),(29,iW (a1_b0.length : Int)),(30,iW x_21.1)],[(2,⟨3,true,l2_24.flatMap eW⟩),(1,⟨23,false,[.own 2 1 0 l2_24.length]⟩),(3,⟨35,false,[rW β1 a1_b0 e63]⟩),(4,⟨4,false,[bW a2_b0]⟩),(5,⟨4,false,[bW x_21.2.2.1]⟩),(6,⟨3,false,[iW x_21.2.2.2.1]⟩),(7,⟨23,false,[rW false x_21.2.2.2.2 eW]⟩),(8,⟨1,false,[.clo (.func 60) [] [.ptr 1 0,.ptr 3 0,.ptr 4 0,.ptr 5 0,.ptr 6 0,.ptr 7 0,.ptr 8 0]]⟩)]⟩ rfl rfl ?_
      refine AWP.seq ?_
      obtain ⟨y_25,hy_25,h⟩ := bindS h
      refine AWP.rg (.cons (.loadP (l1 rfl) (.t rfl) one1 rfl rfl rfl)<| .cons (.callV (us' := []) (avs := []) (cs' := [.ptr 1 0,.ptr 3 0,.ptr 4 0,.ptr 5 0,.ptr 6 0,.ptr 7 0,.ptr 8 0]) (σ := sgT [(1,1),(2,2),(3,3),(4,4),(5,5),(6,6),(7,7),(8,8)]) (bw := false) (l1 rfl) (.t rfl) (ih (β1 := β1) l2_24 a1_b0 a2_b0 x_21.2.2.1 x_21.2.2.2.1 x_21.2.2.2.2 hy_25) (.nil) (.nil) (.cons (.ren rfl) (.cons (.ren rfl) (.cons (.ren rfl) (.cons (.ren rfl) (.cons (.ren rfl) (.cons (.ren rfl) (.cons (.ren rfl) (.nil)))))))) (CallOk.mk' (.c rfl (.c rfl (.c rfl (.c rfl (.c rfl (.c rfl (.c rfl (.c rfl (.n))))))))) rfl) (fun _ h => by cases h))<| .nil _ _ _) ?_
      refine AWP.vs ⟨[(0,.ptr 1 0),(6,.ptr 8 0),(29,iW (a1_b0.length : Int)),(30,iW x_21.1)],[(1,⟨23,false,[.own 2 1 0 y_25.1.length]⟩),(2,⟨3,true,y_25.1.flatMap eW⟩),(3,⟨35,false,[rW β1 a1_b0 e63]⟩),(4,⟨4,false,[bW a2_b0]⟩),(5,⟨4,false,[bW y_25.2.1]⟩),(6,⟨3,false,[iW y_25.2.2.1]⟩),(7,⟨23,false,[rW false y_25.2.2.2 eW]⟩),(8,⟨1,false,[.clo (.func 60) [] [.ptr 1 0,.ptr 3 0,.ptr 4 0,.ptr 5 0,.ptr 6 0,.ptr 7 0,.ptr 8 0]]⟩)]⟩ rfl rfl ?_
      obtain ⟨l2_26,hl2_26,h⟩ := bindS h
      refine AWP.rg (.cons (.loadP (l1 rfl) (.t rfl) one23 rfl rfl rfl)<| .cons (.loadP (l1 rfl) (.t rfl) one23 rfl rfl rfl)<| .cons (.lenOwn (l1 rfl) (.t rfl) Tryz.underlying23)<| .cons (.sub (l1 rfl) (.t rfl) (.const _ _ _))<| .cons (.slOwn (enc := eW) (gh := 0) (gh' := 0) (l1 rfl) (.t rfl) rfl Tryz.underlying23 sz3 (encI_len .i64) rfl (.none _ _ _) (.some (.t rfl)) hl2_26 rfl)<| .cons (.storeP (.t rfl) (.t rfl) sz23 rfl (l1 rfl) rfl (by intro h; cases h) rfl)<| .nil _ _ _) ?_
      exact endJ (l2_26,y_25.2.1,y_25.2.2.1,y_25.2.2.2) h (VC.sub (.of rfl) (.of rfl))
     ·have h := iteF hc h
      refine AWP.skip ?_
      exact endJ (x_21.2.1,x_21.2.2.1,x_21.2.2.2.1,x_21.2.2.2.2) h (VC.sub (.of rfl) (.of rfl))
   ·have h := iteF hc h
    refine AWP.exit ?_
    exact endJ (x_21.2.1,x_21.2.2.1,x_21.2.2.2.1,x_21.2.2.2.2) h (VC.sub (.n _) (.of rfl))
theorem c60 (n : Nat) {β1 : Bool} (a0_b0_b : (List Int)) (a1_b0 : (List R63)) (a2_b0 : Bool) (a3_b0 : Bool) (a4_b0 : Int) (a5_b0 : (List Int)) {r : ((List Int) × Bool × Int × (List Int))} (h : m60 n a0_b0_b a1_b0 a2_b0 a3_b0 a4_b0 a5_b0 = some r) : Spec Tryz.prog 60 [1,3,4,5,6,7,8] [.ptr 1 0,.ptr 3 0,.ptr 4 0,.ptr 5 0,.ptr 6 0,.ptr 7 0,.ptr 8 0] [(1,⟨23,false,[.own 2 1 0 a0_b0_b.length]⟩),(2,⟨3,true,a0_b0_b.flatMap eW⟩),(3,⟨35,false,[rW β1 a1_b0 e63]⟩),(4,⟨4,false,[bW a2_b0]⟩),(5,⟨4,false,[bW a3_b0]⟩),(6,⟨3,false,[iW a4_b0]⟩),(7,⟨23,false,[rW false a5_b0 eW]⟩),(8,⟨1,false,[.clo (.func 60) [] [.ptr 1 0,.ptr 3 0,.ptr 4 0,.ptr 5 0,.ptr 6 0,.ptr 7 0,.ptr 8 0]]⟩)] (.tup []) [(1,⟨23,false,[.own 2 1 0 r.1.length]⟩),(2,⟨3,true,r.1.flatMap eW⟩),(3,⟨35,false,[rW β1 a1_b0 e63]⟩),(4,⟨4,false,[bW a2_b0]⟩),(5,⟨4,false,[bW r.2.1]⟩),(6,⟨3,false,[iW r.2.2.1]⟩),(7,⟨23,false,[rW false r.2.2.2 eW]⟩),(8,⟨1,false,[.clo (.func 60) [] [.ptr 1 0,.ptr 3 0,.ptr 4 0,.ptr 5 0,.ptr 6 0,.ptr 7 0,.ptr 8 0]]⟩)] := c60F n n a0_b0_b a1_b0 a2_b0 a3_b0 a4_b0 a5_b0 h
theorem c39 {β1 : Bool} (n : Nat) (a0 : (List R63)) (a1 : Bool) {r : ((List Int) × Int)} (h : m39 n a0 a1 = some r) : Spec Tryz.prog 39 [] [rW β1 a0 e63,bW a1] [] (.tup [rW false r.1 eW,iW r.2]) [] := by
 refine Spec.of (fn := Tryz.f39) Tryz.func39 Tryz.ntmps39 rfl rfl (le1 rfl) (fun w0 Zs Zb T0 ι0 => ?_)
 unfold m39 at h
 refine AWP.seq ?_
 refine AWP.rg (.cons (.box (t := 1) (n := 1) (l1 rfl) (nm rfl) (.t rfl) (by first | exact ⟨rfl,rfl⟩ | rfl) rfl)<| .cons (.box (t := 2) (n := 1) (l1 rfl) (nm rfl) (.t rfl) (by first | exact ⟨rfl,rfl⟩ | rfl) rfl)<| .cons (.assign (l1 rfl) (.const _ _ _))<| .cons (.assign (l1 rfl) (.const _ _ _))<| .nil _ _ _) ?_
 refine AWP.vs ⟨[(2,.ptr 1 0),(3,.ptr 2 0)],[(2,⟨4,false,[bW a1]⟩),(1,⟨35,false,[rW β1 a0 e63]⟩)]⟩ rfl rfl ?_
 refine AWP.seq ?_
 refine AWP.rg (.cons (.alloc (t := 3) (k := ⟨23,false,[.sc (.slice none 0 0)]⟩) (l1 rfl) (nm rfl) zero23 rfl rfl)<| .cons (.alloc (t := 4) (k := ⟨23,false,[.sc (.slice none 0 0)]⟩) (l1 rfl) (nm rfl) zero23 rfl rfl)<| .nil _ _ _) ?_
 refine AWP.vs ⟨[(2,.ptr 1 0),(3,.ptr 2 0),(6,.ptr 3 0),(7,.ptr 4 0)],[(4,⟨23,false,[.sc (.slice none 0 0)]⟩),(3,⟨23,false,[.sc (.slice none 0 0)]⟩),(2,⟨4,false,[bW a1]⟩),(1,⟨35,false,[rW β1 a0 e63]⟩)]⟩ rfl rfl ?_
 refine AWP.seq ?_
 refine AWP.rg (.cons (.alloc (t := 5) (k := ⟨3,false,[iW (0 : Int)]⟩) (l1 rfl) (nm rfl) zero3 rfl rfl)<| .cons (.alloc (t := 6) (k := ⟨4,false,[bW false]⟩) (l1 rfl) (nm rfl) zero4 rfl rfl)<| .cons (.storeP (.t rfl) (.const _ _ _) sz3 rfl (l1 rfl) rfl (by intro h; cases h) rfl)<| .cons (.storeP (.t rfl) (.const _ _ _) sz4 rfl (l1 rfl) rfl (by intro h; cases h) rfl)<| .nil _ _ _) ?_
 refine AWP.vs ⟨[(2,.ptr 1 0),(3,.ptr 2 0),(6,.ptr 3 0),(7,.ptr 4 0),(8,.ptr 5 0),(9,.ptr 6 0)],[(6,⟨4,false,[bW false]⟩),(5,⟨3,false,[iW (0 : Int)]⟩),(4,⟨23,false,[.sc (.slice none 0 0)]⟩),(3,⟨23,false,[.sc (.slice none 0 0)]⟩),(2,⟨4,false,[bW a1]⟩),(1,⟨35,false,[rW β1 a0 e63]⟩)]⟩ rfl rfl ?_
 refine AWP.seq ?_
 refine AWP.rg (.cons (.alloc (t := 7) (k := ⟨1,false,[.sc (.nilFunc)]⟩) (l1 rfl) (nm rfl) zero1 rfl rfl)<| .nil _ _ _) ?_
 refine AWP.vs ⟨[(2,.ptr 1 0),(3,.ptr 2 0),(6,.ptr 3 0),(7,.ptr 4 0),(8,.ptr 5 0),(9,.ptr 6 0),(10,.ptr 7 0)],[(7,⟨1,false,[.sc (.nilFunc)]⟩),(6,⟨4,false,[bW false]⟩),(5,⟨3,false,[iW (0 : Int)]⟩),(4,⟨23,false,[.sc (.slice none 0 0)]⟩),(3,⟨23,false,[.sc (.slice none 0 0)]⟩),(2,⟨4,false,[bW a1]⟩),(1,⟨35,false,[rW β1 a0 e63]⟩)]⟩ rfl rfl ?_
 refine AWP.seq ?_
 refine AWP.rg (.cons (.makeFunc (l1 rfl) (.nil) (.cons (.t rfl) (.cons (.t rfl) (.cons (.t rfl) (.cons (.t rfl) (.cons (.t rfl) (.cons (.t rfl) (.cons (.t rfl) (.nil)))))))))<| .cons (.storeP (.t rfl) (.t rfl) sz1 rfl (l1 rfl) rfl (by intro h; cases h) rfl)<| .nil _ _ _) ?_
 refine AWP.vs ⟨[(6,.ptr 3 0),(8,.ptr 5 0),(10,.ptr 7 0)],[(7,⟨1,false,[.clo (.func 60) [] [.ptr 4 0,.ptr 1 0,.ptr 2 0,.ptr 6 0,.ptr 5 0,.ptr 3 0,.ptr 7 0]]⟩),(6,⟨4,false,[bW false]⟩),(5,⟨3,false,[iW (0 : Int)]⟩),(4,⟨23,false,[.sc (.slice none 0 0)]⟩),(3,⟨23,false,[.sc (.slice none 0 0)]⟩),(2,⟨4,false,[bW a1]⟩),(1,⟨35,false,[rW β1 a0 e63]⟩)]⟩ rfl rfl ?_
 refine AWP.seq ?_
 obtain ⟨y_1,hy_1,h⟩ := bindS h
 refine AWP.rg (.cons (.loadP (l1 rfl) (.t rfl) one1 rfl rfl rfl)<| .vc (VC.trans (VC.newTag (t := 8) (E := 3) (nm rfl)) (VC.cell (t := 4) (i := 0) (v' := .own 8 1 0 0) rfl rfl rfl (fun _ _ _ _ h => nil_own h)))<| .vc (VC.cell (t := 3) (i := 0) (v' := .rd false 0 []) rfl rfl rfl (fun _ _ _ _ h => nil_rd h))<| .cons (.callV (us' := []) (avs := []) (cs' := [.ptr 1 0,.ptr 3 0,.ptr 4 0,.ptr 5 0,.ptr 6 0,.ptr 7 0,.ptr 8 0]) (σ := sgT [(1,4),(2,8),(3,1),(4,2),(5,6),(6,5),(7,3),(8,7)]) (bw := false) (l1 rfl) (.t rfl) (c60 (β1 := β1) n ([] : List Int) a0 a1 false (0 : Int) ([] : List Int) hy_1) (.nil) (.nil) (.cons (.ren rfl) (.cons (.ren rfl) (.cons (.ren rfl) (.cons (.ren rfl) (.cons (.ren rfl) (.cons (.ren rfl) (.cons (.ren rfl) (.nil)))))))) (CallOk.mk' (.c rfl (.c rfl (.c rfl (.c rfl (.c rfl (.c rfl (.c rfl (.c rfl (.n))))))))) rfl) (fun _ h => by cases h))<| .nil _ _ _) ?_
 refine AWP.vs ⟨[(6,.ptr 3 0),(8,.ptr 5 0)],[(5,⟨3,false,[iW y_1.2.2.1]⟩),(3,⟨23,false,[rW false y_1.2.2.2 eW]⟩)]⟩ rfl rfl ?_
 refine AWP.seq ?_
 refine AWP.dw mixed [(6,.ptr 3 0),(8,.ptr 5 0)] [] [dO [0] 14 (rW false y_1.2.2.2 eW),dO [1] 15 (iW y_1.2.2.1),dO [2] 4 (rW false y_1.2.2.2 eW),dO [3] 5 (iW y_1.2.2.1)] [] [[(5,⟨3,false,[iW y_1.2.2.1]⟩),(3,⟨23,false,[rW false y_1.2.2.2 eW]⟩)]] [[],[],[0,1],[0,3]] [4,5] rfl rfl (by kernel_rfl) rfl (.r rfl rfl (fun _ q => .loadP (l1 rfl) (q.t 0 rfl) one23 rfl rfl rfl)<| .r rfl rfl (fun _ q => .loadP (l1 rfl) (q.t 0 rfl) one3 rfl rfl rfl)<| .p rfl (fun _ q _ => .assign (l1 rfl) (q.t 0 rfl))<| .p rfl (fun _ q _ => .assign (l1 rfl) (q.t 0 rfl))<| .nil _) rfl rfl ?_
 refine AWP.ret ?_
 obtain rfl := Option.some.inj h
 refine retJ (Res.vc (s' := ⟨[(4,rW false y_1.2.2.2 eW),(5,iW y_1.2.2.1)],[]⟩) (VC.sub (.of rfl) (.n _)) ?_)
 refine Res.drop (H := []) rfl ?_
 exact Res.of rfl (.cons (.tmp rfl) (.cons (.tmp rfl) (.nil))) rfl rfl
theorem c21 {β1 : Bool} (n : Nat) (a0 : (List R63)) (a1 : Bool) {r : ((List Int) × Int × Int)} (h : m21 n a0 a1 = some r) : Spec Tryz.prog 21 [] [rW β1 a0 e63,bW a1] [] (.tup [rW false r.1 eW,iW r.2.1,iW r.2.2]) [] := by
 refine Spec.of (fn := Tryz.f21) Tryz.func21 Tryz.ntmps21 rfl rfl (le1 rfl) (fun w0 Zs Zb T0 ι0 => ?_)
 unfold m21 at h
 refine AWP.seq ?_
 refine AWP.rg (.cons (.assign (l1 rfl) (.const _ _ _))<| .cons (.assign (l1 rfl) (.const _ _ _))<| .cons (.assign (l1 rfl) (.const _ _ _))<| .nil _ _ _) ?_
 refine AWP.vs ⟨[(0,rW β1 a0 e63),(1,bW a1)],[]⟩ rfl rfl ?_
 refine AWP.seq ?_
 refine AWP.block ?_
 refine AWP.seq ?_
 obtain ⟨y_1,hy_1,h⟩ := bindS h
 refine AWP.rg (.cons (.move (l1 rfl) (.t rfl))<| .cons (.call0 (bw := false) (l1 rfl) (c25 (β1 := β1) n a0 hy_1) (.cons (.t rfl) (.ren rfl) (.nil)) rfl)<| .cons (.not (l1 rfl) (.t rfl))<| .cons (.assign (l1 rfl) (.t rfl))<| .nil _ _ _) ?_
 refine AWP.vs ⟨[(0,rW β1 a0 e63),(1,bW a1),(9,bW (!y_1))],[]⟩ rfl rfl ?_
 refine AWP.cond (.t rfl) (fun hc => ?_) (fun hc => ?_)
 ·have h := iteT hc h
  refine AWP.seq ?_
  refine AWP.rg (.cons (.assign (l1 rfl) (.const _ _ _))<| .cons (.assign (l1 rfl) (.const _ _ _))<| .cons (.assign (l1 rfl) (.const _ _ _))<| .nil _ _ _) ?_
  refine AWP.ret ?_
  obtain rfl := Option.some.inj h
  refine retJ (Res.vc (s' := ⟨[(4,rW false ([] : List Int) eW),(5,iW (0 : Int)),(6,iW (1 : Int))],[]⟩) (VC.trans (VC.nilRd (d := 4) false rfl) (VC.sub (.of rfl) (.n _))) ?_)
  refine Res.drop (H := []) rfl ?_
  exact Res.of rfl (.cons (.tmp rfl) (.cons (.tmp rfl) (.cons (.tmp rfl) (.nil)))) rfl rfl
 ·have h := iteF hc h
  refine AWP.seq ?_
  refine AWP.rg (.cons (.move (l1 rfl) (.t rfl))<| .cons (.lenRd (l1 rfl) (.t rfl) Tryz.underlying35)<| .cons (.gtr (l1 rfl) (.t rfl) (.const _ _ _))<| .cons (.assign (l1 rfl) (.t rfl))<| .nil _ _ _) ?_
  refine AWP.vs ⟨[(0,rW β1 a0 e63),(1,bW a1),(13,bW (decide ((7 : Int) < (a0.length : Int))))],[]⟩ rfl rfl ?_
  refine AWP.cond (.t rfl) (fun hc => ?_) (fun hc => ?_)
  ·have h := iteT hc h
   refine AWP.seq ?_
   refine AWP.rg (.cons (.assign (l1 rfl) (.const _ _ _))<| .cons (.assign (l1 rfl) (.const _ _ _))<| .cons (.assign (l1 rfl) (.const _ _ _))<| .nil _ _ _) ?_
   refine AWP.ret ?_
   obtain rfl := Option.some.inj h
   refine retJ (Res.vc (s' := ⟨[(4,rW false ([] : List Int) eW),(5,iW (0 : Int)),(6,iW (9 : Int))],[]⟩) (VC.trans (VC.nilRd (d := 4) false rfl) (VC.sub (.of rfl) (.n _))) ?_)
   refine Res.drop (H := []) rfl ?_
   exact Res.of rfl (.cons (.tmp rfl) (.cons (.tmp rfl) (.cons (.tmp rfl) (.nil)))) rfl rfl
  ·have h := iteF hc h
   refine AWP.skip ?_
   refine AWP.seq ?_
   obtain ⟨y_2,hy_2,h⟩ := bindS h
   refine AWP.rg (.cons (.move (l1 rfl) (.t rfl))<| .cons (.move (l1 rfl) (.t rfl))<| .cons (.call0 (bw := false) (l1 rfl) (c39 (β1 := β1) n a0 a1 hy_2) (.cons (.t rfl) (.ren rfl) (.cons (.t rfl) (.ren rfl) (.nil))) rfl)<| .cons (.move (l1 rfl) (.t rfl))<| .cons (.extract (l1 rfl) (.t rfl) rfl)<| .cons (.extract (l1 rfl) (.t rfl) rfl)<| .cons (.assign (l1 rfl) (.t rfl))<| .cons (.assign (l1 rfl) (.t rfl))<| .nil _ _ _) ?_
   refine AWP.vs ⟨[(7,rW false y_2.1 eW),(8,iW y_2.2)],[]⟩ rfl rfl ?_
   refine AWP.seq ?_
   refine AWP.rg (.cons (.move (l1 rfl) (.t rfl))<| .cons (.move (l1 rfl) (.t rfl))<| .cons (.assign (l1 rfl) (.t rfl))<| .cons (.assign (l1 rfl) (.t rfl))<| .cons (.assign (l1 rfl) (.const _ _ _))<| .nil _ _ _) ?_
   refine AWP.ret ?_
   obtain rfl := Option.some.inj h
   refine retJ (Res.vc (s' := ⟨[(4,rW false y_2.1 eW),(5,iW y_2.2),(6,iW (0 : Int))],[]⟩) (VC.sub (.of rfl) (.n _)) ?_)
   refine Res.drop (H := []) rfl ?_
   exact Res.of rfl (.cons (.tmp rfl) (.cons (.tmp rfl) (.cons (.tmp rfl) (.nil)))) rfl rfl
theorem c46 {β1 : Bool} (n : Nat) (a0 : (List R63)) (a1 : Int) {r : Int} (h : m46 n a0 a1 = some r) : Spec Tryz.prog 46 [] [rW β1 a0 e63,iW a1] [] (iW r) [] := by
 refine Spec.of (fn := Tryz.f46) Tryz.func46 Tryz.ntmps46 rfl rfl (le1 rfl) (fun w0 Zs Zb T0 ι0 => ?_)
 unfold m46 at h
 refine AWP.seq ?_
 refine AWP.rg (.cons (.assign (l1 rfl) (.const _ _ _))<| .nil _ _ _) ?_
 refine AWP.vs ⟨[(0,rW β1 a0 e63),(1,iW a1)],[]⟩ rfl rfl ?_
 refine AWP.seq ?_
 refine AWP.rg (.cons (.assign (l1 rfl) (.const _ _ _))<| .cons (.assign (l1 rfl) (.const _ _ _))<| .nil _ _ _) ?_
 refine AWP.vs ⟨[(0,rW β1 a0 e63),(1,iW a1),(5,iW (0 : Int)),(6,bW false)],[]⟩ rfl rfl ?_
 refine AWP.seq ?_
 refine AWP.seq ?_
 refine AWP.rg (.cons (.move (l1 rfl) (.t rfl))<| .cons (.lenRd (l1 rfl) (.t rfl) Tryz.underlying35)<| .cons (.move (l1 rfl) (.const _ _ _))<| .nil _ _ _) ?_
 refine AWP.vs ⟨[(0,rW β1 a0 e63),(1,iW a1),(5,iW (0 : Int)),(6,bW false),(15,rW β1 a0 e63),(16,iW (a0.length : Int)),(17,iW (0 : Int))],[]⟩ rfl rfl ?_
 refine AWP.joinB' (S := fun p_272 : Int => ⟨[(5,iW p_272)],[]⟩) h (fun p_272 h => ?_) (fun k_273 h => ?_)
 ·refine AWP.seq ?_
  refine AWP.rg (.cons (.move (l1 rfl) (.t rfl))<| .cons (.assign (l1 rfl) (.t rfl))<| .nil _ _ _) ?_
  refine AWP.ret ?_
  obtain rfl := Option.some.inj h
  refine retJ (Res.vc (s' := ⟨[(4,iW p_272)],[]⟩) (VC.sub (.of rfl) (.n _)) ?_)
  refine Res.drop (H := []) rfl ?_
  exact Res.of rfl (.cons (.tmp rfl) (.nil)) rfl rfl
 ·refine AWP.vs ⟨[(0,rW β1 a0 e63),(1,iW a1),(5,iW (0 : Int)),(6,bW false),(15,rW β1 a0 e63),(16,iW (a0.length : Int)),(17,iW (0 : Int))],[]⟩ rfl rfl ?_
  refine AWP.loopM (S := fun x_181 : Int × Bool × Int => ⟨[(0,rW β1 a0 e63),(1,iW a1),(5,iW x_181.1),(6,bW x_181.2.1),(15,rW β1 a0 e63),(16,iW (a0.length : Int)),(17,iW x_181.2.2)],[]⟩) (x := ((0 : Int),false,(0 : Int))) (fun nx_182 x_181 h => ?_) h
  unfold m46_L9 at h
  refine AWP.seq ?_
  refine AWP.rg (.cons (.lss (l1 rfl) (.t rfl) (.t rfl))<| .nil _ _ _) ?_
  refine AWP.vs ⟨[(0,rW β1 a0 e63),(1,iW a1),(5,iW x_181.1),(6,bW x_181.2.1),(15,rW β1 a0 e63),(16,iW (a0.length : Int)),(17,iW x_181.2.2),(18,bW (decide (x_181.2.2 < (a0.length : Int))))],[]⟩ rfl rfl ?_
  refine AWP.seq ?_
  refine AWP.cond (.t rfl) (fun hc => ?_) (fun hc => ?_)
  ·have h := iteT hc h
   refine AWP.skip ?_
   refine AWP.seq ?_
   refine AWP.block ?_
   refine AWP.seq ?_
   obtain ⟨y_183,hy_183,h⟩ := bindS h
   refine AWP.rg (.cons (.indexRd (enc := e63) (l1 rfl) (.t rfl) (.t rfl) Tryz.underlying35 sz64 encR63_len rfl hy_183)<| .cons (.loadRA (out := [iW y_183.Rl,iW y_183.Ln,iW y_183.Due]) (l1 rfl) (.t rfl) agg64 (Nat.le_of_eq (Eq.symm (encR63_len _))) rfl)<| .cons (.alloc (t := 1) (k := ⟨64,false,[iW (0 : Int),iW (0 : Int),iW (0 : Int)]⟩) (l1 rfl) (nm rfl) zero64 rfl rfl)<| .cons (.storePA (.t rfl) (.t rfl) sz64 rfl rfl (le1 rfl) (one_lit rfl) (by intro h; cases h) rfl)<| .nil _ _ _) ?_
   refine AWP.vs ⟨[(0,rW β1 a0 e63),(1,iW a1),(5,iW x_181.1),(6,bW x_181.2.1),(15,rW β1 a0 e63),(16,iW (a0.length : Int)),(17,iW x_181.2.2),(8,.ptr 1 0)],[(1,⟨64,false,[iW y_183.Rl,iW y_183.Ln,iW y_183.Due]⟩)]⟩ rfl rfl ?_
   refine AWP.seq ?_
   refine AWP.rg (.cons (.move (l1 rfl) (.t rfl))<| .cons (.lenRd (l1 rfl) (.t rfl) Tryz.underlying35)<| .cons (.move (l1 rfl) (.const _ _ _))<| .nil _ _ _) ?_
   refine AWP.vs ⟨[(0,rW β1 a0 e63),(1,iW a1),(5,iW x_181.1),(6,bW x_181.2.1),(15,rW β1 a0 e63),(16,iW (a0.length : Int)),(17,iW x_181.2.2),(8,.ptr 1 0),(21,rW β1 a0 e63),(22,iW (a0.length : Int)),(23,iW (0 : Int))],[(1,⟨64,false,[iW y_183.Rl,iW y_183.Ln,iW y_183.Due]⟩)]⟩ rfl rfl ?_
   refine AWP.joinB' (S := fun p_269 : Int × Bool => ⟨[(0,rW β1 a0 e63),(1,iW a1),(5,iW p_269.1),(6,bW p_269.2),(15,rW β1 a0 e63),(16,iW (a0.length : Int)),(17,iW x_181.2.2)],[]⟩) h (fun p_269 h => ?_) (fun k_270 h => ?_)
   ·obtain ⟨t17_271,ht17_271,h⟩ := letS h
    refine AWP.rg (.cons (.add (l1 rfl) (.t rfl) (.const _ _ _))<| .cons (.move (l1 rfl) (.t rfl))<| .nil _ _ _) ?_
    exact endJ (p_269.1,p_269.2,t17_271) h (by subst ht17_271; exact VC.sub (.of rfl) (.n _))
   ·refine AWP.vs ⟨[(0,rW β1 a0 e63),(1,iW a1),(5,iW x_181.1),(6,bW x_181.2.1),(8,.ptr 1 0),(15,rW β1 a0 e63),(16,iW (a0.length : Int)),(17,iW x_181.2.2),(21,rW β1 a0 e63),(22,iW (a0.length : Int)),(23,iW (0 : Int))],[(1,⟨64,false,[iW y_183.Rl,iW y_183.Ln,iW y_183.Due]⟩)]⟩ rfl rfl ?_
    refine AWP.loopM (S := fun x_240 : Int × Bool × Int => ⟨[(0,rW β1 a0 e63),(1,iW a1),(5,iW x_240.1),(6,bW x_240.2.1),(8,.ptr 1 0),(15,rW β1 a0 e63),(16,iW (a0.length : Int)),(17,iW x_181.2.2),(21,rW β1 a0 e63),(22,iW (a0.length : Int)),(23,iW x_240.2.2)],[(1,⟨64,false,[iW y_183.Rl,iW y_183.Ln,iW y_183.Due]⟩)]⟩) (x := (x_181.1,x_181.2.1,(0 : Int))) (fun nx_241 x_240 h => ?_) h
    unfold m46_L12 at h
    refine AWP.seq ?_
    refine AWP.rg (.cons (.lss (l1 rfl) (.t rfl) (.t rfl))<| .nil _ _ _) ?_
    refine AWP.vs ⟨[(0,rW β1 a0 e63),(1,iW a1),(5,iW x_240.1),(6,bW x_240.2.1),(8,.ptr 1 0),(15,rW β1 a0 e63),(16,iW (a0.length : Int)),(17,iW x_181.2.2),(21,rW β1 a0 e63),(22,iW (a0.length : Int)),(23,iW x_240.2.2),(24,bW (decide (x_240.2.2 < (a0.length : Int))))],[(1,⟨64,false,[iW y_183.Rl,iW y_183.Ln,iW y_183.Due]⟩)]⟩ rfl rfl ?_
    refine AWP.seq ?_
    refine AWP.cond (.t rfl) (fun hc => ?_) (fun hc => ?_)
    ·have h := iteT hc h
     refine AWP.skip ?_
     refine AWP.seq ?_
     refine AWP.block ?_
     refine AWP.seq ?_
     obtain ⟨y_242,hy_242,h⟩ := bindS h
     refine AWP.rg (.cons (.indexRd (enc := e63) (l1 rfl) (.t rfl) (.t rfl) Tryz.underlying35 sz64 encR63_len rfl hy_242)<| .cons (.loadRA (out := [iW y_242.Rl,iW y_242.Ln,iW y_242.Due]) (l1 rfl) (.t rfl) agg64 (Nat.le_of_eq (Eq.symm (encR63_len _))) rfl)<| .cons (.alloc (t := 2) (k := ⟨64,false,[iW (0 : Int),iW (0 : Int),iW (0 : Int)]⟩) (l1 rfl) (nm rfl) zero64 rfl rfl)<| .cons (.storePA (.t rfl) (.t rfl) sz64 rfl rfl (le1 rfl) (one_lit rfl) (by intro h; cases h) rfl)<| .nil _ _ _) ?_
     refine AWP.vs ⟨[(0,rW β1 a0 e63),(1,iW a1),(5,iW x_240.1),(6,bW x_240.2.1),(8,.ptr 1 0),(15,rW β1 a0 e63),(16,iW (a0.length : Int)),(17,iW x_181.2.2),(21,rW β1 a0 e63),(22,iW (a0.length : Int)),(23,iW x_240.2.2),(10,.ptr 2 0)],[(2,⟨64,false,[iW y_242.Rl,iW y_242.Ln,iW y_242.Due]⟩),(1,⟨64,false,[iW y_183.Rl,iW y_183.Ln,iW y_183.Due]⟩)]⟩ rfl rfl ?_
     refine AWP.seq ?_
     refine AWP.rg (.cons (.assign (l1 rfl) (.const _ _ _))<| .nil _ _ _) ?_
     refine AWP.vs ⟨[(0,rW β1 a0 e63),(1,iW a1),(5,iW x_240.1),(6,bW x_240.2.1),(8,.ptr 1 0),(15,rW β1 a0 e63),(16,iW (a0.length : Int)),(17,iW x_181.2.2),(21,rW β1 a0 e63),(22,iW (a0.length : Int)),(23,iW x_240.2.2),(10,.ptr 2 0),(11,iW (0 : Int))],[(2,⟨64,false,[iW y_242.Rl,iW y_242.Ln,iW y_242.Due]⟩),(1,⟨64,false,[iW y_183.Rl,iW y_183.Ln,iW y_183.Due]⟩)]⟩ rfl rfl ?_
     refine AWP.seq ?_
     refine AWP.seq ?_
     refine AWP.rg (.cons (.move (l1 rfl) (.t rfl))<| .cons (.lenRd (l1 rfl) (.t rfl) Tryz.underlying35)<| .cons (.move (l1 rfl) (.const _ _ _))<| .nil _ _ _) ?_
     refine AWP.vs ⟨[(0,rW β1 a0 e63),(1,iW a1),(5,iW x_240.1),(6,bW x_240.2.1),(8,.ptr 1 0),(15,rW β1 a0 e63),(16,iW (a0.length : Int)),(17,iW x_181.2.2),(21,rW β1 a0 e63),(22,iW (a0.length : Int)),(23,iW x_240.2.2),(10,.ptr 2 0),(11,iW (0 : Int)),(27,rW β1 a0 e63),(28,iW (a0.length : Int)),(29,iW (0 : Int))],[(2,⟨64,false,[iW y_242.Rl,iW y_242.Ln,iW y_242.Due]⟩),(1,⟨64,false,[iW y_183.Rl,iW y_183.Ln,iW y_183.Due]⟩)]⟩ rfl rfl ?_
     refine AWP.joinB' (S := fun p_262 : Int => ⟨[(0,rW β1 a0 e63),(1,iW a1),(5,iW x_240.1),(6,bW x_240.2.1),(8,.ptr 1 0),(10,.ptr 2 0),(11,iW p_262),(15,rW β1 a0 e63),(16,iW (a0.length : Int)),(17,iW x_181.2.2),(21,rW β1 a0 e63),(22,iW (a0.length : Int)),(23,iW x_240.2.2)],[(1,⟨64,false,[iW y_183.Rl,iW y_183.Ln,iW y_183.Due]⟩),(2,⟨64,false,[iW y_242.Rl,iW y_242.Ln,iW y_242.Due]⟩)]⟩) h (fun p_262 h => ?_) (fun k_263 h => ?_)
     ·refine AWP.seq ?_
      obtain ⟨ha_264,h⟩ := asrtS h
      obtain ⟨t14_265,ht14_265,h⟩ := letS h
      refine AWP.dw mixed [(0,rW β1 a0 e63),(1,iW a1),(5,iW x_240.1),(6,bW x_240.2.1),(8,.ptr 1 0),(10,.ptr 2 0),(11,iW p_262),(15,rW β1 a0 e63),(16,iW (a0.length : Int)),(17,iW x_181.2.2),(21,rW β1 a0 e63),(22,iW (a0.length : Int)),(23,iW x_240.2.2)] [] [dO [4] 50 (.ptr 1 (0 + 0)),dO [13] 51 (iW y_183.Rl),dO [6] 52 (iW p_262),dO [1] 53 (iW a1),dO [15,16] 54 (iW (IntKind.wrap .i64 (p_262 + a1))),dO [17] 55 (iW (IntKind.wrap .i64 ((IntKind.wrap .i64 (p_262 + a1)) - (1 : Int)))),dO [1] 56 (iW a1),dO [18,19] 57 (iW (IntKind.wrap .i64 ((IntKind.wrap .i64 ((IntKind.wrap .i64 (p_262 + a1)) - (1 : Int))).tdiv a1))),dO [14,20] 58 (iW (IntKind.wrap .i64 (y_183.Rl + (IntKind.wrap .i64 ((IntKind.wrap .i64 ((IntKind.wrap .i64 (p_262 + a1)) - (1 : Int))).tdiv a1))))),dO [5] 59 (.ptr 2 (0 + 2)),dO [22] 60 (iW y_242.Due),dO [21,23] 61 (iW (IntKind.wrap .i64 ((IntKind.wrap .i64 (y_183.Rl + (IntKind.wrap .i64 ((IntKind.wrap .i64 ((IntKind.wrap .i64 (p_262 + a1)) - (1 : Int))).tdiv a1)))) - y_242.Due))),dO [24] 14 (iW (IntKind.wrap .i64 ((IntKind.wrap .i64 (y_183.Rl + (IntKind.wrap .i64 ((IntKind.wrap .i64 ((IntKind.wrap .i64 (p_262 + a1)) - (1 : Int))).tdiv a1)))) - y_242.Due)))] [] [[(1,⟨64,false,[iW y_183.Rl,iW y_183.Ln,iW y_183.Due]⟩),(2,⟨64,false,[iW y_242.Rl,iW y_242.Ln,iW y_242.Due]⟩)]] [[],[0,1],[],[],[2,4],[2,5],[],[2,7],[0,8],[],[9,10],[0,11],[0,12]] [0,1,2,3,4,6,25,7,8,9,10,11,12] rfl rfl (by kernel_rfl) rfl (.r rfl rfl (fun _ q => .fieldP (l1 rfl) (q.t 0 rfl) fld64_0)<| .r rfl rfl (fun _ q => .loadP (l1 rfl) (q.t 0 rfl) one3 rfl rfl rfl)<| .p rfl (fun _ q _ => .move (l1 rfl) (q.t 0 rfl))<| .p rfl (fun _ q _ => .move (l1 rfl) (q.t 0 rfl))<| .p rfl (fun _ q _ => .add (l1 rfl) (q.t 0 rfl) (q.t 1 rfl))<| .p rfl (fun _ q _ => .sub (l1 rfl) (q.t 0 rfl) (.const _ _ _))<| .p rfl (fun _ q _ => .move (l1 rfl) (q.t 0 rfl))<| .p rfl (fun _ q _ => .quo (l1 rfl) (q.t 0 rfl) (q.t 1 rfl) ha_264)<| .p rfl (fun _ q _ => .add (l1 rfl) (q.t 0 rfl) (q.t 1 rfl))<| .r rfl rfl (fun _ q => .fieldP (l1 rfl) (q.t 0 rfl) fld64_2)<| .r rfl rfl (fun _ q => .loadP (l1 rfl) (q.t 0 rfl) one3 rfl rfl rfl)<| .p rfl (fun _ q _ => .sub (l1 rfl) (q.t 0 rfl) (q.t 1 rfl))<| .p rfl (fun _ q _ => .assign (l1 rfl) (q.t 0 rfl))<| .nil _) rfl rfl ?_
      refine AWP.vc (s' := ⟨[(0,rW β1 a0 e63),(1,iW a1),(5,iW x_240.1),(6,bW x_240.2.1),(8,.ptr 1 0),(11,iW p_262),(15,rW β1 a0 e63),(16,iW (a0.length : Int)),(17,iW x_181.2.2),(21,rW β1 a0 e63),(22,iW (a0.length : Int)),(23,iW x_240.2.2),(14,iW t14_265)],[(1,⟨64,false,[iW y_183.Rl,iW y_183.Ln,iW y_183.Due]⟩)]⟩) (by subst ht14_265; exact VC.sub (.of rfl) (.of rfl)) ?_
      refine AWP.seq ?_
      refine AWP.rg (.cons (.move (l1 rfl) (.t rfl))<| .cons (.gtr (l1 rfl) (.t rfl) (.const _ _ _))<| .cons (.move (l1 rfl) (.t rfl))<| .guard (j := 2) (dj := 64) rfl (l1 rfl) rfl (l1 rfl) (fun hg => .move (l1 rfl) (.t rfl))<| .guard (j := 2) (dj := 64) rfl (l1 rfl) rfl (l1 rfl) (fun hg => .not (l1 rfl) (.gd hg (.t rfl)))<| .guard (j := 2) (dj := 64) rfl (l1 rfl) rfl (l1 rfl) (fun hg => .move (l1 rfl) (.gd hg (.t rfl)))<| .guard2 (j := 5) (dj := 67) rfl (l1 rfl) rfl (l1 rfl) (fun hg => .move (l1 rfl) (.t rfl))<| .guard2 (j := 5) (dj := 67) rfl (l1 rfl) rfl (l1 rfl) (fun hg => .move (l1 rfl) (.t rfl))<| .guard2 (j := 5) (dj := 67) rfl (l1 rfl) rfl (l1 rfl) (fun hg => .gtr (l1 rfl) (.gd hg (.t rfl)) (.gd hg (.t rfl)))<| .guard (j := 2) (dj := 64) rfl (l1 rfl) rfl (l1 rfl) (fun hg => .pickOr (l1 rfl) (.gd hg (.t rfl)) (.const _ _ _) (.gdAnd hg (.t rfl)))<| .cons (.pickAnd (l1 rfl) (.t rfl) (.t rfl) (.const _ _ _))<| .nil _ _ _) ?_
      refine AWP.vs ⟨[(0,rW β1 a0 e63),(1,iW a1),(5,iW x_240.1),(6,bW x_240.2.1),(8,.ptr 1 0),(15,rW β1 a0 e63),(16,iW (a0.length : Int)),(17,iW x_181.2.2),(21,rW β1 a0 e63),(22,iW (a0.length : Int)),(23,iW x_240.2.2),(14,iW t14_265),(72,bW ((decide ((0 : Int) < p_262)) && ((!x_240.2.1) || (decide (x_240.1 < t14_265)))))],[(1,⟨64,false,[iW y_183.Rl,iW y_183.Ln,iW y_183.Due]⟩)]⟩ rfl rfl ?_
      refine AWP.join' (S := fun p_266 : Int × Bool => ⟨[(0,rW β1 a0 e63),(1,iW a1),(5,iW p_266.1),(6,bW p_266.2),(8,.ptr 1 0),(15,rW β1 a0 e63),(16,iW (a0.length : Int)),(17,iW x_181.2.2),(21,rW β1 a0 e63),(22,iW (a0.length : Int)),(23,iW x_240.2.2)],[(1,⟨64,false,[iW y_183.Rl,iW y_183.Ln,iW y_183.Due]⟩)]⟩) h (fun p_266 h => ?_) (fun k_267 h => ?_)
      ·obtain ⟨t23_268,ht23_268,h⟩ := letS h
       refine AWP.rg (.cons (.add (l1 rfl) (.t rfl) (.const _ _ _))<| .cons (.move (l1 rfl) (.t rfl))<| .nil _ _ _) ?_
       exact endJ (p_266.1,p_266.2,t23_268) h (by subst ht23_268; exact VC.sub (.of rfl) (.of rfl))
      ·refine AWP.cond (.t rfl) (fun hc => ?_) (fun hc => ?_)
       ·have h := iteT hc h
        refine AWP.rg (.cons (.move (l1 rfl) (.t rfl))<| .cons (.assign (l1 rfl) (.t rfl))<| .cons (.assign (l1 rfl) (.const _ _ _))<| .nil _ _ _) ?_
        exact endJ (t14_265,true) h (VC.sub (.of rfl) (.of rfl))
       ·have h := iteF hc h
        refine AWP.skip ?_
        exact endJ (x_240.1,x_240.2.1) h (VC.sub (.of rfl) (.of rfl))
     ·refine AWP.vs ⟨[(0,rW β1 a0 e63),(1,iW a1),(5,iW x_240.1),(6,bW x_240.2.1),(8,.ptr 1 0),(10,.ptr 2 0),(11,iW (0 : Int)),(15,rW β1 a0 e63),(16,iW (a0.length : Int)),(17,iW x_181.2.2),(21,rW β1 a0 e63),(22,iW (a0.length : Int)),(23,iW x_240.2.2),(27,rW β1 a0 e63),(28,iW (a0.length : Int)),(29,iW (0 : Int))],[(1,⟨64,false,[iW y_183.Rl,iW y_183.Ln,iW y_183.Due]⟩),(2,⟨64,false,[iW y_242.Rl,iW y_242.Ln,iW y_242.Due]⟩)]⟩ rfl rfl ?_
      refine AWP.loopM (S := fun x_255 : Int × Int => ⟨[(0,rW β1 a0 e63),(1,iW a1),(5,iW x_240.1),(6,bW x_240.2.1),(8,.ptr 1 0),(10,.ptr 2 0),(11,iW x_255.1),(15,rW β1 a0 e63),(16,iW (a0.length : Int)),(17,iW x_181.2.2),(21,rW β1 a0 e63),(22,iW (a0.length : Int)),(23,iW x_240.2.2),(27,rW β1 a0 e63),(28,iW (a0.length : Int)),(29,iW x_255.2)],[(1,⟨64,false,[iW y_183.Rl,iW y_183.Ln,iW y_183.Due]⟩),(2,⟨64,false,[iW y_242.Rl,iW y_242.Ln,iW y_242.Due]⟩)]⟩) (x := ((0 : Int),(0 : Int))) (fun nx_256 x_255 h => ?_) h
      unfold m46_L13 at h
      refine AWP.seq ?_
      refine AWP.rg (.cons (.lss (l1 rfl) (.t rfl) (.t rfl))<| .nil _ _ _) ?_
      refine AWP.vs ⟨[(0,rW β1 a0 e63),(1,iW a1),(5,iW x_240.1),(6,bW x_240.2.1),(8,.ptr 1 0),(10,.ptr 2 0),(11,iW x_255.1),(15,rW β1 a0 e63),(16,iW (a0.length : Int)),(17,iW x_181.2.2),(21,rW β1 a0 e63),(22,iW (a0.length : Int)),(23,iW x_240.2.2),(27,rW β1 a0 e63),(28,iW (a0.length : Int)),(29,iW x_255.2),(30,bW (decide (x_255.2 < (a0.length : Int))))],[(1,⟨64,false,[iW y_183.Rl,iW y_183.Ln,iW y_183.Due]⟩),(2,⟨64,false,[iW y_242.Rl,iW y_242.Ln,iW y_242.Due]⟩)]⟩ rfl rfl ?_
      refine AWP.seq ?_
      refine AWP.cond (.t rfl) (fun hc => ?_) (fun hc => ?_)
      ·have h := iteT hc h
       refine AWP.skip ?_
       refine AWP.seq ?_
       refine AWP.block ?_
       refine AWP.seq ?_
       obtain ⟨y_257,hy_257,h⟩ := bindS h
       refine AWP.rg (.cons (.indexRd (enc := e63) (l1 rfl) (.t rfl) (.t rfl) Tryz.underlying35 sz64 encR63_len rfl hy_257)<| .cons (.loadRA (out := [iW y_257.Rl,iW y_257.Ln,iW y_257.Due]) (l1 rfl) (.t rfl) agg64 (Nat.le_of_eq (Eq.symm (encR63_len _))) rfl)<| .cons (.alloc (t := 3) (k := ⟨64,false,[iW (0 : Int),iW (0 : Int),iW (0 : Int)]⟩) (l1 rfl) (nm rfl) zero64 rfl rfl)<| .cons (.storePA (.t rfl) (.t rfl) sz64 rfl rfl (le1 rfl) (one_lit rfl) (by intro h; cases h) rfl)<| .nil _ _ _) ?_
       refine AWP.vs ⟨[(0,rW β1 a0 e63),(1,iW a1),(5,iW x_240.1),(6,bW x_240.2.1),(8,.ptr 1 0),(10,.ptr 2 0),(11,iW x_255.1),(15,rW β1 a0 e63),(16,iW (a0.length : Int)),(17,iW x_181.2.2),(21,rW β1 a0 e63),(22,iW (a0.length : Int)),(23,iW x_240.2.2),(27,rW β1 a0 e63),(28,iW (a0.length : Int)),(29,iW x_255.2),(13,.ptr 3 0)],[(3,⟨64,false,[iW y_257.Rl,iW y_257.Ln,iW y_257.Due]⟩),(1,⟨64,false,[iW y_183.Rl,iW y_183.Ln,iW y_183.Due]⟩),(2,⟨64,false,[iW y_242.Rl,iW y_242.Ln,iW y_242.Due]⟩)]⟩ rfl rfl ?_
       refine AWP.seq ?_
       refine AWP.rg (.cons (.fieldP (l1 rfl) (.t rfl) fld64_0)<| .cons (.loadP (l1 rfl) (.t rfl) one3 rfl rfl rfl)<| .cons (.fieldP (l1 rfl) (.t rfl) fld64_0)<| .cons (.loadP (l1 rfl) (.t rfl) one3 rfl rfl rfl)<| .cons (.geq (l1 rfl) (.t rfl) (.t rfl))<| .cons (.move (l1 rfl) (.t rfl))<| .guard (j := 5) (dj := 38) rfl (l1 rfl) rfl (l1 rfl) (fun hg => .fieldP (l1 rfl) (.t rfl) fld64_2)<| .guard (j := 5) (dj := 38) rfl (l1 rfl) rfl (l1 rfl) (fun hg => .loadP (l1 rfl) (.gd hg (.t rfl)) one3 rfl rfl rfl)<| .guard (j := 5) (dj := 38) rfl (l1 rfl) rfl (l1 rfl) (fun hg => .fieldP (l1 rfl) (.t rfl) fld64_2)<| .guard (j := 5) (dj := 38) rfl (l1 rfl) rfl (l1 rfl) (fun hg => .loadP (l1 rfl) (.gd hg (.t rfl)) one3 rfl rfl rfl)<| .guard (j := 5) (dj := 38) rfl (l1 rfl) rfl (l1 rfl) (fun hg => .leq (l1 rfl) (.gd hg (.t rfl)) (.gd hg (.t rfl)))<| .cons (.pickAnd (l1 rfl) (.t rfl) (.t rfl) (.const _ _ _))<| .nil _ _ _) ?_
       refine AWP.vs ⟨[(0,rW β1 a0 e63),(1,iW a1),(5,iW x_240.1),(6,bW x_240.2.1),(8,.ptr 1 0),(10,.ptr 2 0),(11,iW x_255.1),(15,rW β1 a0 e63),(16,iW (a0.length : Int)),(17,iW x_181.2.2),(21,rW β1 a0 e63),(22,iW (a0.length : Int)),(23,iW x_240.2.2),(27,rW β1 a0 e63),(28,iW (a0.length : Int)),(29,iW x_255.2),(13,.ptr 3 0),(44,bW ((decide (y_183.Rl ≤ y_257.Rl)) && (decide (y_257.Due ≤ y_242.Due))))],[(3,⟨64,false,[iW y_257.Rl,iW y_257.Ln,iW y_257.Due]⟩),(1,⟨64,false,[iW y_183.Rl,iW y_183.Ln,iW y_183.Due]⟩),(2,⟨64,false,[iW y_242.Rl,iW y_242.Ln,iW y_242.Due]⟩)]⟩ rfl rfl ?_
       refine AWP.join' (S := fun p_259 : Int => ⟨[(0,rW β1 a0 e63),(1,iW a1),(5,iW x_240.1),(6,bW x_240.2.1),(8,.ptr 1 0),(10,.ptr 2 0),(11,iW p_259),(15,rW β1 a0 e63),(16,iW (a0.length : Int)),(17,iW x_181.2.2),(21,rW β1 a0 e63),(22,iW (a0.length : Int)),(23,iW x_240.2.2),(27,rW β1 a0 e63),(28,iW (a0.length : Int)),(29,iW x_255.2)],[(1,⟨64,false,[iW y_183.Rl,iW y_183.Ln,iW y_183.Due]⟩),(2,⟨64,false,[iW y_242.Rl,iW y_242.Ln,iW y_242.Due]⟩)]⟩) h (fun p_259 h => ?_) (fun k_260 h => ?_)
       ·obtain ⟨t29_261,ht29_261,h⟩ := letS h
        refine AWP.rg (.cons (.add (l1 rfl) (.t rfl) (.const _ _ _))<| .cons (.move (l1 rfl) (.t rfl))<| .nil _ _ _) ?_
        exact endJ (p_259,t29_261) h (by subst ht29_261; exact VC.sub (.of rfl) (.of rfl))
       ·refine AWP.cond (.t rfl) (fun hc => ?_) (fun hc => ?_)
        ·have h := iteT hc h
         obtain ⟨t11_258,ht11_258,h⟩ := letS h
         refine AWP.rg (.cons (.move (l1 rfl) (.t rfl))<| .cons (.fieldP (l1 rfl) (.t rfl) fld64_1)<| .cons (.loadP (l1 rfl) (.t rfl) one3 rfl rfl rfl)<| .cons (.add (l1 rfl) (.t rfl) (.t rfl))<| .cons (.assign (l1 rfl) (.t rfl))<| .nil _ _ _) ?_
         exact endJ t11_258 h (by subst ht11_258; exact VC.sub (.of rfl) (.of rfl))
        ·have h := iteF hc h
         refine AWP.skip ?_
         exact endJ x_255.1 h (VC.sub (.of rfl) (.of rfl))
      ·have h := iteF hc h
       refine AWP.exit ?_
       exact endJ x_255.1 h (VC.sub (.of rfl) (.of rfl))
    ·have h := iteF hc h
     refine AWP.exit ?_
     exact endJ (x_240.1,x_240.2.1) h (VC.sub (.of rfl) (.n _))
  ·have h := iteF hc h
   refine AWP.exit ?_
   exact endJ x_181.1 h (VC.sub (.of rfl) (.n _))
theorem c24 {β1 : Bool} (n : Nat) (a0 : (List R63)) {r : (Int × Int)} (h : m24 n a0 = some r) : Spec Tryz.prog 24 [] [rW β1 a0 e63] [] (.tup [iW r.1,iW r.2]) [] := by
 refine Spec.of (fn := Tryz.f24) Tryz.func24 Tryz.ntmps24 rfl rfl (le1 rfl) (fun w0 Zs Zb T0 ι0 => ?_)
 unfold m24 at h
 refine AWP.seq ?_
 refine AWP.rg (.cons (.assign (l1 rfl) (.const _ _ _))<| .cons (.assign (l1 rfl) (.const _ _ _))<| .nil _ _ _) ?_
 refine AWP.vs ⟨[(0,rW β1 a0 e63)],[]⟩ rfl rfl ?_
 refine AWP.seq ?_
 refine AWP.seq ?_
 obtain ⟨y_1,hy_1,h⟩ := bindS h
 refine AWP.rg (.cons (.move (l1 rfl) (.t rfl))<| .cons (.call0 (bw := false) (l1 rfl) (c25 (β1 := β1) n a0 hy_1) (.cons (.t rfl) (.ren rfl) (.nil)) rfl)<| .cons (.not (l1 rfl) (.t rfl))<| .nil _ _ _) ?_
 refine AWP.vs ⟨[(0,rW β1 a0 e63),(6,bW (!y_1))],[]⟩ rfl rfl ?_
 refine AWP.cond (.t rfl) (fun hc => ?_) (fun hc => ?_)
 ·have h := iteT hc h
  refine AWP.seq ?_
  refine AWP.rg (.cons (.assign (l1 rfl) (.const _ _ _))<| .cons (.assign (l1 rfl) (.const _ _ _))<| .nil _ _ _) ?_
  refine AWP.ret ?_
  obtain rfl := Option.some.inj h
  refine retJ (Res.vc (s' := ⟨[(2,iW (0 : Int)),(3,iW (1 : Int))],[]⟩) (VC.sub (.of rfl) (.n _)) ?_)
  refine Res.drop (H := []) rfl ?_
  exact Res.of rfl (.cons (.tmp rfl) (.cons (.tmp rfl) (.nil))) rfl rfl
 ·have h := iteF hc h
  refine AWP.skip ?_
  refine AWP.seq ?_
  obtain ⟨y_2,hy_2,h⟩ := bindS h
  refine AWP.rg (.cons (.move (l1 rfl) (.t rfl))<| .cons (.call0 (bw := false) (l1 rfl) (c46 (β1 := β1) n a0 (1 : Int) hy_2) (.cons (.t rfl) (.ren rfl) (.cons (.const _ _ _) (.ren rfl) (.nil))) rfl)<| .cons (.assign (l1 rfl) (.t rfl))<| .cons (.assign (l1 rfl) (.const _ _ _))<| .nil _ _ _) ?_
  refine AWP.ret ?_
  obtain rfl := Option.some.inj h
  refine retJ (Res.vc (s' := ⟨[(2,iW y_2),(3,iW (0 : Int))],[]⟩) (VC.sub (.of rfl) (.n _)) ?_)
  refine Res.drop (H := []) rfl ?_
  exact Res.of rfl (.cons (.tmp rfl) (.cons (.tmp rfl) (.nil))) rfl rfl
theorem c11 {β1 : Bool} {β2 : Bool} (n : Nat) (a0 : (List Int)) (a1 : (List Int)) {r : Bool} (h : m11 n a0 a1 = some r) : Spec Tryz.prog 11 [] [rW β1 a0 eW,rW β2 a1 eW] [] (bW r) [] := by
 refine Spec.of (fn := Tryz.f11) Tryz.func11 Tryz.ntmps11 rfl rfl (le1 rfl) (fun w0 Zs Zb T0 ι0 => ?_)
 unfold m11 at h
 refine AWP.seq ?_
 refine AWP.rg (.cons (.assign (l1 rfl) (.const _ _ _))<| .nil _ _ _) ?_
 refine AWP.vs ⟨[(0,rW β1 a0 eW),(1,rW β2 a1 eW)],[]⟩ rfl rfl ?_
 refine AWP.seq ?_
 refine AWP.seq ?_
 refine AWP.rg (.cons (.move (l1 rfl) (.t rfl))<| .cons (.lenRd (l1 rfl) (.t rfl) Tryz.underlying23)<| .cons (.move (l1 rfl) (.t rfl))<| .cons (.lenRd (l1 rfl) (.t rfl) Tryz.underlying23)<| .cons (.neq (l1 rfl) (.t rfl) (.t rfl))<| .nil _ _ _) ?_
 refine AWP.vs ⟨[(0,rW β1 a0 eW),(1,rW β2 a1 eW),(10,bW (!decide ((a0.length : Int) = (a1.length : Int))))],[]⟩ rfl rfl ?_
 refine AWP.cond (.t rfl) (fun hc => ?_) (fun hc => ?_)
 ·have h := iteT hc h
  refine AWP.seq ?_
  refine AWP.rg (.cons (.assign (l1 rfl) (.const _ _ _))<| .nil _ _ _) ?_
  refine AWP.ret ?_
  obtain rfl := Option.some.inj h
  refine retJ (Res.vc (s' := ⟨[(4,bW false)],[]⟩) (VC.sub (.of rfl) (.n _)) ?_)
  refine Res.drop (H := []) rfl ?_
  exact Res.of rfl (.cons (.tmp rfl) (.nil)) rfl rfl
 ·have h := iteF hc h
  refine AWP.skip ?_
  refine AWP.seq ?_
  refine AWP.seq ?_
  refine AWP.rg (.cons (.assign (l1 rfl) (.const _ _ _))<| .nil _ _ _) ?_
  refine AWP.vs ⟨[(0,rW β1 a0 eW),(1,rW β2 a1 eW),(5,iW (0 : Int))],[]⟩ rfl rfl ?_
  refine AWP.joinB' (S := fun p_14 : Unit => ⟨[],[]⟩) h (fun p_14 h => ?_) (fun k_15 h => ?_)
  ·refine AWP.seq ?_
   refine AWP.rg (.cons (.assign (l1 rfl) (.const _ _ _))<| .nil _ _ _) ?_
   refine AWP.ret ?_
   obtain rfl := Option.some.inj h
   refine retJ (Res.vc (s' := ⟨[(4,bW true)],[]⟩) (VC.sub (.of rfl) (.n _)) ?_)
   refine Res.drop (H := []) rfl ?_
   exact Res.of rfl (.cons (.tmp rfl) (.nil)) rfl rfl
  ·refine AWP.vs ⟨[(0,rW β1 a0 eW),(1,rW β2 a1 eW),(5,iW (0 : Int))],[]⟩ rfl rfl ?_
   refine AWP.loopM (S := fun x_9 : Int => ⟨[(0,rW β1 a0 eW),(1,rW β2 a1 eW),(5,iW x_9)],[]⟩) (x := (0 : Int)) (fun nx_10 x_9 h => ?_) h
   unfold m11_L1 at h
   refine AWP.seq ?_
   refine AWP.seq ?_
   refine AWP.rg (.cons (.move (l1 rfl) (.t rfl))<| .cons (.move (l1 rfl) (.t rfl))<| .cons (.lenRd (l1 rfl) (.t rfl) Tryz.underlying23)<| .cons (.lss (l1 rfl) (.t rfl) (.t rfl))<| .nil _ _ _) ?_
   refine AWP.vs ⟨[(0,rW β1 a0 eW),(1,rW β2 a1 eW),(5,iW x_9),(14,bW (decide (x_9 < (a0.length : Int))))],[]⟩ rfl rfl ?_
   refine AWP.cond (.t rfl) (fun hc => ?_) (fun hc => ?_)
   ·have h := iteT hc h
    refine AWP.skip ?_
    refine AWP.seq ?_
    refine AWP.block ?_
    refine AWP.seq ?_
    obtain ⟨y_11,hy_11,h⟩ := bindS h
    obtain ⟨y_12,hy_12,h⟩ := bindS h
    refine AWP.dw mixed [(0,rW β1 a0 eW),(1,rW β2 a1 eW),(5,iW x_9),(14,bW (decide (x_9 < (a0.length : Int))))] [] [dO [0] 17 (rW β1 a0 eW),dO [2] 18 (iW x_9),dO [4,5] 19 (.rptr β1 [iW y_11]),dO [6] 20 (iW y_11),dO [1] 21 (rW β2 a1 eW),dO [2] 22 (iW x_9),dO [8,9] 23 (.rptr β2 [iW y_12]),dO [10] 24 (iW y_12),dO [7,11] 25 (bW (!decide (y_11 = y_12)))] [] [[]] [[],[],[0,2],[0,3],[],[],[4,6],[4,7],[0,8]] [0,1,2,12] rfl rfl (by kernel_rfl) rfl (.p rfl (fun _ q _ => .move (l1 rfl) (q.t 0 rfl))<| .p rfl (fun _ q _ => .move (l1 rfl) (q.t 0 rfl))<| .p rfl (fun _ q _ => .indexRd (enc := eW) (l1 rfl) (q.t 0 rfl) (q.t 1 rfl) Tryz.underlying23 sz3 (encI_len .i64) rfl hy_11)<| .p rfl (fun _ q _ => .loadR (v := iW y_11) (l1 rfl) (q.t 0 rfl) one3 rfl)<| .p rfl (fun _ q _ => .move (l1 rfl) (q.t 0 rfl))<| .p rfl (fun _ q _ => .move (l1 rfl) (q.t 0 rfl))<| .p rfl (fun _ q _ => .indexRd (enc := eW) (l1 rfl) (q.t 0 rfl) (q.t 1 rfl) Tryz.underlying23 sz3 (encI_len .i64) rfl hy_12)<| .p rfl (fun _ q _ => .loadR (v := iW y_12) (l1 rfl) (q.t 0 rfl) one3 rfl)<| .p rfl (fun _ q _ => .neq (l1 rfl) (q.t 0 rfl) (q.t 1 rfl))<| .nil _) rfl rfl ?_
    refine AWP.vs ⟨[(0,rW β1 a0 eW),(1,rW β2 a1 eW),(5,iW x_9),(25,bW (!decide (y_11 = y_12)))],[]⟩ rfl rfl ?_
    refine AWP.cond (.t rfl) (fun hc => ?_) (fun hc => ?_)
    ·have h := iteT hc h
     refine AWP.seq ?_
     refine AWP.rg (.cons (.assign (l1 rfl) (.const _ _ _))<| .nil _ _ _) ?_
     refine AWP.ret ?_
     obtain rfl := Option.some.inj h
     refine retJ (Res.vc (s' := ⟨[(4,bW false)],[]⟩) (VC.sub (.of rfl) (.n _)) ?_)
     refine Res.drop (H := []) rfl ?_
     exact Res.of rfl (.cons (.tmp rfl) (.nil)) rfl rfl
    ·have h := iteF hc h
     refine AWP.skip ?_
     obtain ⟨t5_13,ht5_13,h⟩ := letS h
     refine AWP.rg (.cons (.move (l1 rfl) (.t rfl))<| .cons (.add (l1 rfl) (.t rfl) (.const _ _ _))<| .cons (.assign (l1 rfl) (.t rfl))<| .nil _ _ _) ?_
     exact endJ t5_13 h (by subst ht5_13; exact VC.sub (.of rfl) (.n _))
   ·have h := iteF hc h
    refine AWP.exit ?_
    exact endJ () h (VC.sub (.n _) (.n _))
theorem c5 (n : Nat) {r : Bool} (h : m5 n = some r) : Spec Tryz.prog 5 [] [] [] (bW r) [] := by
 refine Spec.of (fn := Tryz.f5) Tryz.func5 Tryz.ntmps5 rfl rfl (le1 rfl) (fun w0 Zs Zb T0 ι0 => ?_)
 unfold m5 at h
 refine AWP.seq ?_
 refine AWP.rg (.cons (.assign (l1 rfl) (.const _ _ _))<| .nil _ _ _) ?_
 refine AWP.vc (s' := ⟨[],[]⟩) (VC.sub (.n _) (.n _)) ?_
 refine AWP.seq ?_
 obtain ⟨l1_1,hl1_1,h⟩ := letS h
 refine AWP.rg (.cons (.buildO (offs := [(0,1),(1,1),(2,1)]) (l1 rfl) (.cons (.const _ _ _) (by first | exact ⟨rfl,rfl⟩ | rfl) (.cons (.const _ _ _) (by first | exact ⟨rfl,rfl⟩ | rfl) (.nil))) zero64 offs64 rfl)<| .cons (.buildO (offs := [(0,1),(1,1),(2,1)]) (l1 rfl) (.cons (.const _ _ _) (by first | exact ⟨rfl,rfl⟩ | rfl) (.cons (.const _ _ _) (by first | exact ⟨rfl,rfl⟩ | rfl) (.cons (.const _ _ _) (by first | exact ⟨rfl,rfl⟩ | rfl) (.nil)))) zero64 offs64 rfl)<| .cons (.buildSlice (t := 1) (out := ([(R63.mk (0 : Int) (5 : Int) (6 : Int)),(R63.mk (1 : Int) (2 : Int) (3 : Int))] : List R63).flatMap e63) (l1 rfl) (nm rfl) (.cons (.t rfl) (by first | exact ⟨rfl,rfl⟩ | rfl) (.cons (.t rfl) (by first | exact ⟨rfl,rfl⟩ | rfl) (.nil))) Tryz.underlying35 zero64 el64 (by decide) (by decide) rfl (still_all encR63_still _))<| .cons (.assign (l1 rfl) (.t rfl))<| .nil _ _ _) ?_
 refine AWP.vc (s' := ⟨[(1,.own 1 3 0 l1_1.length)],[(1,⟨64,true,l1_1.flatMap e63⟩)]⟩) (by subst hl1_1; exact VC.sub (.of rfl) (.of rfl)) ?_
 refine AWP.seq ?_
 obtain ⟨y_2,hy_2,h⟩ := bindS h
 refine AWP.rg (.cons (.move (l1 rfl) (.t rfl))<| .cons (.buildSlice (t := 2) (out := ([(0 : Int),(1 : Int)] : List Int).flatMap eW) (l1 rfl) (nm rfl) (.cons (.const _ _ _) (by first | exact ⟨rfl,rfl⟩ | rfl) (.cons (.const _ _ _) (by first | exact ⟨rfl,rfl⟩ | rfl) (.nil))) Tryz.underlying23 zero3 el3 (by decide) (by decide) rfl (still_all (encI_still .i64) _))<| .cons (.call0 (bw := true) (l1 rfl) (c23 (β1 := true) (β2 := true) n l1_1 ([(0 : Int),(1 : Int)] : List Int) hy_2) (.cons (.t rfl) (.lendRow rfl rfl encR63_len rfl) (.cons (.t rfl) (.lendRow rfl rfl (encI_len .i64) rfl) (.nil))) rfl)<| .cons (.move (l1 rfl) (.t rfl))<| .cons (.extract (l1 rfl) (.t rfl) rfl)<| .cons (.extract (l1 rfl) (.t rfl) rfl)<| .cons (.assign (l1 rfl) (.t rfl))<| .cons (.assign (l1 rfl) (.t rfl))<| .nil _ _ _) ?_
 refine AWP.vs ⟨[(1,.own 1 3 0 l1_1.length),(2,iW y_2.1),(3,iW y_2.2)],[(1,⟨64,true,l1_1.flatMap e63⟩)]⟩ rfl rfl ?_
 refine AWP.seq ?_
 obtain ⟨y_3,hy_3,h⟩ := bindS h
 refine AWP.rg (.cons (.move (l1 rfl) (.t rfl))<| .cons (.call0 (bw := true) (l1 rfl) (c21 (β1 := true) n l1_1 false hy_3) (.cons (.t rfl) (.lendRow rfl rfl encR63_len rfl) (.cons (.const _ _ _) (.ren rfl) (.nil))) rfl)<| .cons (.move (l1 rfl) (.t rfl))<| .cons (.extract (l1 rfl) (.t rfl) rfl)<| .cons (.extract (l1 rfl) (.t rfl) rfl)<| .cons (.extract (l1 rfl) (.t rfl) rfl)<| .cons (.assign (l1 rfl) (.t rfl))<| .cons (.assign (l1 rfl) (.t rfl))<| .cons (.assign (l1 rfl) (.t rfl))<| .nil _ _ _) ?_
 refine AWP.vs ⟨[(1,.own 1 3 0 l1_1.length),(2,iW y_2.1),(3,iW y_2.2),(4,rW false y_3.1 eW),(5,iW y_3.2.1),(6,iW y_3.2.2)],[(1,⟨64,true,l1_1.flatMap e63⟩)]⟩ rfl rfl ?_
 refine AWP.seq ?_
 obtain ⟨y_4,hy_4,h⟩ := bindS h
 refine AWP.rg (.cons (.move (l1 rfl) (.t rfl))<| .cons (.call0 (bw := true) (l1 rfl) (c24 (β1 := true) n l1_1 hy_4) (.cons (.t rfl) (.lendRow rfl rfl encR63_len rfl) (.nil)) rfl)<| .cons (.move (l1 rfl) (.t rfl))<| .cons (.extract (l1 rfl) (.t rfl) rfl)<| .cons (.extract (l1 rfl) (.t rfl) rfl)<| .cons (.assign (l1 rfl) (.t rfl))<| .cons (.assign (l1 rfl) (.t rfl))<| .nil _ _ _) ?_
 refine AWP.vs ⟨[(1,.own 1 3 0 l1_1.length),(2,iW y_2.1),(3,iW y_2.2),(4,rW false y_3.1 eW),(5,iW y_3.2.1),(6,iW y_3.2.2),(7,iW y_4.1),(8,iW y_4.2)],[(1,⟨64,true,l1_1.flatMap e63⟩)]⟩ rfl rfl ?_
 refine AWP.seq ?_
 obtain ⟨y_5,hy_5,h⟩ := bindS h
 obtain ⟨y_6,hy_6,h⟩ := bindS h
 obtain ⟨t0_7,ht0_7,h⟩ := letS h
 refine AWP.rg (.cons (.move (l1 rfl) (.t rfl))<| .cons (.eql (l1 rfl) (.t rfl) (.const _ _ _))<| .cons (.move (l1 rfl) (.t rfl))<| .guard (j := 2) (dj := 31) rfl (l1 rfl) rfl (l1 rfl) (fun hg => .move (l1 rfl) (.t rfl))<| .guard (j := 2) (dj := 31) rfl (l1 rfl) rfl (l1 rfl) (fun hg => .eql (l1 rfl) (.gd hg (.t rfl)) (.const _ _ _))<| .cons (.pickAnd (l1 rfl) (.t rfl) (.t rfl) (.const _ _ _))<| .cons (.move (l1 rfl) (.t rfl))<| .guard (j := 6) (dj := 35) rfl (l1 rfl) rfl (l1 rfl) (fun hg => .move (l1 rfl) (.t rfl))<| .guard (j := 6) (dj := 35) rfl (l1 rfl) rfl (l1 rfl) (fun hg => .eql (l1 rfl) (.gd hg (.t rfl)) (.const _ _ _))<| .cons (.pickAnd (l1 rfl) (.t rfl) (.t rfl) (.const _ _ _))<| .cons (.move (l1 rfl) (.t rfl))<| .guard (j := 10) (dj := 39) rfl (l1 rfl) rfl (l1 rfl) (fun hg => .move (l1 rfl) (.t rfl))<| .guard (j := 10) (dj := 39) rfl (l1 rfl) rfl (l1 rfl) (fun hg => .eql (l1 rfl) (.gd hg (.t rfl)) (.const _ _ _))<| .cons (.pickAnd (l1 rfl) (.t rfl) (.t rfl) (.const _ _ _))<| .cons (.move (l1 rfl) (.t rfl))<| .guard (j := 14) (dj := 43) rfl (l1 rfl) rfl (l1 rfl) (fun hg => .move (l1 rfl) (.t rfl))<| .guard (j := 14) (dj := 43) rfl (l1 rfl) rfl (l1 rfl) (fun hg => .eql (l1 rfl) (.gd hg (.t rfl)) (.const _ _ _))<| .cons (.pickAnd (l1 rfl) (.t rfl) (.t rfl) (.const _ _ _))<| .cons (.move (l1 rfl) (.t rfl))<| .guard (j := 18) (dj := 47) rfl (l1 rfl) rfl (l1 rfl) (fun hg => .move (l1 rfl) (.t rfl))<| .guard (j := 18) (dj := 47) rfl (l1 rfl) rfl (l1 rfl) (fun hg => .eql (l1 rfl) (.gd hg (.t rfl)) (.const _ _ _))<| .cons (.pickAnd (l1 rfl) (.t rfl) (.t rfl) (.const _ _ _))<| .cons (.move (l1 rfl) (.t rfl))<| .guard (j := 22) (dj := 51) rfl (l1 rfl) rfl (l1 rfl) (fun hg => .move (l1 rfl) (.t rfl))<| .guard (j := 22) (dj := 51) rfl (l1 rfl) rfl (l1 rfl) (fun hg => .frzAny (fun t ht => AStep.buildSlice (t := t) (out := ([(1 : Int),(0 : Int)] : List Int).flatMap eW) (l1 rfl) ht (.cons (.const _ _ _) (by first | exact ⟨rfl,rfl⟩ | rfl) (.cons (.const _ _ _) (by first | exact ⟨rfl,rfl⟩ | rfl) (.nil))) Tryz.underlying23 zero3 el3 (by decide) (by decide) rfl (still_all (encI_still .i64) _)) rfl (encI_len .i64))<| .guard (j := 22) (dj := 51) rfl (l1 rfl) rfl (l1 rfl) (fun hg => .call0 (bw := false) (l1 rfl) (c11 (β1 := false) (β2 := false) n y_3.1 ([(1 : Int),(0 : Int)] : List Int) (gdB hy_5 hg)) (.cons (.gd hg (.t rfl)) (.ren rfl) (.cons (.gd hg (.t rfl)) (.ren rfl) (.nil))) rfl)<| .cons (.pickAnd (l1 rfl) (.t rfl) (.t rfl) (.const _ _ _))<| .cons (.move (l1 rfl) (.t rfl))<| .guard (j := 27) (dj := 56) rfl (l1 rfl) rfl (l1 rfl) (fun hg => .move (l1 rfl) (.t rfl))<| .guard (j := 27) (dj := 56) rfl (l1 rfl) rfl (l1 rfl) (fun hg => .call0 (bw := true) (l1 rfl) (c25 (β1 := true) n l1_1 (gdB hy_6 hg)) (.cons (.gd hg (.t rfl)) (.lendRow rfl rfl encR63_len rfl) (.nil)) rfl)<| .cons (.pickAnd (l1 rfl) (.t rfl) (.t rfl) (.const _ _ _))<| .cons (.assign (l1 rfl) (.t rfl))<| .nil _ _ _) ?_
 refine AWP.ret ?_
 obtain rfl := Option.some.inj h
 refine retJ (Res.vc (s' := ⟨[(0,bW t0_7)],[]⟩) (by subst ht0_7; exact VC.sub (.of rfl) (.n _)) ?_)
 refine Res.drop (H := []) rfl ?_
 exact Res.of rfl (.cons (.tmp rfl) (.nil)) rfl rfl
end Go.AB

import Derived.Test.YtpccmcepgllccaaGreatProg
import Derived.Test.YtpccmcepgllccaaGreatF0a
import Derived.KernelRfl
set_option linter.unusedVariables false
set_option maxRecDepth 20000
namespace Go.AB
open Go Go.Proofs
theorem c26F (n : Nat) : ∀ (f : Nat) {β1 : Bool} {β2 : Bool} (a0 : R27) {r : Int},m26F n f a0 = some r → Spec Tryz.prog 26 [] [.agg (tW encK27 β1 β2 a0.Sp a0.Kd a0.Lf)] [] (iW r) [] := by
 intro f
 induction f with
 | zero =>
  intro β1 β2 a0 r h
  cases (show (none : Option Int) = some r from h)
 | succ f ih =>
 intro β1 β2 a0 r h
 replace h : m26B n (m26F n f) a0 = some r := h
 generalize m26F n f = rc_0 at h ih
 refine Spec.of (fn := Tryz.f26) Tryz.func26 Tryz.ntmps26 rfl rfl (le1 rfl) (fun w0 Zs Zb T0 ι0 => ?_)
 unfold m26B at h
 refine AWP.seq ?_
 refine AWP.rg (.cons (.box (t := 1) (n := 3) (l1 rfl) (nm rfl) (.t rfl) (by first | exact ⟨rfl,rfl⟩ | rfl) rfl)<| .cons (.assign (l1 rfl) (.const _ _ _))<| .nil _ _ _) ?_
 refine AWP.vs ⟨[(1,.ptr 1 0)],[(1,⟨28,false,(tW encK27 β1 β2 a0.Sp a0.Kd a0.Lf)⟩)]⟩ rfl rfl ?_
 refine AWP.seq ?_
 refine AWP.rg (.cons (.assign (l1 rfl) (.const _ _ _))<| .nil _ _ _) ?_
 refine AWP.vs ⟨[(1,.ptr 1 0),(3,iW (1 : Int))],[(1,⟨28,false,(tW encK27 β1 β2 a0.Sp a0.Kd a0.Lf)⟩)]⟩ rfl rfl ?_
 refine AWP.seq ?_
 refine AWP.seq ?_
 refine AWP.rg (.cons (.assign (l1 rfl) (.const _ _ _))<| .nil _ _ _) ?_
 refine AWP.vs ⟨[(1,.ptr 1 0),(3,iW (1 : Int)),(4,iW (0 : Int))],[(1,⟨28,false,(tW encK27 β1 β2 a0.Sp a0.Kd a0.Lf)⟩)]⟩ rfl rfl ?_
 refine AWP.joinB' (S := fun p_17 : Int => ⟨[(3,iW p_17)],[]⟩) h (fun p_17 h => ?_) (fun k_18 h => ?_)
 ·refine AWP.seq ?_
  refine AWP.rg (.cons (.move (l1 rfl) (.t rfl))<| .cons (.assign (l1 rfl) (.t rfl))<| .nil _ _ _) ?_
  refine AWP.ret ?_
  obtain rfl := Option.some.inj h
  refine retJ (Res.vc (s' := ⟨[(2,iW p_17)],[]⟩) (VC.sub (.of rfl) (.n _)) ?_)
  refine Res.drop (H := []) rfl ?_
  exact Res.of rfl (.cons (.tmp rfl) (.nil)) rfl rfl
 ·refine AWP.vs ⟨[(1,.ptr 1 0),(3,iW (1 : Int)),(4,iW (0 : Int))],[(1,⟨28,false,(tW encK27 β1 β2 a0.Sp a0.Kd a0.Lf)⟩)]⟩ rfl rfl ?_
  refine AWP.loopM (S := fun x_11 : Int × Int => ⟨[(1,.ptr 1 0),(3,iW x_11.1),(4,iW x_11.2)],[(1,⟨28,false,(tW encK27 β1 β2 a0.Sp a0.Kd a0.Lf)⟩)]⟩) (x := ((1 : Int),(0 : Int))) (fun nx_12 x_11 h => ?_) h
  unfold m26_L1 at h
  refine AWP.seq ?_
  refine AWP.seq ?_
  refine AWP.rg (.cons (.move (l1 rfl) (.t rfl))<| .cons (.fieldP (l1 rfl) (.t rfl) fld28_1)<| .cons (.loadP (l1 rfl) (.t rfl) one26 rfl rfl rfl)<| .cons (.lenRd (l1 rfl) (.t rfl) Tryz.underlying26)<| .cons (.lss (l1 rfl) (.t rfl) (.t rfl))<| .nil _ _ _) ?_
  refine AWP.vs ⟨[(1,.ptr 1 0),(3,iW x_11.1),(4,iW x_11.2),(9,bW (decide (x_11.2 < (a0.Kd.length : Int))))],[(1,⟨28,false,(tW encK27 β1 β2 a0.Sp a0.Kd a0.Lf)⟩)]⟩ rfl rfl ?_
  refine AWP.cond (.t rfl) (fun hc => ?_) (fun hc => ?_)
  ·have h := iteT hc h
   refine AWP.skip ?_
   refine AWP.seq ?_
   refine AWP.block ?_
   obtain ⟨y_13,hy_13,h⟩ := bindS h
   obtain ⟨y_14,hy_14,h⟩ := bindS h
   obtain ⟨t3_15,ht3_15,h⟩ := letS h
   refine AWP.rg (.cons (.move (l1 rfl) (.t rfl))<| .cons (.fieldP (l1 rfl) (.t rfl) fld28_1)<| .cons (.loadP (l1 rfl) (.t rfl) one26 rfl rfl rfl)<| .cons (.move (l1 rfl) (.t rfl))<| .cons (.indexRdC (enc := encK27) (l1 rfl) (.t rfl) (.t rfl) Tryz.underlying26 sz28 encK27_len rfl hy_13 (encK27_out _))<| .cons (.loadRA (out := (tW encK27 β1 β1 y_13.out.Sp y_13.out.Kd y_13.out.Lf)) (l1 rfl) (.t rfl) agg28 (le1 rfl) rfl)<| .cons (.call0 (bw := false) (l1 rfl) (ih (β1 := β1) (β2 := β1) (R27.mk y_13.out.Sp y_13.out.Kd y_13.out.Lf) hy_14) (.cons (.t rfl) (.ren rfl) (.nil)) rfl)<| .cons (.add (l1 rfl) (.t rfl) (.t rfl))<| .cons (.assign (l1 rfl) (.t rfl))<| .nil _ _ _) ?_
   refine AWP.vc (s' := ⟨[(1,.ptr 1 0),(3,iW t3_15),(4,iW x_11.2)],[(1,⟨28,false,(tW encK27 β1 β2 a0.Sp a0.Kd a0.Lf)⟩)]⟩) (by subst ht3_15; exact VC.sub (.of rfl) (.of rfl)) ?_
   obtain ⟨t4_16,ht4_16,h⟩ := letS h
   refine AWP.rg (.cons (.move (l1 rfl) (.t rfl))<| .cons (.add (l1 rfl) (.t rfl) (.const _ _ _))<| .cons (.assign (l1 rfl) (.t rfl))<| .nil _ _ _) ?_
   exact endJ (t3_15,t4_16) h (by subst ht4_16; exact VC.sub (.of rfl) (.of rfl))
  ·have h := iteF hc h
   refine AWP.exit ?_
   exact endJ x_11.1 h (VC.sub (.of rfl) (.n _))
theorem c26 (n : Nat) {β1 : Bool} {β2 : Bool} (a0 : R27) {r : Int} (h : m26 n a0 = some r) : Spec Tryz.prog 26 [] [.agg (tW encK27 β1 β2 a0.Sp a0.Kd a0.Lf)] [] (iW r) [] := c26F n n a0 h
theorem c13 {β1 : Bool} (n : Nat) (a0 : (List R63)) {r : (List R63)} (h : m13 n a0 = some r) : Spec Tryz.prog 13 [] [rW β1 a0 e63] [] (rW false r e63) [] := by
 refine Spec.of (fn := Tryz.f13) Tryz.func13 Tryz.ntmps13 rfl rfl (le1 rfl) (fun w0 Zs Zb T0 ι0 => ?_)
 unfold m13 at h
 refine AWP.seq ?_
 refine AWP.rg (.cons (.assign (l1 rfl) (.const _ _ _))<| .nil _ _ _) ?_
 refine AWP.vs ⟨[(0,rW β1 a0 e63)],[]⟩ rfl rfl ?_
 refine AWP.seq ?_
 refine AWP.rg (.cons (.assign (l1 rfl) (.const _ _ _))<| .nil _ _ _) ?_
 refine AWP.vs ⟨[(0,rW β1 a0 e63),(3,.sc (.slice none 0 0))],[]⟩ rfl rfl ?_
 refine AWP.seq ?_
 refine AWP.seq ?_
 refine AWP.rg (.cons (.move (l1 rfl) (.t rfl))<| .cons (.lenRd (l1 rfl) (.t rfl) Tryz.underlying22)<| .cons (.move (l1 rfl) (.const _ _ _))<| .nil _ _ _) ?_
 refine AWP.vs ⟨[(3,.sc (.slice none 0 0)),(6,rW β1 a0 e63),(7,iW (a0.length : Int)),(8,iW (0 : Int))],[]⟩ rfl rfl ?_
 refine AWP.joinB' (S := fun p_14 : (List R63) => ⟨[(3,.own 1 3 0 p_14.length)],[(1,⟨64,true,p_14.flatMap e63⟩)]⟩) h (fun p_14 h => ?_) (fun k_15 h => ?_)
 ·refine AWP.seq ?_
  refine AWP.rg (.cons (.move (l1 rfl) (.t rfl))<| .cons (.assign (l1 rfl) (.t rfl))<| .nil _ _ _) ?_
  refine AWP.ret ?_
  obtain rfl := Option.some.inj h
  refine retJ (Res.vc (s' := ⟨[(2,rW false p_14 e63)],[]⟩) (VC.trans (VC.frz (d := 2) (t := 1) rfl rfl encR63_len) (VC.sub (.of rfl) (.n _))) ?_)
  refine Res.drop (H := []) rfl ?_
  exact Res.of rfl (.cons (.tmp rfl) (.nil)) rfl rfl
 ·refine AWP.vc (VC.nilOwn (d := 3) (t := 1) (sz := 3) (E := 64) rfl (nm rfl)) ?_
  refine AWP.vs ⟨[(3,.own 1 3 0 ([] : List R63).length),(6,rW β1 a0 e63),(7,iW (a0.length : Int)),(8,iW (0 : Int))],[(1,⟨64,true,([] : List R63).flatMap e63⟩)]⟩ rfl rfl ?_
  refine AWP.loopM (S := fun x_9 : Int × (List R63) => ⟨[(3,.own 1 3 0 x_9.2.length),(6,rW β1 a0 e63),(7,iW (a0.length : Int)),(8,iW x_9.1)],[(1,⟨64,true,x_9.2.flatMap e63⟩)]⟩) (x := ((0 : Int),([] : List R63))) (fun nx_10 x_9 h => ?_) h
  unfold m13_L1 at h
  refine AWP.seq ?_
  refine AWP.rg (.cons (.lss (l1 rfl) (.t rfl) (.t rfl))<| .nil _ _ _) ?_
  refine AWP.vs ⟨[(3,.own 1 3 0 x_9.2.length),(6,rW β1 a0 e63),(7,iW (a0.length : Int)),(8,iW x_9.1),(9,bW (decide (x_9.1 < (a0.length : Int))))],[(1,⟨64,true,x_9.2.flatMap e63⟩)]⟩ rfl rfl ?_
  refine AWP.seq ?_
  refine AWP.cond (.t rfl) (fun hc => ?_) (fun hc => ?_)
  ·have h := iteT hc h
   refine AWP.skip ?_
   refine AWP.seq ?_
   refine AWP.block ?_
   refine AWP.seq ?_
   obtain ⟨y_11,hy_11,h⟩ := bindS h
   refine AWP.rg (.cons (.indexRd (enc := e63) (l1 rfl) (.t rfl) (.t rfl) Tryz.underlying22 sz79 encR63_len rfl hy_11)<| .cons (.loadRA (out := [iW y_11.Rl,iW y_11.Ln,iW y_11.Due]) (l1 rfl) (.t rfl) agg79 (Nat.le_of_eq (Eq.symm (encR63_len _))) rfl)<| .cons (.alloc (t := 2) (k := ⟨79,false,[iW (0 : Int),iW (0 : Int),iW (0 : Int)]⟩) (l1 rfl) (nm rfl) zero79 rfl rfl)<| .cons (.storePA (.t rfl) (.t rfl) sz79 rfl rfl (le1 rfl) (one_lit rfl) (by intro h; cases h) rfl)<| .nil _ _ _) ?_
   refine AWP.vs ⟨[(3,.own 1 3 0 x_9.2.length),(6,rW β1 a0 e63),(7,iW (a0.length : Int)),(8,iW x_9.1),(5,.ptr 2 0)],[(2,⟨79,false,[iW y_11.Rl,iW y_11.Ln,iW y_11.Due]⟩),(1,⟨64,true,x_9.2.flatMap e63⟩)]⟩ rfl rfl ?_
   obtain ⟨l1_12,hl1_12,h⟩ := bindS h
   refine AWP.rg (.cons (.move (l1 rfl) (.t rfl))<| .cons (.loadPA (l1 rfl) (.t rfl) agg79 rfl rfl rfl rfl)<| .cons (.buildSlice (t := 3) (out := ([(R63.mk y_11.Rl y_11.Ln y_11.Due)] : List R63).flatMap e63) (l1 rfl) (nm rfl) (.cons (.t rfl) (by first | exact ⟨rfl,rfl⟩ | rfl) (.nil)) Tryz.underlying35 zero64 el64 (by decide) (by decide) rfl (still_all encR63_still _))<| .cons (.app (enc := e63) (l1 rfl) (nm rfl) (.t rfl) (Src.own (.t rfl) rfl (lendAll encR63_len _) (flatMap_length encR63_len _) (one_all encR63_one _) (.inl rfl)) Tryz.underlying35 ⟨_,Tryz.underlying35,by intro k hk; cases hk⟩ el64 rfl encR63_len rfl rfl (by decide) hl1_12)<| .cons (.assign (l1 rfl) (.t rfl))<| .nil _ _ _) ?_
   refine AWP.vs ⟨[(3,.own 1 3 0 l1_12.length),(6,rW β1 a0 e63),(7,iW (a0.length : Int)),(8,iW x_9.1)],[(1,⟨64,true,l1_12.flatMap e63⟩)]⟩ rfl rfl ?_
   obtain ⟨t8_13,ht8_13,h⟩ := letS h
   refine AWP.rg (.cons (.add (l1 rfl) (.t rfl) (.const _ _ _))<| .cons (.move (l1 rfl) (.t rfl))<| .nil _ _ _) ?_
   exact endJ (t8_13,l1_12) h (by subst ht8_13; exact VC.sub (.of rfl) (.of rfl))
  ·have h := iteF hc h
   refine AWP.exit ?_
   exact endJ x_9.2 h (VC.sub (.of rfl) (.of rfl))
theorem c27 {β1 : Bool} {β2 : Bool} (n : Nat) (a0 : R36) {r : Bool} (h : m27 n a0 = some r) : Spec Tryz.prog 27 [] [.agg (gW β1 β2 a0.Jb a0.Dn a0.Mt a0.Bo)] [] (bW r) [] := by
 refine Spec.of (fn := Tryz.f27) Tryz.func27 Tryz.ntmps27 rfl rfl (le1 rfl) (fun w0 Zs Zb T0 ι0 => ?_)
 unfold m27 at h
 refine AWP.seq ?_
 refine AWP.rg (.cons (.box (t := 1) (n := 4) (l1 rfl) (nm rfl) (.t rfl) (by first | exact ⟨rfl,rfl⟩ | rfl) rfl)<| .cons (.assign (l1 rfl) (.const _ _ _))<| .nil _ _ _) ?_
 refine AWP.vs ⟨[(1,.ptr 1 0)],[(1,⟨37,false,(gW β1 β2 a0.Jb a0.Dn a0.Mt a0.Bo)⟩)]⟩ rfl rfl ?_
 refine AWP.seq ?_
 obtain ⟨y_1,hy_1,h⟩ := bindS h
 obtain ⟨y_2,hy_2,h⟩ := bindS h
 refine AWP.rg (.cons (.fieldP (l1 rfl) (.t rfl) fld37_0)<| .cons (.loadP (l1 rfl) (.t rfl) one35 rfl rfl rfl)<| .cons (.call0 (bw := false) (l1 rfl) (c25 (β1 := β1) n a0.Jb hy_1) (.cons (.t rfl) (.ren rfl) (.nil)) rfl)<| .cons (.move (l1 rfl) (.t rfl))<| .guard (j := 3) (dj := 6) rfl (l1 rfl) rfl (l1 rfl) (fun hg => .fieldP (l1 rfl) (.t rfl) fld37_0)<| .guard (j := 3) (dj := 6) rfl (l1 rfl) rfl (l1 rfl) (fun hg => .loadP (l1 rfl) (.gd hg (.t rfl)) one35 rfl rfl rfl)<| .guard (j := 3) (dj := 6) rfl (l1 rfl) rfl (l1 rfl) (fun hg => .lenRd (l1 rfl) (.gd hg (.t rfl)) Tryz.underlying35)<| .guard (j := 3) (dj := 6) rfl (l1 rfl) rfl (l1 rfl) (fun hg => .gtr (l1 rfl) (.gd hg (.t rfl)) (.const _ _ _))<| .cons (.pickAnd (l1 rfl) (.t rfl) (.t rfl) (.const _ _ _))<| .cons (.move (l1 rfl) (.t rfl))<| .guard (j := 9) (dj := 12) rfl (l1 rfl) rfl (l1 rfl) (fun hg => .fieldP (l1 rfl) (.t rfl) fld37_0)<| .guard (j := 9) (dj := 12) rfl (l1 rfl) rfl (l1 rfl) (fun hg => .loadP (l1 rfl) (.gd hg (.t rfl)) one35 rfl rfl rfl)<| .guard (j := 9) (dj := 12) rfl (l1 rfl) rfl (l1 rfl) (fun hg => .fieldP (l1 rfl) (.t rfl) fld37_1)<| .guard (j := 9) (dj := 12) rfl (l1 rfl) rfl (l1 rfl) (fun hg => .loadP (l1 rfl) (.gd hg (.t rfl)) one23 rfl rfl rfl)<| .guard (j := 9) (dj := 12) rfl (l1 rfl) rfl (l1 rfl) (fun hg => .call0 (bw := false) (l1 rfl) (c49 (β1 := β1) (β2 := β2) n a0.Jb a0.Dn (gdB hy_2 hg)) (.cons (.gd hg (.t rfl)) (.ren rfl) (.cons (.gd hg (.t rfl)) (.ren rfl) (.nil))) rfl)<| .cons (.pickAnd (l1 rfl) (.t rfl) (.t rfl) (.const _ _ _))<| .cons (.move (l1 rfl) (.t rfl))<| .guard (j := 16) (dj := 19) rfl (l1 rfl) rfl (l1 rfl) (fun hg => .fieldP (l1 rfl) (.t rfl) fld37_3)<| .guard (j := 16) (dj := 19) rfl (l1 rfl) rfl (l1 rfl) (fun hg => .loadP (l1 rfl) (.gd hg (.t rfl)) one3 rfl rfl rfl)<| .guard (j := 16) (dj := 19) rfl (l1 rfl) rfl (l1 rfl) (fun hg => .geq (l1 rfl) (.gd hg (.t rfl)) (.const _ _ _))<| .cons (.pickAnd (l1 rfl) (.t rfl) (.t rfl) (.const _ _ _))<| .cons (.move (l1 rfl) (.t rfl))<| .guard (j := 21) (dj := 24) rfl (l1 rfl) rfl (l1 rfl) (fun hg => .fieldP (l1 rfl) (.t rfl) fld37_3)<| .guard (j := 21) (dj := 24) rfl (l1 rfl) rfl (l1 rfl) (fun hg => .loadP (l1 rfl) (.gd hg (.t rfl)) one3 rfl rfl rfl)<| .guard (j := 21) (dj := 24) rfl (l1 rfl) rfl (l1 rfl) (fun hg => .leq (l1 rfl) (.gd hg (.t rfl)) (.const _ _ _))<| .cons (.pickAnd (l1 rfl) (.t rfl) (.t rfl) (.const _ _ _))<| .cons (.assign (l1 rfl) (.t rfl))<| .nil _ _ _) ?_
 refine AWP.ret ?_
 obtain rfl := Option.some.inj h
 refine retJ (Res.vc (s' := ⟨[(2,bW ((((y_1 && (decide ((0 : Int) < (a0.Jb.length : Int)))) && y_2) && (decide ((-1073741824 : Int) ≤ a0.Bo))) && (decide (a0.Bo ≤ (1073741824 : Int)))))],[]⟩) (VC.sub (.of rfl) (.n _)) ?_)
 refine Res.drop (H := []) rfl ?_
 exact Res.of rfl (.cons (.tmp rfl) (.nil)) rfl rfl
theorem c43F (n : Nat) : ∀ (f : Nat) {β1 : Bool} {β2 : Bool} (a0 : R40) {r : Int},m43F n f a0 = some r → Spec Tryz.prog 43 [] [.agg (tW encK40 β1 β2 a0.Sp a0.Kd a0.Lf)] [] (iW r) [] := by
 intro f
 induction f with
 | zero =>
  intro β1 β2 a0 r h
  cases (show (none : Option Int) = some r from h)
 | succ f ih =>
 intro β1 β2 a0 r h
 replace h : m43B n (m43F n f) a0 = some r := h
 generalize m43F n f = rc_0 at h ih
 refine Spec.of (fn := Tryz.f43) Tryz.func43 Tryz.ntmps43 rfl rfl (le1 rfl) (fun w0 Zs Zb T0 ι0 => ?_)
 unfold m43B at h
 refine AWP.seq ?_
 refine AWP.rg (.cons (.box (t := 1) (n := 3) (l1 rfl) (nm rfl) (.t rfl) (by first | exact ⟨rfl,rfl⟩ | rfl) rfl)<| .cons (.assign (l1 rfl) (.const _ _ _))<| .nil _ _ _) ?_
 refine AWP.vs ⟨[(1,.ptr 1 0)],[(1,⟨41,false,(tW encK40 β1 β2 a0.Sp a0.Kd a0.Lf)⟩)]⟩ rfl rfl ?_
 refine AWP.seq ?_
 refine AWP.rg (.cons (.assign (l1 rfl) (.const _ _ _))<| .nil _ _ _) ?_
 refine AWP.vs ⟨[(1,.ptr 1 0),(3,iW (1 : Int))],[(1,⟨41,false,(tW encK40 β1 β2 a0.Sp a0.Kd a0.Lf)⟩)]⟩ rfl rfl ?_
 refine AWP.seq ?_
 refine AWP.seq ?_
 refine AWP.rg (.cons (.fieldP (l1 rfl) (.t rfl) fld41_1)<| .cons (.loadP (l1 rfl) (.t rfl) one39 rfl rfl rfl)<| .cons (.lenRd (l1 rfl) (.t rfl) Tryz.underlying39)<| .cons (.move (l1 rfl) (.const _ _ _))<| .nil _ _ _) ?_
 refine AWP.vs ⟨[(3,iW (1 : Int)),(7,rW β1 a0.Kd encK40),(8,iW (a0.Kd.length : Int)),(9,iW (0 : Int))],[]⟩ rfl rfl ?_
 refine AWP.joinB' (S := fun p_17 : Int => ⟨[(3,iW p_17)],[]⟩) h (fun p_17 h => ?_) (fun k_18 h => ?_)
 ·refine AWP.seq ?_
  refine AWP.rg (.cons (.move (l1 rfl) (.t rfl))<| .cons (.assign (l1 rfl) (.t rfl))<| .nil _ _ _) ?_
  refine AWP.ret ?_
  obtain rfl := Option.some.inj h
  refine retJ (Res.vc (s' := ⟨[(2,iW p_17)],[]⟩) (VC.sub (.of rfl) (.n _)) ?_)
  refine Res.drop (H := []) rfl ?_
  exact Res.of rfl (.cons (.tmp rfl) (.nil)) rfl rfl
 ·refine AWP.vs ⟨[(3,iW (1 : Int)),(7,rW β1 a0.Kd encK40),(8,iW (a0.Kd.length : Int)),(9,iW (0 : Int))],[]⟩ rfl rfl ?_
  refine AWP.loopM (S := fun x_11 : Int × Int => ⟨[(3,iW x_11.1),(7,rW β1 a0.Kd encK40),(8,iW (a0.Kd.length : Int)),(9,iW x_11.2)],[]⟩) (x := ((1 : Int),(0 : Int))) (fun nx_12 x_11 h => ?_) h
  unfold m43_L1 at h
  refine AWP.seq ?_
  refine AWP.rg (.cons (.lss (l1 rfl) (.t rfl) (.t rfl))<| .nil _ _ _) ?_
  refine AWP.vs ⟨[(3,iW x_11.1),(7,rW β1 a0.Kd encK40),(8,iW (a0.Kd.length : Int)),(9,iW x_11.2),(10,bW (decide (x_11.2 < (a0.Kd.length : Int))))],[]⟩ rfl rfl ?_
  refine AWP.seq ?_
  refine AWP.cond (.t rfl) (fun hc => ?_) (fun hc => ?_)
  ·have h := iteT hc h
   refine AWP.skip ?_
   refine AWP.seq ?_
   refine AWP.block ?_
   refine AWP.seq ?_
   obtain ⟨y_13,hy_13,h⟩ := bindS h
   refine AWP.rg (.cons (.indexRdC (enc := encK40) (l1 rfl) (.t rfl) (.t rfl) Tryz.underlying39 sz41 encK40_len rfl hy_13 (encK40_out _))<| .cons (.loadRA (out := (tW encK40 β1 β1 y_13.out.Sp y_13.out.Kd y_13.out.Lf)) (l1 rfl) (.t rfl) agg41 (le1 rfl) rfl)<| .cons (.alloc (t := 2) (k := ⟨41,false,[iW (0 : Int),.sc (.slice none 0 0),.sc (.slice none 0 0)]⟩) (l1 rfl) (nm rfl) zero41 rfl rfl)<| .cons (.storePA (.t rfl) (.t rfl) sz41 rfl rfl (le1 rfl) (one_lit rfl) (by intro h; cases h) rfl)<| .nil _ _ _) ?_
   refine AWP.vs ⟨[(3,iW x_11.1),(7,rW β1 a0.Kd encK40),(8,iW (a0.Kd.length : Int)),(9,iW x_11.2),(5,.ptr 2 0)],[(2,⟨41,false,(tW encK40 β1 β1 y_13.out.Sp y_13.out.Kd y_13.out.Lf)⟩)]⟩ rfl rfl ?_
   obtain ⟨y_14,hy_14,h⟩ := bindS h
   obtain ⟨t3_15,ht3_15,h⟩ := letS h
   refine AWP.rg (.cons (.move (l1 rfl) (.t rfl))<| .cons (.loadPA (l1 rfl) (.t rfl) agg41 rfl rfl rfl rfl)<| .cons (.call0 (bw := false) (l1 rfl) (ih (β1 := β1) (β2 := β1) (R40.mk y_13.out.Sp y_13.out.Kd y_13.out.Lf) hy_14) (.cons (.t rfl) (.ren rfl) (.nil)) rfl)<| .cons (.add (l1 rfl) (.t rfl) (.t rfl))<| .cons (.assign (l1 rfl) (.t rfl))<| .nil _ _ _) ?_
   refine AWP.vc (s' := ⟨[(3,iW t3_15),(7,rW β1 a0.Kd encK40),(8,iW (a0.Kd.length : Int)),(9,iW x_11.2)],[]⟩) (by subst ht3_15; exact VC.sub (.of rfl) (.n _)) ?_
   obtain ⟨t9_16,ht9_16,h⟩ := letS h
   refine AWP.rg (.cons (.add (l1 rfl) (.t rfl) (.const _ _ _))<| .cons (.move (l1 rfl) (.t rfl))<| .nil _ _ _) ?_
   exact endJ (t3_15,t9_16) h (by subst ht9_16; exact VC.sub (.of rfl) (.n _))
  ·have h := iteF hc h
   refine AWP.exit ?_
   exact endJ x_11.1 h (VC.sub (.of rfl) (.n _))
theorem c43 (n : Nat) {β1 : Bool} {β2 : Bool} (a0 : R40) {r : Int} (h : m43 n a0 = some r) : Spec Tryz.prog 43 [] [.agg (tW encK40 β1 β2 a0.Sp a0.Kd a0.Lf)] [] (iW r) [] := c43F n n a0 h
theorem c44F (n : Nat) : ∀ (f : Nat) {β1 : Bool} {β2 : Bool} (a0 : R40) {r : Int},m44F n f a0 = some r → Spec Tryz.prog 44 [] [.agg (tW encK40 β1 β2 a0.Sp a0.Kd a0.Lf)] [] (iW r) [] := by
 intro f
 induction f with
 | zero =>
  intro β1 β2 a0 r h
  cases (show (none : Option Int) = some r from h)
 | succ f ih =>
 intro β1 β2 a0 r h
 replace h : m44B n (m44F n f) a0 = some r := h
 generalize m44F n f = rc_0 at h ih
 refine Spec.of (fn := Tryz.f44) Tryz.func44 Tryz.ntmps44 rfl rfl (le1 rfl) (fun w0 Zs Zb T0 ι0 => ?_)
 unfold m44B at h
 refine AWP.seq ?_
 refine AWP.rg (.cons (.box (t := 1) (n := 3) (l1 rfl) (nm rfl) (.t rfl) (by first | exact ⟨rfl,rfl⟩ | rfl) rfl)<| .cons (.assign (l1 rfl) (.const _ _ _))<| .nil _ _ _) ?_
 refine AWP.vs ⟨[(1,.ptr 1 0)],[(1,⟨41,false,(tW encK40 β1 β2 a0.Sp a0.Kd a0.Lf)⟩)]⟩ rfl rfl ?_
 refine AWP.seq ?_
 refine AWP.rg (.cons (.assign (l1 rfl) (.const _ _ _))<| .nil _ _ _) ?_
 refine AWP.vs ⟨[(1,.ptr 1 0),(3,iW (0 : Int))],[(1,⟨41,false,(tW encK40 β1 β2 a0.Sp a0.Kd a0.Lf)⟩)]⟩ rfl rfl ?_
 refine AWP.seq ?_
 refine AWP.seq ?_
 refine AWP.rg (.cons (.fieldP (l1 rfl) (.t rfl) fld41_1)<| .cons (.loadP (l1 rfl) (.t rfl) one39 rfl rfl rfl)<| .cons (.lenRd (l1 rfl) (.t rfl) Tryz.underlying39)<| .cons (.move (l1 rfl) (.const _ _ _))<| .nil _ _ _) ?_
 refine AWP.vs ⟨[(3,iW (0 : Int)),(7,rW β1 a0.Kd encK40),(8,iW (a0.Kd.length : Int)),(9,iW (0 : Int))],[]⟩ rfl rfl ?_
 refine AWP.joinB' (S := fun p_17 : Int => ⟨[(3,iW p_17)],[]⟩) h (fun p_17 h => ?_) (fun k_18 h => ?_)
 ·refine AWP.seq ?_
  obtain ⟨t2_19,ht2_19,h⟩ := letS h
  refine AWP.rg (.cons (.move (l1 rfl) (.t rfl))<| .cons (.add (l1 rfl) (.t rfl) (.const _ _ _))<| .cons (.assign (l1 rfl) (.t rfl))<| .nil _ _ _) ?_
  refine AWP.ret ?_
  obtain rfl := Option.some.inj h
  refine retJ (Res.vc (s' := ⟨[(2,iW t2_19)],[]⟩) (by subst ht2_19; exact VC.sub (.of rfl) (.n _)) ?_)
  refine Res.drop (H := []) rfl ?_
  exact Res.of rfl (.cons (.tmp rfl) (.nil)) rfl rfl
 ·refine AWP.vs ⟨[(3,iW (0 : Int)),(7,rW β1 a0.Kd encK40),(8,iW (a0.Kd.length : Int)),(9,iW (0 : Int))],[]⟩ rfl rfl ?_
  refine AWP.loopM (S := fun x_11 : Int × Int => ⟨[(3,iW x_11.1),(7,rW β1 a0.Kd encK40),(8,iW (a0.Kd.length : Int)),(9,iW x_11.2)],[]⟩) (x := ((0 : Int),(0 : Int))) (fun nx_12 x_11 h => ?_) h
  unfold m44_L1 at h
  refine AWP.seq ?_
  refine AWP.rg (.cons (.lss (l1 rfl) (.t rfl) (.t rfl))<| .nil _ _ _) ?_
  refine AWP.vs ⟨[(3,iW x_11.1),(7,rW β1 a0.Kd encK40),(8,iW (a0.Kd.length : Int)),(9,iW x_11.2),(10,bW (decide (x_11.2 < (a0.Kd.length : Int))))],[]⟩ rfl rfl ?_
  refine AWP.seq ?_
  refine AWP.cond (.t rfl) (fun hc => ?_) (fun hc => ?_)
  ·have h := iteT hc h
   refine AWP.skip ?_
   refine AWP.seq ?_
   refine AWP.block ?_
   refine AWP.seq ?_
   obtain ⟨y_13,hy_13,h⟩ := bindS h
   refine AWP.rg (.cons (.indexRdC (enc := encK40) (l1 rfl) (.t rfl) (.t rfl) Tryz.underlying39 sz41 encK40_len rfl hy_13 (encK40_out _))<| .cons (.loadRA (out := (tW encK40 β1 β1 y_13.out.Sp y_13.out.Kd y_13.out.Lf)) (l1 rfl) (.t rfl) agg41 (le1 rfl) rfl)<| .cons (.alloc (t := 2) (k := ⟨41,false,[iW (0 : Int),.sc (.slice none 0 0),.sc (.slice none 0 0)]⟩) (l1 rfl) (nm rfl) zero41 rfl rfl)<| .cons (.storePA (.t rfl) (.t rfl) sz41 rfl rfl (le1 rfl) (one_lit rfl) (by intro h; cases h) rfl)<| .nil _ _ _) ?_
   refine AWP.vs ⟨[(3,iW x_11.1),(7,rW β1 a0.Kd encK40),(8,iW (a0.Kd.length : Int)),(9,iW x_11.2),(5,.ptr 2 0)],[(2,⟨41,false,(tW encK40 β1 β1 y_13.out.Sp y_13.out.Kd y_13.out.Lf)⟩)]⟩ rfl rfl ?_
   obtain ⟨y_14,hy_14,h⟩ := bindS h
   obtain ⟨t3_15,ht3_15,h⟩ := letS h
   refine AWP.rg (.cons (.move (l1 rfl) (.t rfl))<| .cons (.loadPA (l1 rfl) (.t rfl) agg41 rfl rfl rfl rfl)<| .cons (.call0 (bw := false) (l1 rfl) (ih (β1 := β1) (β2 := β1) (R40.mk y_13.out.Sp y_13.out.Kd y_13.out.Lf) hy_14) (.cons (.t rfl) (.ren rfl) (.nil)) rfl)<| .cons (.max2 (l1 rfl) (.t rfl) (.t rfl))<| .cons (.assign (l1 rfl) (.t rfl))<| .nil _ _ _) ?_
   refine AWP.vc (s' := ⟨[(3,iW t3_15),(7,rW β1 a0.Kd encK40),(8,iW (a0.Kd.length : Int)),(9,iW x_11.2)],[]⟩) (by subst ht3_15; exact VC.sub (.of rfl) (.n _)) ?_
   obtain ⟨t9_16,ht9_16,h⟩ := letS h
   refine AWP.rg (.cons (.add (l1 rfl) (.t rfl) (.const _ _ _))<| .cons (.move (l1 rfl) (.t rfl))<| .nil _ _ _) ?_
   exact endJ (t3_15,t9_16) h (by subst ht9_16; exact VC.sub (.of rfl) (.n _))
  ·have h := iteF hc h
   refine AWP.exit ?_
   exact endJ x_11.1 h (VC.sub (.of rfl) (.n _))
theorem c44 (n : Nat) {β1 : Bool} {β2 : Bool} (a0 : R40) {r : Int} (h : m44 n a0 = some r) : Spec Tryz.prog 44 [] [.agg (tW encK40 β1 β2 a0.Sp a0.Kd a0.Lf)] [] (iW r) [] := c44F n n a0 h
theorem c63 (n : Nat) (a0 : Int) {r : Bool} (h : m63 n a0 = some r) : Spec Tryz.prog 63 [] [iW a0] [] (bW r) [] := by
 refine Spec.of (fn := Tryz.f63) Tryz.func63 Tryz.ntmps63 rfl rfl (le1 rfl) (fun w0 Zs Zb T0 ι0 => ?_)
 unfold m63 at h
 refine AWP.seq ?_
 refine AWP.rg (.cons (.assign (l1 rfl) (.const _ _ _))<| .nil _ _ _) ?_
 refine AWP.vs ⟨[(0,iW a0)],[]⟩ rfl rfl ?_
 refine AWP.seq ?_
 refine AWP.rg (.cons (.move (l1 rfl) (.t rfl))<| .cons (.geq (l1 rfl) (.t rfl) (.const _ _ _))<| .cons (.move (l1 rfl) (.t rfl))<| .guard (j := 2) (dj := 5) rfl (l1 rfl) rfl (l1 rfl) (fun hg => .move (l1 rfl) (.t rfl))<| .guard (j := 2) (dj := 5) rfl (l1 rfl) rfl (l1 rfl) (fun hg => .leq (l1 rfl) (.gd hg (.t rfl)) (.const _ _ _))<| .cons (.pickAnd (l1 rfl) (.t rfl) (.t rfl) (.const _ _ _))<| .cons (.assign (l1 rfl) (.t rfl))<| .nil _ _ _) ?_
 refine AWP.ret ?_
 obtain rfl := Option.some.inj h
 refine retJ (Res.vc (s' := ⟨[(2,bW ((decide ((-1073741824 : Int) ≤ a0)) && (decide (a0 ≤ (1073741824 : Int)))))],[]⟩) (VC.sub (.of rfl) (.n _)) ?_)
 refine Res.drop (H := []) rfl ?_
 exact Res.of rfl (.cons (.tmp rfl) (.nil)) rfl rfl
theorem c72 (n : Nat) (a0 : Int) {r : Bool} (h : m72 n a0 = some r) : Spec Tryz.prog 72 [] [iW a0] [] (bW r) [] := by
 refine Spec.of (fn := Tryz.f72) Tryz.func72 Tryz.ntmps72 rfl rfl (le1 rfl) (fun w0 Zs Zb T0 ι0 => ?_)
 unfold m72 at h
 refine AWP.seq ?_
 refine AWP.rg (.cons (.assign (l1 rfl) (.const _ _ _))<| .nil _ _ _) ?_
 refine AWP.vs ⟨[(0,iW a0)],[]⟩ rfl rfl ?_
 refine AWP.seq ?_
 obtain ⟨y_1,hy_1,h⟩ := bindS h
 refine AWP.rg (.cons (.move (l1 rfl) (.t rfl))<| .cons (.call0 (bw := false) (l1 rfl) (c63 n a0 hy_1) (.cons (.t rfl) (.ren rfl) (.nil)) rfl)<| .cons (.not (l1 rfl) (.t rfl))<| .cons (.assign (l1 rfl) (.t rfl))<| .nil _ _ _) ?_
 refine AWP.ret ?_
 obtain rfl := Option.some.inj h
 refine retJ (Res.vc (s' := ⟨[(2,bW (!y_1))],[]⟩) (VC.sub (.of rfl) (.n _)) ?_)
 refine Res.drop (H := []) rfl ?_
 exact Res.of rfl (.cons (.tmp rfl) (.nil)) rfl rfl
theorem c77 {β1 : Bool} (n : Nat) (a0 : (List Int)) {r : Int} (h : m77 n a0 = some r) : Spec Tryz.prog 77 [] [rW β1 a0 eW,.clo (.func 72) [] []] [] (iW r) [] := by
 refine Spec.of (fn := Tryz.f77) Tryz.func77 Tryz.ntmps77 rfl rfl (le1 rfl) (fun w0 Zs Zb T0 ι0 => ?_)
 unfold m77 at h
 refine AWP.seq ?_
 refine AWP.rg (.cons (.assign (l1 rfl) (.const _ _ _))<| .nil _ _ _) ?_
 refine AWP.vs ⟨[(0,rW β1 a0 eW),(1,.clo (.func 72) [] [])],[]⟩ rfl rfl ?_
 refine AWP.seq ?_
 refine AWP.seq ?_
 refine AWP.rg (.cons (.move (l1 rfl) (.t rfl))<| .cons (.lenRd (l1 rfl) (.t rfl) Tryz.underlying23)<| .cons (.move (l1 rfl) (.const _ _ _))<| .nil _ _ _) ?_
 refine AWP.vs ⟨[(0,rW β1 a0 eW),(1,.clo (.func 72) [] []),(7,iW (a0.length : Int)),(8,iW (0 : Int))],[]⟩ rfl rfl ?_
 refine AWP.joinB' (S := fun p_14 : Unit => ⟨[],[]⟩) h (fun p_14 h => ?_) (fun k_15 h => ?_)
 ·refine AWP.seq ?_
  refine AWP.rg (.cons (.assign (l1 rfl) (.const _ _ _))<| .nil _ _ _) ?_
  refine AWP.ret ?_
  obtain rfl := Option.some.inj h
  refine retJ (Res.vc (s' := ⟨[(4,iW (-1 : Int))],[]⟩) (VC.sub (.of rfl) (.n _)) ?_)
  refine Res.drop (H := []) rfl ?_
  exact Res.of rfl (.cons (.tmp rfl) (.nil)) rfl rfl
 ·refine AWP.vs ⟨[(0,rW β1 a0 eW),(1,.clo (.func 72) [] []),(7,iW (a0.length : Int)),(8,iW (0 : Int))],[]⟩ rfl rfl ?_
  refine AWP.loopM (S := fun x_9 : Int => ⟨[(0,rW β1 a0 eW),(1,.clo (.func 72) [] []),(7,iW (a0.length : Int)),(8,iW x_9)],[]⟩) (x := (0 : Int)) (fun nx_10 x_9 h => ?_) h
  unfold m77_L1 at h
  refine AWP.seq ?_
  refine AWP.rg (.cons (.lss (l1 rfl) (.t rfl) (.t rfl))<| .nil _ _ _) ?_
  refine AWP.vs ⟨[(0,rW β1 a0 eW),(1,.clo (.func 72) [] []),(7,iW (a0.length : Int)),(8,iW x_9),(9,bW (decide (x_9 < (a0.length : Int))))],[]⟩ rfl rfl ?_
  refine AWP.seq ?_
  refine AWP.cond (.t rfl) (fun hc => ?_) (fun hc => ?_)
  ·have h := iteT hc h
   refine AWP.skip ?_
   refine AWP.seq ?_
   refine AWP.block ?_
   refine AWP.seq ?_
   refine AWP.rg (.cons (.move (l1 rfl) (.t rfl))<| .cons (.assign (l1 rfl) (.t rfl))<| .nil _ _ _) ?_
   refine AWP.vs ⟨[(0,rW β1 a0 eW),(1,.clo (.func 72) [] []),(7,iW (a0.length : Int)),(8,iW x_9),(5,iW x_9)],[]⟩ rfl rfl ?_
   refine AWP.seq ?_
   obtain ⟨y_11,hy_11,h⟩ := bindS h
   obtain ⟨y_12,hy_12,h⟩ := bindS h
   refine AWP.rg (.cons (.move (l1 rfl) (.t rfl))<| .cons (.move (l1 rfl) (.t rfl))<| .cons (.move (l1 rfl) (.t rfl))<| .cons (.indexRd (enc := eW) (l1 rfl) (.t rfl) (.t rfl) Tryz.underlying23 sz3 (encI_len .i64) rfl hy_11)<| .cons (.loadR (v := iW y_11) (l1 rfl) (.t rfl) one3 rfl)<| .cons (.keep (bw := false) (AStep.callV (us' := []) (avs := [iW y_11]) (cs' := []) (σ := sgT []) (bw := false) (l1 rfl) (.t rfl) (c72 n y_11 hy_12) (.nil) (.cons (.t rfl) (.ren rfl) (.nil)) (.nil) (CallOk.mk' (.n) rfl) (fun _ h => by cases h)) (CallOk.mk' (.n) rfl) rfl rfl)<| .nil _ _ _) ?_
   refine AWP.vs ⟨[(0,rW β1 a0 eW),(1,.clo (.func 72) [] []),(7,iW (a0.length : Int)),(8,iW x_9),(5,iW x_9),(16,bW y_12)],[]⟩ rfl rfl ?_
   refine AWP.cond (.t rfl) (fun hc => ?_) (fun hc => ?_)
   ·have h := iteT hc h
    refine AWP.seq ?_
    refine AWP.rg (.cons (.move (l1 rfl) (.t rfl))<| .cons (.assign (l1 rfl) (.t rfl))<| .nil _ _ _) ?_
    refine AWP.ret ?_
    obtain rfl := Option.some.inj h
    refine retJ (Res.vc (s' := ⟨[(4,iW x_9)],[]⟩) (VC.sub (.of rfl) (.n _)) ?_)
    refine Res.drop (H := []) rfl ?_
    exact Res.of rfl (.cons (.tmp rfl) (.nil)) rfl rfl
   ·have h := iteF hc h
    refine AWP.skip ?_
    obtain ⟨t8_13,ht8_13,h⟩ := letS h
    refine AWP.rg (.cons (.add (l1 rfl) (.t rfl) (.const _ _ _))<| .cons (.move (l1 rfl) (.t rfl))<| .nil _ _ _) ?_
    exact endJ t8_13 h (by subst ht8_13; exact VC.sub (.of rfl) (.n _))
  ·have h := iteF hc h
   refine AWP.exit ?_
   exact endJ () h (VC.sub (.n _) (.n _))
theorem c71 {β1 : Bool} (n : Nat) (a0 : (List Int)) {r : Bool} (h : m71 n a0 = some r) : Spec Tryz.prog 71 [] [rW β1 a0 eW,.clo (.func 72) [] []] [] (bW r) [] := by
 refine Spec.of (fn := Tryz.f71) Tryz.func71 Tryz.ntmps71 rfl rfl (le1 rfl) (fun w0 Zs Zb T0 ι0 => ?_)
 unfold m71 at h
 refine AWP.seq ?_
 refine AWP.rg (.cons (.assign (l1 rfl) (.const _ _ _))<| .nil _ _ _) ?_
 refine AWP.vs ⟨[(0,rW β1 a0 eW),(1,.clo (.func 72) [] [])],[]⟩ rfl rfl ?_
 refine AWP.seq ?_
 obtain ⟨y_1,hy_1,h⟩ := bindS h
 refine AWP.rg (.cons (.move (l1 rfl) (.t rfl))<| .cons (.move (l1 rfl) (.t rfl))<| .cons (.call0 (bw := false) (l1 rfl) (c77 (β1 := β1) n a0 hy_1) (.cons (.t rfl) (.ren rfl) (.cons (.t rfl) (.ren rfl) (.nil))) rfl)<| .cons (.geq (l1 rfl) (.t rfl) (.const _ _ _))<| .cons (.assign (l1 rfl) (.t rfl))<| .nil _ _ _) ?_
 refine AWP.ret ?_
 obtain rfl := Option.some.inj h
 refine retJ (Res.vc (s' := ⟨[(4,bW (decide ((0 : Int) ≤ y_1)))],[]⟩) (VC.sub (.of rfl) (.n _)) ?_)
 refine Res.drop (H := []) rfl ?_
 exact Res.of rfl (.cons (.tmp rfl) (.nil)) rfl rfl
theorem c62 {β1 : Bool} {β2 : Bool} (n : Nat) (a0 : R40) {r : Bool} (h : m62 n a0 = some r) : Spec Tryz.prog 62 [] [.agg (tW encK40 β1 β2 a0.Sp a0.Kd a0.Lf)] [] (bW r) [] := by
 refine Spec.of (fn := Tryz.f62) Tryz.func62 Tryz.ntmps62 rfl rfl (le1 rfl) (fun w0 Zs Zb T0 ι0 => ?_)
 unfold m62 at h
 refine AWP.seq ?_
 refine AWP.rg (.cons (.box (t := 1) (n := 3) (l1 rfl) (nm rfl) (.t rfl) (by first | exact ⟨rfl,rfl⟩ | rfl) rfl)<| .cons (.assign (l1 rfl) (.const _ _ _))<| .nil _ _ _) ?_
 refine AWP.vs ⟨[(1,.ptr 1 0)],[(1,⟨41,false,(tW encK40 β1 β2 a0.Sp a0.Kd a0.Lf)⟩)]⟩ rfl rfl ?_
 refine AWP.seq ?_
 refine AWP.seq ?_
 refine AWP.rg (.cons (.fieldP (l1 rfl) (.t rfl) fld41_1)<| .cons (.loadP (l1 rfl) (.t rfl) one39 rfl rfl rfl)<| .cons (.lenRd (l1 rfl) (.t rfl) Tryz.underlying39)<| .cons (.gtr (l1 rfl) (.t rfl) (.const _ _ _))<| .nil _ _ _) ?_
 refine AWP.vs ⟨[(1,.ptr 1 0),(6,bW (decide ((0 : Int) < (a0.Kd.length : Int))))],[(1,⟨41,false,(tW encK40 β1 β2 a0.Sp a0.Kd a0.Lf)⟩)]⟩ rfl rfl ?_
 refine AWP.cond (.t rfl) (fun hc => ?_) (fun hc => ?_)
 ·have h := iteT hc h
  refine AWP.seq ?_
  obtain ⟨y_1,hy_1,h⟩ := bindS h
  refine AWP.rg (.cons (.fieldP (l1 rfl) (.t rfl) fld41_2)<| .cons (.loadP (l1 rfl) (.t rfl) one23 rfl rfl rfl)<| .cons (.lenRd (l1 rfl) (.t rfl) Tryz.underlying23)<| .cons (.eql (l1 rfl) (.t rfl) (.const _ _ _))<| .cons (.move (l1 rfl) (.t rfl))<| .guard (j := 4) (dj := 11) rfl (l1 rfl) rfl (l1 rfl) (fun hg => .fieldP (l1 rfl) (.t rfl) fld41_1)<| .guard (j := 4) (dj := 11) rfl (l1 rfl) rfl (l1 rfl) (fun hg => .loadP (l1 rfl) (.gd hg (.t rfl)) one39 rfl rfl rfl)<| .guard (j := 4) (dj := 11) rfl (l1 rfl) rfl (l1 rfl) (fun hg => .lenRd (l1 rfl) (.gd hg (.t rfl)) Tryz.underlying39)<| .guard (j := 4) (dj := 11) rfl (l1 rfl) rfl (l1 rfl) (fun hg => .leq (l1 rfl) (.gd hg (.t rfl)) (.const _ _ _))<| .cons (.pickAnd (l1 rfl) (.t rfl) (.t rfl) (.const _ _ _))<| .cons (.move (l1 rfl) (.t rfl))<| .guard (j := 10) (dj := 17) rfl (l1 rfl) rfl (l1 rfl) (fun hg => .fieldP (l1 rfl) (.t rfl) fld41_0)<| .guard (j := 10) (dj := 17) rfl (l1 rfl) rfl (l1 rfl) (fun hg => .loadP (l1 rfl) (.gd hg (.t rfl)) one3 rfl rfl rfl)<| .guard (j := 10) (dj := 17) rfl (l1 rfl) rfl (l1 rfl) (fun hg => .call0 (bw := false) (l1 rfl) (c63 n a0.Sp (gdB hy_1 hg)) (.cons (.gd hg (.t rfl)) (.ren rfl) (.nil)) rfl)<| .cons (.pickAnd (l1 rfl) (.t rfl) (.t rfl) (.const _ _ _))<| .cons (.assign (l1 rfl) (.t rfl))<| .nil _ _ _) ?_
  refine AWP.ret ?_
  obtain rfl := Option.some.inj h
  refine retJ (Res.vc (s' := ⟨[(2,bW (((decide ((a0.Lf.length : Int) = (0 : Int))) && (decide ((a0.Kd.length : Int) ≤ (100 : Int)))) && y_1))],[]⟩) (VC.sub (.of rfl) (.n _)) ?_)
  refine Res.drop (H := []) rfl ?_
  exact Res.of rfl (.cons (.tmp rfl) (.nil)) rfl rfl
 ·have h := iteF hc h
  refine AWP.skip ?_
  refine AWP.seq ?_
  obtain ⟨y_2,hy_2,h⟩ := bindS h
  refine AWP.rg (.cons (.fieldP (l1 rfl) (.t rfl) fld41_0)<| .cons (.loadP (l1 rfl) (.t rfl) one3 rfl rfl rfl)<| .cons (.eql (l1 rfl) (.t rfl) (.const _ _ _))<| .cons (.move (l1 rfl) (.t rfl))<| .guard (j := 3) (dj := 25) rfl (l1 rfl) rfl (l1 rfl) (fun hg => .fieldP (l1 rfl) (.t rfl) fld41_2)<| .guard (j := 3) (dj := 25) rfl (l1 rfl) rfl (l1 rfl) (fun hg => .loadP (l1 rfl) (.gd hg (.t rfl)) one23 rfl rfl rfl)<| .guard (j := 3) (dj := 25) rfl (l1 rfl) rfl (l1 rfl) (fun hg => .lenRd (l1 rfl) (.gd hg (.t rfl)) Tryz.underlying23)<| .guard (j := 3) (dj := 25) rfl (l1 rfl) rfl (l1 rfl) (fun hg => .leq (l1 rfl) (.gd hg (.t rfl)) (.const _ _ _))<| .cons (.pickAnd (l1 rfl) (.t rfl) (.t rfl) (.const _ _ _))<| .cons (.move (l1 rfl) (.t rfl))<| .guard (j := 9) (dj := 31) rfl (l1 rfl) rfl (l1 rfl) (fun hg => .fieldP (l1 rfl) (.t rfl) fld41_2)<| .guard (j := 9) (dj := 31) rfl (l1 rfl) rfl (l1 rfl) (fun hg => .loadP (l1 rfl) (.gd hg (.t rfl)) one23 rfl rfl rfl)<| .guard (j := 9) (dj := 31) rfl (l1 rfl) rfl (l1 rfl) (fun hg => .call0 (bw := false) (l1 rfl) (c71 (β1 := β2) n a0.Lf (gdB hy_2 hg)) (.cons (.gd hg (.t rfl)) (.ren rfl) (.cons (.func _ _ _) (.ren rfl) (.nil))) rfl)<| .guard (j := 9) (dj := 31) rfl (l1 rfl) rfl (l1 rfl) (fun hg => .not (l1 rfl) (.gd hg (.t rfl)))<| .cons (.pickAnd (l1 rfl) (.t rfl) (.t rfl) (.const _ _ _))<| .cons (.assign (l1 rfl) (.t rfl))<| .nil _ _ _) ?_
  refine AWP.ret ?_
  obtain rfl := Option.some.inj h
  refine retJ (Res.vc (s' := ⟨[(2,bW (((decide (a0.Sp = (0 : Int))) && (decide ((a0.Lf.length : Int) ≤ (40 : Int)))) && (!y_2)))],[]⟩) (VC.sub (.of rfl) (.n _)) ?_)
  refine Res.drop (H := []) rfl ?_
  exact Res.of rfl (.cons (.tmp rfl) (.nil)) rfl rfl
theorem c66 {β1 : Bool} {β2 : Bool} {rc_0 : R40 → Option Bool} (ih : ∀ {β1 : Bool} {β2 : Bool} (a0 : R40) {r : Bool},rc_0 a0 = some r → Spec Tryz.prog 45 [] [.agg (tW encK40 β1 β2 a0.Sp a0.Kd a0.Lf)] [] (bW r) []) (n : Nat) (a0 : R40) {r : Bool} (h : m66 n rc_0 a0 = some r) : Spec Tryz.prog 66 [] [.agg (tW encK40 β1 β2 a0.Sp a0.Kd a0.Lf)] [] (bW r) [] := by
 refine Spec.of (fn := Tryz.f66) Tryz.func66 Tryz.ntmps66 rfl rfl (le1 rfl) (fun w0 Zs Zb T0 ι0 => ?_)
 unfold m66 at h
 refine AWP.seq ?_
 refine AWP.rg (.cons (.box (t := 1) (n := 3) (l1 rfl) (nm rfl) (.t rfl) (by first | exact ⟨rfl,rfl⟩ | rfl) rfl)<| .cons (.assign (l1 rfl) (.const _ _ _))<| .nil _ _ _) ?_
 refine AWP.vs ⟨[(1,.ptr 1 0)],[(1,⟨41,false,(tW encK40 β1 β2 a0.Sp a0.Kd a0.Lf)⟩)]⟩ rfl rfl ?_
 refine AWP.seq ?_
 obtain ⟨y_1,hy_1,h⟩ := bindS h
 refine AWP.rg (.cons (.loadPA (l1 rfl) (.t rfl) agg41 rfl rfl rfl rfl)<| .cons (.call0 (bw := false) (l1 rfl) (ih (β1 := β1) (β2 := β2) (R40.mk a0.Sp a0.Kd a0.Lf) hy_1) (.cons (.t rfl) (.ren rfl) (.nil)) rfl)<| .cons (.not (l1 rfl) (.t rfl))<| .cons (.assign (l1 rfl) (.t rfl))<| .nil _ _ _) ?_
 refine AWP.ret ?_
 obtain rfl := Option.some.inj h
 refine retJ (Res.vc (s' := ⟨[(2,bW (!y_1))],[]⟩) (VC.sub (.of rfl) (.n _)) ?_)
 refine Res.drop (H := []) rfl ?_
 exact Res.of rfl (.cons (.tmp rfl) (.nil)) rfl rfl
theorem c75x1 {β1 : Bool} {rc_0 : R40 → Option Bool} (ih : ∀ {β1 : Bool} {β2 : Bool} (a0 : R40) {r : Bool},rc_0 a0 = some r → Spec Tryz.prog 45 [] [.agg (tW encK40 β1 β2 a0.Sp a0.Kd a0.Lf)] [] (bW r) []) (n : Nat) (a0 : (List K40)) {r : Int} (h : m75x1 n rc_0 a0 = some r) : Spec Tryz.prog 75 [] [rW β1 a0 encK40,.clo (.func 66) [] []] [] (iW r) [] := by
 refine Spec.of (fn := Tryz.f75) Tryz.func75 Tryz.ntmps75 rfl rfl (le1 rfl) (fun w0 Zs Zb T0 ι0 => ?_)
 unfold m75x1 at h
 refine AWP.seq ?_
 refine AWP.rg (.cons (.assign (l1 rfl) (.const _ _ _))<| .nil _ _ _) ?_
 refine AWP.vs ⟨[(0,rW β1 a0 encK40),(1,.clo (.func 66) [] [])],[]⟩ rfl rfl ?_
 refine AWP.seq ?_
 refine AWP.seq ?_
 refine AWP.rg (.cons (.move (l1 rfl) (.t rfl))<| .cons (.lenRd (l1 rfl) (.t rfl) Tryz.underlying39)<| .cons (.move (l1 rfl) (.const _ _ _))<| .nil _ _ _) ?_
 refine AWP.vs ⟨[(0,rW β1 a0 encK40),(1,.clo (.func 66) [] []),(7,iW (a0.length : Int)),(8,iW (0 : Int))],[]⟩ rfl rfl ?_
 refine AWP.joinB' (S := fun p_14 : Unit => ⟨[],[]⟩) h (fun p_14 h => ?_) (fun k_15 h => ?_)
 ·refine AWP.seq ?_
  refine AWP.rg (.cons (.assign (l1 rfl) (.const _ _ _))<| .nil _ _ _) ?_
  refine AWP.ret ?_
  obtain rfl := Option.some.inj h
  refine retJ (Res.vc (s' := ⟨[(4,iW (-1 : Int))],[]⟩) (VC.sub (.of rfl) (.n _)) ?_)
  refine Res.drop (H := []) rfl ?_
  exact Res.of rfl (.cons (.tmp rfl) (.nil)) rfl rfl
 ·refine AWP.vs ⟨[(0,rW β1 a0 encK40),(1,.clo (.func 66) [] []),(7,iW (a0.length : Int)),(8,iW (0 : Int))],[]⟩ rfl rfl ?_
  refine AWP.loopM (S := fun x_9 : Int => ⟨[(0,rW β1 a0 encK40),(1,.clo (.func 66) [] []),(7,iW (a0.length : Int)),(8,iW x_9)],[]⟩) (x := (0 : Int)) (fun nx_10 x_9 h => ?_) h
  unfold m75x1_L1 at h
  refine AWP.seq ?_
  refine AWP.rg (.cons (.lss (l1 rfl) (.t rfl) (.t rfl))<| .nil _ _ _) ?_
  refine AWP.vs ⟨[(0,rW β1 a0 encK40),(1,.clo (.func 66) [] []),(7,iW (a0.length : Int)),(8,iW x_9),(9,bW (decide (x_9 < (a0.length : Int))))],[]⟩ rfl rfl ?_
  refine AWP.seq ?_
  refine AWP.cond (.t rfl) (fun hc => ?_) (fun hc => ?_)
  ·have h := iteT hc h
   refine AWP.skip ?_
   refine AWP.seq ?_
   refine AWP.block ?_
   refine AWP.seq ?_
   refine AWP.rg (.cons (.move (l1 rfl) (.t rfl))<| .cons (.assign (l1 rfl) (.t rfl))<| .nil _ _ _) ?_
   refine AWP.vs ⟨[(0,rW β1 a0 encK40),(1,.clo (.func 66) [] []),(7,iW (a0.length : Int)),(8,iW x_9),(5,iW x_9)],[]⟩ rfl rfl ?_
   refine AWP.seq ?_
   obtain ⟨y_11,hy_11,h⟩ := bindS h
   obtain ⟨y_12,hy_12,h⟩ := bindS h
   refine AWP.rg (.cons (.move (l1 rfl) (.t rfl))<| .cons (.move (l1 rfl) (.t rfl))<| .cons (.move (l1 rfl) (.t rfl))<| .cons (.indexRdC (enc := encK40) (l1 rfl) (.t rfl) (.t rfl) Tryz.underlying39 sz41 encK40_len rfl hy_11 (encK40_out _))<| .cons (.loadRA (out := (tW encK40 β1 β1 y_11.out.Sp y_11.out.Kd y_11.out.Lf)) (l1 rfl) (.t rfl) agg41 (le1 rfl) rfl)<| .cons (.keep (bw := false) (AStep.callV (us' := []) (avs := [.agg [iW ((R40.mk y_11.out.Sp y_11.out.Kd y_11.out.Lf).Sp),rW β1 ((R40.mk y_11.out.Sp y_11.out.Kd y_11.out.Lf).Kd) encK40,rW β1 ((R40.mk y_11.out.Sp y_11.out.Kd y_11.out.Lf).Lf) eW]]) (cs' := []) (σ := sgT []) (bw := false) (l1 rfl) (.t rfl) (c66 (β1 := β1) (β2 := β1) ih n (R40.mk y_11.out.Sp y_11.out.Kd y_11.out.Lf) hy_12) (.nil) (.cons (.t rfl) (.ren rfl) (.nil)) (.nil) (CallOk.mk' (.n) rfl) (fun _ h => by cases h)) (CallOk.mk' (.n) rfl) rfl rfl)<| .nil _ _ _) ?_
   refine AWP.vs ⟨[(0,rW β1 a0 encK40),(1,.clo (.func 66) [] []),(7,iW (a0.length : Int)),(8,iW x_9),(5,iW x_9),(16,bW y_12)],[]⟩ rfl rfl ?_
   refine AWP.cond (.t rfl) (fun hc => ?_) (fun hc => ?_)
   ·have h := iteT hc h
    refine AWP.seq ?_
    refine AWP.rg (.cons (.move (l1 rfl) (.t rfl))<| .cons (.assign (l1 rfl) (.t rfl))<| .nil _ _ _) ?_
    refine AWP.ret ?_
    obtain rfl := Option.some.inj h
    refine retJ (Res.vc (s' := ⟨[(4,iW x_9)],[]⟩) (VC.sub (.of rfl) (.n _)) ?_)
    refine Res.drop (H := []) rfl ?_
    exact Res.of rfl (.cons (.tmp rfl) (.nil)) rfl rfl
   ·have h := iteF hc h
    refine AWP.skip ?_
    obtain ⟨t8_13,ht8_13,h⟩ := letS h
    refine AWP.rg (.cons (.add (l1 rfl) (.t rfl) (.const _ _ _))<| .cons (.move (l1 rfl) (.t rfl))<| .nil _ _ _) ?_
    exact endJ t8_13 h (by subst ht8_13; exact VC.sub (.of rfl) (.n _))
  ·have h := iteF hc h
   refine AWP.exit ?_
   exact endJ () h (VC.sub (.n _) (.n _))
theorem c65x1 {β1 : Bool} {rc_0 : R40 → Option Bool} (ih : ∀ {β1 : Bool} {β2 : Bool} (a0 : R40) {r : Bool},rc_0 a0 = some r → Spec Tryz.prog 45 [] [.agg (tW encK40 β1 β2 a0.Sp a0.Kd a0.Lf)] [] (bW r) []) (n : Nat) (a0 : (List K40)) {r : Bool} (h : m65x1 n rc_0 a0 = some r) : Spec Tryz.prog 65 [] [rW β1 a0 encK40,.clo (.func 66) [] []] [] (bW r) [] := by
 refine Spec.of (fn := Tryz.f65) Tryz.func65 Tryz.ntmps65 rfl rfl (le1 rfl) (fun w0 Zs Zb T0 ι0 => ?_)
 unfold m65x1 at h
 refine AWP.seq ?_
 refine AWP.rg (.cons (.assign (l1 rfl) (.const _ _ _))<| .nil _ _ _) ?_
 refine AWP.vs ⟨[(0,rW β1 a0 encK40),(1,.clo (.func 66) [] [])],[]⟩ rfl rfl ?_
 refine AWP.seq ?_
 obtain ⟨y_1,hy_1,h⟩ := bindS h
 refine AWP.rg (.cons (.move (l1 rfl) (.t rfl))<| .cons (.move (l1 rfl) (.t rfl))<| .cons (.call0 (bw := false) (l1 rfl) (c75x1 (β1 := β1) ih n a0 hy_1) (.cons (.t rfl) (.ren rfl) (.cons (.t rfl) (.ren rfl) (.nil))) rfl)<| .cons (.geq (l1 rfl) (.t rfl) (.const _ _ _))<| .cons (.assign (l1 rfl) (.t rfl))<| .nil _ _ _) ?_
 refine AWP.ret ?_
 obtain rfl := Option.some.inj h
 refine retJ (Res.vc (s' := ⟨[(4,bW (decide ((0 : Int) ≤ y_1)))],[]⟩) (VC.sub (.of rfl) (.n _)) ?_)
 refine Res.drop (H := []) rfl ?_
 exact Res.of rfl (.cons (.tmp rfl) (.nil)) rfl rfl
theorem c45F (n : Nat) : ∀ (f : Nat) {β1 : Bool} {β2 : Bool} (a0 : R40) {r : Bool},m45F n f a0 = some r → Spec Tryz.prog 45 [] [.agg (tW encK40 β1 β2 a0.Sp a0.Kd a0.Lf)] [] (bW r) [] := by
 intro f
 induction f with
 | zero =>
  intro β1 β2 a0 r h
  cases (show (none : Option Bool) = some r from h)
 | succ f ih =>
 intro β1 β2 a0 r h
 replace h : m45B n (m45F n f) a0 = some r := h
 generalize m45F n f = rc_0 at h ih
 refine Spec.of (fn := Tryz.f45) Tryz.func45 Tryz.ntmps45 rfl rfl (le1 rfl) (fun w0 Zs Zb T0 ι0 => ?_)
 unfold m45B at h
 refine AWP.seq ?_
 refine AWP.rg (.cons (.box (t := 1) (n := 3) (l1 rfl) (nm rfl) (.t rfl) (by first | exact ⟨rfl,rfl⟩ | rfl) rfl)<| .cons (.assign (l1 rfl) (.const _ _ _))<| .nil _ _ _) ?_
 refine AWP.vs ⟨[(1,.ptr 1 0)],[(1,⟨41,false,(tW encK40 β1 β2 a0.Sp a0.Kd a0.Lf)⟩)]⟩ rfl rfl ?_
 refine AWP.seq ?_
 obtain ⟨y_1,hy_1,h⟩ := bindS h
 obtain ⟨y_2,hy_2,h⟩ := bindS h
 refine AWP.rg (.cons (.loadPA (l1 rfl) (.t rfl) agg41 rfl rfl rfl rfl)<| .cons (.call0 (bw := false) (l1 rfl) (c62 (β1 := β1) (β2 := β2) n (R40.mk a0.Sp a0.Kd a0.Lf) hy_1) (.cons (.t rfl) (.ren rfl) (.nil)) rfl)<| .cons (.move (l1 rfl) (.t rfl))<| .guard (j := 2) (dj := 5) rfl (l1 rfl) rfl (l1 rfl) (fun hg => .fieldP (l1 rfl) (.t rfl) fld41_1)<| .guard (j := 2) (dj := 5) rfl (l1 rfl) rfl (l1 rfl) (fun hg => .loadP (l1 rfl) (.gd hg (.t rfl)) one39 rfl rfl rfl)<| .guard (j := 2) (dj := 5) rfl (l1 rfl) rfl (l1 rfl) (fun hg => .call0 (bw := false) (l1 rfl) (c65x1 (β1 := β1) ih n a0.Kd (gdB hy_2 hg)) (.cons (.gd hg (.t rfl)) (.ren rfl) (.cons (.func _ _ _) (.ren rfl) (.nil))) rfl)<| .guard (j := 2) (dj := 5) rfl (l1 rfl) rfl (l1 rfl) (fun hg => .not (l1 rfl) (.gd hg (.t rfl)))<| .cons (.pickAnd (l1 rfl) (.t rfl) (.t rfl) (.const _ _ _))<| .cons (.assign (l1 rfl) (.t rfl))<| .nil _ _ _) ?_
 refine AWP.ret ?_
 obtain rfl := Option.some.inj h
 refine retJ (Res.vc (s' := ⟨[(2,bW (y_1 && (!y_2)))],[]⟩) (VC.sub (.of rfl) (.n _)) ?_)
 refine Res.drop (H := []) rfl ?_
 exact Res.of rfl (.cons (.tmp rfl) (.nil)) rfl rfl
theorem c45 (n : Nat) {β1 : Bool} {β2 : Bool} (a0 : R40) {r : Bool} (h : m45 n a0 = some r) : Spec Tryz.prog 45 [] [.agg (tW encK40 β1 β2 a0.Sp a0.Kd a0.Lf)] [] (bW r) [] := c45F n n a0 h
theorem c22 {β1 : Bool} {β2 : Bool} (n : Nat) (a0 : R40) {r : Bool} (h : m22 n a0 = some r) : Spec Tryz.prog 22 [] [.agg (tW encK40 β1 β2 a0.Sp a0.Kd a0.Lf)] [] (bW r) [] := by
 refine Spec.of (fn := Tryz.f22) Tryz.func22 Tryz.ntmps22 rfl rfl (le1 rfl) (fun w0 Zs Zb T0 ι0 => ?_)
 unfold m22 at h
 refine AWP.seq ?_
 refine AWP.rg (.cons (.box (t := 1) (n := 3) (l1 rfl) (nm rfl) (.t rfl) (by first | exact ⟨rfl,rfl⟩ | rfl) rfl)<| .cons (.assign (l1 rfl) (.const _ _ _))<| .nil _ _ _) ?_
 refine AWP.vs ⟨[(1,.ptr 1 0)],[(1,⟨41,false,(tW encK40 β1 β2 a0.Sp a0.Kd a0.Lf)⟩)]⟩ rfl rfl ?_
 refine AWP.seq ?_
 obtain ⟨y_1,hy_1,h⟩ := bindS h
 obtain ⟨y_2,hy_2,h⟩ := bindS h
 obtain ⟨y_3,hy_3,h⟩ := bindS h
 refine AWP.rg (.cons (.loadPA (l1 rfl) (.t rfl) agg41 rfl rfl rfl rfl)<| .cons (.call0 (bw := false) (l1 rfl) (c43 (β1 := β1) (β2 := β2) n (R40.mk a0.Sp a0.Kd a0.Lf) hy_1) (.cons (.t rfl) (.ren rfl) (.nil)) rfl)<| .cons (.leq (l1 rfl) (.t rfl) (.const _ _ _))<| .cons (.move (l1 rfl) (.t rfl))<| .guard (j := 3) (dj := 6) rfl (l1 rfl) rfl (l1 rfl) (fun hg => .loadPA (l1 rfl) (.t rfl) agg41 rfl rfl rfl rfl)<| .guard (j := 3) (dj := 6) rfl (l1 rfl) rfl (l1 rfl) (fun hg => .call0 (bw := false) (l1 rfl) (c44 (β1 := β1) (β2 := β2) n (R40.mk a0.Sp a0.Kd a0.Lf) (gdB hy_2 hg)) (.cons (.gd hg (.t rfl)) (.ren rfl) (.nil)) rfl)<| .guard (j := 3) (dj := 6) rfl (l1 rfl) rfl (l1 rfl) (fun hg => .leq (l1 rfl) (.gd hg (.t rfl)) (.const _ _ _))<| .cons (.pickAnd (l1 rfl) (.t rfl) (.t rfl) (.const _ _ _))<| .cons (.move (l1 rfl) (.t rfl))<| .guard (j := 8) (dj := 11) rfl (l1 rfl) rfl (l1 rfl) (fun hg => .loadPA (l1 rfl) (.t rfl) agg41 rfl rfl rfl rfl)<| .guard (j := 8) (dj := 11) rfl (l1 rfl) rfl (l1 rfl) (fun hg => .call0 (bw := false) (l1 rfl) (c45 (β1 := β1) (β2 := β2) n (R40.mk a0.Sp a0.Kd a0.Lf) (gdB hy_3 hg)) (.cons (.gd hg (.t rfl)) (.ren rfl) (.nil)) rfl)<| .cons (.pickAnd (l1 rfl) (.t rfl) (.t rfl) (.const _ _ _))<| .cons (.assign (l1 rfl) (.t rfl))<| .nil _ _ _) ?_
 refine AWP.ret ?_
 obtain rfl := Option.some.inj h
 refine retJ (Res.vc (s' := ⟨[(2,bW (((decide (y_1 ≤ (2000 : Int))) && (decide (y_2 ≤ (40 : Int)))) && y_3))],[]⟩) (VC.sub (.of rfl) (.n _)) ?_)
 refine Res.drop (H := []) rfl ?_
 exact Res.of rfl (.cons (.tmp rfl) (.nil)) rfl rfl
theorem c100 (n : Nat) (a0 : Int) {r : Int} (h : m100 n a0 = some r) : Spec Tryz.prog 100 [] [.sc (.int .u64 a0)] [] (iW r) [] := by
 refine Spec.of (fn := Tryz.f100) Tryz.func100 Tryz.ntmps100 rfl rfl (le1 rfl) (fun w0 Zs Zb T0 ι0 => ?_)
 unfold m100 at h
 refine AWP.seq ?_
 refine AWP.rg (.cons (.assign (l1 rfl) (.const _ _ _))<| .nil _ _ _) ?_
 refine AWP.vs ⟨[(0,.sc (.int .u64 a0)),(2,iW (0 : Int))],[]⟩ rfl rfl ?_
 refine AWP.seq ?_
 refine AWP.seq ?_
 refine AWP.rg (.cons (.move (l1 rfl) (.t rfl))<| .cons (.geq (l1 rfl) (.t rfl) (.const _ _ _))<| .nil _ _ _) ?_
 refine AWP.vs ⟨[(0,.sc (.int .u64 a0)),(2,iW (0 : Int)),(4,bW (decide ((4294967296 : Int) ≤ a0)))],[]⟩ rfl rfl ?_
 refine AWP.join' (S := fun p_1 : Int × Int => ⟨[(0,.sc (.int .u64 p_1.1)),(2,iW p_1.2)],[]⟩) h (fun p_1 h => ?_) (fun k_2 h => ?_)
 ·refine AWP.seq ?_
  refine AWP.seq ?_
  refine AWP.rg (.cons (.move (l1 rfl) (.t rfl))<| .cons (.geq (l1 rfl) (.t rfl) (.const _ _ _))<| .nil _ _ _) ?_
  refine AWP.vs ⟨[(0,.sc (.int .u64 p_1.1)),(2,iW p_1.2),(8,bW (decide ((65536 : Int) ≤ p_1.1)))],[]⟩ rfl rfl ?_
  refine AWP.join' (S := fun p_4 : Int × Int => ⟨[(0,.sc (.int .u64 p_4.1)),(2,iW p_4.2)],[]⟩) h (fun p_4 h => ?_) (fun k_5 h => ?_)
  ·refine AWP.seq ?_
   refine AWP.seq ?_
   refine AWP.rg (.cons (.move (l1 rfl) (.t rfl))<| .cons (.geq (l1 rfl) (.t rfl) (.const _ _ _))<| .nil _ _ _) ?_
   refine AWP.vs ⟨[(0,.sc (.int .u64 p_4.1)),(2,iW p_4.2),(14,bW (decide ((256 : Int) ≤ p_4.1)))],[]⟩ rfl rfl ?_
   refine AWP.join' (S := fun p_7 : Int × Int => ⟨[(0,.sc (.int .u64 p_7.1)),(2,iW p_7.2)],[]⟩) h (fun p_7 h => ?_) (fun k_8 h => ?_)
   ·refine AWP.seq ?_
    obtain ⟨c_9,hc_9,h⟩ := bindS h
    obtain ⟨t2_10,ht2_10,h⟩ := letS h
    refine AWP.rg (.cons (.move (l1 rfl) (.t rfl))<| .cons (.move (l1 rfl) (.t rfl))<| .cons (.conv (l1 rfl) (.t rfl) Tryz.underlying141 Tryz.underlying5)<| .cons (.indexS (l1 rfl) (.const _ _ _) (.t rfl) Tryz.underlying9 hc_9)<| .cons (.conv (l1 rfl) (.t rfl) Tryz.underlying5 Tryz.underlying3)<| .cons (.add (l1 rfl) (.t rfl) (.t rfl))<| .cons (.assign (l1 rfl) (.t rfl))<| .nil _ _ _) ?_
    refine AWP.ret ?_
    obtain rfl := Option.some.inj h
    refine retJ (Res.vc (s' := ⟨[(2,iW t2_10)],[]⟩) (by subst ht2_10; exact VC.sub (.of rfl) (.n _)) ?_)
    refine Res.drop (H := []) rfl ?_
    exact Res.of rfl (.cons (.tmp rfl) (.nil)) rfl rfl
   ·refine AWP.cond (.t rfl) (fun hc => ?_) (fun hc => ?_)
    ·have h := iteT hc h
     refine AWP.seq ?_
     refine AWP.rg (.cons (.move (l1 rfl) (.t rfl))<| .cons (.shr (l1 rfl) (.t rfl) (.const _ _ _) (by decide))<| .cons (.assign (l1 rfl) (.t rfl))<| .nil _ _ _) ?_
     refine AWP.vs ⟨[(0,.sc (.int .u64 (shrI .u64 p_4.1 (8 : Int)))),(2,iW p_4.2)],[]⟩ rfl rfl ?_
     obtain ⟨t2_6,ht2_6,h⟩ := letS h
     refine AWP.rg (.cons (.move (l1 rfl) (.t rfl))<| .cons (.add (l1 rfl) (.t rfl) (.const _ _ _))<| .cons (.assign (l1 rfl) (.t rfl))<| .nil _ _ _) ?_
     exact endJ ((shrI .u64 p_4.1 (8 : Int)),t2_6) h (by subst ht2_6; exact VC.sub (.of rfl) (.n _))
    ·have h := iteF hc h
     refine AWP.skip ?_
     exact endJ (p_4.1,p_4.2) h (VC.sub (.of rfl) (.n _))
  ·refine AWP.cond (.t rfl) (fun hc => ?_) (fun hc => ?_)
   ·have h := iteT hc h
    refine AWP.seq ?_
    refine AWP.rg (.cons (.move (l1 rfl) (.t rfl))<| .cons (.shr (l1 rfl) (.t rfl) (.const _ _ _) (by decide))<| .cons (.assign (l1 rfl) (.t rfl))<| .nil _ _ _) ?_
    refine AWP.vs ⟨[(0,.sc (.int .u64 (shrI .u64 p_1.1 (16 : Int)))),(2,iW p_1.2)],[]⟩ rfl rfl ?_
    obtain ⟨t2_3,ht2_3,h⟩ := letS h
    refine AWP.rg (.cons (.move (l1 rfl) (.t rfl))<| .cons (.add (l1 rfl) (.t rfl) (.const _ _ _))<| .cons (.assign (l1 rfl) (.t rfl))<| .nil _ _ _) ?_
    exact endJ ((shrI .u64 p_1.1 (16 : Int)),t2_3) h (by subst ht2_3; exact VC.sub (.of rfl) (.n _))
   ·have h := iteF hc h
    refine AWP.skip ?_
    exact endJ (p_1.1,p_1.2) h (VC.sub (.of rfl) (.n _))
 ·refine AWP.cond (.t rfl) (fun hc => ?_) (fun hc => ?_)
  ·have h := iteT hc h
   refine AWP.seq ?_
   refine AWP.rg (.cons (.move (l1 rfl) (.t rfl))<| .cons (.shr (l1 rfl) (.t rfl) (.const _ _ _) (by decide))<| .cons (.assign (l1 rfl) (.t rfl))<| .nil _ _ _) ?_
   refine AWP.vs ⟨[(0,.sc (.int .u64 (shrI .u64 a0 (32 : Int))))],[]⟩ rfl rfl ?_
   refine AWP.rg (.cons (.assign (l1 rfl) (.const _ _ _))<| .nil _ _ _) ?_
   exact endJ ((shrI .u64 a0 (32 : Int)),(32 : Int)) h (VC.sub (.of rfl) (.n _))
  ·have h := iteF hc h
   refine AWP.skip ?_
   exact endJ (a0,(0 : Int)) h (VC.sub (.of rfl) (.n _))
theorem c79 (n : Nat) (a0 : Int) {r : Int} (h : m79 n a0 = some r) : Spec Tryz.prog 79 [] [.sc (.int .u64 a0)] [] (iW r) [] := by
 refine Spec.of (fn := Tryz.f79) Tryz.func79 Tryz.ntmps79 rfl rfl (le1 rfl) (fun w0 Zs Zb T0 ι0 => ?_)
 unfold m79 at h
 refine AWP.seq ?_
 refine AWP.rg (.cons (.assign (l1 rfl) (.const _ _ _))<| .nil _ _ _) ?_
 refine AWP.vs ⟨[(0,.sc (.int .u64 a0))],[]⟩ rfl rfl ?_
 refine AWP.seq ?_
 refine AWP.cond (.const _ _ _) (fun hc => by cases hc) (fun _ => ?_)
 refine AWP.skip ?_
 refine AWP.seq ?_
 obtain ⟨y_1,hy_1,h⟩ := bindS h
 refine AWP.rg (.cons (.move (l1 rfl) (.t rfl))<| .cons (.call0 (bw := false) (l1 rfl) (c100 n a0 hy_1) (.cons (.t rfl) (.ren rfl) (.nil)) rfl)<| .cons (.assign (l1 rfl) (.t rfl))<| .nil _ _ _) ?_
 refine AWP.ret ?_
 obtain rfl := Option.some.inj h
 refine retJ (Res.vc (s' := ⟨[(2,iW y_1)],[]⟩) (VC.sub (.of rfl) (.n _)) ?_)
 refine Res.drop (H := []) rfl ?_
 exact Res.of rfl (.cons (.tmp rfl) (.nil)) rfl rfl
theorem c102 (n : Nat) (a0 : Int) {r : Bool} (h : m102 n a0 = some r) : Spec Tryz.prog 102 [] [iW a0] [] (bW r) [] := by
 refine Spec.of (fn := Tryz.f102) Tryz.func102 Tryz.ntmps102 rfl rfl (le1 rfl) (fun w0 Zs Zb T0 ι0 => ?_)
 unfold m102 at h
 refine AWP.seq ?_
 refine AWP.rg (.cons (.assign (l1 rfl) (.const _ _ _))<| .nil _ _ _) ?_
 refine AWP.vs ⟨[(0,iW a0)],[]⟩ rfl rfl ?_
 refine AWP.seq ?_
 refine AWP.rg (.cons (.move (l1 rfl) (.t rfl))<| .cons (.move (l1 rfl) (.t rfl))<| .cons (.neq (l1 rfl) (.t rfl) (.t rfl))<| .cons (.assign (l1 rfl) (.t rfl))<| .nil _ _ _) ?_
 refine AWP.ret ?_
 obtain rfl := Option.some.inj h
 refine retJ (Res.vc (s' := ⟨[(2,bW (!decide (a0 = a0)))],[]⟩) (VC.sub (.of rfl) (.n _)) ?_)
 refine Res.drop (H := []) rfl ?_
 exact Res.of rfl (.cons (.tmp rfl) (.nil)) rfl rfl
theorem c96 (n : Nat) (a0 : Int) (a1 : Int) {r : Bool} (h : m96 n a0 a1 = some r) : Spec Tryz.prog 96 [] [iW a0,iW a1] [] (bW r) [] := by
 refine Spec.of (fn := Tryz.f96) Tryz.func96 Tryz.ntmps96 rfl rfl (le1 rfl) (fun w0 Zs Zb T0 ι0 => ?_)
 unfold m96 at h
 refine AWP.seq ?_
 refine AWP.rg (.cons (.assign (l1 rfl) (.const _ _ _))<| .nil _ _ _) ?_
 refine AWP.vs ⟨[(0,iW a0),(1,iW a1)],[]⟩ rfl rfl ?_
 refine AWP.seq ?_
 obtain ⟨y_1,hy_1,h⟩ := bindS h
 obtain ⟨y_2,hy_2,h⟩ := bindS h
 refine AWP.rg (.cons (.move (l1 rfl) (.t rfl))<| .cons (.call0 (bw := false) (l1 rfl) (c102 n a0 hy_1) (.cons (.t rfl) (.ren rfl) (.nil)) rfl)<| .cons (.move (l1 rfl) (.t rfl))<| .guard (j := 2) (dj := 7) rfl (l1 rfl) rfl (l1 rfl) (fun hg => .move (l1 rfl) (.t rfl))<| .guard (j := 2) (dj := 7) rfl (l1 rfl) rfl (l1 rfl) (fun hg => .call0 (bw := false) (l1 rfl) (c102 n a1 (gdB hy_2 hg)) (.cons (.gd hg (.t rfl)) (.ren rfl) (.nil)) rfl)<| .guard (j := 2) (dj := 7) rfl (l1 rfl) rfl (l1 rfl) (fun hg => .not (l1 rfl) (.gd hg (.t rfl)))<| .cons (.pickAnd (l1 rfl) (.t rfl) (.t rfl) (.const _ _ _))<| .cons (.move (l1 rfl) (.t rfl))<| .guard (j := 7) (dj := 12) rfl (l1 rfl) rfl (l1 rfl) (fun hg => .move (l1 rfl) (.t rfl))<| .guard (j := 7) (dj := 12) rfl (l1 rfl) rfl (l1 rfl) (fun hg => .move (l1 rfl) (.t rfl))<| .guard (j := 7) (dj := 12) rfl (l1 rfl) rfl (l1 rfl) (fun hg => .lss (l1 rfl) (.gd hg (.t rfl)) (.gd hg (.t rfl)))<| .cons (.pickOr (l1 rfl) (.t rfl) (.const _ _ _) (.t rfl))<| .cons (.assign (l1 rfl) (.t rfl))<| .nil _ _ _) ?_
 refine AWP.ret ?_
 obtain rfl := Option.some.inj h
 refine retJ (Res.vc (s' := ⟨[(4,bW ((y_1 && (!y_2)) || (decide (a0 < a1))))],[]⟩) (VC.sub (.of rfl) (.n _)) ?_)
 refine Res.drop (H := []) rfl ?_
 exact Res.of rfl (.cons (.tmp rfl) (.nil)) rfl rfl
theorem c90 (n : Nat) (a0_b : (List Int)) (a1 : Int) (a2 : Int) {r : (List Int)} (h : m90 n a0_b a1 a2 = some r) : Spec Tryz.prog 90 [1] [.own 1 1 0 a0_b.length,iW a1,iW a2] [(1,⟨3,true,a0_b.flatMap eW⟩)] (.tup []) [(1,⟨3,true,r.flatMap eW⟩)] := by
 refine Spec.of (fn := Tryz.f90) Tryz.func90 Tryz.ntmps90 rfl rfl (le1 rfl) (fun w0 Zs Zb T0 ι0 => ?_)
 unfold m90 at h
 refine AWP.seq ?_
 obtain ⟨t6_1,ht6_1,h⟩ := letS h
 refine AWP.rg (.cons (.move (l1 rfl) (.t rfl))<| .cons (.add (l1 rfl) (.t rfl) (.const _ _ _))<| .cons (.assign (l1 rfl) (.t rfl))<| .nil _ _ _) ?_
 refine AWP.vc (s' := ⟨[(0,.own 1 1 0 a0_b.length),(1,iW a1),(2,iW a2),(6,iW t6_1)],[(1,⟨3,true,a0_b.flatMap eW⟩)]⟩) (by subst ht6_1; exact VC.sub (.of rfl) (.of rfl)) ?_
 refine AWP.joinB' (S := fun p_117 : (List Int) => ⟨[],[(1,⟨3,true,p_117.flatMap eW⟩)]⟩) h (fun p_117 h => ?_) (fun k_118 h => ?_)
 ·obtain rfl := Option.some.inj h
  refine norJ (Res.vc (s' := ⟨[],[(1,⟨3,true,p_117.flatMap eW⟩)]⟩) (VC.sub (.n _) (.of rfl)) ?_)
  refine Res.sub (H := [(1,⟨3,true,p_117.flatMap eW⟩)]) (.of rfl) ?_
  exact Res.of rfl (.nil) rfl rfl
 ·refine AWP.vs ⟨[(0,.own 1 1 0 a0_b.length),(1,iW a1),(2,iW a2),(6,iW t6_1)],[(1,⟨3,true,a0_b.flatMap eW⟩)]⟩ rfl rfl ?_
  refine AWP.loopM (S := fun x_78 : Int × (List Int) => ⟨[(0,.own 1 1 0 x_78.2.length),(1,iW a1),(2,iW a2),(6,iW x_78.1)],[(1,⟨3,true,x_78.2.flatMap eW⟩)]⟩) (x := (t6_1,a0_b)) (fun nx_79 x_78 h => ?_) h
  unfold m90_L3 at h
  refine AWP.seq ?_
  refine AWP.seq ?_
  refine AWP.rg (.cons (.move (l1 rfl) (.t rfl))<| .cons (.move (l1 rfl) (.t rfl))<| .cons (.lss (l1 rfl) (.t rfl) (.t rfl))<| .nil _ _ _) ?_
  refine AWP.vs ⟨[(0,.own 1 1 0 x_78.2.length),(1,iW a1),(2,iW a2),(6,iW x_78.1),(12,bW (decide (x_78.1 < a2)))],[(1,⟨3,true,x_78.2.flatMap eW⟩)]⟩ rfl rfl ?_
  refine AWP.cond (.t rfl) (fun hc => ?_) (fun hc => ?_)
  ·have h := iteT hc h
   refine AWP.skip ?_
   refine AWP.seq ?_
   refine AWP.block ?_
   refine AWP.seq ?_
   refine AWP.rg (.cons (.move (l1 rfl) (.t rfl))<| .cons (.assign (l1 rfl) (.t rfl))<| .nil _ _ _) ?_
   refine AWP.vs ⟨[(0,.own 1 1 0 x_78.2.length),(1,iW a1),(2,iW a2),(6,iW x_78.1),(7,iW x_78.1)],[(1,⟨3,true,x_78.2.flatMap eW⟩)]⟩ rfl rfl ?_
   refine AWP.joinB' (S := fun p_114 : (List Int) => ⟨[(0,.own 1 1 0 p_114.length),(1,iW a1),(2,iW a2),(6,iW x_78.1)],[(1,⟨3,true,p_114.flatMap eW⟩)]⟩) h (fun p_114 h => ?_) (fun k_115 h => ?_)
   ·obtain ⟨t6_116,ht6_116,h⟩ := letS h
    refine AWP.rg (.cons (.move (l1 rfl) (.t rfl))<| .cons (.add (l1 rfl) (.t rfl) (.const _ _ _))<| .cons (.assign (l1 rfl) (.t rfl))<| .nil _ _ _) ?_
    exact endJ (t6_116,p_114) h (by subst ht6_116; exact VC.sub (.of rfl) (.of rfl))
   ·refine AWP.vs ⟨[(0,.own 1 1 0 x_78.2.length),(1,iW a1),(2,iW a2),(6,iW x_78.1),(7,iW x_78.1)],[(1,⟨3,true,x_78.2.flatMap eW⟩)]⟩ rfl rfl ?_
    refine AWP.loopM (S := fun x_102 : Int × (List Int) => ⟨[(0,.own 1 1 0 x_102.2.length),(1,iW a1),(2,iW a2),(6,iW x_78.1),(7,iW x_102.1)],[(1,⟨3,true,x_102.2.flatMap eW⟩)]⟩) (x := (x_78.1,x_78.2)) (fun nx_103 x_102 h => ?_) h
    unfold m90_L4 at h
    refine AWP.seq ?_
    refine AWP.seq ?_
    obtain ⟨y_104,hy_104,h⟩ := bindS h
    obtain ⟨y_105,hy_105,h⟩ := bindS h
    obtain ⟨y_106,hy_106,h⟩ := bindS h
    refine AWP.dw mixed [(0,.own 1 1 0 x_102.2.length),(1,iW a1),(2,iW a2),(6,iW x_78.1),(7,iW x_102.1)] [] [dO [4] 16 (iW x_102.1),dO [1] 17 (iW a1),dO [5,6] 18 (bW (decide (a1 < x_102.1))),dO [7] 19 (bW (decide (a1 < x_102.1))),dO [8,0] 20 (.gd (decide (a1 < x_102.1)) (.own 1 1 0 x_102.2.length)),dO [8,4] 21 (.gd (decide (a1 < x_102.1)) (iW x_102.1)),dO [8,9,10] 22 (.gd (decide (a1 < x_102.1)) (.ptr 1 (0 + (x_102.1).toNat * 1))),dO [8,11] 23 (.gd (decide (a1 < x_102.1)) (iW y_104)),dO [8,0] 24 (.gd (decide (a1 < x_102.1)) (.own 1 1 0 x_102.2.length)),dO [8,4] 25 (.gd (decide (a1 < x_102.1)) (iW x_102.1)),dO [8,14] 26 (.gd (decide (a1 < x_102.1)) (iW (IntKind.wrap .i64 (x_102.1 - (1 : Int))))),dO [8,13,15] 27 (.gd (decide (a1 < x_102.1)) (.ptr 1 (0 + ((IntKind.wrap .i64 (x_102.1 - (1 : Int)))).toNat * 1))),dO [8,16] 28 (.gd (decide (a1 < x_102.1)) (iW y_105)),dO [8,12,17] 29 (.gd (decide (a1 < x_102.1)) (bW y_106)),dO [8,18] 30 (bW ((decide (a1 < x_102.1)) && y_106))] [] [[(1,⟨3,true,x_102.2.flatMap eW⟩)]] [[],[],[0,2],[0,3],[0,4],[0,4],[0,6],[0,7],[0,4],[0,4],[0,4,9,10],[0,4,8,11],[0,4,8,12],[0,13],[0,14]] [0,1,2,3,4,19] rfl rfl (by kernel_rfl) rfl (.p rfl (fun _ q _ => .move (l1 rfl) (q.t 0 rfl))<| .p rfl (fun _ q _ => .move (l1 rfl) (q.t 0 rfl))<| .p rfl (fun _ q _ => .gtr (l1 rfl) (q.t 0 rfl) (q.t 1 rfl))<| .p rfl (fun _ q _ => .move (l1 rfl) (q.t 0 rfl))<| .rt rfl rfl rfl rfl rfl rfl (fun hg _ q => .move (l1 rfl) (q.t 1 rfl))<| .gt rfl rfl rfl rfl rfl (fun hg _ q _ => .move (l1 rfl) (q.t 1 rfl))<| .rt rfl rfl rfl rfl rfl rfl (fun hg _ q => .idxOwn (l1 rfl) (.gd hg (q.t 1 rfl)) (.gd hg (q.t 2 rfl)) Tryz.underlying23 sz3 rfl (gdB hy_104 hg))<| .rt rfl rfl rfl rfl rfl rfl (fun hg _ q => .loadP (l1 rfl) (.gd hg (q.t 1 rfl)) one3 rfl (cell_at1 (encI_len .i64) (gdB hy_104 hg)) rfl)<| .rt rfl rfl rfl rfl rfl rfl (fun hg _ q => .move (l1 rfl) (q.t 1 rfl))<| .gt rfl rfl rfl rfl rfl (fun hg _ q _ => .move (l1 rfl) (q.t 1 rfl))<| .gt rfl rfl rfl rfl rfl (fun hg _ q _ => .sub (l1 rfl) (.gd hg (q.t 1 rfl)) (.const _ _ _))<| .rt rfl rfl rfl rfl rfl rfl (fun hg _ q => .idxOwn (l1 rfl) (.gd hg (q.t 1 rfl)) (.gd hg (q.t 2 rfl)) Tryz.underlying23 sz3 rfl (gdB hy_105 hg))<| .rt rfl rfl rfl rfl rfl rfl (fun hg _ q => .loadP (l1 rfl) (.gd hg (q.t 1 rfl)) one3 rfl (cell_at1 (encI_len .i64) (gdB hy_105 hg)) rfl)<| .gt rfl rfl rfl rfl rfl (fun hg _ q _ => .call0 (bw := false) (l1 rfl) (c96 n y_104 y_105 (gdB hy_106 hg)) (.cons (.gd hg (q.t 1 rfl)) (.ren rfl) (.cons (.gd hg (q.t 2 rfl)) (.ren rfl) (.nil))) rfl)<| .p rfl (fun _ q _ => .pickAnd (l1 rfl) (q.t 0 rfl) (q.t 1 rfl) (.const _ _ _))<| .nil _) rfl rfl ?_
    refine AWP.vs ⟨[(0,.own 1 1 0 x_102.2.length),(1,iW a1),(2,iW a2),(6,iW x_78.1),(7,iW x_102.1),(30,bW ((decide (a1 < x_102.1)) && y_106))],[(1,⟨3,true,x_102.2.flatMap eW⟩)]⟩ rfl rfl ?_
    refine AWP.cond (.t rfl) (fun hc => ?_) (fun hc => ?_)
    ·have h := iteT hc h
     refine AWP.skip ?_
     refine AWP.seq ?_
     refine AWP.block ?_
     obtain ⟨y_107,hy_107,h⟩ := bindS h
     obtain ⟨y_108,hy_108,h⟩ := bindS h
     obtain ⟨y_109,hy_109,h⟩ := bindS h
     obtain ⟨l1_110,hl1_110,h⟩ := bindS h
     obtain ⟨y_111,hy_111,h⟩ := bindS h
     obtain ⟨l1_112,hl1_112,h⟩ := bindS h
     refine AWP.dw mixed [(0,.own 1 1 0 x_102.2.length),(1,iW a1),(2,iW a2),(6,iW x_78.1),(7,iW x_102.1),(30,bW ((decide (a1 < x_102.1)) && y_106))] [] [dO [0] 33 (.own 1 1 0 x_102.2.length),⟨[4],0,2,some (34,iW x_102.1),[]⟩,⟨[0],0,1,some (35,.own 1 1 0 x_102.2.length),[]⟩,⟨[4],0,2,some (36,iW x_102.1),[]⟩,⟨[9],0,2,some (37,iW (IntKind.wrap .i64 (x_102.1 - (1 : Int)))),[]⟩,dO [0] 38 (.own 1 1 0 x_102.2.length),⟨[4],0,2,some (39,iW x_102.1),[]⟩,⟨[12],0,2,some (40,iW (IntKind.wrap .i64 (x_102.1 - (1 : Int)))),[]⟩,dO [11,13] 41 (.ptr 1 (0 + ((IntKind.wrap .i64 (x_102.1 - (1 : Int)))).toNat * 1)),dO [14] 42 (iW y_107),dO [0] 43 (.own 1 1 0 x_102.2.length),⟨[4],0,2,some (44,iW x_102.1),[]⟩,dO [16,17] 45 (.ptr 1 (0 + (x_102.1).toNat * 1)),dO [18] 46 (iW y_108),dO [6,7] 47 (.ptr 1 (0 + (x_102.1).toNat * 1)),⟨[20,15],0,0,none,[]⟩,⟨[8,10],1,1,some (48,.ptr 1 (0 + ((IntKind.wrap .i64 (x_102.1 - (1 : Int)))).toNat * 1)),[]⟩,⟨[21,19],1,1,none,[]⟩] [15,17] [[(1,⟨3,true,x_102.2.flatMap eW⟩)],[(1,⟨3,true,l1_110.flatMap eW⟩)],[(1,⟨3,true,l1_112.flatMap eW⟩)]] [[],[],[],[],[3,4],[],[],[6,7],[5,8],[5,9],[],[],[10,12],[10,13],[0,2,5,14],[0,2,5,15],[0,16],[0,17]] [0,1,2,3,4] rfl rfl (by kernel_rfl) rfl (.read rfl (.c (.put (fun E hE => .move (l1 rfl) (hE.t 0 rfl))) (.n))<| .p rfl (fun _ q _ => .move (l1 rfl) (q.t 0 rfl))<| .read rfl (.c (.put (fun E hE => .move (l1 rfl) (hE.t 0 rfl))) (.c (.put (fun E hE => .move (l1 rfl) (hE.t 0 rfl))) (.n)))<| .p rfl (fun _ q _ => .move (l1 rfl) (q.t 0 rfl))<| .p rfl (fun _ q _ => .sub (l1 rfl) (q.t 0 rfl) (.const _ _ _))<| .read rfl (.c (.put (fun E hE => .move (l1 rfl) (hE.t 0 rfl))) (.n))<| .p rfl (fun _ q _ => .move (l1 rfl) (q.t 0 rfl))<| .p rfl (fun _ q _ => .sub (l1 rfl) (q.t 0 rfl) (.const _ _ _))<| .read rfl (.c (.put (fun E hE => .idxOwn (l1 rfl) (hE.t 0 rfl) (hE.t 1 rfl) Tryz.underlying23 sz3 rfl hy_107)) (.n))<| .read rfl (.c (.put (fun E hE => .loadP (l1 rfl) (hE.t 0 rfl) one3 rfl (cell_at1 (encI_len .i64) hy_107) rfl)) (.n))<| .read rfl (.c (.put (fun E hE => .move (l1 rfl) (hE.t 0 rfl))) (.n))<| .p rfl (fun _ q _ => .move (l1 rfl) (q.t 0 rfl))<| .read rfl (.c (.put (fun E hE => .idxOwn (l1 rfl) (hE.t 0 rfl) (hE.t 1 rfl) Tryz.underlying23 sz3 rfl hy_108)) (.n))<| .read rfl (.c (.put (fun E hE => .loadP (l1 rfl) (hE.t 0 rfl) one3 rfl (cell_at1 (encI_len .i64) hy_108) rfl)) (.n))<| .read rfl (.c (.put (fun E hE => .idxOwn (l1 rfl) (hE.t 0 rfl) (hE.t 1 rfl) Tryz.underlying23 sz3 rfl hy_109)) (.n))<| .turn rfl rfl rfl rfl rfl (.store (fun E hE => .storeP (hE.t 0 rfl) (hE.t 1 rfl) sz3 rfl (lt_at1 (encI_len .i64) hy_109) rfl (fun _ => rfl) (set_at1 (encI_len .i64) hl1_110 rfl)) rfl)<| .read rfl (.c (.put (fun E hE => .idxOwn (l1 rfl) (.ownN (Eq.symm (setLen hl1_110)) (hE.t 0 rfl)) (hE.t 1 rfl) Tryz.underlying23 sz3 rfl hy_111)) (.n))<| .turn rfl rfl rfl rfl rfl (.store (fun E hE => .storeP (hE.t 0 rfl) (hE.t 1 rfl) sz3 rfl (lt_at1 (encI_len .i64) hy_111) rfl (fun _ => rfl) (set_at1 (encI_len .i64) hl1_112 rfl)) rfl)<| .nil _) rfl rfl ?_
     refine AWP.vc (s' := ⟨[(0,.own 1 1 0 l1_112.length),(1,iW a1),(2,iW a2),(6,iW x_78.1),(7,iW x_102.1)],[(1,⟨3,true,l1_112.flatMap eW⟩)]⟩) (VC.sub (.c (lenC (Eq.symm (Eq.trans (setLen hl1_112) (setLen hl1_110))) rfl)<| .c rfl<| .c rfl<| .c rfl<| .c rfl<| .n _) (.of rfl)) ?_
     obtain ⟨t7_113,ht7_113,h⟩ := letS h
     refine AWP.rg (.cons (.move (l1 rfl) (.t rfl))<| .cons (.sub (l1 rfl) (.t rfl) (.const _ _ _))<| .cons (.assign (l1 rfl) (.t rfl))<| .nil _ _ _) ?_
     exact endJ (t7_113,l1_112) h (by subst ht7_113; exact VC.sub (.of rfl) (.of rfl))
    ·have h := iteF hc h
     refine AWP.exit ?_
     exact endJ x_102.2 h (VC.sub (.of rfl) (.of rfl))
  ·have h := iteF hc h
   refine AWP.exit ?_
   exact endJ x_78.2 h (VC.sub (.n _) (.of rfl))
theorem c78 (n : Nat) (a0_b : (List Int)) (a1 : Int) (a2 : Int) (a3 : Int) {r : (List Int)} (h : m78 n a0_b a1 a2 a3 = some r) : Spec Tryz.prog 78 [1] [.own 1 1 0 a0_b.length,iW a1,iW a2,iW a3] [(1,⟨3,true,a0_b.flatMap eW⟩)] (.tup []) [(1,⟨3,true,r.flatMap eW⟩)] := by
 refine Spec.of (fn := Tryz.f78) Tryz.func78 Tryz.ntmps78 rfl rfl (le1 rfl) (fun w0 Zs Zb T0 ι0 => ?_)
 unfold m78 at h
 refine AWP.seq ?_
 refine AWP.rg (.cons (.assign (l1 rfl) (.const _ _ _))<| .nil _ _ _) ?_
 refine AWP.vs ⟨[(0,.own 1 1 0 a0_b.length),(1,iW a1),(2,iW a2),(3,iW a3),(8,bW true)],[(1,⟨3,true,a0_b.flatMap eW⟩)]⟩ rfl rfl ?_
 refine AWP.seq ?_
 refine AWP.rg (.cons (.assign (l1 rfl) (.const _ _ _))<| .nil _ _ _) ?_
 refine AWP.vs ⟨[(0,.own 1 1 0 a0_b.length),(1,iW a1),(2,iW a2),(3,iW a3),(8,bW true),(9,bW true)],[(1,⟨3,true,a0_b.flatMap eW⟩)]⟩ rfl rfl ?_
 refine AWP.block ?_
 refine AWP.vs ⟨[(0,.own 1 1 0 a0_b.length),(1,iW a1),(2,iW a2),(3,iW a3),(8,bW true),(9,bW true)],[(1,⟨3,true,a0_b.flatMap eW⟩)]⟩ rfl rfl ?_
 refine AWP.loopM (S := fun x_5 : Unit => ⟨[(0,.own 1 1 0 a0_b.length),(1,iW a1),(2,iW a2),(3,iW a3),(8,bW true),(9,bW true)],[(1,⟨3,true,a0_b.flatMap eW⟩)]⟩) (x := ()) (fun nx_6 x_5 h => ?_) h
 unfold m78_L1 at h
 refine AWP.block ?_
 refine AWP.seq ?_
 obtain ⟨t10_7,ht10_7,h⟩ := letS h
 refine AWP.rg (.cons (.move (l1 rfl) (.t rfl))<| .cons (.move (l1 rfl) (.t rfl))<| .cons (.sub (l1 rfl) (.t rfl) (.t rfl))<| .cons (.assign (l1 rfl) (.t rfl))<| .nil _ _ _) ?_
 refine AWP.vc (s' := ⟨[(0,.own 1 1 0 a0_b.length),(1,iW a1),(2,iW a2),(3,iW a3),(8,bW true),(9,bW true),(10,iW t10_7)],[(1,⟨3,true,a0_b.flatMap eW⟩)]⟩) (by subst ht10_7; exact VC.sub (.of rfl) (.of rfl)) ?_
 refine AWP.seq ?_
 refine AWP.seq ?_
 refine AWP.rg (.cons (.move (l1 rfl) (.t rfl))<| .cons (.leq (l1 rfl) (.t rfl) (.const _ _ _))<| .nil _ _ _) ?_
 refine AWP.vs ⟨[(0,.own 1 1 0 a0_b.length),(1,iW a1),(2,iW a2),(3,iW a3),(8,bW true),(9,bW true),(10,iW t10_7),(23,bW (decide (t10_7 ≤ (12 : Int))))],[(1,⟨3,true,a0_b.flatMap eW⟩)]⟩ rfl rfl ?_
 refine AWP.cond (.t rfl) (fun hc => ?_) (fun hc => ?_)
 ·have h := iteT hc h
  refine AWP.seq ?_
  obtain ⟨y_8,hy_8,h⟩ := bindS h
  obtain ⟨ha_9,h⟩ := asrtS h
  refine AWP.rg (.cons (.move (l1 rfl) (.t rfl))<| .cons (.move (l1 rfl) (.t rfl))<| .cons (.move (l1 rfl) (.t rfl))<| .cons (.call (σ := fun _ => 1) (bw := false) (l1 rfl) (c90 n a0_b a1 a2 hy_8) (.cons (.t rfl) (.ren rfl) (.cons (.t rfl) (.ren rfl) (.cons (.t rfl) (.ren rfl) (.nil)))) (CallOk.mk' (.c rfl (.n)) rfl))<| .nil _ _ _) ?_
  refine AWP.ret ?_
  obtain rfl := Option.some.inj h
  refine retJ (Res.vc (s' := ⟨[],[(1,⟨3,true,y_8.flatMap eW⟩)]⟩) (VC.sub (.n _) (.of rfl)) ?_)
  refine Res.sub (H := [(1,⟨3,true,y_8.flatMap eW⟩)]) (.of rfl) ?_
  exact Res.of rfl (.nil) rfl rfl
 ·have h := iteF hc h
  refine AWP.skip ?_
  refine AWP.seq ?_
  refine AWP.seq ?_
  cases h
theorem c73 (n : Nat) (a0_b : (List Int)) {r : (List Int)} (h : m73 n a0_b = some r) : Spec Tryz.prog 73 [1] [.own 1 1 0 a0_b.length] [(1,⟨3,true,a0_b.flatMap eW⟩)] (.tup []) [(1,⟨3,true,r.flatMap eW⟩)] := by
 refine Spec.of (fn := Tryz.f73) Tryz.func73 Tryz.ntmps73 rfl rfl (le1 rfl) (fun w0 Zs Zb T0 ι0 => ?_)
 unfold m73 at h
 refine AWP.seq ?_
 refine AWP.rg (.cons (.move (l1 rfl) (.t rfl))<| .cons (.lenOwn (l1 rfl) (.t rfl) Tryz.underlying23)<| .cons (.assign (l1 rfl) (.t rfl))<| .nil _ _ _) ?_
 refine AWP.vs ⟨[(0,.own 1 1 0 a0_b.length),(2,iW (a0_b.length : Int))],[(1,⟨3,true,a0_b.flatMap eW⟩)]⟩ rfl rfl ?_
 obtain ⟨y_1,hy_1,h⟩ := bindS h
 obtain ⟨y_2,hy_2,h⟩ := bindS h
 obtain ⟨ha_3,h⟩ := asrtS h
 refine AWP.rg (.cons (.move (l1 rfl) (.t rfl))<| .cons (.move (l1 rfl) (.t rfl))<| .cons (.move (l1 rfl) (.t rfl))<| .cons (.conv (l1 rfl) (.t rfl) Tryz.underlying3 Tryz.underlying122)<| .cons (.call0 (bw := false) (l1 rfl) (c79 n (IntKind.wrap .u64 (a0_b.length : Int)) hy_1) (.cons (.t rfl) (.ren rfl) (.nil)) rfl)<| .cons (.call (σ := fun _ => 1) (bw := false) (l1 rfl) (c78 n a0_b (0 : Int) (a0_b.length : Int) y_1 hy_2) (.cons (.t rfl) (.ren rfl) (.cons (.const _ _ _) (.ren rfl) (.cons (.t rfl) (.ren rfl) (.cons (.t rfl) (.ren rfl) (.nil))))) (CallOk.mk' (.c rfl (.n)) rfl))<| .nil _ _ _) ?_
 obtain rfl := Option.some.inj h
 refine norJ (Res.vc (s' := ⟨[],[(1,⟨3,true,y_2.flatMap eW⟩)]⟩) (VC.sub (.n _) (.of rfl)) ?_)
 refine Res.sub (H := [(1,⟨3,true,y_2.flatMap eW⟩)]) (.of rfl) ?_
 exact Res.of rfl (.nil) rfl rfl
theorem c82 (n : Nat) (a0 : Int) (a1 : Int) {r : Int} (h : m82 n a0 a1 = some r) : Spec Tryz.prog 82 [] [iW a0,iW a1] [] (iW r) [] := by
 refine Spec.of (fn := Tryz.f82) Tryz.func82 Tryz.ntmps82 rfl rfl (le1 rfl) (fun w0 Zs Zb T0 ι0 => ?_)
 unfold m82 at h
 refine AWP.seq ?_
 refine AWP.rg (.cons (.assign (l1 rfl) (.const _ _ _))<| .nil _ _ _) ?_
 refine AWP.vs ⟨[(0,iW a0),(1,iW a1)],[]⟩ rfl rfl ?_
 refine AWP.seq ?_
 obtain ⟨y_1,hy_1,h⟩ := bindS h
 refine AWP.rg (.cons (.move (l1 rfl) (.t rfl))<| .cons (.call0 (bw := false) (l1 rfl) (c102 n a0 hy_1) (.cons (.t rfl) (.ren rfl) (.nil)) rfl)<| .cons (.assign (l1 rfl) (.t rfl))<| .nil _ _ _) ?_
 refine AWP.vs ⟨[(0,iW a0),(1,iW a1),(5,bW y_1)],[]⟩ rfl rfl ?_
 refine AWP.seq ?_
 obtain ⟨y_2,hy_2,h⟩ := bindS h
 refine AWP.rg (.cons (.move (l1 rfl) (.t rfl))<| .cons (.call0 (bw := false) (l1 rfl) (c102 n a1 hy_2) (.cons (.t rfl) (.ren rfl) (.nil)) rfl)<| .cons (.assign (l1 rfl) (.t rfl))<| .nil _ _ _) ?_
 refine AWP.vs ⟨[(0,iW a0),(1,iW a1),(5,bW y_1),(6,bW y_2)],[]⟩ rfl rfl ?_
 refine AWP.seq ?_
 refine AWP.seq ?_
 refine AWP.rg (.cons (.move (l1 rfl) (.t rfl))<| .nil _ _ _) ?_
 refine AWP.vs ⟨[(0,iW a0),(1,iW a1),(6,bW y_2),(11,bW y_1)],[]⟩ rfl rfl ?_
 refine AWP.cond (.t rfl) (fun hc => ?_) (fun hc => ?_)
 ·have h := iteT hc h
  refine AWP.seq ?_
  refine AWP.seq ?_
  refine AWP.rg (.cons (.move (l1 rfl) (.t rfl))<| .nil _ _ _) ?_
  refine AWP.vs ⟨[(12,bW y_2)],[]⟩ rfl rfl ?_
  refine AWP.cond (.t rfl) (fun hc => ?_) (fun hc => ?_)
  ·have h := iteT hc h
   refine AWP.seq ?_
   refine AWP.rg (.cons (.assign (l1 rfl) (.const _ _ _))<| .nil _ _ _) ?_
   refine AWP.ret ?_
   obtain rfl := Option.some.inj h
   refine retJ (Res.vc (s' := ⟨[(4,iW (0 : Int))],[]⟩) (VC.sub (.of rfl) (.n _)) ?_)
   refine Res.drop (H := []) rfl ?_
   exact Res.of rfl (.cons (.tmp rfl) (.nil)) rfl rfl
  ·have h := iteF hc h
   refine AWP.skip ?_
   refine AWP.seq ?_
   refine AWP.rg (.cons (.assign (l1 rfl) (.const _ _ _))<| .nil _ _ _) ?_
   refine AWP.ret ?_
   obtain rfl := Option.some.inj h
   refine retJ (Res.vc (s' := ⟨[(4,iW (-1 : Int))],[]⟩) (VC.sub (.of rfl) (.n _)) ?_)
   refine Res.drop (H := []) rfl ?_
   exact Res.of rfl (.cons (.tmp rfl) (.nil)) rfl rfl
 ·have h := iteF hc h
  refine AWP.skip ?_
  refine AWP.seq ?_
  refine AWP.seq ?_
  refine AWP.rg (.cons (.move (l1 rfl) (.t rfl))<| .nil _ _ _) ?_
  refine AWP.vs ⟨[(0,iW a0),(1,iW a1),(13,bW y_2)],[]⟩ rfl rfl ?_
  refine AWP.cond (.t rfl) (fun hc => ?_) (fun hc => ?_)
  ·have h := iteT hc h
   refine AWP.seq ?_
   refine AWP.rg (.cons (.assign (l1 rfl) (.const _ _ _))<| .nil _ _ _) ?_
   refine AWP.ret ?_
   obtain rfl := Option.some.inj h
   refine retJ (Res.vc (s' := ⟨[(4,iW (1 : Int))],[]⟩) (VC.sub (.of rfl) (.n _)) ?_)
   refine Res.drop (H := []) rfl ?_
   exact Res.of rfl (.cons (.tmp rfl) (.nil)) rfl rfl
  ·have h := iteF hc h
   refine AWP.skip ?_
   refine AWP.seq ?_
   refine AWP.seq ?_
   refine AWP.rg (.cons (.move (l1 rfl) (.t rfl))<| .cons (.move (l1 rfl) (.t rfl))<| .cons (.lss (l1 rfl) (.t rfl) (.t rfl))<| .nil _ _ _) ?_
   refine AWP.vs ⟨[(0,iW a0),(1,iW a1),(16,bW (decide (a0 < a1)))],[]⟩ rfl rfl ?_
   refine AWP.cond (.t rfl) (fun hc => ?_) (fun hc => ?_)
   ·have h := iteT hc h
    refine AWP.seq ?_
    refine AWP.rg (.cons (.assign (l1 rfl) (.const _ _ _))<| .nil _ _ _) ?_
    refine AWP.ret ?_
    obtain rfl := Option.some.inj h
    refine retJ (Res.vc (s' := ⟨[(4,iW (-1 : Int))],[]⟩) (VC.sub (.of rfl) (.n _)) ?_)
    refine Res.drop (H := []) rfl ?_
    exact Res.of rfl (.cons (.tmp rfl) (.nil)) rfl rfl
   ·have h := iteF hc h
    refine AWP.skip ?_
    refine AWP.seq ?_
    refine AWP.seq ?_
    refine AWP.rg (.cons (.move (l1 rfl) (.t rfl))<| .cons (.move (l1 rfl) (.t rfl))<| .cons (.gtr (l1 rfl) (.t rfl) (.t rfl))<| .nil _ _ _) ?_
    refine AWP.vs ⟨[(19,bW (decide (a1 < a0)))],[]⟩ rfl rfl ?_
    refine AWP.cond (.t rfl) (fun hc => ?_) (fun hc => ?_)
    ·have h := iteT hc h
     refine AWP.seq ?_
     refine AWP.rg (.cons (.assign (l1 rfl) (.const _ _ _))<| .nil _ _ _) ?_
     refine AWP.ret ?_
     obtain rfl := Option.some.inj h
     refine retJ (Res.vc (s' := ⟨[(4,iW (1 : Int))],[]⟩) (VC.sub (.of rfl) (.n _)) ?_)
     refine Res.drop (H := []) rfl ?_
     exact Res.of rfl (.cons (.tmp rfl) (.nil)) rfl rfl
    ·have h := iteF hc h
     refine AWP.skip ?_
     refine AWP.seq ?_
     refine AWP.rg (.cons (.assign (l1 rfl) (.const _ _ _))<| .nil _ _ _) ?_
     refine AWP.ret ?_
     obtain rfl := Option.some.inj h
     refine retJ (Res.vc (s' := ⟨[(4,iW (0 : Int))],[]⟩) (VC.sub (.of rfl) (.n _)) ?_)
     refine Res.drop (H := []) rfl ?_
     exact Res.of rfl (.cons (.tmp rfl) (.nil)) rfl rfl
theorem c81 {β1 : Bool} (n : Nat) (a0 : Int) (a1 : Int) (a2_b0 : (List R63)) {r : Int} (h : m81 n a0 a1 a2_b0 = some r) : Spec Tryz.prog 81 [1] [iW a0,iW a1,.ptr 1 0] [(1,⟨35,false,[rW β1 a2_b0 e63]⟩)] (iW r) [(1,⟨35,false,[rW β1 a2_b0 e63]⟩)] := by
 refine Spec.of (fn := Tryz.f81) Tryz.func81 Tryz.ntmps81 rfl rfl (le1 rfl) (fun w0 Zs Zb T0 ι0 => ?_)
 unfold m81 at h
 refine AWP.seq ?_
 refine AWP.rg (.cons (.assign (l1 rfl) (.const _ _ _))<| .nil _ _ _) ?_
 refine AWP.vs ⟨[(0,iW a0),(1,iW a1),(2,.ptr 1 0)],[(1,⟨35,false,[rW β1 a2_b0 e63]⟩)]⟩ rfl rfl ?_
 refine AWP.seq ?_
 obtain ⟨y_1,hy_1,h⟩ := bindS h
 obtain ⟨y_2,hy_2,h⟩ := bindS h
 obtain ⟨y_3,hy_3,h⟩ := bindS h
 refine AWP.dw mixed [(0,iW a0),(1,iW a1),(2,.ptr 1 0)] [] [dO [2] 6 (rW β1 a2_b0 e63),dO [0] 7 (iW a0),dO [3,4] 8 (.rptr β1 [iW y_1.Rl,iW y_1.Ln,iW y_1.Due]),dO [5] 9 (.rptr β1 [iW y_1.Rl,iW y_1.Ln,iW y_1.Due]),dO [6] 10 (iW y_1.Rl),dO [2] 11 (rW β1 a2_b0 e63),dO [1] 12 (iW a1),dO [8,9] 13 (.rptr β1 [iW y_2.Rl,iW y_2.Ln,iW y_2.Due]),dO [10] 14 (.rptr β1 [iW y_2.Rl,iW y_2.Ln,iW y_2.Due]),dO [11] 15 (iW y_2.Rl),dO [7,12] 16 (iW y_3),dO [13] 5 (iW y_3)] [] [[(1,⟨35,false,[rW β1 a2_b0 e63]⟩)]] [[],[],[0,2],[0,3],[0,4],[],[],[5,7],[5,8],[5,9],[0,10],[0,11]] [14] rfl rfl (by kernel_rfl) rfl (.r rfl rfl (fun _ q => .loadP (l1 rfl) (q.t 0 rfl) one35 rfl rfl rfl)<| .p rfl (fun _ q _ => .move (l1 rfl) (q.t 0 rfl))<| .p rfl (fun _ q _ => .indexRd (enc := e63) (l1 rfl) (q.t 0 rfl) (q.t 1 rfl) Tryz.underlying35 sz64 encR63_len rfl hy_1)<| .p rfl (fun _ q _ => .fieldR (l1 rfl) (q.t 0 rfl) fld64_0 rfl)<| .p rfl (fun _ q _ => .loadR (v := iW y_1.Rl) (l1 rfl) (q.t 0 rfl) one3 rfl)<| .r rfl rfl (fun _ q => .loadP (l1 rfl) (q.t 0 rfl) one35 rfl rfl rfl)<| .p rfl (fun _ q _ => .move (l1 rfl) (q.t 0 rfl))<| .p rfl (fun _ q _ => .indexRd (enc := e63) (l1 rfl) (q.t 0 rfl) (q.t 1 rfl) Tryz.underlying35 sz64 encR63_len rfl hy_2)<| .p rfl (fun _ q _ => .fieldR (l1 rfl) (q.t 0 rfl) fld64_0 rfl)<| .p rfl (fun _ q _ => .loadR (v := iW y_2.Rl) (l1 rfl) (q.t 0 rfl) one3 rfl)<| .p rfl (fun _ q _ => .call0 (bw := false) (l1 rfl) (c82 n y_1.Rl y_2.Rl hy_3) (.cons (q.t 0 rfl) (.ren rfl) (.cons (q.t 1 rfl) (.ren rfl) (.nil))) rfl)<| .p rfl (fun _ q _ => .assign (l1 rfl) (q.t 0 rfl))<| .nil _) rfl rfl ?_
 refine AWP.ret ?_
 obtain rfl := Option.some.inj h
 refine retJ (Res.vc (s' := ⟨[(5,iW y_3)],[(1,⟨35,false,[rW β1 a2_b0 e63]⟩)]⟩) (VC.sub (.of rfl) (.of rfl)) ?_)
 refine Res.sub (H := [(1,⟨35,false,[rW β1 a2_b0 e63]⟩)]) (.of rfl) ?_
 exact Res.of rfl (.cons (.tmp rfl) (.nil)) rfl rfl
theorem c108 {β1 : Bool} (n : Nat) (a0_b : (List Int)) (a1 : Int) (a2 : Int) (a3_0_b0 : (List R63)) {r : (List Int)} (h : m108 n a0_b a1 a2 a3_0_b0 = some r) : Spec Tryz.prog 108 [1,2] [.own 1 1 0 a0_b.length,iW a1,iW a2,.clo (.func 81) [] [.ptr 2 0]] [(1,⟨3,true,a0_b.flatMap eW⟩),(2,⟨35,false,[rW β1 a3_0_b0 e63]⟩)] (.tup []) [(1,⟨3,true,r.flatMap eW⟩),(2,⟨35,false,[rW β1 a3_0_b0 e63]⟩)] := by
 refine Spec.of (fn := Tryz.f108) Tryz.func108 Tryz.ntmps108 rfl rfl (le1 rfl) (fun w0 Zs Zb T0 ι0 => ?_)
 unfold m108 at h
 refine AWP.seq ?_
 obtain ⟨t8_1,ht8_1,h⟩ := letS h
 refine AWP.rg (.cons (.move (l1 rfl) (.t rfl))<| .cons (.add (l1 rfl) (.t rfl) (.const _ _ _))<| .cons (.assign (l1 rfl) (.t rfl))<| .nil _ _ _) ?_
 refine AWP.vc (s' := ⟨[(0,.own 1 1 0 a0_b.length),(1,iW a1),(2,iW a2),(3,.clo (.func 81) [] [.ptr 2 0]),(8,iW t8_1)],[(1,⟨3,true,a0_b.flatMap eW⟩),(2,⟨35,false,[rW β1 a3_0_b0 e63]⟩)]⟩) (by subst ht8_1; exact VC.sub (.of rfl) (.of rfl)) ?_
 refine AWP.joinB' (S := fun p_117 : (List Int) => ⟨[],[(1,⟨3,true,p_117.flatMap eW⟩),(2,⟨35,false,[rW β1 a3_0_b0 e63]⟩)]⟩) h (fun p_117 h => ?_) (fun k_118 h => ?_)
 ·obtain rfl := Option.some.inj h
  refine norJ (Res.vc (s' := ⟨[],[(1,⟨3,true,p_117.flatMap eW⟩),(2,⟨35,false,[rW β1 a3_0_b0 e63]⟩)]⟩) (VC.sub (.n _) (.of rfl)) ?_)
  refine Res.sub (H := [(1,⟨3,true,p_117.flatMap eW⟩),(2,⟨35,false,[rW β1 a3_0_b0 e63]⟩)]) (.of rfl) ?_
  exact Res.of rfl (.nil) rfl rfl
 ·refine AWP.vs ⟨[(0,.own 1 1 0 a0_b.length),(1,iW a1),(2,iW a2),(3,.clo (.func 81) [] [.ptr 2 0]),(8,iW t8_1)],[(1,⟨3,true,a0_b.flatMap eW⟩),(2,⟨35,false,[rW β1 a3_0_b0 e63]⟩)]⟩ rfl rfl ?_
  refine AWP.loopM (S := fun x_78 : Int × (List Int) => ⟨[(0,.own 1 1 0 x_78.2.length),(1,iW a1),(2,iW a2),(3,.clo (.func 81) [] [.ptr 2 0]),(8,iW x_78.1)],[(1,⟨3,true,x_78.2.flatMap eW⟩),(2,⟨35,false,[rW β1 a3_0_b0 e63]⟩)]⟩) (x := (t8_1,a0_b)) (fun nx_79 x_78 h => ?_) h
  unfold m108_L3 at h
  refine AWP.seq ?_
  refine AWP.seq ?_
  refine AWP.rg (.cons (.move (l1 rfl) (.t rfl))<| .cons (.move (l1 rfl) (.t rfl))<| .cons (.lss (l1 rfl) (.t rfl) (.t rfl))<| .nil _ _ _) ?_
  refine AWP.vs ⟨[(0,.own 1 1 0 x_78.2.length),(1,iW a1),(2,iW a2),(3,.clo (.func 81) [] [.ptr 2 0]),(8,iW x_78.1),(14,bW (decide (x_78.1 < a2)))],[(1,⟨3,true,x_78.2.flatMap eW⟩),(2,⟨35,false,[rW β1 a3_0_b0 e63]⟩)]⟩ rfl rfl ?_
  refine AWP.cond (.t rfl) (fun hc => ?_) (fun hc => ?_)
  ·have h := iteT hc h
   refine AWP.skip ?_
   refine AWP.seq ?_
   refine AWP.block ?_
   refine AWP.seq ?_
   refine AWP.rg (.cons (.move (l1 rfl) (.t rfl))<| .cons (.assign (l1 rfl) (.t rfl))<| .nil _ _ _) ?_
   refine AWP.vs ⟨[(0,.own 1 1 0 x_78.2.length),(1,iW a1),(2,iW a2),(3,.clo (.func 81) [] [.ptr 2 0]),(8,iW x_78.1),(9,iW x_78.1)],[(1,⟨3,true,x_78.2.flatMap eW⟩),(2,⟨35,false,[rW β1 a3_0_b0 e63]⟩)]⟩ rfl rfl ?_
   refine AWP.joinB' (S := fun p_114 : (List Int) => ⟨[(0,.own 1 1 0 p_114.length),(1,iW a1),(2,iW a2),(3,.clo (.func 81) [] [.ptr 2 0]),(8,iW x_78.1)],[(1,⟨3,true,p_114.flatMap eW⟩),(2,⟨35,false,[rW β1 a3_0_b0 e63]⟩)]⟩) h (fun p_114 h => ?_) (fun k_115 h => ?_)
   ·obtain ⟨t8_116,ht8_116,h⟩ := letS h
    refine AWP.rg (.cons (.move (l1 rfl) (.t rfl))<| .cons (.add (l1 rfl) (.t rfl) (.const _ _ _))<| .cons (.assign (l1 rfl) (.t rfl))<| .nil _ _ _) ?_
    exact endJ (t8_116,p_114) h (by subst ht8_116; exact VC.sub (.of rfl) (.of rfl))
   ·refine AWP.vs ⟨[(0,.own 1 1 0 x_78.2.length),(1,iW a1),(2,iW a2),(3,.clo (.func 81) [] [.ptr 2 0]),(8,iW x_78.1),(9,iW x_78.1)],[(1,⟨3,true,x_78.2.flatMap eW⟩),(2,⟨35,false,[rW β1 a3_0_b0 e63]⟩)]⟩ rfl rfl ?_
    refine AWP.loopM (S := fun x_102 : Int × (List Int) => ⟨[(0,.own 1 1 0 x_102.2.length),(1,iW a1),(2,iW a2),(3,.clo (.func 81) [] [.ptr 2 0]),(8,iW x_78.1),(9,iW x_102.1)],[(1,⟨3,true,x_102.2.flatMap eW⟩),(2,⟨35,false,[rW β1 a3_0_b0 e63]⟩)]⟩) (x := (x_78.1,x_78.2)) (fun nx_103 x_102 h => ?_) h
    unfold m108_L4 at h
    refine AWP.seq ?_
    refine AWP.seq ?_
    obtain ⟨y_104,hy_104,h⟩ := bindS h
    obtain ⟨y_105,hy_105,h⟩ := bindS h
    obtain ⟨y_106,hy_106,h⟩ := bindS h
    refine AWP.dw mixed [(0,.own 1 1 0 x_102.2.length),(1,iW a1),(2,iW a2),(3,.clo (.func 81) [] [.ptr 2 0]),(8,iW x_78.1),(9,iW x_102.1)] [] [dO [5] 18 (iW x_102.1),dO [1] 19 (iW a1),dO [6,7] 20 (bW (decide (a1 < x_102.1))),dO [8] 21 (bW (decide (a1 < x_102.1))),dO [9,3] 22 (.gd (decide (a1 < x_102.1)) (.clo (.func 81) [] [.ptr 2 0])),dO [9,0] 23 (.gd (decide (a1 < x_102.1)) (.own 1 1 0 x_102.2.length)),dO [9,5] 24 (.gd (decide (a1 < x_102.1)) (iW x_102.1)),dO [9,11,12] 25 (.gd (decide (a1 < x_102.1)) (.ptr 1 (0 + (x_102.1).toNat * 1))),dO [9,13] 26 (.gd (decide (a1 < x_102.1)) (iW y_104)),dO [9,0] 27 (.gd (decide (a1 < x_102.1)) (.own 1 1 0 x_102.2.length)),dO [9,5] 28 (.gd (decide (a1 < x_102.1)) (iW x_102.1)),dO [9,16] 29 (.gd (decide (a1 < x_102.1)) (iW (IntKind.wrap .i64 (x_102.1 - (1 : Int))))),dO [9,15,17] 30 (.gd (decide (a1 < x_102.1)) (.ptr 1 (0 + ((IntKind.wrap .i64 (x_102.1 - (1 : Int)))).toNat * 1))),dO [9,18] 31 (.gd (decide (a1 < x_102.1)) (iW y_105)),dO [9,10,14,19] 32 (.gd (decide (a1 < x_102.1)) (iW y_106)),dO [9,20] 33 (.gd (decide (a1 < x_102.1)) (bW (decide (y_106 < (0 : Int))))),dO [9,21] 34 (bW ((decide (a1 < x_102.1)) && (decide (y_106 < (0 : Int)))))] [] [[(1,⟨3,true,x_102.2.flatMap eW⟩),(2,⟨35,false,[rW β1 a3_0_b0 e63]⟩)]] [[],[],[0,2],[0,3],[0,4],[0,4],[0,4],[0,4,5,7],[0,4,5,8],[0,4],[0,4],[0,4,10,11],[0,4,9,12],[0,4,9,13],[0,14],[0,15],[0,16]] [0,1,2,3,4,5,22] rfl rfl (by kernel_rfl) rfl (.p rfl (fun _ q _ => .move (l1 rfl) (q.t 0 rfl))<| .p rfl (fun _ q _ => .move (l1 rfl) (q.t 0 rfl))<| .p rfl (fun _ q _ => .gtr (l1 rfl) (q.t 0 rfl) (q.t 1 rfl))<| .p rfl (fun _ q _ => .move (l1 rfl) (q.t 0 rfl))<| .gt rfl rfl rfl rfl rfl (fun hg _ q _ => .move (l1 rfl) (q.t 1 rfl))<| .rt rfl rfl rfl rfl rfl rfl (fun hg _ q => .move (l1 rfl) (q.t 1 rfl))<| .gt rfl rfl rfl rfl rfl (fun hg _ q _ => .move (l1 rfl) (q.t 1 rfl))<| .rt rfl rfl rfl rfl rfl rfl (fun hg _ q => .idxOwn (l1 rfl) (.gd hg (q.t 1 rfl)) (.gd hg (q.t 2 rfl)) Tryz.underlying23 sz3 rfl (gdB hy_104 hg))<| .rt rfl rfl rfl rfl rfl rfl (fun hg _ q => .loadP (l1 rfl) (.gd hg (q.t 1 rfl)) one3 rfl (cell_at1 (encI_len .i64) (gdB hy_104 hg)) rfl)<| .rt rfl rfl rfl rfl rfl rfl (fun hg _ q => .move (l1 rfl) (q.t 1 rfl))<| .gt rfl rfl rfl rfl rfl (fun hg _ q _ => .move (l1 rfl) (q.t 1 rfl))<| .gt rfl rfl rfl rfl rfl (fun hg _ q _ => .sub (l1 rfl) (.gd hg (q.t 1 rfl)) (.const _ _ _))<| .rt rfl rfl rfl rfl rfl rfl (fun hg _ q => .idxOwn (l1 rfl) (.gd hg (q.t 1 rfl)) (.gd hg (q.t 2 rfl)) Tryz.underlying23 sz3 rfl (gdB hy_105 hg))<| .rt rfl rfl rfl rfl rfl rfl (fun hg _ q => .loadP (l1 rfl) (.gd hg (q.t 1 rfl)) one3 rfl (cell_at1 (encI_len .i64) (gdB hy_105 hg)) rfl)<| .rt rfl rfl rfl rfl rfl rfl (fun hg _ q => .keep (bw := false) (AStep.callV (us' := []) (avs := [iW y_104,iW y_105]) (cs' := [.ptr 1 0]) (σ := fun _ => 2) (bw := false) (l1 rfl) (.gd hg (q.t 1 rfl)) (c81 (β1 := β1) n y_104 y_105 a3_0_b0 (gdB hy_106 hg)) (.nil) (.cons (.gd hg (q.t 2 rfl)) (.ren rfl) (.cons (.gd hg (q.t 3 rfl)) (.ren rfl) (.nil))) (.cons (.ren rfl) (.nil)) (CallOk.mk' (.c rfl (.n)) rfl) (fun _ h => by cases h)) (CallOk.mk' (.c rfl (.n)) rfl) rfl rfl)<| .gt rfl rfl rfl rfl rfl (fun hg _ q _ => .lss (l1 rfl) (.gd hg (q.t 1 rfl)) (.const _ _ _))<| .p rfl (fun _ q _ => .pickAnd (l1 rfl) (q.t 0 rfl) (q.t 1 rfl) (.const _ _ _))<| .nil _) rfl rfl ?_
    refine AWP.vs ⟨[(0,.own 1 1 0 x_102.2.length),(1,iW a1),(2,iW a2),(3,.clo (.func 81) [] [.ptr 2 0]),(8,iW x_78.1),(9,iW x_102.1),(34,bW ((decide (a1 < x_102.1)) && (decide (y_106 < (0 : Int)))))],[(1,⟨3,true,x_102.2.flatMap eW⟩),(2,⟨35,false,[rW β1 a3_0_b0 e63]⟩)]⟩ rfl rfl ?_
    refine AWP.cond (.t rfl) (fun hc => ?_) (fun hc => ?_)
    ·have h := iteT hc h
     refine AWP.skip ?_
     refine AWP.seq ?_
     refine AWP.block ?_
     obtain ⟨y_107,hy_107,h⟩ := bindS h
     obtain ⟨y_108,hy_108,h⟩ := bindS h
     obtain ⟨y_109,hy_109,h⟩ := bindS h
     obtain ⟨l1_110,hl1_110,h⟩ := bindS h
     obtain ⟨y_111,hy_111,h⟩ := bindS h
     obtain ⟨l1_112,hl1_112,h⟩ := bindS h
     refine AWP.dw mixed [(0,.own 1 1 0 x_102.2.length),(1,iW a1),(2,iW a2),(3,.clo (.func 81) [] [.ptr 2 0]),(8,iW x_78.1),(9,iW x_102.1),(34,bW ((decide (a1 < x_102.1)) && (decide (y_106 < (0 : Int)))))] [] [dO [0] 37 (.own 1 1 0 x_102.2.length),⟨[5],0,2,some (38,iW x_102.1),[]⟩,⟨[0],0,1,some (39,.own 1 1 0 x_102.2.length),[]⟩,⟨[5],0,2,some (40,iW x_102.1),[]⟩,⟨[10],0,2,some (41,iW (IntKind.wrap .i64 (x_102.1 - (1 : Int)))),[]⟩,dO [0] 42 (.own 1 1 0 x_102.2.length),⟨[5],0,2,some (43,iW x_102.1),[]⟩,⟨[13],0,2,some (44,iW (IntKind.wrap .i64 (x_102.1 - (1 : Int)))),[]⟩,dO [12,14] 45 (.ptr 1 (0 + ((IntKind.wrap .i64 (x_102.1 - (1 : Int)))).toNat * 1)),dO [15] 46 (iW y_107),dO [0] 47 (.own 1 1 0 x_102.2.length),⟨[5],0,2,some (48,iW x_102.1),[]⟩,dO [17,18] 49 (.ptr 1 (0 + (x_102.1).toNat * 1)),dO [19] 50 (iW y_108),dO [7,8] 51 (.ptr 1 (0 + (x_102.1).toNat * 1)),⟨[21,16],0,0,none,[]⟩,⟨[9,11],1,1,some (52,.ptr 1 (0 + ((IntKind.wrap .i64 (x_102.1 - (1 : Int)))).toNat * 1)),[]⟩,⟨[22,20],1,1,none,[]⟩] [15,17] [[(1,⟨3,true,x_102.2.flatMap eW⟩),(2,⟨35,false,[rW β1 a3_0_b0 e63]⟩)],[(1,⟨3,true,l1_110.flatMap eW⟩),(2,⟨35,false,[rW β1 a3_0_b0 e63]⟩)],[(1,⟨3,true,l1_112.flatMap eW⟩),(2,⟨35,false,[rW β1 a3_0_b0 e63]⟩)]] [[],[],[],[],[3,4],[],[],[6,7],[5,8],[5,9],[],[],[10,12],[10,13],[0,2,5,14],[0,2,5,15],[0,16],[0,17]] [0,1,2,3,4,5] rfl rfl (by kernel_rfl) rfl (.read rfl (.c (.put (fun E hE => .move (l1 rfl) (hE.t 0 rfl))) (.n))<| .p rfl (fun _ q _ => .move (l1 rfl) (q.t 0 rfl))<| .read rfl (.c (.put (fun E hE => .move (l1 rfl) (hE.t 0 rfl))) (.c (.put (fun E hE => .move (l1 rfl) (hE.t 0 rfl))) (.n)))<| .p rfl (fun _ q _ => .move (l1 rfl) (q.t 0 rfl))<| .p rfl (fun _ q _ => .sub (l1 rfl) (q.t 0 rfl) (.const _ _ _))<| .read rfl (.c (.put (fun E hE => .move (l1 rfl) (hE.t 0 rfl))) (.n))<| .p rfl (fun _ q _ => .move (l1 rfl) (q.t 0 rfl))<| .p rfl (fun _ q _ => .sub (l1 rfl) (q.t 0 rfl) (.const _ _ _))<| .read rfl (.c (.put (fun E hE => .idxOwn (l1 rfl) (hE.t 0 rfl) (hE.t 1 rfl) Tryz.underlying23 sz3 rfl hy_107)) (.n))<| .read rfl (.c (.put (fun E hE => .loadP (l1 rfl) (hE.t 0 rfl) one3 rfl (cell_at1 (encI_len .i64) hy_107) rfl)) (.n))<| .read rfl (.c (.put (fun E hE => .move (l1 rfl) (hE.t 0 rfl))) (.n))<| .p rfl (fun _ q _ => .move (l1 rfl) (q.t 0 rfl))<| .read rfl (.c (.put (fun E hE => .idxOwn (l1 rfl) (hE.t 0 rfl) (hE.t 1 rfl) Tryz.underlying23 sz3 rfl hy_108)) (.n))<| .read rfl (.c (.put (fun E hE => .loadP (l1 rfl) (hE.t 0 rfl) one3 rfl (cell_at1 (encI_len .i64) hy_108) rfl)) (.n))<| .read rfl (.c (.put (fun E hE => .idxOwn (l1 rfl) (hE.t 0 rfl) (hE.t 1 rfl) Tryz.underlying23 sz3 rfl hy_109)) (.n))<| .turn rfl rfl rfl rfl rfl (.store (fun E hE => .storeP (hE.t 0 rfl) (hE.t 1 rfl) sz3 rfl (lt_at1 (encI_len .i64) hy_109) rfl (fun _ => rfl) (set_at1 (encI_len .i64) hl1_110 rfl)) rfl)<| .read rfl (.c (.put (fun E hE => .idxOwn (l1 rfl) (.ownN (Eq.symm (setLen hl1_110)) (hE.t 0 rfl)) (hE.t 1 rfl) Tryz.underlying23 sz3 rfl hy_111)) (.n))<| .turn rfl rfl rfl rfl rfl (.store (fun E hE => .storeP (hE.t 0 rfl) (hE.t 1 rfl) sz3 rfl (lt_at1 (encI_len .i64) hy_111) rfl (fun _ => rfl) (set_at1 (encI_len .i64) hl1_112 rfl)) rfl)<| .nil _) rfl rfl ?_
     refine AWP.vc (s' := ⟨[(0,.own 1 1 0 l1_112.length),(1,iW a1),(2,iW a2),(3,.clo (.func 81) [] [.ptr 2 0]),(8,iW x_78.1),(9,iW x_102.1)],[(1,⟨3,true,l1_112.flatMap eW⟩),(2,⟨35,false,[rW β1 a3_0_b0 e63]⟩)]⟩) (VC.sub (.c (lenC (Eq.symm (Eq.trans (setLen hl1_112) (setLen hl1_110))) rfl)<| .c rfl<| .c rfl<| .c rfl<| .c rfl<| .c rfl<| .n _) (.of rfl)) ?_
     obtain ⟨t9_113,ht9_113,h⟩ := letS h
     refine AWP.rg (.cons (.move (l1 rfl) (.t rfl))<| .cons (.sub (l1 rfl) (.t rfl) (.const _ _ _))<| .cons (.assign (l1 rfl) (.t rfl))<| .nil _ _ _) ?_
     exact endJ (t9_113,l1_112) h (by subst ht9_113; exact VC.sub (.of rfl) (.of rfl))
    ·have h := iteF hc h
     refine AWP.exit ?_
     exact endJ x_102.2 h (VC.sub (.of rfl) (.of rfl))
  ·have h := iteF hc h
   refine AWP.exit ?_
   exact endJ x_78.2 h (VC.sub (.n _) (.of rfl))
theorem c101 {β1 : Bool} (n : Nat) (a0_b : (List Int)) (a1 : Int) (a2_0_b0 : (List R63)) {r : (List Int)} (h : m101 n a0_b a1 a2_0_b0 = some r) : Spec Tryz.prog 101 [1,2] [.own 1 1 0 a0_b.length,iW a1,.clo (.func 81) [] [.ptr 2 0]] [(1,⟨3,true,a0_b.flatMap eW⟩),(2,⟨35,false,[rW β1 a2_0_b0 e63]⟩)] (.tup []) [(1,⟨3,true,r.flatMap eW⟩),(2,⟨35,false,[rW β1 a2_0_b0 e63]⟩)] := by
 refine Spec.of (fn := Tryz.f101) Tryz.func101 Tryz.ntmps101 rfl rfl (le1 rfl) (fun w0 Zs Zb T0 ι0 => ?_)
 unfold m101 at h
 refine AWP.seq ?_
 refine AWP.rg (.cons (.assign (l1 rfl) (.const _ _ _))<| .nil _ _ _) ?_
 refine AWP.vs ⟨[(0,.own 1 1 0 a0_b.length),(1,iW a1),(2,.clo (.func 81) [] [.ptr 2 0]),(6,iW (20 : Int))],[(1,⟨3,true,a0_b.flatMap eW⟩),(2,⟨35,false,[rW β1 a2_0_b0 e63]⟩)]⟩ rfl rfl ?_
 refine AWP.seq ?_
 refine AWP.rg (.cons (.move (l1 rfl) (.t rfl))<| .cons (.assign (l1 rfl) (.const _ _ _))<| .cons (.assign (l1 rfl) (.t rfl))<| .nil _ _ _) ?_
 refine AWP.vs ⟨[(0,.own 1 1 0 a0_b.length),(1,iW a1),(2,.clo (.func 81) [] [.ptr 2 0]),(6,iW (20 : Int)),(7,iW (0 : Int)),(8,iW (20 : Int))],[(1,⟨3,true,a0_b.flatMap eW⟩),(2,⟨35,false,[rW β1 a2_0_b0 e63]⟩)]⟩ rfl rfl ?_
 refine AWP.seq ?_
 refine AWP.joinB' (S := fun p_14 : Int × (List Int) => ⟨[(0,.own 1 1 0 p_14.2.length),(1,iW a1),(2,.clo (.func 81) [] [.ptr 2 0]),(6,iW (20 : Int)),(7,iW p_14.1)],[(1,⟨3,true,p_14.2.flatMap eW⟩),(2,⟨35,false,[rW β1 a2_0_b0 e63]⟩)]⟩) h (fun p_14 h => ?_) (fun k_15 h => ?_)
 ·refine AWP.seq ?_
  obtain ⟨y_16,hy_16,h⟩ := bindS h
  obtain ⟨ha_17,h⟩ := asrtS h
  refine AWP.rg (.cons (.move (l1 rfl) (.t rfl))<| .cons (.move (l1 rfl) (.t rfl))<| .cons (.move (l1 rfl) (.t rfl))<| .cons (.move (l1 rfl) (.t rfl))<| .cons (.call (σ := sgT [(1,1),(2,2)]) (bw := false) (l1 rfl) (c108 (β1 := β1) n p_14.2 p_14.1 a1 a2_0_b0 hy_16) (.cons (.t rfl) (.ren rfl) (.cons (.t rfl) (.ren rfl) (.cons (.t rfl) (.ren rfl) (.cons (.t rfl) (.ren rfl) (.nil))))) (CallOk.mk' (.c rfl (.c rfl (.n))) rfl))<| .nil _ _ _) ?_
  refine AWP.vc (s' := ⟨[(0,.own 1 1 0 y_16.length),(1,iW a1),(2,.clo (.func 81) [] [.ptr 2 0]),(6,iW (20 : Int))],[(1,⟨3,true,y_16.flatMap eW⟩),(2,⟨35,false,[rW β1 a2_0_b0 e63]⟩)]⟩) (VC.sub (.c (lenC (Eq.symm (Eq.symm ha_17)) rfl)<| .c rfl<| .c rfl<| .c rfl<| .n _) (.of rfl)) ?_
  refine AWP.joinB' (S := fun p_21 : Unit => ⟨[],[(1,⟨3,true,y_16.flatMap eW⟩),(2,⟨35,false,[rW β1 a2_0_b0 e63]⟩)]⟩) h (fun p_21 h => ?_) (fun k_22 h => ?_)
  ·obtain rfl := Option.some.inj h
   refine norJ (Res.vc (s' := ⟨[],[(1,⟨3,true,y_16.flatMap eW⟩),(2,⟨35,false,[rW β1 a2_0_b0 e63]⟩)]⟩) (VC.sub (.n _) (.of rfl)) ?_)
   refine Res.sub (H := [(1,⟨3,true,y_16.flatMap eW⟩),(2,⟨35,false,[rW β1 a2_0_b0 e63]⟩)]) (.of rfl) ?_
   exact Res.of rfl (.nil) rfl rfl
  ·refine AWP.vs ⟨[(0,.own 1 1 0 y_16.length),(1,iW a1),(2,.clo (.func 81) [] [.ptr 2 0]),(6,iW (20 : Int))],[(1,⟨3,true,y_16.flatMap eW⟩),(2,⟨35,false,[rW β1 a2_0_b0 e63]⟩)]⟩ rfl rfl ?_
   refine AWP.loopM (S := fun x_19 : Unit => ⟨[(0,.own 1 1 0 y_16.length),(1,iW a1),(2,.clo (.func 81) [] [.ptr 2 0]),(6,iW (20 : Int))],[(1,⟨3,true,y_16.flatMap eW⟩),(2,⟨35,false,[rW β1 a2_0_b0 e63]⟩)]⟩) (x := ()) (fun nx_20 x_19 h => ?_) h
   unfold m101_L2 at h
   refine AWP.seq ?_
   refine AWP.seq ?_
   refine AWP.rg (.cons (.move (l1 rfl) (.t rfl))<| .cons (.move (l1 rfl) (.t rfl))<| .cons (.lss (l1 rfl) (.t rfl) (.t rfl))<| .nil _ _ _) ?_
   refine AWP.vs ⟨[(0,.own 1 1 0 y_16.length),(1,iW a1),(2,.clo (.func 81) [] [.ptr 2 0]),(6,iW (20 : Int)),(30,bW (decide ((20 : Int) < a1)))],[(1,⟨3,true,y_16.flatMap eW⟩),(2,⟨35,false,[rW β1 a2_0_b0 e63]⟩)]⟩ rfl rfl ?_
   refine AWP.cond (.t rfl) (fun hc => ?_) (fun hc => ?_)
   ·have h := iteT hc h
    refine AWP.skip ?_
    refine AWP.block ?_
    refine AWP.seq ?_
    cases h
   ·have h := iteF hc h
    refine AWP.exit ?_
    exact endJ () h (VC.sub (.n _) (.of rfl))
 ·refine AWP.vs ⟨[(0,.own 1 1 0 a0_b.length),(1,iW a1),(2,.clo (.func 81) [] [.ptr 2 0]),(6,iW (20 : Int)),(7,iW (0 : Int)),(8,iW (20 : Int))],[(1,⟨3,true,a0_b.flatMap eW⟩),(2,⟨35,false,[rW β1 a2_0_b0 e63]⟩)]⟩ rfl rfl ?_
  refine AWP.loopM (S := fun x_9 : Int × Int × (List Int) => ⟨[(0,.own 1 1 0 x_9.2.2.length),(1,iW a1),(2,.clo (.func 81) [] [.ptr 2 0]),(6,iW (20 : Int)),(7,iW x_9.1),(8,iW x_9.2.1)],[(1,⟨3,true,x_9.2.2.flatMap eW⟩),(2,⟨35,false,[rW β1 a2_0_b0 e63]⟩)]⟩) (x := ((0 : Int),(20 : Int),a0_b)) (fun nx_10 x_9 h => ?_) h
  unfold m101_L1 at h
  refine AWP.seq ?_
  refine AWP.seq ?_
  refine AWP.rg (.cons (.move (l1 rfl) (.t rfl))<| .cons (.move (l1 rfl) (.t rfl))<| .cons (.leq (l1 rfl) (.t rfl) (.t rfl))<| .nil _ _ _) ?_
  refine AWP.vs ⟨[(0,.own 1 1 0 x_9.2.2.length),(1,iW a1),(2,.clo (.func 81) [] [.ptr 2 0]),(6,iW (20 : Int)),(7,iW x_9.1),(8,iW x_9.2.1),(13,bW (decide (x_9.2.1 ≤ a1)))],[(1,⟨3,true,x_9.2.2.flatMap eW⟩),(2,⟨35,false,[rW β1 a2_0_b0 e63]⟩)]⟩ rfl rfl ?_
  refine AWP.cond (.t rfl) (fun hc => ?_) (fun hc => ?_)
  ·have h := iteT hc h
   refine AWP.skip ?_
   refine AWP.block ?_
   refine AWP.seq ?_
   obtain ⟨y_11,hy_11,h⟩ := bindS h
   obtain ⟨ha_12,h⟩ := asrtS h
   refine AWP.rg (.cons (.move (l1 rfl) (.t rfl))<| .cons (.move (l1 rfl) (.t rfl))<| .cons (.move (l1 rfl) (.t rfl))<| .cons (.move (l1 rfl) (.t rfl))<| .cons (.call (σ := sgT [(1,1),(2,2)]) (bw := false) (l1 rfl) (c108 (β1 := β1) n x_9.2.2 x_9.1 x_9.2.1 a2_0_b0 hy_11) (.cons (.t rfl) (.ren rfl) (.cons (.t rfl) (.ren rfl) (.cons (.t rfl) (.ren rfl) (.cons (.t rfl) (.ren rfl) (.nil))))) (CallOk.mk' (.c rfl (.c rfl (.n))) rfl))<| .nil _ _ _) ?_
   refine AWP.vc (s' := ⟨[(0,.own 1 1 0 y_11.length),(1,iW a1),(2,.clo (.func 81) [] [.ptr 2 0]),(6,iW (20 : Int)),(8,iW x_9.2.1)],[(1,⟨3,true,y_11.flatMap eW⟩),(2,⟨35,false,[rW β1 a2_0_b0 e63]⟩)]⟩) (VC.sub (.c (lenC (Eq.symm (Eq.symm ha_12)) rfl)<| .c rfl<| .c rfl<| .c rfl<| .c rfl<| .n _) (.of rfl)) ?_
   refine AWP.seq ?_
   refine AWP.rg (.cons (.move (l1 rfl) (.t rfl))<| .cons (.assign (l1 rfl) (.t rfl))<| .nil _ _ _) ?_
   refine AWP.vs ⟨[(0,.own 1 1 0 y_11.length),(1,iW a1),(2,.clo (.func 81) [] [.ptr 2 0]),(6,iW (20 : Int)),(8,iW x_9.2.1),(7,iW x_9.2.1)],[(1,⟨3,true,y_11.flatMap eW⟩),(2,⟨35,false,[rW β1 a2_0_b0 e63]⟩)]⟩ rfl rfl ?_
   obtain ⟨t8_13,ht8_13,h⟩ := letS h
   refine AWP.rg (.cons (.move (l1 rfl) (.t rfl))<| .cons (.move (l1 rfl) (.t rfl))<| .cons (.add (l1 rfl) (.t rfl) (.t rfl))<| .cons (.assign (l1 rfl) (.t rfl))<| .nil _ _ _) ?_
   exact endJ (x_9.2.1,t8_13,y_11) h (by subst ht8_13; exact VC.sub (.of rfl) (.of rfl))
  ·have h := iteF hc h
   refine AWP.exit ?_
   exact endJ (x_9.1,x_9.2.2) h (VC.sub (.of rfl) (.of rfl))
theorem c80 {β1 : Bool} (n : Nat) (a0_b : (List Int)) (a1_0_b0 : (List R63)) {r : (List Int)} (h : m80 n a0_b a1_0_b0 = some r) : Spec Tryz.prog 80 [1,2] [.own 1 1 0 a0_b.length,.clo (.func 81) [] [.ptr 2 0]] [(1,⟨3,true,a0_b.flatMap eW⟩),(2,⟨35,false,[rW β1 a1_0_b0 e63]⟩)] (.tup []) [(1,⟨3,true,r.flatMap eW⟩),(2,⟨35,false,[rW β1 a1_0_b0 e63]⟩)] := by
 refine Spec.of (fn := Tryz.f80) Tryz.func80 Tryz.ntmps80 rfl rfl (le1 rfl) (fun w0 Zs Zb T0 ι0 => ?_)
 unfold m80 at h
 obtain ⟨y_1,hy_1,h⟩ := bindS h
 obtain ⟨ha_2,h⟩ := asrtS h
 refine AWP.rg (.cons (.move (l1 rfl) (.t rfl))<| .cons (.move (l1 rfl) (.t rfl))<| .cons (.lenOwn (l1 rfl) (.t rfl) Tryz.underlying23)<| .cons (.move (l1 rfl) (.t rfl))<| .cons (.call (σ := sgT [(1,1),(2,2)]) (bw := false) (l1 rfl) (c101 (β1 := β1) n a0_b (a0_b.length : Int) a1_0_b0 hy_1) (.cons (.t rfl) (.ren rfl) (.cons (.t rfl) (.ren rfl) (.cons (.t rfl) (.ren rfl) (.nil)))) (CallOk.mk' (.c rfl (.c rfl (.n))) rfl))<| .nil _ _ _) ?_
 obtain rfl := Option.some.inj h
 refine norJ (Res.vc (s' := ⟨[],[(1,⟨3,true,y_1.flatMap eW⟩),(2,⟨35,false,[rW β1 a1_0_b0 e63]⟩)]⟩) (VC.sub (.n _) (.of rfl)) ?_)
 refine Res.sub (H := [(1,⟨3,true,y_1.flatMap eW⟩),(2,⟨35,false,[rW β1 a1_0_b0 e63]⟩)]) (.of rfl) ?_
 exact Res.of rfl (.nil) rfl rfl
theorem c85 {β1 : Bool} (n : Nat) (a0 : (List Int)) {r : Int} (h : m85 n a0 = some r) : Spec Tryz.prog 85 [] [rW β1 a0 eW] [] (iW r) [] := by
 refine Spec.of (fn := Tryz.f85) Tryz.func85 Tryz.ntmps85 rfl rfl (le1 rfl) (fun w0 Zs Zb T0 ι0 => ?_)
 unfold m85 at h
 refine AWP.seq ?_
 refine AWP.rg (.cons (.assign (l1 rfl) (.const _ _ _))<| .nil _ _ _) ?_
 refine AWP.vs ⟨[(0,rW β1 a0 eW)],[]⟩ rfl rfl ?_
 refine AWP.seq ?_
 refine AWP.rg (.cons (.assign (l1 rfl) (.const _ _ _))<| .nil _ _ _) ?_
 refine AWP.vs ⟨[(0,rW β1 a0 eW),(3,iW (0 : Int))],[]⟩ rfl rfl ?_
 refine AWP.seq ?_
 refine AWP.seq ?_
 refine AWP.rg (.cons (.move (l1 rfl) (.t rfl))<| .cons (.lenRd (l1 rfl) (.t rfl) Tryz.underlying23)<| .cons (.move (l1 rfl) (.const _ _ _))<| .nil _ _ _) ?_
 refine AWP.vs ⟨[(3,iW (0 : Int)),(6,rW β1 a0 eW),(7,iW (a0.length : Int)),(8,iW (0 : Int))],[]⟩ rfl rfl ?_
 refine AWP.joinB' (S := fun p_11 : Unit => ⟨[(3,iW (0 : Int))],[]⟩) h (fun p_11 h => ?_) (fun k_12 h => ?_)
 ·refine AWP.seq ?_
  refine AWP.rg (.cons (.move (l1 rfl) (.t rfl))<| .cons (.assign (l1 rfl) (.t rfl))<| .nil _ _ _) ?_
  refine AWP.ret ?_
  obtain rfl := Option.some.inj h
  refine retJ (Res.vc (s' := ⟨[(2,iW (0 : Int))],[]⟩) (VC.sub (.of rfl) (.n _)) ?_)
  refine Res.drop (H := []) rfl ?_
  exact Res.of rfl (.cons (.tmp rfl) (.nil)) rfl rfl
 ·refine AWP.vs ⟨[(3,iW (0 : Int)),(6,rW β1 a0 eW),(7,iW (a0.length : Int)),(8,iW (0 : Int))],[]⟩ rfl rfl ?_
  refine AWP.loopM (S := fun x_7 : Int => ⟨[(3,iW (0 : Int)),(6,rW β1 a0 eW),(7,iW (a0.length : Int)),(8,iW x_7)],[]⟩) (x := (0 : Int)) (fun nx_8 x_7 h => ?_) h
  unfold m85_L1 at h
  refine AWP.seq ?_
  refine AWP.rg (.cons (.lss (l1 rfl) (.t rfl) (.t rfl))<| .nil _ _ _) ?_
  refine AWP.vs ⟨[(3,iW (0 : Int)),(6,rW β1 a0 eW),(7,iW (a0.length : Int)),(8,iW x_7),(9,bW (decide (x_7 < (a0.length : Int))))],[]⟩ rfl rfl ?_
  refine AWP.seq ?_
  refine AWP.cond (.t rfl) (fun hc => ?_) (fun hc => ?_)
  ·have h := iteT hc h
   refine AWP.skip ?_
   refine AWP.seq ?_
   refine AWP.block ?_
   refine AWP.seq ?_
   obtain ⟨y_9,hy_9,h⟩ := bindS h
   refine AWP.rg (.cons (.indexRd (enc := eW) (l1 rfl) (.t rfl) (.t rfl) Tryz.underlying23 sz3 (encI_len .i64) rfl hy_9)<| .cons (.loadR (v := iW y_9) (l1 rfl) (.t rfl) one3 rfl)<| .cons (.assign (l1 rfl) (.t rfl))<| .nil _ _ _) ?_
   refine AWP.vs ⟨[(3,iW (0 : Int)),(6,rW β1 a0 eW),(7,iW (a0.length : Int)),(8,iW x_7),(5,iW y_9)],[]⟩ rfl rfl ?_
   refine AWP.seq ?_
   refine AWP.rg (.cons (.move (l1 rfl) (.t rfl))<| .cons (.move (l1 rfl) (.t rfl))<| .cons (.neq (l1 rfl) (.t rfl) (.t rfl))<| .nil _ _ _) ?_
   refine AWP.vs ⟨[(3,iW (0 : Int)),(6,rW β1 a0 eW),(7,iW (a0.length : Int)),(8,iW x_7),(5,iW y_9),(14,bW (!decide (y_9 = (0 : Int))))],[]⟩ rfl rfl ?_
   refine AWP.cond (.t rfl) (fun hc => ?_) (fun hc => ?_)
   ·have h := iteT hc h
    refine AWP.seq ?_
    refine AWP.rg (.cons (.move (l1 rfl) (.t rfl))<| .cons (.assign (l1 rfl) (.t rfl))<| .nil _ _ _) ?_
    refine AWP.ret ?_
    obtain rfl := Option.some.inj h
    refine retJ (Res.vc (s' := ⟨[(2,iW y_9)],[]⟩) (VC.sub (.of rfl) (.n _)) ?_)
    refine Res.drop (H := []) rfl ?_
    exact Res.of rfl (.cons (.tmp rfl) (.nil)) rfl rfl
   ·have h := iteF hc h
    refine AWP.skip ?_
    obtain ⟨t8_10,ht8_10,h⟩ := letS h
    refine AWP.rg (.cons (.add (l1 rfl) (.t rfl) (.const _ _ _))<| .cons (.move (l1 rfl) (.t rfl))<| .nil _ _ _) ?_
    exact endJ t8_10 h (by subst ht8_10; exact VC.sub (.of rfl) (.n _))
  ·have h := iteF hc h
   refine AWP.exit ?_
   exact endJ () h (VC.sub (.of rfl) (.n _))
theorem c84 (n : Nat) (a0 : Int) (a1 : Int) (a2_b0_b : (List Int)) {r : Int} (h : m84 n a0 a1 a2_b0_b = some r) : Spec Tryz.prog 84 [1,2] [iW a0,iW a1,.ptr 1 0] [(1,⟨23,false,[.own 2 1 0 a2_b0_b.length]⟩),(2,⟨3,true,a2_b0_b.flatMap eW⟩)] (iW r) [(1,⟨23,false,[.own 2 1 0 a2_b0_b.length]⟩),(2,⟨3,true,a2_b0_b.flatMap eW⟩)] := by
 refine Spec.of (fn := Tryz.f84) Tryz.func84 Tryz.ntmps84 rfl rfl (le1 rfl) (fun w0 Zs Zb T0 ι0 => ?_)
 unfold m84 at h
 refine AWP.seq ?_
 refine AWP.rg (.cons (.assign (l1 rfl) (.const _ _ _))<| .nil _ _ _) ?_
 refine AWP.vs ⟨[(0,iW a0),(1,iW a1),(2,.ptr 1 0)],[(1,⟨23,false,[.own 2 1 0 a2_b0_b.length]⟩),(2,⟨3,true,a2_b0_b.flatMap eW⟩)]⟩ rfl rfl ?_
 refine AWP.seq ?_
 obtain ⟨y_1,hy_1,h⟩ := bindS h
 obtain ⟨y_2,hy_2,h⟩ := bindS h
 obtain ⟨y_3,hy_3,h⟩ := bindS h
 obtain ⟨y_4,hy_4,h⟩ := bindS h
 obtain ⟨y_5,hy_5,h⟩ := bindS h
 refine AWP.dw mixed [(0,iW a0),(1,iW a1),(2,.ptr 1 0)] [] [dO [2] 6 (.own 2 1 0 a2_b0_b.length),dO [0] 7 (iW a0),dO [3,4] 8 (.ptr 2 (0 + (a0).toNat * 1)),dO [5] 9 (iW y_1),dO [2] 10 (.own 2 1 0 a2_b0_b.length),dO [1] 11 (iW a1),dO [7,8] 12 (.ptr 2 (0 + (a1).toNat * 1)),dO [9] 13 (iW y_2),dO [6,10] 14 (iW y_3),dO [0] 15 (iW a0),dO [1] 16 (iW a1),dO [12,13] 17 (iW y_4),dO [11,14] 18 (rW false ([y_3,y_4] : List Int) eW),dO [15] 19 (iW y_5),dO [16] 5 (iW y_5)] [] [[(1,⟨23,false,[.own 2 1 0 a2_b0_b.length]⟩),(2,⟨3,true,a2_b0_b.flatMap eW⟩)]] [[],[],[0,2],[0,3],[],[],[4,6],[4,7],[0,8],[],[],[0,11],[0,12],[0,13],[0,14]] [17] rfl rfl (by kernel_rfl) rfl (.r rfl rfl (fun _ q => .loadP (l1 rfl) (q.t 0 rfl) one23 rfl rfl rfl)<| .p rfl (fun _ q _ => .move (l1 rfl) (q.t 0 rfl))<| .r rfl rfl (fun _ q => .idxOwn (l1 rfl) (q.t 0 rfl) (q.t 1 rfl) Tryz.underlying23 sz3 rfl hy_1)<| .r rfl rfl (fun _ q => .loadP (l1 rfl) (q.t 0 rfl) one3 rfl (cell_at1 (encI_len .i64) hy_1) rfl)<| .r rfl rfl (fun _ q => .loadP (l1 rfl) (q.t 0 rfl) one23 rfl rfl rfl)<| .p rfl (fun _ q _ => .move (l1 rfl) (q.t 0 rfl))<| .r rfl rfl (fun _ q => .idxOwn (l1 rfl) (q.t 0 rfl) (q.t 1 rfl) Tryz.underlying23 sz3 rfl hy_2)<| .r rfl rfl (fun _ q => .loadP (l1 rfl) (q.t 0 rfl) one3 rfl (cell_at1 (encI_len .i64) hy_2) rfl)<| .p rfl (fun _ q _ => .call0 (bw := false) (l1 rfl) (c82 n y_1 y_2 hy_3) (.cons (q.t 0 rfl) (.ren rfl) (.cons (q.t 1 rfl) (.ren rfl) (.nil))) rfl)<| .p rfl (fun _ q _ => .move (l1 rfl) (q.t 0 rfl))<| .p rfl (fun _ q _ => .move (l1 rfl) (q.t 0 rfl))<| .p rfl (fun _ q _ => .call0 (bw := false) (l1 rfl) (c82 n a0 a1 hy_4) (.cons (q.t 0 rfl) (.ren rfl) (.cons (q.t 1 rfl) (.ren rfl) (.nil))) rfl)<| .p rfl (fun _ q _ => .frzAny (fun t ht => AStep.buildSlice (t := t) (out := ([y_3,y_4] : List Int).flatMap eW) (l1 rfl) ht (.cons (q.t 0 rfl) (by first | exact ⟨rfl,rfl⟩ | rfl) (.cons (q.t 1 rfl) (by first | exact ⟨rfl,rfl⟩ | rfl) (.nil))) Tryz.underlying23 zero3 el3 (by decide) (by decide) rfl (still_all (encI_still .i64) _)) rfl (encI_len .i64))<| .p rfl (fun _ q _ => .call0 (bw := false) (l1 rfl) (c85 (β1 := false) n ([y_3,y_4] : List Int) hy_5) (.cons (q.t 0 rfl) (.ren rfl) (.nil)) rfl)<| .p rfl (fun _ q _ => .assign (l1 rfl) (q.t 0 rfl))<| .nil _) rfl rfl ?_
 refine AWP.ret ?_
 obtain rfl := Option.some.inj h
 refine retJ (Res.vc (s' := ⟨[(5,iW y_5)],[(1,⟨23,false,[.own 2 1 0 a2_b0_b.length]⟩),(2,⟨3,true,a2_b0_b.flatMap eW⟩)]⟩) (VC.sub (.of rfl) (.of rfl)) ?_)
 refine Res.sub (H := [(1,⟨23,false,[.own 2 1 0 a2_b0_b.length]⟩),(2,⟨3,true,a2_b0_b.flatMap eW⟩)]) (.of rfl) ?_
 exact Res.of rfl (.cons (.tmp rfl) (.nil)) rfl rfl
theorem c83 {β1 : Bool} (n : Nat) (a0 : (List Int)) (a1_0_b0_b : (List Int)) {r : Int} (h : m83 n a0 a1_0_b0_b = some r) : Spec Tryz.prog 83 [1,2] [rW β1 a0 eW,.clo (.func 84) [] [.ptr 1 0]] [(1,⟨23,false,[.own 2 1 0 a1_0_b0_b.length]⟩),(2,⟨3,true,a1_0_b0_b.flatMap eW⟩)] (iW r) [(1,⟨23,false,[.own 2 1 0 a1_0_b0_b.length]⟩),(2,⟨3,true,a1_0_b0_b.flatMap eW⟩)] := by
 refine Spec.of (fn := Tryz.f83) Tryz.func83 Tryz.ntmps83 rfl rfl (le1 rfl) (fun w0 Zs Zb T0 ι0 => ?_)
 unfold m83 at h
 refine AWP.seq ?_
 refine AWP.rg (.cons (.assign (l1 rfl) (.const _ _ _))<| .nil _ _ _) ?_
 refine AWP.vs ⟨[(0,rW β1 a0 eW),(1,.clo (.func 84) [] [.ptr 1 0])],[(1,⟨23,false,[.own 2 1 0 a1_0_b0_b.length]⟩),(2,⟨3,true,a1_0_b0_b.flatMap eW⟩)]⟩ rfl rfl ?_
 refine AWP.seq ?_
 refine AWP.seq ?_
 refine AWP.rg (.cons (.move (l1 rfl) (.t rfl))<| .cons (.lenRd (l1 rfl) (.t rfl) Tryz.underlying23)<| .cons (.lss (l1 rfl) (.t rfl) (.const _ _ _))<| .nil _ _ _) ?_
 refine AWP.vs ⟨[(0,rW β1 a0 eW),(1,.clo (.func 84) [] [.ptr 1 0]),(9,bW (decide ((a0.length : Int) < (1 : Int))))],[(1,⟨23,false,[.own 2 1 0 a1_0_b0_b.length]⟩),(2,⟨3,true,a1_0_b0_b.flatMap eW⟩)]⟩ rfl rfl ?_
 refine AWP.cond (.t rfl) (fun hc => ?_) (fun hc => ?_)
 ·have h := iteT hc h
  cases h
 ·have h := iteF hc h
  refine AWP.skip ?_
  refine AWP.seq ?_
  obtain ⟨y_1,hy_1,h⟩ := bindS h
  refine AWP.rg (.cons (.move (l1 rfl) (.t rfl))<| .cons (.indexRd (enc := eW) (l1 rfl) (.t rfl) (.const _ _ _) Tryz.underlying23 sz3 (encI_len .i64) rfl hy_1)<| .cons (.loadR (v := iW y_1) (l1 rfl) (.t rfl) one3 rfl)<| .cons (.assign (l1 rfl) (.t rfl))<| .nil _ _ _) ?_
  refine AWP.vs ⟨[(0,rW β1 a0 eW),(1,.clo (.func 84) [] [.ptr 1 0]),(5,iW y_1)],[(1,⟨23,false,[.own 2 1 0 a1_0_b0_b.length]⟩),(2,⟨3,true,a1_0_b0_b.flatMap eW⟩)]⟩ rfl rfl ?_
  refine AWP.seq ?_
  refine AWP.seq ?_
  refine AWP.rg (.cons (.assign (l1 rfl) (.const _ _ _))<| .nil _ _ _) ?_
  refine AWP.vs ⟨[(0,rW β1 a0 eW),(1,.clo (.func 84) [] [.ptr 1 0]),(5,iW y_1),(6,iW (1 : Int))],[(1,⟨23,false,[.own 2 1 0 a1_0_b0_b.length]⟩),(2,⟨3,true,a1_0_b0_b.flatMap eW⟩)]⟩ rfl rfl ?_
  refine AWP.joinB' (S := fun p_24 : Int => ⟨[(5,iW p_24)],[(1,⟨23,false,[.own 2 1 0 a1_0_b0_b.length]⟩),(2,⟨3,true,a1_0_b0_b.flatMap eW⟩)]⟩) h (fun p_24 h => ?_) (fun k_25 h => ?_)
  ·refine AWP.seq ?_
   refine AWP.rg (.cons (.move (l1 rfl) (.t rfl))<| .cons (.assign (l1 rfl) (.t rfl))<| .nil _ _ _) ?_
   refine AWP.ret ?_
   obtain rfl := Option.some.inj h
   refine retJ (Res.vc (s' := ⟨[(4,iW p_24)],[(1,⟨23,false,[.own 2 1 0 a1_0_b0_b.length]⟩),(2,⟨3,true,a1_0_b0_b.flatMap eW⟩)]⟩) (VC.sub (.of rfl) (.of rfl)) ?_)
   refine Res.sub (H := [(1,⟨23,false,[.own 2 1 0 a1_0_b0_b.length]⟩),(2,⟨3,true,a1_0_b0_b.flatMap eW⟩)]) (.of rfl) ?_
   exact Res.of rfl (.cons (.tmp rfl) (.nil)) rfl rfl
  ·refine AWP.vs ⟨[(0,rW β1 a0 eW),(1,.clo (.func 84) [] [.ptr 1 0]),(5,iW y_1),(6,iW (1 : Int))],[(1,⟨23,false,[.own 2 1 0 a1_0_b0_b.length]⟩),(2,⟨3,true,a1_0_b0_b.flatMap eW⟩)]⟩ rfl rfl ?_
   refine AWP.loopM (S := fun x_16 : Int × Int => ⟨[(0,rW β1 a0 eW),(1,.clo (.func 84) [] [.ptr 1 0]),(5,iW x_16.1),(6,iW x_16.2)],[(1,⟨23,false,[.own 2 1 0 a1_0_b0_b.length]⟩),(2,⟨3,true,a1_0_b0_b.flatMap eW⟩)]⟩) (x := (y_1,(1 : Int))) (fun nx_17 x_16 h => ?_) h
   unfold m83_L1 at h
   refine AWP.seq ?_
   refine AWP.seq ?_
   refine AWP.rg (.cons (.move (l1 rfl) (.t rfl))<| .cons (.move (l1 rfl) (.t rfl))<| .cons (.lenRd (l1 rfl) (.t rfl) Tryz.underlying23)<| .cons (.lss (l1 rfl) (.t rfl) (.t rfl))<| .nil _ _ _) ?_
   refine AWP.vs ⟨[(0,rW β1 a0 eW),(1,.clo (.func 84) [] [.ptr 1 0]),(5,iW x_16.1),(6,iW x_16.2),(17,bW (decide (x_16.2 < (a0.length : Int))))],[(1,⟨23,false,[.own 2 1 0 a1_0_b0_b.length]⟩),(2,⟨3,true,a1_0_b0_b.flatMap eW⟩)]⟩ rfl rfl ?_
   refine AWP.cond (.t rfl) (fun hc => ?_) (fun hc => ?_)
   ·have h := iteT hc h
    refine AWP.skip ?_
    refine AWP.seq ?_
    refine AWP.block ?_
    refine AWP.seq ?_
    obtain ⟨y_18,hy_18,h⟩ := bindS h
    obtain ⟨y_19,hy_19,h⟩ := bindS h
    refine AWP.rg (.cons (.move (l1 rfl) (.t rfl))<| .cons (.move (l1 rfl) (.t rfl))<| .cons (.move (l1 rfl) (.t rfl))<| .cons (.indexRd (enc := eW) (l1 rfl) (.t rfl) (.t rfl) Tryz.underlying23 sz3 (encI_len .i64) rfl hy_18)<| .cons (.loadR (v := iW y_18) (l1 rfl) (.t rfl) one3 rfl)<| .cons (.move (l1 rfl) (.t rfl))<| .cons (.keep (bw := false) (AStep.callV (us' := []) (avs := [iW y_18,iW x_16.1]) (cs' := [.ptr 1 0]) (σ := sgT [(1,1),(2,2)]) (bw := false) (l1 rfl) (.t rfl) (c84 n y_18 x_16.1 a1_0_b0_b hy_19) (.nil) (.cons (.t rfl) (.ren rfl) (.cons (.t rfl) (.ren rfl) (.nil))) (.cons (.ren rfl) (.nil)) (CallOk.mk' (.c rfl (.c rfl (.n))) rfl) (fun _ h => by cases h)) (CallOk.mk' (.c rfl (.c rfl (.n))) rfl) rfl rfl)<| .cons (.lss (l1 rfl) (.t rfl) (.const _ _ _))<| .nil _ _ _) ?_
    refine AWP.vs ⟨[(0,rW β1 a0 eW),(1,.clo (.func 84) [] [.ptr 1 0]),(5,iW x_16.1),(6,iW x_16.2),(27,bW (decide (y_19 < (0 : Int))))],[(1,⟨23,false,[.own 2 1 0 a1_0_b0_b.length]⟩),(2,⟨3,true,a1_0_b0_b.flatMap eW⟩)]⟩ rfl rfl ?_
    refine AWP.join' (S := fun p_21 : Int => ⟨[(0,rW β1 a0 eW),(1,.clo (.func 84) [] [.ptr 1 0]),(5,iW p_21),(6,iW x_16.2)],[(1,⟨23,false,[.own 2 1 0 a1_0_b0_b.length]⟩),(2,⟨3,true,a1_0_b0_b.flatMap eW⟩)]⟩) h (fun p_21 h => ?_) (fun k_22 h => ?_)
    ·obtain ⟨t6_23,ht6_23,h⟩ := letS h
     refine AWP.rg (.cons (.move (l1 rfl) (.t rfl))<| .cons (.add (l1 rfl) (.t rfl) (.const _ _ _))<| .cons (.assign (l1 rfl) (.t rfl))<| .nil _ _ _) ?_
     exact endJ (p_21,t6_23) h (by subst ht6_23; exact VC.sub (.of rfl) (.of rfl))
    ·refine AWP.cond (.t rfl) (fun hc => ?_) (fun hc => ?_)
     ·have h := iteT hc h
      obtain ⟨y_20,hy_20,h⟩ := bindS h
      refine AWP.rg (.cons (.move (l1 rfl) (.t rfl))<| .cons (.move (l1 rfl) (.t rfl))<| .cons (.indexRd (enc := eW) (l1 rfl) (.t rfl) (.t rfl) Tryz.underlying23 sz3 (encI_len .i64) rfl hy_20)<| .cons (.loadR (v := iW y_20) (l1 rfl) (.t rfl) one3 rfl)<| .cons (.assign (l1 rfl) (.t rfl))<| .nil _ _ _) ?_
      exact endJ y_20 h (VC.sub (.of rfl) (.of rfl))
     ·have h := iteF hc h
      refine AWP.skip ?_
      exact endJ x_16.1 h (VC.sub (.of rfl) (.of rfl))
   ·have h := iteF hc h
    refine AWP.exit ?_
    exact endJ x_16.1 h (VC.sub (.of rfl) (.of rfl))
theorem c87 (n : Nat) (a0 : Int) (a1_b0 : Int) {r : Bool} (h : m87 n a0 a1_b0 = some r) : Spec Tryz.prog 87 [1] [iW a0,.ptr 1 0] [(1,⟨3,false,[iW a1_b0]⟩)] (bW r) [(1,⟨3,false,[iW a1_b0]⟩)] := by
 refine Spec.of (fn := Tryz.f87) Tryz.func87 Tryz.ntmps87 rfl rfl (le1 rfl) (fun w0 Zs Zb T0 ι0 => ?_)
 unfold m87 at h
 refine AWP.seq ?_
 refine AWP.rg (.cons (.assign (l1 rfl) (.const _ _ _))<| .nil _ _ _) ?_
 refine AWP.vs ⟨[(0,iW a0),(1,.ptr 1 0)],[(1,⟨3,false,[iW a1_b0]⟩)]⟩ rfl rfl ?_
 refine AWP.seq ?_
 refine AWP.rg (.cons (.move (l1 rfl) (.t rfl))<| .cons (.loadP (l1 rfl) (.t rfl) one3 rfl rfl rfl)<| .cons (.eql (l1 rfl) (.t rfl) (.t rfl))<| .cons (.assign (l1 rfl) (.t rfl))<| .nil _ _ _) ?_
 refine AWP.ret ?_
 obtain rfl := Option.some.inj h
 refine retJ (Res.vc (s' := ⟨[(3,bW (decide (a0 = a1_b0)))],[(1,⟨3,false,[iW a1_b0]⟩)]⟩) (VC.sub (.of rfl) (.of rfl)) ?_)
 refine Res.sub (H := [(1,⟨3,false,[iW a1_b0]⟩)]) (.of rfl) ?_
 exact Res.of rfl (.cons (.tmp rfl) (.nil)) rfl rfl
theorem c77x1 {β1 : Bool} (n : Nat) (a0 : (List Int)) (a1_0_b0 : Int) {r : Int} (h : m77x1 n a0 a1_0_b0 = some r) : Spec Tryz.prog 77 [1] [rW β1 a0 eW,.clo (.func 87) [] [.ptr 1 0]] [(1,⟨3,false,[iW a1_0_b0]⟩)] (iW r) [(1,⟨3,false,[iW a1_0_b0]⟩)] := by
 refine Spec.of (fn := Tryz.f77) Tryz.func77 Tryz.ntmps77 rfl rfl (le1 rfl) (fun w0 Zs Zb T0 ι0 => ?_)
 unfold m77x1 at h
 refine AWP.seq ?_
 refine AWP.rg (.cons (.assign (l1 rfl) (.const _ _ _))<| .nil _ _ _) ?_
 refine AWP.vs ⟨[(0,rW β1 a0 eW),(1,.clo (.func 87) [] [.ptr 1 0])],[(1,⟨3,false,[iW a1_0_b0]⟩)]⟩ rfl rfl ?_
 refine AWP.seq ?_
 refine AWP.seq ?_
 refine AWP.rg (.cons (.move (l1 rfl) (.t rfl))<| .cons (.lenRd (l1 rfl) (.t rfl) Tryz.underlying23)<| .cons (.move (l1 rfl) (.const _ _ _))<| .nil _ _ _) ?_
 refine AWP.vs ⟨[(0,rW β1 a0 eW),(1,.clo (.func 87) [] [.ptr 1 0]),(7,iW (a0.length : Int)),(8,iW (0 : Int))],[(1,⟨3,false,[iW a1_0_b0]⟩)]⟩ rfl rfl ?_
 refine AWP.joinB' (S := fun p_14 : Unit => ⟨[],[(1,⟨3,false,[iW a1_0_b0]⟩)]⟩) h (fun p_14 h => ?_) (fun k_15 h => ?_)
 ·refine AWP.seq ?_
  refine AWP.rg (.cons (.assign (l1 rfl) (.const _ _ _))<| .nil _ _ _) ?_
  refine AWP.ret ?_
  obtain rfl := Option.some.inj h
  refine retJ (Res.vc (s' := ⟨[(4,iW (-1 : Int))],[(1,⟨3,false,[iW a1_0_b0]⟩)]⟩) (VC.sub (.of rfl) (.of rfl)) ?_)
  refine Res.sub (H := [(1,⟨3,false,[iW a1_0_b0]⟩)]) (.of rfl) ?_
  exact Res.of rfl (.cons (.tmp rfl) (.nil)) rfl rfl
 ·refine AWP.vs ⟨[(0,rW β1 a0 eW),(1,.clo (.func 87) [] [.ptr 1 0]),(7,iW (a0.length : Int)),(8,iW (0 : Int))],[(1,⟨3,false,[iW a1_0_b0]⟩)]⟩ rfl rfl ?_
  refine AWP.loopM (S := fun x_9 : Int => ⟨[(0,rW β1 a0 eW),(1,.clo (.func 87) [] [.ptr 1 0]),(7,iW (a0.length : Int)),(8,iW x_9)],[(1,⟨3,false,[iW a1_0_b0]⟩)]⟩) (x := (0 : Int)) (fun nx_10 x_9 h => ?_) h
  unfold m77x1_L1 at h
  refine AWP.seq ?_
  refine AWP.rg (.cons (.lss (l1 rfl) (.t rfl) (.t rfl))<| .nil _ _ _) ?_
  refine AWP.vs ⟨[(0,rW β1 a0 eW),(1,.clo (.func 87) [] [.ptr 1 0]),(7,iW (a0.length : Int)),(8,iW x_9),(9,bW (decide (x_9 < (a0.length : Int))))],[(1,⟨3,false,[iW a1_0_b0]⟩)]⟩ rfl rfl ?_
  refine AWP.seq ?_
  refine AWP.cond (.t rfl) (fun hc => ?_) (fun hc => ?_)
  ·have h := iteT hc h
   refine AWP.skip ?_
   refine AWP.seq ?_
   refine AWP.block ?_
   refine AWP.seq ?_
   refine AWP.rg (.cons (.move (l1 rfl) (.t rfl))<| .cons (.assign (l1 rfl) (.t rfl))<| .nil _ _ _) ?_
   refine AWP.vs ⟨[(0,rW β1 a0 eW),(1,.clo (.func 87) [] [.ptr 1 0]),(7,iW (a0.length : Int)),(8,iW x_9),(5,iW x_9)],[(1,⟨3,false,[iW a1_0_b0]⟩)]⟩ rfl rfl ?_
   refine AWP.seq ?_
   obtain ⟨y_11,hy_11,h⟩ := bindS h
   obtain ⟨y_12,hy_12,h⟩ := bindS h
   refine AWP.rg (.cons (.move (l1 rfl) (.t rfl))<| .cons (.move (l1 rfl) (.t rfl))<| .cons (.move (l1 rfl) (.t rfl))<| .cons (.indexRd (enc := eW) (l1 rfl) (.t rfl) (.t rfl) Tryz.underlying23 sz3 (encI_len .i64) rfl hy_11)<| .cons (.loadR (v := iW y_11) (l1 rfl) (.t rfl) one3 rfl)<| .cons (.keep (bw := false) (AStep.callV (us' := []) (avs := [iW y_11]) (cs' := [.ptr 1 0]) (σ := fun _ => 1) (bw := false) (l1 rfl) (.t rfl) (c87 n y_11 a1_0_b0 hy_12) (.nil) (.cons (.t rfl) (.ren rfl) (.nil)) (.cons (.ren rfl) (.nil)) (CallOk.mk' (.c rfl (.n)) rfl) (fun _ h => by cases h)) (CallOk.mk' (.c rfl (.n)) rfl) rfl rfl)<| .nil _ _ _) ?_
   refine AWP.vs ⟨[(0,rW β1 a0 eW),(1,.clo (.func 87) [] [.ptr 1 0]),(7,iW (a0.length : Int)),(8,iW x_9),(5,iW x_9),(16,bW y_12)],[(1,⟨3,false,[iW a1_0_b0]⟩)]⟩ rfl rfl ?_
   refine AWP.cond (.t rfl) (fun hc => ?_) (fun hc => ?_)
   ·have h := iteT hc h
    refine AWP.seq ?_
    refine AWP.rg (.cons (.move (l1 rfl) (.t rfl))<| .cons (.assign (l1 rfl) (.t rfl))<| .nil _ _ _) ?_
    refine AWP.ret ?_
    obtain rfl := Option.some.inj h
    refine retJ (Res.vc (s' := ⟨[(4,iW x_9)],[(1,⟨3,false,[iW a1_0_b0]⟩)]⟩) (VC.sub (.of rfl) (.of rfl)) ?_)
    refine Res.sub (H := [(1,⟨3,false,[iW a1_0_b0]⟩)]) (.of rfl) ?_
    exact Res.of rfl (.cons (.tmp rfl) (.nil)) rfl rfl
   ·have h := iteF hc h
    refine AWP.skip ?_
    obtain ⟨t8_13,ht8_13,h⟩ := letS h
    refine AWP.rg (.cons (.add (l1 rfl) (.t rfl) (.const _ _ _))<| .cons (.move (l1 rfl) (.t rfl))<| .nil _ _ _) ?_
    exact endJ t8_13 h (by subst ht8_13; exact VC.sub (.of rfl) (.of rfl))
  ·have h := iteF hc h
   refine AWP.exit ?_
   exact endJ () h (VC.sub (.n _) (.of rfl))
theorem c86o (n : Nat) (a0_b : (List Int)) (a1_0_b0 : Int) {r : (List Int)} (h : m86o n a0_b a1_0_b0 = some r) : Spec Tryz.prog 86 [2] [.own 1 1 0 a0_b.length,.clo (.func 87) [] [.ptr 2 0]] [(1,⟨3,true,a0_b.flatMap eW⟩),(2,⟨3,false,[iW a1_0_b0]⟩)] (.own 1 1 0 r.length) [(2,⟨3,false,[iW a1_0_b0]⟩),(1,⟨3,true,r.flatMap eW⟩)] := by
 refine Spec.of (fn := Tryz.f86) Tryz.func86 Tryz.ntmps86 rfl rfl (le1 rfl) (fun w0 Zs Zb T0 ι0 => ?_)
 unfold m86o at h
 refine AWP.seq ?_
 refine AWP.rg (.cons (.assign (l1 rfl) (.const _ _ _))<| .nil _ _ _) ?_
 refine AWP.vs ⟨[(0,.own 1 1 0 a0_b.length),(1,.clo (.func 87) [] [.ptr 2 0])],[(1,⟨3,true,a0_b.flatMap eW⟩),(2,⟨3,false,[iW a1_0_b0]⟩)]⟩ rfl rfl ?_
 refine AWP.seq ?_
 obtain ⟨y_1,hy_1,h⟩ := bindS h
 refine AWP.rg (.cons (.move (l1 rfl) (.t rfl))<| .cons (.move (l1 rfl) (.t rfl))<| .cons (.keep (bw := true) (AStep.call (σ := fun _ => 2) (bw := true) (l1 rfl) (c77x1 (β1 := true) n a0_b a1_0_b0 hy_1) (.cons (.t rfl) (.lendRow rfl rfl (encI_len .i64) rfl) (.cons (.t rfl) (.ren rfl) (.nil))) (CallOk.mk' (.c rfl (.n)) rfl)) (CallOk.mk' (.c rfl (.n)) rfl) rfl rfl)<| .cons (.assign (l1 rfl) (.t rfl))<| .nil _ _ _) ?_
 refine AWP.vs ⟨[(0,.own 1 1 0 a0_b.length),(1,.clo (.func 87) [] [.ptr 2 0]),(5,iW y_1)],[(1,⟨3,true,a0_b.flatMap eW⟩),(2,⟨3,false,[iW a1_0_b0]⟩)]⟩ rfl rfl ?_
 refine AWP.seq ?_
 refine AWP.seq ?_
 refine AWP.rg (.cons (.move (l1 rfl) (.t rfl))<| .cons (.eql (l1 rfl) (.t rfl) (.const _ _ _))<| .nil _ _ _) ?_
 refine AWP.vs ⟨[(0,.own 1 1 0 a0_b.length),(1,.clo (.func 87) [] [.ptr 2 0]),(5,iW y_1),(12,bW (decide (y_1 = (-1 : Int))))],[(1,⟨3,true,a0_b.flatMap eW⟩),(2,⟨3,false,[iW a1_0_b0]⟩)]⟩ rfl rfl ?_
 refine AWP.cond (.t rfl) (fun hc => ?_) (fun hc => ?_)
 ·have h := iteT hc h
  refine AWP.seq ?_
  refine AWP.rg (.cons (.move (l1 rfl) (.t rfl))<| .cons (.assign (l1 rfl) (.t rfl))<| .nil _ _ _) ?_
  refine AWP.ret ?_
  obtain rfl := Option.some.inj h
  refine retJ (Res.vc (s' := ⟨[(4,.own 1 1 0 a0_b.length)],[(1,⟨3,true,a0_b.flatMap eW⟩),(2,⟨3,false,[iW a1_0_b0]⟩)]⟩) (VC.sub (.of rfl) (.of rfl)) ?_)
  refine Res.sub (H := [(1,⟨3,true,a0_b.flatMap eW⟩),(2,⟨3,false,[iW a1_0_b0]⟩)]) (.of rfl) ?_
  exact Res.of rfl (.cons (.tmp rfl) (.nil)) rfl rfl
 ·have h := iteF hc h
  refine AWP.skip ?_
  refine AWP.seq ?_
  refine AWP.seq ?_
  obtain ⟨t6_2,ht6_2,h⟩ := letS h
  refine AWP.rg (.cons (.move (l1 rfl) (.t rfl))<| .cons (.add (l1 rfl) (.t rfl) (.const _ _ _))<| .cons (.assign (l1 rfl) (.t rfl))<| .nil _ _ _) ?_
  refine AWP.vc (s' := ⟨[(0,.own 1 1 0 a0_b.length),(1,.clo (.func 87) [] [.ptr 2 0]),(5,iW y_1),(6,iW t6_2)],[(1,⟨3,true,a0_b.flatMap eW⟩),(2,⟨3,false,[iW a1_0_b0]⟩)]⟩) (by subst ht6_2; exact VC.sub (.of rfl) (.of rfl)) ?_
  refine AWP.joinB' (S := fun p_31 : Int × (List Int) => ⟨[(0,.own 1 1 0 p_31.2.length),(5,iW p_31.1)],[(1,⟨3,true,p_31.2.flatMap eW⟩),(2,⟨3,false,[iW a1_0_b0]⟩)]⟩) h (fun p_31 h => ?_) (fun k_32 h => ?_)
  ·refine AWP.seq ?_
   obtain ⟨l1_33,hl1_33,h⟩ := bindS h
   refine AWP.rg (.cons (.move (l1 rfl) (.t rfl))<| .cons (.move (l1 rfl) (.t rfl))<| .cons (.slPart (l1 rfl) (.t rfl) Tryz.underlying23 sz3 rfl (.some (.t rfl)) hl1_33)<| .cons (.clearTail (.t rfl) Tryz.underlying23 zero3 (by decide) rfl rfl (takeF (encI_len .i64) hl1_33))<| .nil _ _ _) ?_
   refine AWP.vs ⟨[(0,.own 1 1 0 p_31.2.length),(5,iW p_31.1)],[(1,⟨3,true,l1_33.flatMap eW⟩),(2,⟨3,false,[iW a1_0_b0]⟩)]⟩ rfl rfl ?_
   refine AWP.seq ?_
   refine AWP.rg (.cons (.move (l1 rfl) (.t rfl))<| .cons (.move (l1 rfl) (.t rfl))<| .cons (.slHead (l1 rfl) (.t rfl) Tryz.underlying23 sz3 rfl (.some (.t rfl)) hl1_33)<| .cons (.assign (l1 rfl) (.t rfl))<| .nil _ _ _) ?_
   refine AWP.ret ?_
   obtain rfl := Option.some.inj h
   refine retJ (Res.vc (s' := ⟨[(4,.own 1 1 0 l1_33.length)],[(1,⟨3,true,l1_33.flatMap eW⟩),(2,⟨3,false,[iW a1_0_b0]⟩)]⟩) (VC.sub (.of rfl) (.of rfl)) ?_)
   refine Res.sub (H := [(1,⟨3,true,l1_33.flatMap eW⟩),(2,⟨3,false,[iW a1_0_b0]⟩)]) (.of rfl) ?_
   exact Res.of rfl (.cons (.tmp rfl) (.nil)) rfl rfl
  ·refine AWP.vs ⟨[(0,.own 1 1 0 a0_b.length),(1,.clo (.func 87) [] [.ptr 2 0]),(5,iW y_1),(6,iW t6_2)],[(1,⟨3,true,a0_b.flatMap eW⟩),(2,⟨3,false,[iW a1_0_b0]⟩)]⟩ rfl rfl ?_
   refine AWP.loopM (S := fun x_21 : Int × Int × (List Int) => ⟨[(0,.own 1 1 0 x_21.2.2.length),(1,.clo (.func 87) [] [.ptr 2 0]),(5,iW x_21.1),(6,iW x_21.2.1)],[(1,⟨3,true,x_21.2.2.flatMap eW⟩),(2,⟨3,false,[iW a1_0_b0]⟩)]⟩) (x := (y_1,t6_2,a0_b)) (fun nx_22 x_21 h => ?_) h
   unfold m86o_L1 at h
   refine AWP.seq ?_
   refine AWP.seq ?_
   refine AWP.rg (.cons (.move (l1 rfl) (.t rfl))<| .cons (.move (l1 rfl) (.t rfl))<| .cons (.lenOwn (l1 rfl) (.t rfl) Tryz.underlying23)<| .cons (.lss (l1 rfl) (.t rfl) (.t rfl))<| .nil _ _ _) ?_
   refine AWP.vs ⟨[(0,.own 1 1 0 x_21.2.2.length),(1,.clo (.func 87) [] [.ptr 2 0]),(5,iW x_21.1),(6,iW x_21.2.1),(19,bW (decide (x_21.2.1 < (x_21.2.2.length : Int))))],[(1,⟨3,true,x_21.2.2.flatMap eW⟩),(2,⟨3,false,[iW a1_0_b0]⟩)]⟩ rfl rfl ?_
   refine AWP.cond (.t rfl) (fun hc => ?_) (fun hc => ?_)
   ·have h := iteT hc h
    refine AWP.skip ?_
    refine AWP.seq ?_
    refine AWP.block ?_
    refine AWP.seq ?_
    obtain ⟨y_23,hy_23,h⟩ := bindS h
    refine AWP.rg (.cons (.move (l1 rfl) (.t rfl))<| .cons (.move (l1 rfl) (.t rfl))<| .cons (.idxOwn (l1 rfl) (.t rfl) (.t rfl) Tryz.underlying23 sz3 rfl hy_23)<| .cons (.loadP (l1 rfl) (.t rfl) one3 rfl (cell_at1 (encI_len .i64) hy_23) rfl)<| .cons (.assign (l1 rfl) (.t rfl))<| .nil _ _ _) ?_
    refine AWP.vs ⟨[(0,.own 1 1 0 x_21.2.2.length),(1,.clo (.func 87) [] [.ptr 2 0]),(5,iW x_21.1),(6,iW x_21.2.1),(7,iW y_23)],[(1,⟨3,true,x_21.2.2.flatMap eW⟩),(2,⟨3,false,[iW a1_0_b0]⟩)]⟩ rfl rfl ?_
    refine AWP.seq ?_
    obtain ⟨y_24,hy_24,h⟩ := bindS h
    refine AWP.rg (.cons (.move (l1 rfl) (.t rfl))<| .cons (.move (l1 rfl) (.t rfl))<| .cons (.keep (bw := false) (AStep.callV (us' := []) (avs := [iW y_23]) (cs' := [.ptr 1 0]) (σ := fun _ => 2) (bw := false) (l1 rfl) (.t rfl) (c87 n y_23 a1_0_b0 hy_24) (.nil) (.cons (.t rfl) (.ren rfl) (.nil)) (.cons (.ren rfl) (.nil)) (CallOk.mk' (.c rfl (.n)) rfl) (fun _ h => by cases h)) (CallOk.mk' (.c rfl (.n)) rfl) rfl rfl)<| .cons (.not (l1 rfl) (.t rfl))<| .nil _ _ _) ?_
    refine AWP.vs ⟨[(0,.own 1 1 0 x_21.2.2.length),(1,.clo (.func 87) [] [.ptr 2 0]),(5,iW x_21.1),(6,iW x_21.2.1),(7,iW y_23),(29,bW (!y_24))],[(1,⟨3,true,x_21.2.2.flatMap eW⟩),(2,⟨3,false,[iW a1_0_b0]⟩)]⟩ rfl rfl ?_
    refine AWP.join' (S := fun p_28 : Int × (List Int) => ⟨[(0,.own 1 1 0 p_28.2.length),(1,.clo (.func 87) [] [.ptr 2 0]),(5,iW p_28.1),(6,iW x_21.2.1)],[(1,⟨3,true,p_28.2.flatMap eW⟩),(2,⟨3,false,[iW a1_0_b0]⟩)]⟩) h (fun p_28 h => ?_) (fun k_29 h => ?_)
    ·obtain ⟨t6_30,ht6_30,h⟩ := letS h
     refine AWP.rg (.cons (.move (l1 rfl) (.t rfl))<| .cons (.add (l1 rfl) (.t rfl) (.const _ _ _))<| .cons (.assign (l1 rfl) (.t rfl))<| .nil _ _ _) ?_
     exact endJ (p_28.1,t6_30,p_28.2) h (by subst ht6_30; exact VC.sub (.of rfl) (.of rfl))
    ·refine AWP.cond (.t rfl) (fun hc => ?_) (fun hc => ?_)
     ·have h := iteT hc h
      refine AWP.seq ?_
      obtain ⟨y_25,hy_25,h⟩ := bindS h
      obtain ⟨l1_26,hl1_26,h⟩ := bindS h
      refine AWP.rg (.cons (.move (l1 rfl) (.t rfl))<| .cons (.move (l1 rfl) (.t rfl))<| .cons (.move (l1 rfl) (.t rfl))<| .cons (.idxOwn (l1 rfl) (.t rfl) (.t rfl) Tryz.underlying23 sz3 rfl hy_25)<| .cons (.storeP (.t rfl) (.t rfl) sz3 rfl (lt_at1 (encI_len .i64) hy_25) rfl (fun _ => rfl) (set_at1 (encI_len .i64) hl1_26 rfl))<| .nil _ _ _) ?_
      refine AWP.vc (s' := ⟨[(0,.own 1 1 0 l1_26.length),(1,.clo (.func 87) [] [.ptr 2 0]),(5,iW x_21.1),(6,iW x_21.2.1)],[(1,⟨3,true,l1_26.flatMap eW⟩),(2,⟨3,false,[iW a1_0_b0]⟩)]⟩) (VC.sub (.c (lenC (Eq.symm (setLen hl1_26)) rfl)<| .c rfl<| .c rfl<| .c rfl<| .n _) (.of rfl)) ?_
      obtain ⟨t5_27,ht5_27,h⟩ := letS h
      refine AWP.rg (.cons (.move (l1 rfl) (.t rfl))<| .cons (.add (l1 rfl) (.t rfl) (.const _ _ _))<| .cons (.assign (l1 rfl) (.t rfl))<| .nil _ _ _) ?_
      exact endJ (t5_27,l1_26) h (by subst ht5_27; exact VC.sub (.of rfl) (.of rfl))
     ·have h := iteF hc h
      refine AWP.skip ?_
      exact endJ (x_21.1,x_21.2.2) h (VC.sub (.of rfl) (.of rfl))
   ·have h := iteF hc h
    refine AWP.exit ?_
    exact endJ (x_21.1,x_21.2.2) h (VC.sub (.of rfl) (.of rfl))
theorem c74 {β1 : Bool} (n : Nat) (a0 : (List R63)) {r : (List Int)} (h : m74 n a0 = some r) : Spec Tryz.prog 74 [] [rW β1 a0 e63] [] (rW false r eW) [] := by
 refine Spec.of (fn := Tryz.f74) Tryz.func74 Tryz.ntmps74 rfl rfl (le1 rfl) (fun w0 Zs Zb T0 ι0 => ?_)
 unfold m74 at h
 refine AWP.seq ?_
 refine AWP.rg (.cons (.box (t := 1) (n := 1) (l1 rfl) (nm rfl) (.t rfl) (by first | exact ⟨rfl,rfl⟩ | rfl) rfl)<| .cons (.assign (l1 rfl) (.const _ _ _))<| .nil _ _ _) ?_
 refine AWP.vs ⟨[(1,.ptr 1 0)],[(1,⟨35,false,[rW β1 a0 e63]⟩)]⟩ rfl rfl ?_
 refine AWP.seq ?_
 obtain ⟨l2_1,hl2_1,h⟩ := bindS h
 refine AWP.rg (.cons (.loadP (l1 rfl) (.t rfl) one35 rfl rfl rfl)<| .cons (.lenRd (l1 rfl) (.t rfl) Tryz.underlying35)<| .cons (.mkS (enc := eW) (t := 2) (l1 rfl) (nm rfl) (.t rfl) (.t rfl) Tryz.underlying23 zero3 el3 rfl (encI_len .i64) (by decide) hl2_1)<| .cons (.assign (l1 rfl) (.t rfl))<| .nil _ _ _) ?_
 refine AWP.vs ⟨[(1,.ptr 1 0),(3,.own 2 1 0 l2_1.length)],[(2,⟨3,true,l2_1.flatMap eW⟩),(1,⟨35,false,[rW β1 a0 e63]⟩)]⟩ rfl rfl ?_
 refine AWP.seq ?_
 refine AWP.seq ?_
 refine AWP.rg (.cons (.move (l1 rfl) (.t rfl))<| .cons (.lenOwn (l1 rfl) (.t rfl) Tryz.underlying23)<| .cons (.move (l1 rfl) (.const _ _ _))<| .nil _ _ _) ?_
 refine AWP.vs ⟨[(1,.ptr 1 0),(3,.own 2 1 0 l2_1.length),(17,iW (l2_1.length : Int)),(18,iW (0 : Int))],[(2,⟨3,true,l2_1.flatMap eW⟩),(1,⟨35,false,[rW β1 a0 e63]⟩)]⟩ rfl rfl ?_
 refine AWP.joinB' (S := fun p_15 : (List Int) => ⟨[(1,.ptr 1 0),(3,.own 2 1 0 p_15.length)],[(1,⟨35,false,[rW β1 a0 e63]⟩),(2,⟨3,true,p_15.flatMap eW⟩)]⟩) h (fun p_15 h => ?_) (fun k_16 h => ?_)
 ·refine AWP.seq ?_
  obtain ⟨y_17,hy_17,h⟩ := bindS h
  obtain ⟨ha_18,h⟩ := asrtS h
  refine AWP.rg (.cons (.move (l1 rfl) (.t rfl))<| .cons (.makeFunc (l1 rfl) (.nil) (.cons (.t rfl) (.nil)))<| .cons (.call (σ := sgT [(1,2),(2,1)]) (bw := false) (l1 rfl) (c80 (β1 := β1) n p_15 a0 hy_17) (.cons (.t rfl) (.ren rfl) (.cons (.t rfl) (.ren rfl) (.nil))) (CallOk.mk' (.c rfl (.c rfl (.n))) rfl))<| .nil _ _ _) ?_
  refine AWP.vc (s' := ⟨[(1,.ptr 1 0),(3,.own 2 1 0 y_17.length)],[(2,⟨3,true,y_17.flatMap eW⟩),(1,⟨35,false,[rW β1 a0 e63]⟩)]⟩) (VC.sub (.c rfl<| .c (lenC (Eq.symm (Eq.symm ha_18)) rfl)<| .n _) (.of rfl)) ?_
  refine AWP.seq ?_
  obtain ⟨l3_19,hl3_19,h⟩ := bindS h
  refine AWP.rg (.cons (.loadP (l1 rfl) (.t rfl) one35 rfl rfl rfl)<| .cons (.lenRd (l1 rfl) (.t rfl) Tryz.underlying35)<| .cons (.mkS (enc := eW) (t := 3) (l1 rfl) (nm rfl) (.t rfl) (.t rfl) Tryz.underlying23 zero3 el3 rfl (encI_len .i64) (by decide) hl3_19)<| .cons (.alloc (t := 4) (k := ⟨23,false,[.sc (.slice none 0 0)]⟩) (l1 rfl) (nm rfl) zero23 rfl rfl)<| .cons (.storeP (.t rfl) (.t rfl) sz23 rfl (l1 rfl) rfl (by intro h; cases h) rfl)<| .nil _ _ _) ?_
  refine AWP.vs ⟨[(1,.ptr 1 0),(3,.own 2 1 0 y_17.length),(5,.ptr 4 0)],[(4,⟨23,false,[.own 3 1 0 l3_19.length]⟩),(3,⟨3,true,l3_19.flatMap eW⟩),(2,⟨3,true,y_17.flatMap eW⟩),(1,⟨35,false,[rW β1 a0 e63]⟩)]⟩ rfl rfl ?_
  refine AWP.seq ?_
  refine AWP.rg (.cons (.assign (l1 rfl) (.const _ _ _))<| .cons (.assign (l1 rfl) (.const _ _ _))<| .nil _ _ _) ?_
  refine AWP.vs ⟨[(1,.ptr 1 0),(3,.own 2 1 0 y_17.length),(5,.ptr 4 0),(6,.sc (.slice none 0 0)),(7,.sc (.slice none 0 0))],[(4,⟨23,false,[.own 3 1 0 l3_19.length]⟩),(3,⟨3,true,l3_19.flatMap eW⟩),(2,⟨3,true,y_17.flatMap eW⟩),(1,⟨35,false,[rW β1 a0 e63]⟩)]⟩ rfl rfl ?_
  refine AWP.seq ?_
  refine AWP.rg (.cons (.assign (l1 rfl) (.const _ _ _))<| .cons (.assign (l1 rfl) (.const _ _ _))<| .nil _ _ _) ?_
  refine AWP.vs ⟨[(1,.ptr 1 0),(3,.own 2 1 0 y_17.length),(5,.ptr 4 0),(6,.sc (.slice none 0 0)),(7,.sc (.slice none 0 0)),(8,iW (0 : Int)),(9,iW (0 : Int))],[(4,⟨23,false,[.own 3 1 0 l3_19.length]⟩),(3,⟨3,true,l3_19.flatMap eW⟩),(2,⟨3,true,y_17.flatMap eW⟩),(1,⟨35,false,[rW β1 a0 e63]⟩)]⟩ rfl rfl ?_
  refine AWP.seq ?_
  refine AWP.joinB' (S := fun p_177 : (List Int) => ⟨[(7,.own 6 1 0 p_177.length)],[(6,⟨3,true,p_177.flatMap eW⟩)]⟩) h (fun p_177 h => ?_) (fun k_178 h => ?_)
  ·refine AWP.seq ?_
   refine AWP.rg (.cons (.move (l1 rfl) (.t rfl))<| .cons (.assign (l1 rfl) (.t rfl))<| .nil _ _ _) ?_
   refine AWP.ret ?_
   obtain rfl := Option.some.inj h
   refine retJ (Res.vc (s' := ⟨[(2,rW false p_177 eW)],[]⟩) (VC.trans (VC.frz (d := 2) (t := 6) rfl rfl (encI_len .i64)) (VC.sub (.of rfl) (.n _))) ?_)
   refine Res.drop (H := []) rfl ?_
   exact Res.of rfl (.cons (.tmp rfl) (.nil)) rfl rfl
  ·refine AWP.vc (VC.nilOwn (d := 6) (t := 5) (sz := 1) (E := 3) rfl (nm rfl)) ?_
   refine AWP.vc (VC.nilOwn (d := 7) (t := 6) (sz := 1) (E := 3) rfl (nm rfl)) ?_
   refine AWP.vs ⟨[(1,.ptr 1 0),(3,.own 2 1 0 y_17.length),(5,.ptr 4 0),(6,.own 5 1 0 ([] : List Int).length),(7,.own 6 1 0 ([] : List Int).length),(8,iW (0 : Int)),(9,iW (0 : Int))],[(1,⟨35,false,[rW β1 a0 e63]⟩),(2,⟨3,true,y_17.flatMap eW⟩),(4,⟨23,false,[.own 3 1 0 l3_19.length]⟩),(5,⟨3,true,([] : List Int).flatMap eW⟩),(6,⟨3,true,([] : List Int).flatMap eW⟩),(3,⟨3,true,l3_19.flatMap eW⟩)]⟩ rfl rfl ?_
   refine AWP.loopM (S := fun x_124 : Int × Int × (List Int) × (List Int) × (List Int) => ⟨[(1,.ptr 1 0),(3,.own 2 1 0 y_17.length),(5,.ptr 4 0),(6,.own 5 1 0 x_124.2.2.1.length),(7,.own 6 1 0 x_124.2.2.2.1.length),(8,iW x_124.1),(9,iW x_124.2.1)],[(1,⟨35,false,[rW β1 a0 e63]⟩),(2,⟨3,true,y_17.flatMap eW⟩),(4,⟨23,false,[.own 3 1 0 x_124.2.2.2.2.length]⟩),(5,⟨3,true,x_124.2.2.1.flatMap eW⟩),(6,⟨3,true,x_124.2.2.2.1.flatMap eW⟩),(3,⟨3,true,x_124.2.2.2.2.flatMap eW⟩)]⟩) (x := ((0 : Int),(0 : Int),([] : List Int),([] : List Int),l3_19)) (fun nx_125 x_124 h => ?_) h
   unfold m74_L4 at h
   refine AWP.seq ?_
   refine AWP.seq ?_
   refine AWP.rg (.cons (.move (l1 rfl) (.t rfl))<| .cons (.lenOwn (l1 rfl) (.t rfl) Tryz.underlying23)<| .cons (.loadP (l1 rfl) (.t rfl) one35 rfl rfl rfl)<| .cons (.lenRd (l1 rfl) (.t rfl) Tryz.underlying35)<| .cons (.lss (l1 rfl) (.t rfl) (.t rfl))<| .nil _ _ _) ?_
   refine AWP.vs ⟨[(1,.ptr 1 0),(3,.own 2 1 0 y_17.length),(5,.ptr 4 0),(6,.own 5 1 0 x_124.2.2.1.length),(7,.own 6 1 0 x_124.2.2.2.1.length),(8,iW x_124.1),(9,iW x_124.2.1),(36,bW (decide ((x_124.2.2.2.1.length : Int) < (a0.length : Int))))],[(1,⟨35,false,[rW β1 a0 e63]⟩),(2,⟨3,true,y_17.flatMap eW⟩),(4,⟨23,false,[.own 3 1 0 x_124.2.2.2.2.length]⟩),(5,⟨3,true,x_124.2.2.1.flatMap eW⟩),(6,⟨3,true,x_124.2.2.2.1.flatMap eW⟩),(3,⟨3,true,x_124.2.2.2.2.flatMap eW⟩)]⟩ rfl rfl ?_
   refine AWP.cond (.t rfl) (fun hc => ?_) (fun hc => ?_)
   ·have h := iteT hc h
    refine AWP.skip ?_
    refine AWP.block ?_
    refine AWP.seq ?_
    refine AWP.seq ?_
    refine AWP.rg (.cons (.move (l1 rfl) (.t rfl))<| .cons (.lenOwn (l1 rfl) (.t rfl) Tryz.underlying23)<| .cons (.eql (l1 rfl) (.t rfl) (.const _ _ _))<| .nil _ _ _) ?_
    refine AWP.vs ⟨[(1,.ptr 1 0),(3,.own 2 1 0 y_17.length),(5,.ptr 4 0),(6,.own 5 1 0 x_124.2.2.1.length),(7,.own 6 1 0 x_124.2.2.2.1.length),(8,iW x_124.1),(9,iW x_124.2.1),(39,bW (decide ((x_124.2.2.1.length : Int) = (0 : Int))))],[(1,⟨35,false,[rW β1 a0 e63]⟩),(2,⟨3,true,y_17.flatMap eW⟩),(4,⟨23,false,[.own 3 1 0 x_124.2.2.2.2.length]⟩),(5,⟨3,true,x_124.2.2.1.flatMap eW⟩),(6,⟨3,true,x_124.2.2.2.1.flatMap eW⟩),(3,⟨3,true,x_124.2.2.2.2.flatMap eW⟩)]⟩ rfl rfl ?_
    refine AWP.join' (S := fun p_129 : Int => ⟨[(1,.ptr 1 0),(3,.own 2 1 0 y_17.length),(5,.ptr 4 0),(6,.own 5 1 0 x_124.2.2.1.length),(7,.own 6 1 0 x_124.2.2.2.1.length),(8,iW p_129),(9,iW x_124.2.1)],[(1,⟨35,false,[rW β1 a0 e63]⟩),(2,⟨3,true,y_17.flatMap eW⟩),(4,⟨23,false,[.own 3 1 0 x_124.2.2.2.2.length]⟩),(5,⟨3,true,x_124.2.2.1.flatMap eW⟩),(6,⟨3,true,x_124.2.2.2.1.flatMap eW⟩),(3,⟨3,true,x_124.2.2.2.2.flatMap eW⟩)]⟩) h (fun p_129 h => ?_) (fun k_130 h => ?_)
    ·refine AWP.seq ?_
     refine AWP.joinB' (S := fun p_159 : Int × (List Int) × (List Int) => ⟨[(1,.ptr 1 0),(3,.own 2 1 0 y_17.length),(5,.ptr 4 0),(6,.own 5 1 0 p_159.2.1.length),(7,.own 6 1 0 x_124.2.2.2.1.length),(8,iW p_129),(9,iW p_159.1)],[(1,⟨35,false,[rW β1 a0 e63]⟩),(2,⟨3,true,y_17.flatMap eW⟩),(4,⟨23,false,[.own 3 1 0 p_159.2.2.length]⟩),(5,⟨3,true,p_159.2.1.flatMap eW⟩),(6,⟨3,true,x_124.2.2.2.1.flatMap eW⟩),(3,⟨3,true,p_159.2.2.flatMap eW⟩)]⟩) h (fun p_159 h => ?_) (fun k_160 h => ?_)
     ·refine AWP.seq ?_
      obtain ⟨y_161,hy_161,h⟩ := bindS h
      refine AWP.rg (.cons (.move (l1 rfl) (.t rfl))<| .cons (.makeFunc (l1 rfl) (.nil) (.cons (.t rfl) (.nil)))<| .cons (.keep (bw := true) (AStep.call (σ := sgT [(1,4),(2,3)]) (bw := true) (l1 rfl) (c83 (β1 := true) n p_159.2.1 p_159.2.2 hy_161) (.cons (.t rfl) (.lendRow rfl rfl (encI_len .i64) rfl) (.cons (.t rfl) (.ren rfl) (.nil))) (CallOk.mk' (.c rfl (.c rfl (.n))) rfl)) (CallOk.mk' (.c rfl (.c rfl (.n))) rfl) rfl rfl)<| .cons (.alloc (t := 8) (k := ⟨3,false,[iW (0 : Int)]⟩) (l1 rfl) (nm rfl) zero3 rfl rfl)<| .cons (.storeP (.t rfl) (.t rfl) sz3 rfl (l1 rfl) rfl (by intro h; cases h) rfl)<| .nil _ _ _) ?_
      refine AWP.vs ⟨[(1,.ptr 1 0),(3,.own 2 1 0 y_17.length),(5,.ptr 4 0),(6,.own 5 1 0 p_159.2.1.length),(7,.own 6 1 0 x_124.2.2.2.1.length),(8,iW p_129),(9,iW p_159.1),(11,.ptr 8 0)],[(8,⟨3,false,[iW y_161]⟩),(1,⟨35,false,[rW β1 a0 e63]⟩),(2,⟨3,true,y_17.flatMap eW⟩),(4,⟨23,false,[.own 3 1 0 p_159.2.2.length]⟩),(5,⟨3,true,p_159.2.1.flatMap eW⟩),(6,⟨3,true,x_124.2.2.2.1.flatMap eW⟩),(3,⟨3,true,p_159.2.2.flatMap eW⟩)]⟩ rfl rfl ?_
      refine AWP.seq ?_
      obtain ⟨y_162,hy_162,h⟩ := bindS h
      refine AWP.rg (.cons (.loadP (l1 rfl) (.t rfl) one23 rfl rfl rfl)<| .cons (.loadP (l1 rfl) (.t rfl) one3 rfl rfl rfl)<| .cons (.idxOwn (l1 rfl) (.t rfl) (.t rfl) Tryz.underlying23 sz3 rfl hy_162)<| .cons (.loadP (l1 rfl) (.t rfl) one3 rfl (cell_at1 (encI_len .i64) hy_162) rfl)<| .cons (.assign (l1 rfl) (.t rfl))<| .nil _ _ _) ?_
      refine AWP.vs ⟨[(1,.ptr 1 0),(3,.own 2 1 0 y_17.length),(5,.ptr 4 0),(6,.own 5 1 0 p_159.2.1.length),(7,.own 6 1 0 x_124.2.2.2.1.length),(8,iW p_129),(9,iW p_159.1),(11,.ptr 8 0),(12,iW y_162)],[(8,⟨3,false,[iW y_161]⟩),(1,⟨35,false,[rW β1 a0 e63]⟩),(2,⟨3,true,y_17.flatMap eW⟩),(4,⟨23,false,[.own 3 1 0 p_159.2.2.length]⟩),(5,⟨3,true,p_159.2.1.flatMap eW⟩),(6,⟨3,true,x_124.2.2.2.1.flatMap eW⟩),(3,⟨3,true,p_159.2.2.flatMap eW⟩)]⟩ rfl rfl ?_
      refine AWP.seq ?_
      refine AWP.seq ?_
      refine AWP.rg (.cons (.move (l1 rfl) (.t rfl))<| .cons (.move (l1 rfl) (.t rfl))<| .cons (.lenOwn (l1 rfl) (.t rfl) Tryz.underlying23)<| .cons (.lss (l1 rfl) (.t rfl) (.t rfl))<| .nil _ _ _) ?_
      refine AWP.vs ⟨[(1,.ptr 1 0),(3,.own 2 1 0 y_17.length),(5,.ptr 4 0),(6,.own 5 1 0 p_159.2.1.length),(7,.own 6 1 0 x_124.2.2.2.1.length),(8,iW p_129),(9,iW p_159.1),(11,.ptr 8 0),(12,iW y_162),(94,bW (decide (p_159.1 < (y_17.length : Int))))],[(8,⟨3,false,[iW y_161]⟩),(1,⟨35,false,[rW β1 a0 e63]⟩),(2,⟨3,true,y_17.flatMap eW⟩),(4,⟨23,false,[.own 3 1 0 p_159.2.2.length]⟩),(5,⟨3,true,p_159.2.1.flatMap eW⟩),(6,⟨3,true,x_124.2.2.2.1.flatMap eW⟩),(3,⟨3,true,p_159.2.2.flatMap eW⟩)]⟩ rfl rfl ?_
      refine AWP.join' (S := fun p_166 : Int => ⟨[(1,.ptr 1 0),(3,.own 2 1 0 y_17.length),(5,.ptr 4 0),(6,.own 5 1 0 p_159.2.1.length),(7,.own 6 1 0 x_124.2.2.2.1.length),(8,iW p_129),(9,iW p_159.1),(11,.ptr 8 0),(12,iW p_166)],[(1,⟨35,false,[rW β1 a0 e63]⟩),(2,⟨3,true,y_17.flatMap eW⟩),(4,⟨23,false,[.own 3 1 0 p_159.2.2.length]⟩),(5,⟨3,true,p_159.2.1.flatMap eW⟩),(6,⟨3,true,x_124.2.2.2.1.flatMap eW⟩),(8,⟨3,false,[iW y_161]⟩),(3,⟨3,true,p_159.2.2.flatMap eW⟩)]⟩) h (fun p_166 h => ?_) (fun k_167 h => ?_)
      ·refine AWP.seq ?_
       obtain ⟨t8_168,ht8_168,h⟩ := letS h
       refine AWP.rg (.cons (.move (l1 rfl) (.t rfl))<| .cons (.move (l1 rfl) (.t rfl))<| .cons (.add (l1 rfl) (.t rfl) (.t rfl))<| .cons (.assign (l1 rfl) (.t rfl))<| .nil _ _ _) ?_
       refine AWP.vc (s' := ⟨[(1,.ptr 1 0),(3,.own 2 1 0 y_17.length),(5,.ptr 4 0),(6,.own 5 1 0 p_159.2.1.length),(7,.own 6 1 0 x_124.2.2.2.1.length),(8,iW t8_168),(9,iW p_159.1),(11,.ptr 8 0),(12,iW p_166)],[(1,⟨35,false,[rW β1 a0 e63]⟩),(2,⟨3,true,y_17.flatMap eW⟩),(4,⟨23,false,[.own 3 1 0 p_159.2.2.length]⟩),(5,⟨3,true,p_159.2.1.flatMap eW⟩),(6,⟨3,true,x_124.2.2.2.1.flatMap eW⟩),(8,⟨3,false,[iW y_161]⟩),(3,⟨3,true,p_159.2.2.flatMap eW⟩)]⟩) (by subst ht8_168; exact VC.sub (.of rfl) (.of rfl)) ?_
       refine AWP.seq ?_
       obtain ⟨y_169,hy_169,h⟩ := bindS h
       obtain ⟨y_170,hy_170,h⟩ := bindS h
       obtain ⟨l3_171,hl3_171,h⟩ := bindS h
       refine AWP.rg (.cons (.loadP (l1 rfl) (.t rfl) one23 rfl rfl rfl)<| .cons (.loadP (l1 rfl) (.t rfl) one3 rfl rfl rfl)<| .cons (.idxOwn (l1 rfl) (.t rfl) (.t rfl) Tryz.underlying23 sz3 rfl hy_169)<| .cons (.loadP (l1 rfl) (.t rfl) one3 rfl (cell_at1 (encI_len .i64) hy_169) rfl)<| .cons (.move (l1 rfl) (.t rfl))<| .cons (.sub (l1 rfl) (.t rfl) (.t rfl))<| .cons (.idxOwn (l1 rfl) (.t rfl) (.t rfl) Tryz.underlying23 sz3 rfl hy_170)<| .cons (.storeP (.t rfl) (.t rfl) sz3 rfl (lt_at1 (encI_len .i64) hy_170) rfl (fun _ => rfl) (set_at1 (encI_len .i64) hl3_171 rfl))<| .vc (VC.cellEq (t := 4) (i := 0) (v' := .own 3 1 0 l3_171.length) rfl rfl rfl (congrArg (fun n_ => AV.own 3 1 0 n_) (Eq.symm (setLen hl3_171))))<| .nil _ _ _) ?_
       refine AWP.vs ⟨[(1,.ptr 1 0),(3,.own 2 1 0 y_17.length),(5,.ptr 4 0),(6,.own 5 1 0 p_159.2.1.length),(7,.own 6 1 0 x_124.2.2.2.1.length),(8,iW t8_168),(9,iW p_159.1),(11,.ptr 8 0)],[(1,⟨35,false,[rW β1 a0 e63]⟩),(2,⟨3,true,y_17.flatMap eW⟩),(4,⟨23,false,[.own 3 1 0 l3_171.length]⟩),(5,⟨3,true,p_159.2.1.flatMap eW⟩),(6,⟨3,true,x_124.2.2.2.1.flatMap eW⟩),(8,⟨3,false,[iW y_161]⟩),(3,⟨3,true,l3_171.flatMap eW⟩)]⟩ rfl rfl ?_
       refine AWP.seq ?_
       obtain ⟨y_172,hy_172,h⟩ := bindS h
       refine AWP.rg (.cons (.loadP (l1 rfl) (.t rfl) one23 rfl rfl rfl)<| .cons (.loadP (l1 rfl) (.t rfl) one3 rfl rfl rfl)<| .cons (.idxOwn (l1 rfl) (.t rfl) (.t rfl) Tryz.underlying23 sz3 rfl hy_172)<| .cons (.loadP (l1 rfl) (.t rfl) one3 rfl (cell_at1 (encI_len .i64) hy_172) rfl)<| .cons (.eql (l1 rfl) (.t rfl) (.const _ _ _))<| .nil _ _ _) ?_
       refine AWP.vs ⟨[(1,.ptr 1 0),(3,.own 2 1 0 y_17.length),(5,.ptr 4 0),(6,.own 5 1 0 p_159.2.1.length),(7,.own 6 1 0 x_124.2.2.2.1.length),(8,iW t8_168),(9,iW p_159.1),(11,.ptr 8 0),(121,bW (decide (y_172 = (0 : Int))))],[(1,⟨35,false,[rW β1 a0 e63]⟩),(2,⟨3,true,y_17.flatMap eW⟩),(4,⟨23,false,[.own 3 1 0 l3_171.length]⟩),(5,⟨3,true,p_159.2.1.flatMap eW⟩),(6,⟨3,true,x_124.2.2.2.1.flatMap eW⟩),(8,⟨3,false,[iW y_161]⟩),(3,⟨3,true,l3_171.flatMap eW⟩)]⟩ rfl rfl ?_
       refine AWP.join' (S := fun p_175 : (List Int) × (List Int) => ⟨[(1,.ptr 1 0),(3,.own 2 1 0 y_17.length),(5,.ptr 4 0),(6,.own 5 1 0 p_175.1.length),(7,.own 6 1 0 p_175.2.length),(8,iW t8_168),(9,iW p_159.1)],[(1,⟨35,false,[rW β1 a0 e63]⟩),(2,⟨3,true,y_17.flatMap eW⟩),(4,⟨23,false,[.own 3 1 0 l3_171.length]⟩),(5,⟨3,true,p_175.1.flatMap eW⟩),(6,⟨3,true,p_175.2.flatMap eW⟩),(3,⟨3,true,l3_171.flatMap eW⟩)]⟩) h (fun p_175 h => ?_) (fun k_176 h => ?_)
       ·exact endJ (t8_168,p_159.1,p_175.1,p_175.2,l3_171) h (VC.sub (.of rfl) (.of rfl))
       ·refine AWP.cond (.t rfl) (fun hc => ?_) (fun hc => ?_)
        ·have h := iteT hc h
         refine AWP.seq ?_
         obtain ⟨l6_173,hl6_173,h⟩ := bindS h
         refine AWP.rg (.cons (.move (l1 rfl) (.t rfl))<| .cons (.move (l1 rfl) (.t rfl))<| .cons (.buildSlice (t := 9) (out := ([t8_168] : List Int).flatMap eW) (l1 rfl) (nm rfl) (.cons (.t rfl) (by first | exact ⟨rfl,rfl⟩ | rfl) (.nil)) Tryz.underlying23 zero3 el3 (by decide) (by decide) rfl (still_all (encI_still .i64) _))<| .cons (.app (enc := eW) (l1 rfl) (nm rfl) (.t rfl) (Src.own (.t rfl) rfl (lendAll (encI_len .i64) _) (flatMap_length (encI_len .i64) _) (one_all (encI_one .i64) _) (.inl rfl)) Tryz.underlying23 ⟨_,Tryz.underlying23,by intro k hk; cases hk⟩ el3 rfl (encI_len .i64) rfl rfl (by decide) hl6_173)<| .cons (.assign (l1 rfl) (.t rfl))<| .nil _ _ _) ?_
         refine AWP.vs ⟨[(1,.ptr 1 0),(3,.own 2 1 0 y_17.length),(5,.ptr 4 0),(6,.own 5 1 0 p_159.2.1.length),(7,.own 6 1 0 l6_173.length),(8,iW t8_168),(9,iW p_159.1),(11,.ptr 8 0)],[(6,⟨3,true,l6_173.flatMap eW⟩),(1,⟨35,false,[rW β1 a0 e63]⟩),(2,⟨3,true,y_17.flatMap eW⟩),(4,⟨23,false,[.own 3 1 0 l3_171.length]⟩),(5,⟨3,true,p_159.2.1.flatMap eW⟩),(8,⟨3,false,[iW y_161]⟩),(3,⟨3,true,l3_171.flatMap eW⟩)]⟩ rfl rfl ?_
         obtain ⟨y_174,hy_174,h⟩ := bindS h
         refine AWP.rg (.cons (.move (l1 rfl) (.t rfl))<| .cons (.makeFunc (l1 rfl) (.nil) (.cons (.t rfl) (.nil)))<| .cons (.call (σ := sgT [(1,5),(2,8)]) (bw := false) (l1 rfl) (c86o n p_159.2.1 y_161 hy_174) (.cons (.t rfl) (.ren rfl) (.cons (.t rfl) (.ren rfl) (.nil))) (CallOk.mk' (.c rfl (.c rfl (.n))) rfl))<| .cons (.assign (l1 rfl) (.t rfl))<| .nil _ _ _) ?_
         exact endJ (y_174,l6_173) h (VC.sub (.of rfl) (.of rfl))
        ·have h := iteF hc h
         refine AWP.skip ?_
         exact endJ (p_159.2.1,x_124.2.2.2.1) h (VC.sub (.of rfl) (.of rfl))
      ·refine AWP.cond (.t rfl) (fun hc => ?_) (fun hc => ?_)
       ·have h := iteT hc h
        obtain ⟨y_163,hy_163,h⟩ := bindS h
        obtain ⟨y_164,hy_164,h⟩ := bindS h
        obtain ⟨t12_165,ht12_165,h⟩ := letS h
        refine AWP.dw mixed [(1,.ptr 1 0),(3,.own 2 1 0 y_17.length),(5,.ptr 4 0),(6,.own 5 1 0 p_159.2.1.length),(7,.own 6 1 0 x_124.2.2.2.1.length),(8,iW p_129),(9,iW p_159.1),(11,.ptr 8 0),(12,iW y_162),(94,bW (decide (p_159.1 < (y_17.length : Int))))] [(8,[12])] [dO [8] 95 (iW y_162),dO [0] 96 (rW β1 a0 e63),dO [1] 97 (.own 2 1 0 y_17.length),dO [6] 98 (iW p_159.1),dO [12,13] 99 (.ptr 2 (0 + (p_159.1).toNat * 1)),dO [14] 100 (iW y_163),dO [11,15] 101 (.rptr β1 [iW y_164.Rl,iW y_164.Ln,iW y_164.Due]),dO [16] 102 (.rptr β1 [iW y_164.Rl,iW y_164.Ln,iW y_164.Due]),dO [17] 103 (iW y_164.Rl),dO [5] 104 (iW p_129),dO [18,19] 105 (iW (IntKind.wrap .i64 (y_164.Rl - p_129))),dO [10,20] 106 (iW (if (IntKind.wrap .i64 (y_164.Rl - p_129)) < y_162 then (IntKind.wrap .i64 (y_164.Rl - p_129)) else y_162)),dO [21] 12 (iW (if (IntKind.wrap .i64 (y_164.Rl - p_129)) < y_162 then (IntKind.wrap .i64 (y_164.Rl - p_129)) else y_162))] [] [[(8,⟨3,false,[iW y_161]⟩),(1,⟨35,false,[rW β1 a0 e63]⟩),(2,⟨3,true,y_17.flatMap eW⟩),(4,⟨23,false,[.own 3 1 0 p_159.2.2.length]⟩),(5,⟨3,true,p_159.2.1.flatMap eW⟩),(6,⟨3,true,x_124.2.2.2.1.flatMap eW⟩),(3,⟨3,true,p_159.2.2.flatMap eW⟩)]] [[],[],[],[],[2,4],[2,5],[1,6],[1,7],[1,8],[],[1,10],[0,11],[0,12]] [0,1,2,3,4,5,6,7,22] rfl rfl (by kernel_rfl) rfl (.p rfl (fun _ q _ => .move (l1 rfl) (q.t 0 rfl))<| .r rfl rfl (fun _ q => .loadP (l1 rfl) (q.t 0 rfl) one35 rfl rfl rfl)<| .r rfl rfl (fun _ q => .move (l1 rfl) (q.t 0 rfl))<| .p rfl (fun _ q _ => .move (l1 rfl) (q.t 0 rfl))<| .r rfl rfl (fun _ q => .idxOwn (l1 rfl) (q.t 0 rfl) (q.t 1 rfl) Tryz.underlying23 sz3 rfl hy_163)<| .r rfl rfl (fun _ q => .loadP (l1 rfl) (q.t 0 rfl) one3 rfl (cell_at1 (encI_len .i64) hy_163) rfl)<| .p rfl (fun _ q _ => .indexRd (enc := e63) (l1 rfl) (q.t 0 rfl) (q.t 1 rfl) Tryz.underlying35 sz64 encR63_len rfl hy_164)<| .p rfl (fun _ q _ => .fieldR (l1 rfl) (q.t 0 rfl) fld64_0 rfl)<| .p rfl (fun _ q _ => .loadR (v := iW y_164.Rl) (l1 rfl) (q.t 0 rfl) one3 rfl)<| .p rfl (fun _ q _ => .move (l1 rfl) (q.t 0 rfl))<| .p rfl (fun _ q _ => .sub (l1 rfl) (q.t 0 rfl) (q.t 1 rfl))<| .p rfl (fun _ q _ => .min2 (l1 rfl) (q.t 0 rfl) (q.t 1 rfl))<| .p rfl (fun _ q _ => .assign (l1 rfl) (q.t 0 rfl))<| .nil _) rfl rfl ?_
        exact endJ t12_165 h (by subst ht12_165; exact VC.sub (.of rfl) (.of rfl))
       ·have h := iteF hc h
        refine AWP.skip ?_
        exact endJ y_162 h (VC.sub (.of rfl) (.of rfl))
     ·refine AWP.vs ⟨[(1,.ptr 1 0),(3,.own 2 1 0 y_17.length),(5,.ptr 4 0),(6,.own 5 1 0 x_124.2.2.1.length),(7,.own 6 1 0 x_124.2.2.2.1.length),(8,iW p_129),(9,iW x_124.2.1)],[(1,⟨35,false,[rW β1 a0 e63]⟩),(2,⟨3,true,y_17.flatMap eW⟩),(4,⟨23,false,[.own 3 1 0 x_124.2.2.2.2.length]⟩),(5,⟨3,true,x_124.2.2.1.flatMap eW⟩),(6,⟨3,true,x_124.2.2.2.1.flatMap eW⟩),(3,⟨3,true,x_124.2.2.2.2.flatMap eW⟩)]⟩ rfl rfl ?_
      refine AWP.loopM (S := fun x_149 : Int × (List Int) × (List Int) => ⟨[(1,.ptr 1 0),(3,.own 2 1 0 y_17.length),(5,.ptr 4 0),(6,.own 5 1 0 x_149.2.1.length),(7,.own 6 1 0 x_124.2.2.2.1.length),(8,iW p_129),(9,iW x_149.1)],[(1,⟨35,false,[rW β1 a0 e63]⟩),(2,⟨3,true,y_17.flatMap eW⟩),(4,⟨23,false,[.own 3 1 0 x_149.2.2.length]⟩),(5,⟨3,true,x_149.2.1.flatMap eW⟩),(6,⟨3,true,x_124.2.2.2.1.flatMap eW⟩),(3,⟨3,true,x_149.2.2.flatMap eW⟩)]⟩) (x := (x_124.2.1,x_124.2.2.1,x_124.2.2.2.2)) (fun nx_150 x_149 h => ?_) h
      unfold m74_L5 at h
      refine AWP.seq ?_
      refine AWP.seq ?_
      obtain ⟨y_151,hy_151,h⟩ := bindS h
      obtain ⟨y_152,hy_152,h⟩ := bindS h
      refine AWP.dw mixed [(1,.ptr 1 0),(3,.own 2 1 0 y_17.length),(5,.ptr 4 0),(6,.own 5 1 0 x_149.2.1.length),(7,.own 6 1 0 x_124.2.2.2.1.length),(8,iW p_129),(9,iW x_149.1)] [] [dO [6] 50 (iW x_149.1),dO [1] 51 (.own 2 1 0 y_17.length),dO [8] 52 (iW (y_17.length : Int)),dO [7,9] 53 (bW (decide (x_149.1 < (y_17.length : Int)))),dO [10] 54 (bW (decide (x_149.1 < (y_17.length : Int)))),dO [11,0] 55 (.gd (decide (x_149.1 < (y_17.length : Int))) (rW β1 a0 e63)),dO [11,1] 56 (.gd (decide (x_149.1 < (y_17.length : Int))) (.own 2 1 0 y_17.length)),dO [11,6] 57 (.gd (decide (x_149.1 < (y_17.length : Int))) (iW x_149.1)),dO [11,13,14] 58 (.gd (decide (x_149.1 < (y_17.length : Int))) (.ptr 2 (0 + (x_149.1).toNat * 1))),dO [11,15] 59 (.gd (decide (x_149.1 < (y_17.length : Int))) (iW y_151)),dO [11,12,16] 60 (.gd (decide (x_149.1 < (y_17.length : Int))) (.rptr β1 [iW y_152.Rl,iW y_152.Ln,iW y_152.Due])),dO [11,17] 61 (.gd (decide (x_149.1 < (y_17.length : Int))) (.rptr β1 [iW y_152.Rl,iW y_152.Ln,iW y_152.Due])),dO [11,18] 62 (.gd (decide (x_149.1 < (y_17.length : Int))) (iW y_152.Rl)),dO [11,5] 63 (.gd (decide (x_149.1 < (y_17.length : Int))) (iW p_129)),dO [11,19,20] 64 (.gd (decide (x_149.1 < (y_17.length : Int))) (bW (decide (y_152.Rl ≤ p_129)))),dO [11,21] 65 (bW ((decide (x_149.1 < (y_17.length : Int))) && (decide (y_152.Rl ≤ p_129))))] [] [[(1,⟨35,false,[rW β1 a0 e63]⟩),(2,⟨3,true,y_17.flatMap eW⟩),(4,⟨23,false,[.own 3 1 0 x_149.2.2.length]⟩),(5,⟨3,true,x_149.2.1.flatMap eW⟩),(6,⟨3,true,x_124.2.2.2.1.flatMap eW⟩),(3,⟨3,true,x_149.2.2.flatMap eW⟩)]] [[],[],[1,2],[0,3],[0,4],[0,5],[0,5],[0,5],[0,5,6,8],[0,5,6,9],[0,10],[0,11],[0,12],[0,5],[0,14],[0,15]] [0,1,2,3,4,5,6,22] rfl rfl (by kernel_rfl) rfl (.p rfl (fun _ q _ => .move (l1 rfl) (q.t 0 rfl))<| .r rfl rfl (fun _ q => .move (l1 rfl) (q.t 0 rfl))<| .r rfl rfl (fun _ q => .lenOwn (l1 rfl) (q.t 0 rfl) Tryz.underlying23)<| .p rfl (fun _ q _ => .lss (l1 rfl) (q.t 0 rfl) (q.t 1 rfl))<| .p rfl (fun _ q _ => .move (l1 rfl) (q.t 0 rfl))<| .rt rfl rfl rfl rfl rfl rfl (fun hg _ q => .loadP (l1 rfl) (q.t 1 rfl) one35 rfl rfl rfl)<| .rt rfl rfl rfl rfl rfl rfl (fun hg _ q => .move (l1 rfl) (q.t 1 rfl))<| .gt rfl rfl rfl rfl rfl (fun hg _ q _ => .move (l1 rfl) (q.t 1 rfl))<| .rt rfl rfl rfl rfl rfl rfl (fun hg _ q => .idxOwn (l1 rfl) (.gd hg (q.t 1 rfl)) (.gd hg (q.t 2 rfl)) Tryz.underlying23 sz3 rfl (gdB hy_151 hg))<| .rt rfl rfl rfl rfl rfl rfl (fun hg _ q => .loadP (l1 rfl) (.gd hg (q.t 1 rfl)) one3 rfl (cell_at1 (encI_len .i64) (gdB hy_151 hg)) rfl)<| .gt rfl rfl rfl rfl rfl (fun hg _ q _ => .indexRd (enc := e63) (l1 rfl) (.gd hg (q.t 1 rfl)) (.gd hg (q.t 2 rfl)) Tryz.underlying35 sz64 encR63_len rfl (gdB hy_152 hg))<| .gt rfl rfl rfl rfl rfl (fun hg _ q _ => .fieldR (sub := [iW y_152.Rl,iW y_152.Ln,iW y_152.Due]) (l1 rfl) (.gd hg (q.t 1 rfl)) fld64_0 rfl)<| .gt rfl rfl rfl rfl rfl (fun hg _ q _ => .loadR (v := iW y_152.Rl) (l1 rfl) (.gd hg (q.t 1 rfl)) one3 rfl)<| .gt rfl rfl rfl rfl rfl (fun hg _ q _ => .move (l1 rfl) (q.t 1 rfl))<| .gt rfl rfl rfl rfl rfl (fun hg _ q _ => .leq (l1 rfl) (.gd hg (q.t 1 rfl)) (.gd hg (q.t 2 rfl)))<| .p rfl (fun _ q _ => .pickAnd (l1 rfl) (q.t 0 rfl) (q.t 1 rfl) (.const _ _ _))<| .nil _) rfl rfl ?_
      refine AWP.vs ⟨[(1,.ptr 1 0),(3,.own 2 1 0 y_17.length),(5,.ptr 4 0),(6,.own 5 1 0 x_149.2.1.length),(7,.own 6 1 0 x_124.2.2.2.1.length),(8,iW p_129),(9,iW x_149.1),(65,bW ((decide (x_149.1 < (y_17.length : Int))) && (decide (y_152.Rl ≤ p_129))))],[(1,⟨35,false,[rW β1 a0 e63]⟩),(2,⟨3,true,y_17.flatMap eW⟩),(4,⟨23,false,[.own 3 1 0 x_149.2.2.length]⟩),(5,⟨3,true,x_149.2.1.flatMap eW⟩),(6,⟨3,true,x_124.2.2.2.1.flatMap eW⟩),(3,⟨3,true,x_149.2.2.flatMap eW⟩)]⟩ rfl rfl ?_
      refine AWP.cond (.t rfl) (fun hc => ?_) (fun hc => ?_)
      ·have h := iteT hc h
       refine AWP.skip ?_
       refine AWP.seq ?_
       refine AWP.block ?_
       refine AWP.seq ?_
       obtain ⟨y_153,hy_153,h⟩ := bindS h
       refine AWP.rg (.cons (.move (l1 rfl) (.t rfl))<| .cons (.move (l1 rfl) (.t rfl))<| .cons (.idxOwn (l1 rfl) (.t rfl) (.t rfl) Tryz.underlying23 sz3 rfl hy_153)<| .cons (.loadP (l1 rfl) (.t rfl) one3 rfl (cell_at1 (encI_len .i64) hy_153) rfl)<| .cons (.assign (l1 rfl) (.t rfl))<| .nil _ _ _) ?_
       refine AWP.vs ⟨[(1,.ptr 1 0),(3,.own 2 1 0 y_17.length),(5,.ptr 4 0),(6,.own 5 1 0 x_149.2.1.length),(7,.own 6 1 0 x_124.2.2.2.1.length),(8,iW p_129),(9,iW x_149.1),(10,iW y_153)],[(1,⟨35,false,[rW β1 a0 e63]⟩),(2,⟨3,true,y_17.flatMap eW⟩),(4,⟨23,false,[.own 3 1 0 x_149.2.2.length]⟩),(5,⟨3,true,x_149.2.1.flatMap eW⟩),(6,⟨3,true,x_124.2.2.2.1.flatMap eW⟩),(3,⟨3,true,x_149.2.2.flatMap eW⟩)]⟩ rfl rfl ?_
       refine AWP.seq ?_
       obtain ⟨y_154,hy_154,h⟩ := bindS h
       obtain ⟨y_155,hy_155,h⟩ := bindS h
       obtain ⟨l3_156,hl3_156,h⟩ := bindS h
       refine AWP.dw mixed [(1,.ptr 1 0),(3,.own 2 1 0 y_17.length),(5,.ptr 4 0),(6,.own 5 1 0 x_149.2.1.length),(7,.own 6 1 0 x_124.2.2.2.1.length),(8,iW p_129),(9,iW x_149.1),(10,iW y_153)] [] [dO [2] 72 (.own 3 1 0 x_149.2.2.length),⟨[7],0,1,some (73,iW y_153),[]⟩,dO [0] 74 (rW β1 a0 e63),⟨[7],0,1,some (75,iW y_153),[]⟩,⟨[10,11],0,1,some (76,.rptr β1 [iW y_154.Rl,iW y_154.Ln,iW y_154.Due]),[]⟩,⟨[12],0,1,some (77,.rptr β1 [iW y_154.Ln,iW y_154.Due]),[]⟩,⟨[13],0,1,some (78,iW y_154.Ln),[]⟩,dO [8,9] 79 (.ptr 3 (0 + (y_153).toNat * 1)),⟨[15,14],0,0,none,[]⟩] [8] [[(1,⟨35,false,[rW β1 a0 e63]⟩),(2,⟨3,true,y_17.flatMap eW⟩),(4,⟨23,false,[.own 3 1 0 x_149.2.2.length]⟩),(5,⟨3,true,x_149.2.1.flatMap eW⟩),(6,⟨3,true,x_124.2.2.2.1.flatMap eW⟩),(3,⟨3,true,x_149.2.2.flatMap eW⟩)],[(1,⟨35,false,[rW β1 a0 e63]⟩),(2,⟨3,true,y_17.flatMap eW⟩),(4,⟨23,false,[.own 3 1 0 l3_156.length]⟩),(5,⟨3,true,x_149.2.1.flatMap eW⟩),(6,⟨3,true,x_124.2.2.2.1.flatMap eW⟩),(3,⟨3,true,l3_156.flatMap eW⟩)]] [[],[],[],[],[2,4],[2,5],[2,6],[0,7],[0,8]] [0,1,2,3,4,5,6,7] rfl rfl (by kernel_rfl) rfl (.read rfl (.c (.put (fun E hE => .loadP (l1 rfl) (hE.t 0 rfl) one23 rfl rfl rfl)) (.n))<| .p rfl (fun _ q _ => .move (l1 rfl) (q.t 0 rfl))<| .read rfl (.c (.put (fun E hE => .loadP (l1 rfl) (hE.t 0 rfl) one35 rfl rfl rfl)) (.n))<| .p rfl (fun _ q _ => .move (l1 rfl) (q.t 0 rfl))<| .p rfl (fun _ q _ => .indexRd (enc := e63) (l1 rfl) (q.t 0 rfl) (q.t 1 rfl) Tryz.underlying35 sz64 encR63_len rfl hy_154)<| .p rfl (fun _ q _ => .fieldR (l1 rfl) (q.t 0 rfl) fld64_1 rfl)<| .p rfl (fun _ q _ => .loadR (v := iW y_154.Ln) (l1 rfl) (q.t 0 rfl) one3 rfl)<| .read rfl (.c (.put (fun E hE => .idxOwn (l1 rfl) (hE.t 0 rfl) (hE.t 1 rfl) Tryz.underlying23 sz3 rfl hy_155)) (.n))<| .turn rfl rfl rfl rfl rfl (.store (fun E hE => .storeP (hE.t 0 rfl) (hE.t 1 rfl) sz3 rfl (lt_at1 (encI_len .i64) hy_155) rfl (fun _ => rfl) (set_at1 (encI_len .i64) hl3_156 rfl)) (congrArg (fun n_ : Nat => ([(1,⟨35,false,[rW β1 a0 e63]⟩),(2,⟨3,true,y_17.flatMap eW⟩),(4,⟨23,false,[.own 3 1 0 n_]⟩),(5,⟨3,true,x_149.2.1.flatMap eW⟩),(6,⟨3,true,x_124.2.2.2.1.flatMap eW⟩),(3,⟨3,true,l3_156.flatMap eW⟩)] : List (Nat × Blk))) (setLen hl3_156)))<| .nil _) rfl rfl ?_
       refine AWP.vs ⟨[(1,.ptr 1 0),(3,.own 2 1 0 y_17.length),(5,.ptr 4 0),(6,.own 5 1 0 x_149.2.1.length),(7,.own 6 1 0 x_124.2.2.2.1.length),(8,iW p_129),(9,iW x_149.1),(10,iW y_153)],[(1,⟨35,false,[rW β1 a0 e63]⟩),(2,⟨3,true,y_17.flatMap eW⟩),(4,⟨23,false,[.own 3 1 0 l3_156.length]⟩),(5,⟨3,true,x_149.2.1.flatMap eW⟩),(6,⟨3,true,x_124.2.2.2.1.flatMap eW⟩),(3,⟨3,true,l3_156.flatMap eW⟩)]⟩ rfl rfl ?_
       obtain ⟨l5_157,hl5_157,h⟩ := bindS h
       refine AWP.rg (.cons (.move (l1 rfl) (.t rfl))<| .cons (.move (l1 rfl) (.t rfl))<| .cons (.buildSlice (t := 7) (out := ([y_153] : List Int).flatMap eW) (l1 rfl) (nm rfl) (.cons (.t rfl) (by first | exact ⟨rfl,rfl⟩ | rfl) (.nil)) Tryz.underlying23 zero3 el3 (by decide) (by decide) rfl (still_all (encI_still .i64) _))<| .cons (.app (enc := eW) (l1 rfl) (nm rfl) (.t rfl) (Src.own (.t rfl) rfl (lendAll (encI_len .i64) _) (flatMap_length (encI_len .i64) _) (one_all (encI_one .i64) _) (.inl rfl)) Tryz.underlying23 ⟨_,Tryz.underlying23,by intro k hk; cases hk⟩ el3 rfl (encI_len .i64) rfl rfl (by decide) hl5_157)<| .cons (.assign (l1 rfl) (.t rfl))<| .nil _ _ _) ?_
       refine AWP.vs ⟨[(1,.ptr 1 0),(3,.own 2 1 0 y_17.length),(5,.ptr 4 0),(6,.own 5 1 0 l5_157.length),(7,.own 6 1 0 x_124.2.2.2.1.length),(8,iW p_129),(9,iW x_149.1)],[(5,⟨3,true,l5_157.flatMap eW⟩),(1,⟨35,false,[rW β1 a0 e63]⟩),(2,⟨3,true,y_17.flatMap eW⟩),(4,⟨23,false,[.own 3 1 0 l3_156.length]⟩),(6,⟨3,true,x_124.2.2.2.1.flatMap eW⟩),(3,⟨3,true,l3_156.flatMap eW⟩)]⟩ rfl rfl ?_
       obtain ⟨t9_158,ht9_158,h⟩ := letS h
       refine AWP.rg (.cons (.move (l1 rfl) (.t rfl))<| .cons (.add (l1 rfl) (.t rfl) (.const _ _ _))<| .cons (.assign (l1 rfl) (.t rfl))<| .nil _ _ _) ?_
       exact endJ (t9_158,l5_157,l3_156) h (by subst ht9_158; exact VC.sub (.of rfl) (.of rfl))
      ·have h := iteF hc h
       refine AWP.exit ?_
       exact endJ (x_149.1,x_149.2.1,x_149.2.2) h (VC.sub (.of rfl) (.of rfl))
    ·refine AWP.cond (.t rfl) (fun hc => ?_) (fun hc => ?_)
     ·have h := iteT hc h
      obtain ⟨y_126,hy_126,h⟩ := bindS h
      obtain ⟨y_127,hy_127,h⟩ := bindS h
      obtain ⟨t8_128,ht8_128,h⟩ := letS h
      refine AWP.dw mixed [(1,.ptr 1 0),(3,.own 2 1 0 y_17.length),(5,.ptr 4 0),(6,.own 5 1 0 x_124.2.2.1.length),(7,.own 6 1 0 x_124.2.2.2.1.length),(8,iW x_124.1),(9,iW x_124.2.1),(39,bW (decide ((x_124.2.2.1.length : Int) = (0 : Int))))] [(5,[10])] [dO [5] 40 (iW x_124.1),dO [0] 41 (rW β1 a0 e63),dO [1] 42 (.own 2 1 0 y_17.length),dO [6] 43 (iW x_124.2.1),dO [10,11] 44 (.ptr 2 (0 + (x_124.2.1).toNat * 1)),dO [12] 45 (iW y_126),dO [9,13] 46 (.rptr β1 [iW y_127.Rl,iW y_127.Ln,iW y_127.Due]),dO [14] 47 (.rptr β1 [iW y_127.Rl,iW y_127.Ln,iW y_127.Due]),dO [15] 48 (iW y_127.Rl),dO [8,16] 49 (iW (if y_127.Rl > x_124.1 then y_127.Rl else x_124.1)),dO [17] 8 (iW (if y_127.Rl > x_124.1 then y_127.Rl else x_124.1))] [] [[(1,⟨35,false,[rW β1 a0 e63]⟩),(2,⟨3,true,y_17.flatMap eW⟩),(4,⟨23,false,[.own 3 1 0 x_124.2.2.2.2.length]⟩),(5,⟨3,true,x_124.2.2.1.flatMap eW⟩),(6,⟨3,true,x_124.2.2.2.1.flatMap eW⟩),(3,⟨3,true,x_124.2.2.2.2.flatMap eW⟩)]] [[],[],[],[],[2,4],[2,5],[1,6],[1,7],[1,8],[0,9],[0,10]] [0,1,2,3,4,18,6] rfl rfl (by kernel_rfl) rfl (.p rfl (fun _ q _ => .move (l1 rfl) (q.t 0 rfl))<| .r rfl rfl (fun _ q => .loadP (l1 rfl) (q.t 0 rfl) one35 rfl rfl rfl)<| .r rfl rfl (fun _ q => .move (l1 rfl) (q.t 0 rfl))<| .p rfl (fun _ q _ => .move (l1 rfl) (q.t 0 rfl))<| .r rfl rfl (fun _ q => .idxOwn (l1 rfl) (q.t 0 rfl) (q.t 1 rfl) Tryz.underlying23 sz3 rfl hy_126)<| .r rfl rfl (fun _ q => .loadP (l1 rfl) (q.t 0 rfl) one3 rfl (cell_at1 (encI_len .i64) hy_126) rfl)<| .p rfl (fun _ q _ => .indexRd (enc := e63) (l1 rfl) (q.t 0 rfl) (q.t 1 rfl) Tryz.underlying35 sz64 encR63_len rfl hy_127)<| .p rfl (fun _ q _ => .fieldR (l1 rfl) (q.t 0 rfl) fld64_0 rfl)<| .p rfl (fun _ q _ => .loadR (v := iW y_127.Rl) (l1 rfl) (q.t 0 rfl) one3 rfl)<| .p rfl (fun _ q _ => .max2 (l1 rfl) (q.t 0 rfl) (q.t 1 rfl))<| .p rfl (fun _ q _ => .assign (l1 rfl) (q.t 0 rfl))<| .nil _) rfl rfl ?_
      exact endJ t8_128 h (by subst ht8_128; exact VC.sub (.of rfl) (.of rfl))
     ·have h := iteF hc h
      refine AWP.skip ?_
      exact endJ x_124.1 h (VC.sub (.of rfl) (.of rfl))
   ·have h := iteF hc h
    refine AWP.exit ?_
    exact endJ x_124.2.2.2.1 h (VC.sub (.of rfl) (.of rfl))
 ·refine AWP.vs ⟨[(1,.ptr 1 0),(3,.own 2 1 0 l2_1.length),(17,iW (l2_1.length : Int)),(18,iW (0 : Int))],[(1,⟨35,false,[rW β1 a0 e63]⟩),(2,⟨3,true,l2_1.flatMap eW⟩)]⟩ rfl rfl ?_
  refine AWP.loopM (S := fun x_10 : Int × (List Int) => ⟨[(1,.ptr 1 0),(3,.own 2 1 0 x_10.2.length),(17,iW (l2_1.length : Int)),(18,iW x_10.1)],[(1,⟨35,false,[rW β1 a0 e63]⟩),(2,⟨3,true,x_10.2.flatMap eW⟩)]⟩) (x := ((0 : Int),l2_1)) (fun nx_11 x_10 h => ?_) h
  unfold m74_L1 at h
  refine AWP.seq ?_
  refine AWP.rg (.cons (.lss (l1 rfl) (.t rfl) (.t rfl))<| .nil _ _ _) ?_
  refine AWP.vs ⟨[(1,.ptr 1 0),(3,.own 2 1 0 x_10.2.length),(17,iW (l2_1.length : Int)),(18,iW x_10.1),(19,bW (decide (x_10.1 < (l2_1.length : Int))))],[(1,⟨35,false,[rW β1 a0 e63]⟩),(2,⟨3,true,x_10.2.flatMap eW⟩)]⟩ rfl rfl ?_
  refine AWP.seq ?_
  refine AWP.cond (.t rfl) (fun hc => ?_) (fun hc => ?_)
  ·have h := iteT hc h
   refine AWP.skip ?_
   refine AWP.seq ?_
   refine AWP.block ?_
   refine AWP.seq ?_
   refine AWP.rg (.cons (.move (l1 rfl) (.t rfl))<| .cons (.assign (l1 rfl) (.t rfl))<| .nil _ _ _) ?_
   refine AWP.vs ⟨[(1,.ptr 1 0),(3,.own 2 1 0 x_10.2.length),(17,iW (l2_1.length : Int)),(18,iW x_10.1),(4,iW x_10.1)],[(1,⟨35,false,[rW β1 a0 e63]⟩),(2,⟨3,true,x_10.2.flatMap eW⟩)]⟩ rfl rfl ?_
   obtain ⟨y_12,hy_12,h⟩ := bindS h
   obtain ⟨l2_13,hl2_13,h⟩ := bindS h
   refine AWP.rg (.cons (.move (l1 rfl) (.t rfl))<| .cons (.move (l1 rfl) (.t rfl))<| .cons (.move (l1 rfl) (.t rfl))<| .cons (.idxOwn (l1 rfl) (.t rfl) (.t rfl) Tryz.underlying23 sz3 rfl hy_12)<| .cons (.storeP (.t rfl) (.t rfl) sz3 rfl (lt_at1 (encI_len .i64) hy_12) rfl (fun _ => rfl) (set_at1 (encI_len .i64) hl2_13 rfl))<| .nil _ _ _) ?_
   refine AWP.vc (s' := ⟨[(1,.ptr 1 0),(3,.own 2 1 0 l2_13.length),(17,iW (l2_1.length : Int)),(18,iW x_10.1)],[(1,⟨35,false,[rW β1 a0 e63]⟩),(2,⟨3,true,l2_13.flatMap eW⟩)]⟩) (VC.sub (.c rfl<| .c (lenC (Eq.symm (setLen hl2_13)) rfl)<| .c rfl<| .c rfl<| .n _) (.of rfl)) ?_
   obtain ⟨t18_14,ht18_14,h⟩ := letS h
   refine AWP.rg (.cons (.add (l1 rfl) (.t rfl) (.const _ _ _))<| .cons (.move (l1 rfl) (.t rfl))<| .nil _ _ _) ?_
   exact endJ (t18_14,l2_13) h (by subst ht18_14; exact VC.sub (.of rfl) (.of rfl))
  ·have h := iteF hc h
   refine AWP.exit ?_
   exact endJ x_10.2 h (VC.sub (.of rfl) (.of rfl))
end Go.AB

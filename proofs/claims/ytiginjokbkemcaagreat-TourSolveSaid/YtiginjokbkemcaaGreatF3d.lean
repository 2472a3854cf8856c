import Derived.Test.YtiginjokbkemcaaGreatProg
import Derived.Test.YtiginjokbkemcaaGreatF3c
import Derived.KernelRfl
set_option linter.unusedVariables false
set_option maxRecDepth 20000
namespace Go.AB
open Go Go.Proofs
theorem c29 {β3 : Bool} {β4 : Bool} {β5 : Bool} (n : Nat) (a0 : R64) (a1 : R30) {r : ((List Int) × Int)} (h : m29 n a0 a1 = some r) : Spec Tryz.prog 29 [] [.agg (gW false false β3 a0.Gq a0.Path a0.Ln),.agg (tW encK30 β4 β5 a1.Sp a1.Kd a1.Lf)] [] (.tup [rW false r.1 eW,iW r.2]) [] := by
 refine Spec.of (fn := Tryz.f29) Tryz.func29 Tryz.ntmps29 rfl rfl (le1 rfl) (fun w0 Zs Zb T0 ι0 => ?_)
 unfold m29 at h
 refine AWP.sv (.cons (.box (t := 1) (n := 4) (l1 rfl) (nm rfl) (.t rfl) (by first | exact ⟨rfl,rfl⟩ | rfl) rfl)<| .cons (.box (t := 2) (n := 3) (l1 rfl) (nm rfl) (.t rfl) (by first | exact ⟨rfl,rfl⟩ | rfl) rfl)<| .cons (.assign (l1 rfl) (.const _ _ _))<| .cons (.assign (l1 rfl) (.const _ _ _))<| .nil _ _ _) ⟨[(2,.ptr 1 0),(3,.ptr 2 0)],[(2,⟨31,false,(tW encK30 β4 β5 a1.Sp a1.Kd a1.Lf)⟩),(1,⟨65,false,(gW false false β3 a0.Gq a0.Path a0.Ln)⟩)]⟩ rfl rfl ?_
 refine AWP.seq ?_
 obtain ⟨y_1,hy_1,h⟩ := bindS h
 refine AWP.sv (.cons (.loadPA (l1 rfl) (.t rfl) agg65 rfl rfl rfl rfl)<| .cons (.call0 (bw := false) (l1 rfl) (c53 (β1 := false) (β2 := false) (β3 := β3) n (R64.mk (R24.mk a0.Gq.Pq a0.Gq.Bq) a0.Path a0.Ln) hy_1) (.cons (.t rfl) (.ren rfl) (.nil)) rfl)<| .cons (.not (l1 rfl) (.t rfl))<| .nil _ _ _) ⟨[(2,.ptr 1 0),(3,.ptr 2 0),(8,bW (!y_1))],[(2,⟨31,false,(tW encK30 β4 β5 a1.Sp a1.Kd a1.Lf)⟩),(1,⟨65,false,(gW false false β3 a0.Gq a0.Path a0.Ln)⟩)]⟩ rfl rfl ?_
 refine AWP.cond (.t rfl) (fun hc => ?_) (fun hc => ?_)
 ·have h := iteT hc h
  refine AWP.sr (.cons (.assign (l1 rfl) (.const _ _ _))<| .cons (.assign (l1 rfl) (.const _ _ _))<| .nil _ _ _) ?_
  refine AWP.ret ?_
  obtain rfl := Option.some.inj h
  refine retJ (Res.vc (s' := ⟨[(4,rW false ([] : List Int) eW),(5,iW (1 : Int))],[]⟩) (VC.trans (VC.nilRd (d := 4) false rfl) (VC.sub (.of rfl) (.n _))) ?_)
  refine Res.drop (H := []) rfl ?_
  exact Res.of rfl (.cons (.tmp rfl) (.cons (.tmp rfl) (.nil))) rfl rfl
 ·have h := iteF hc h
  refine AWP.skip ?_
  obtain ⟨y_2,hy_2,h⟩ := bindS h
  refine AWP.sr (.cons (.loadPA (l1 rfl) (.t rfl) agg65 rfl rfl rfl rfl)<| .cons (.loadPA (l1 rfl) (.t rfl) agg31 rfl rfl rfl rfl)<| .cons (.call0 (bw := false) (l1 rfl) (c63 (β3 := β3) (β4 := β4) (β5 := β5) n (R64.mk (R24.mk a0.Gq.Pq a0.Gq.Bq) a0.Path a0.Ln) (R30.mk a1.Sp a1.Kd a1.Lf) hy_2) (.cons (.t rfl) (.ren rfl) (.cons (.t rfl) (.ren rfl) (.cons (.func _ _ _) (.ren rfl) (.cons (.func _ _ _) (.ren rfl) (.nil))))) rfl)<| .cons (.extract (l1 rfl) (.t rfl) rfl)<| .cons (.extract (l1 rfl) (.t rfl) rfl)<| .cons (.assign (l1 rfl) (.t rfl))<| .cons (.assign (l1 rfl) (.t rfl))<| .nil _ _ _) ?_
  refine AWP.ret ?_
  obtain rfl := Option.some.inj h
  refine retJ (Res.vc (s' := ⟨[(4,rW false y_2.1 eW),(5,iW y_2.2)],[]⟩) (VC.sub (.of rfl) (.n _)) ?_)
  refine Res.drop (H := []) rfl ?_
  exact Res.of rfl (.cons (.tmp rfl) (.cons (.tmp rfl) (.nil))) rfl rfl
theorem c11 {β3 : Bool} {β4 : Bool} {β5 : Bool} (n : Nat) (a0 : R24) (a1 : R32) {r : Bool} (h : m11 n a0 a1 = some r) : Spec Tryz.prog 11 [] [.agg (pW false false a0),.agg [rW β3 a1.Order eW,iW a1.Ln,iW a1.Proof.Sp,rW β4 a1.Proof.Kd encK30,rW β5 a1.Proof.Lf eW]] [] (bW r) [] := by
 refine Spec.of (fn := Tryz.f11) Tryz.func11 Tryz.ntmps11 rfl rfl (le1 rfl) (fun w0 Zs Zb T0 ι0 => ?_)
 unfold m11 at h
 refine AWP.sv (.cons (.box (t := 1) (n := 2) (l1 rfl) (nm rfl) (.t rfl) (by first | exact ⟨rfl,rfl⟩ | rfl) rfl)<| .cons (.box (t := 2) (n := 5) (l1 rfl) (nm rfl) (.t rfl) (by first | exact ⟨rfl,rfl⟩ | rfl) rfl)<| .cons (.assign (l1 rfl) (.const _ _ _))<| .nil _ _ _) ⟨[(2,.ptr 1 0),(3,.ptr 2 0)],[(2,⟨33,false,[rW β3 a1.Order eW,iW a1.Ln,iW a1.Proof.Sp,rW β4 a1.Proof.Kd encK30,rW β5 a1.Proof.Lf eW]⟩),(1,⟨37,false,(pW false false a0)⟩)]⟩ rfl rfl ?_
 obtain ⟨y_1,hy_1,h⟩ := bindS h
 refine AWP.sv (.cons (.loadPA (l1 rfl) (.t rfl) agg37 rfl rfl rfl rfl)<| .cons (.fieldP (l1 rfl) (.t rfl) fld33_0)<| .cons (.loadP (l1 rfl) (.t rfl) one28 rfl rfl rfl)<| .cons (.call0 (bw := false) (l1 rfl) (c28 (β1 := false) (β2 := false) (β3 := β3) n (R24.mk a0.Pq a0.Bq) a1.Order hy_1) (.cons (.t rfl) (.ren rfl) (.cons (.t rfl) (.ren rfl) (.nil))) rfl)<| .cons (.move (l1 rfl) (.t rfl))<| .cons (.extract (l1 rfl) (.t rfl) rfl)<| .cons (.extract (l1 rfl) (.t rfl) rfl)<| .cons (.assign (l1 rfl) (.t rfl))<| .cons (.assign (l1 rfl) (.t rfl))<| .nil _ _ _) ⟨[(2,.ptr 1 0),(3,.ptr 2 0),(5,iW y_1.1),(6,iW y_1.2)],[(2,⟨33,false,[rW β3 a1.Order eW,iW a1.Ln,iW a1.Proof.Sp,rW β4 a1.Proof.Kd encK30,rW β5 a1.Proof.Lf eW]⟩),(1,⟨37,false,(pW false false a0)⟩)]⟩ rfl rfl ?_
 refine AWP.seq ?_
 refine AWP.sv (.cons (.move (l1 rfl) (.t rfl))<| .cons (.neq (l1 rfl) (.t rfl) (.const _ _ _))<| .cons (.move (l1 rfl) (.t rfl))<| .guard (j := 2) (dj := 16) rfl (l1 rfl) rfl (l1 rfl) (fun hg => .move (l1 rfl) (.t rfl))<| .guard (j := 2) (dj := 16) rfl (l1 rfl) rfl (l1 rfl) (fun hg => .fieldP (l1 rfl) (.t rfl) fld33_1)<| .guard (j := 2) (dj := 16) rfl (l1 rfl) rfl (l1 rfl) (fun hg => .loadP (l1 rfl) (.gd hg (.t rfl)) one3 rfl rfl rfl)<| .guard (j := 2) (dj := 16) rfl (l1 rfl) rfl (l1 rfl) (fun hg => .neq (l1 rfl) (.gd hg (.t rfl)) (.gd hg (.t rfl)))<| .cons (.pickOr (l1 rfl) (.t rfl) (.const _ _ _) (.t rfl))<| .nil _ _ _) ⟨[(2,.ptr 1 0),(3,.ptr 2 0),(5,iW y_1.1),(21,bW ((!decide (y_1.2 = (0 : Int))) || (!decide (y_1.1 = a1.Ln))))],[(2,⟨33,false,[rW β3 a1.Order eW,iW a1.Ln,iW a1.Proof.Sp,rW β4 a1.Proof.Kd encK30,rW β5 a1.Proof.Lf eW]⟩),(1,⟨37,false,(pW false false a0)⟩)]⟩ rfl rfl ?_
 refine AWP.cond (.t rfl) (fun hc => ?_) (fun hc => ?_)
 ·have h := iteT hc h
  refine AWP.sr (.cons (.assign (l1 rfl) (.const _ _ _))<| .nil _ _ _) ?_
  refine AWP.ret ?_
  obtain rfl := Option.some.inj h
  refine retJ (Res.vc (s' := ⟨[(4,bW false)],[]⟩) (VC.sub (.of rfl) (.n _)) ?_)
  refine Res.drop (H := []) rfl ?_
  exact Res.of rfl (.cons (.tmp rfl) (.nil)) rfl rfl
 ·have h := iteF hc h
  refine AWP.skip ?_
  obtain ⟨y_2,hy_2,h⟩ := bindS h
  refine AWP.sv (.cons (.loadPA (l1 rfl) (.t rfl) agg37 rfl rfl rfl rfl)<| .cons (.buildSlice (t := 3) (out := ([(0 : Int)] : List Int).flatMap eW) (l1 rfl) (nm rfl) (.cons (.const _ _ _) (by first | exact ⟨rfl,rfl⟩ | rfl) (.nil)) Tryz.underlying28 zero3 el3 (by decide) (by decide) rfl (still_all (encI_still .i64) _))<| .cons (.move (l1 rfl) (.t rfl))<| .cons (.buildO (offs := [(0,2),(2,1),(3,1)]) (l1 rfl) (.cons (.t rfl) (by first | exact ⟨rfl,rfl⟩ | rfl) (.cons (.t rfl) (by first | exact ⟨rfl,rfl⟩ | rfl) (.cons (.t rfl) (by first | exact ⟨rfl,rfl⟩ | rfl) (.nil)))) zero65 offs65 rfl)<| .cons (.fieldP (l1 rfl) (.t rfl) fld33_2)<| .cons (.loadPA (l1 rfl) (.t rfl) agg31 rfl rfl rfl rfl)<| .cons (.call0 (bw := true) (l1 rfl) (c29 (β3 := true) (β4 := β4) (β5 := β5) n (R64.mk (R24.mk a0.Pq a0.Bq) ([(0 : Int)] : List Int) y_1.1) (R30.mk a1.Proof.Sp a1.Proof.Kd a1.Proof.Lf) hy_2) (.cons (.t rfl) (.agg (.cons (.ren rfl) (.cons (.ren rfl) (.cons (.lendRow rfl rfl (encI_len .i64) rfl) (.cons (.ren rfl) (.nil)))))) (.cons (.t rfl) (.ren rfl) (.nil))) rfl)<| .cons (.move (l1 rfl) (.t rfl))<| .cons (.extract (l1 rfl) (.t rfl) rfl)<| .cons (.extract (l1 rfl) (.t rfl) rfl)<| .cons (.assign (l1 rfl) (.t rfl))<| .nil _ _ _) ⟨[(6,iW y_2.2)],[]⟩ rfl rfl ?_
  refine AWP.sr (.cons (.move (l1 rfl) (.t rfl))<| .cons (.eql (l1 rfl) (.t rfl) (.const _ _ _))<| .cons (.assign (l1 rfl) (.t rfl))<| .nil _ _ _) ?_
  refine AWP.ret ?_
  obtain rfl := Option.some.inj h
  refine retJ (Res.vc (s' := ⟨[(4,bW (decide (y_2.2 = (0 : Int))))],[]⟩) (VC.sub (.of rfl) (.n _)) ?_)
  refine Res.drop (H := []) rfl ?_
  exact Res.of rfl (.cons (.tmp rfl) (.nil)) rfl rfl
theorem c3 (n : Nat) (a0 : R24) {r : Bool} (h : m3 n a0 = some r) : Spec Tryz.prog 3 [] [.agg (pW false false a0)] [] (bW r) [] := by
 refine Spec.of (fn := Tryz.f3) Tryz.func3 Tryz.ntmps3 rfl rfl (le1 rfl) (fun w0 Zs Zb T0 ι0 => ?_)
 unfold m3 at h
 refine AWP.sv (.cons (.box (t := 1) (n := 2) (l1 rfl) (nm rfl) (.t rfl) (by first | exact ⟨rfl,rfl⟩ | rfl) rfl)<| .cons (.assign (l1 rfl) (.const _ _ _))<| .nil _ _ _) ⟨[(1,.ptr 1 0)],[(1,⟨25,false,(pW false false a0)⟩)]⟩ rfl rfl ?_
 refine AWP.seq ?_
 obtain ⟨y_1,hy_1,h⟩ := bindS h
 obtain ⟨y_2,hy_2,h⟩ := bindS h
 refine AWP.sv (.cons (.call0 (bw := false) (l1 rfl) (c4 n hy_1) (.nil) rfl)<| .cons (.not (l1 rfl) (.t rfl))<| .cons (.move (l1 rfl) (.t rfl))<| .guard (j := 2) (dj := 10) rfl (l1 rfl) rfl (l1 rfl) (fun hg => .loadPA (l1 rfl) (.t rfl) agg25 rfl rfl rfl rfl)<| .guard (j := 2) (dj := 10) rfl (l1 rfl) rfl (l1 rfl) (fun hg => .call0 (bw := false) (l1 rfl) (c5 (β1 := false) (β2 := false) n (R24.mk a0.Pq a0.Bq) (gdB hy_2 hg)) (.cons (.gd hg (.t rfl)) (.ren rfl) (.nil)) rfl)<| .guard (j := 2) (dj := 10) rfl (l1 rfl) rfl (l1 rfl) (fun hg => .not (l1 rfl) (.gd hg (.t rfl)))<| .cons (.pickOr (l1 rfl) (.t rfl) (.const _ _ _) (.t rfl))<| .nil _ _ _) ⟨[(1,.ptr 1 0),(14,bW ((!y_1) || (!y_2)))],[(1,⟨25,false,(pW false false a0)⟩)]⟩ rfl rfl ?_
 refine AWP.cond (.t rfl) (fun hc => ?_) (fun hc => ?_)
 ·have h := iteT hc h
  obtain ⟨y_3,hy_3,h⟩ := bindS h
  refine AWP.sr (.cons (.call0 (bw := false) (l1 rfl) (c4 n hy_3) (.nil) rfl)<| .cons (.assign (l1 rfl) (.t rfl))<| .nil _ _ _) ?_
  refine AWP.ret ?_
  obtain rfl := Option.some.inj h
  refine retJ (Res.vc (s' := ⟨[(2,bW y_3)],[]⟩) (VC.sub (.of rfl) (.n _)) ?_)
  refine Res.drop (H := []) rfl ?_
  exact Res.of rfl (.cons (.tmp rfl) (.nil)) rfl rfl
 ·have h := iteF hc h
  refine AWP.skip ?_
  obtain ⟨y_4,hy_4,h⟩ := bindS h
  obtain ⟨y_5,hy_5,h⟩ := bindS h
  refine AWP.sv (.cons (.loadPA (l1 rfl) (.t rfl) agg25 rfl rfl rfl rfl)<| .cons (.call0 (bw := false) (l1 rfl) (c7 (β1 := false) (β2 := false) n (R24.mk a0.Pq a0.Bq) hy_4) (.cons (.t rfl) (.ren rfl) (.nil)) rfl)<| .cons (.call0 (bw := false) (l1 rfl) (c6 n y_4 hy_5) (.cons (.t rfl) (.ren rfl) (.nil)) rfl)<| .cons (.move (l1 rfl) (.t rfl))<| .cons (.extract (l1 rfl) (.t rfl) rfl)<| .cons (.extract (l1 rfl) (.t rfl) rfl)<| .cons (.alloc (t := 2) (k := ⟨33,false,[.sc (.slice none 0 0),iW (0 : Int),iW (0 : Int),.sc (.slice none 0 0),.sc (.slice none 0 0)]⟩) (l1 rfl) (nm rfl) zero33 rfl rfl)<| .cons (.storePA (.t rfl) (.t rfl) sz33 rfl rfl (le1 rfl) (one_lit rfl) (by intro h; cases h) rfl)<| .cons (.assign (l1 rfl) (.t rfl))<| .nil _ _ _) ⟨[(1,.ptr 1 0),(3,.ptr 2 0),(4,iW y_5.2)],[(2,⟨33,false,[rW false y_5.1.Order eW,iW y_5.1.Ln,iW y_5.1.Proof.Sp,rW false y_5.1.Proof.Kd encK30,rW false y_5.1.Proof.Lf eW]⟩),(1,⟨25,false,(pW false false a0)⟩)]⟩ rfl rfl ?_
  refine AWP.seq ?_
  obtain ⟨y_6,hy_6,h⟩ := bindS h
  refine AWP.sv (.cons (.loadPA (l1 rfl) (.t rfl) agg25 rfl rfl rfl rfl)<| .cons (.call0 (bw := false) (l1 rfl) (c8 (β1 := false) (β2 := false) n (R24.mk a0.Pq a0.Bq) hy_6) (.cons (.t rfl) (.ren rfl) (.nil)) rfl)<| .cons (.not (l1 rfl) (.t rfl))<| .nil _ _ _) ⟨[(1,.ptr 1 0),(3,.ptr 2 0),(4,iW y_5.2),(24,bW (!y_6))],[(2,⟨33,false,[rW false y_5.1.Order eW,iW y_5.1.Ln,iW y_5.1.Proof.Sp,rW false y_5.1.Proof.Kd encK30,rW false y_5.1.Proof.Lf eW]⟩),(1,⟨25,false,(pW false false a0)⟩)]⟩ rfl rfl ?_
  refine AWP.cond (.t rfl) (fun hc => ?_) (fun hc => ?_)
  ·have h := iteT hc h
   refine AWP.sr (.cons (.move (l1 rfl) (.t rfl))<| .cons (.eql (l1 rfl) (.t rfl) (.const _ _ _))<| .cons (.move (l1 rfl) (.t rfl))<| .guard (j := 2) (dj := 27) rfl (l1 rfl) rfl (l1 rfl) (fun hg => .fieldP (l1 rfl) (.t rfl) fld33_0)<| .guard (j := 2) (dj := 27) rfl (l1 rfl) rfl (l1 rfl) (fun hg => .loadP (l1 rfl) (.gd hg (.t rfl)) one28 rfl rfl rfl)<| .guard (j := 2) (dj := 27) rfl (l1 rfl) rfl (l1 rfl) (fun hg => .lenRd (l1 rfl) (.gd hg (.t rfl)) Tryz.underlying28)<| .guard (j := 2) (dj := 27) rfl (l1 rfl) rfl (l1 rfl) (fun hg => .eql (l1 rfl) (.gd hg (.t rfl)) (.const _ _ _))<| .cons (.pickAnd (l1 rfl) (.t rfl) (.t rfl) (.const _ _ _))<| .cons (.assign (l1 rfl) (.t rfl))<| .nil _ _ _) ?_
   refine AWP.ret ?_
   obtain rfl := Option.some.inj h
   refine retJ (Res.vc (s' := ⟨[(2,bW ((decide (y_5.2 = (1 : Int))) && (decide ((y_5.1.Order.length : Int) = (0 : Int)))))],[]⟩) (VC.sub (.of rfl) (.n _)) ?_)
   refine Res.drop (H := []) rfl ?_
   exact Res.of rfl (.cons (.tmp rfl) (.nil)) rfl rfl
  ·have h := iteF hc h
   refine AWP.skip ?_
   refine AWP.seq ?_
   refine AWP.sv (.cons (.move (l1 rfl) (.t rfl))<| .cons (.neq (l1 rfl) (.t rfl) (.const _ _ _))<| .nil _ _ _) ⟨[(1,.ptr 1 0),(3,.ptr 2 0),(4,iW y_5.2),(34,bW (!decide (y_5.2 = (0 : Int))))],[(2,⟨33,false,[rW false y_5.1.Order eW,iW y_5.1.Ln,iW y_5.1.Proof.Sp,rW false y_5.1.Proof.Kd encK30,rW false y_5.1.Proof.Lf eW]⟩),(1,⟨25,false,(pW false false a0)⟩)]⟩ rfl rfl ?_
   refine AWP.cond (.t rfl) (fun hc => ?_) (fun hc => ?_)
   ·have h := iteT hc h
    refine AWP.sr (.cons (.move (l1 rfl) (.t rfl))<| .cons (.eql (l1 rfl) (.t rfl) (.const _ _ _))<| .cons (.move (l1 rfl) (.t rfl))<| .guard (j := 2) (dj := 37) rfl (l1 rfl) rfl (l1 rfl) (fun hg => .fieldP (l1 rfl) (.t rfl) fld25_0)<| .guard (j := 2) (dj := 37) rfl (l1 rfl) rfl (l1 rfl) (fun hg => .loadP (l1 rfl) (.gd hg (.t rfl)) one22 rfl rfl rfl)<| .guard (j := 2) (dj := 37) rfl (l1 rfl) rfl (l1 rfl) (fun hg => .lenRd (l1 rfl) (.gd hg (.t rfl)) Tryz.underlying22)<| .guard (j := 2) (dj := 37) rfl (l1 rfl) rfl (l1 rfl) (fun hg => .gtr (l1 rfl) (.gd hg (.t rfl)) (.const _ _ _))<| .cons (.pickAnd (l1 rfl) (.t rfl) (.t rfl) (.const _ _ _))<| .cons (.move (l1 rfl) (.t rfl))<| .guard (j := 8) (dj := 43) rfl (l1 rfl) rfl (l1 rfl) (fun hg => .fieldP (l1 rfl) (.t rfl) fld33_0)<| .guard (j := 8) (dj := 43) rfl (l1 rfl) rfl (l1 rfl) (fun hg => .loadP (l1 rfl) (.gd hg (.t rfl)) one28 rfl rfl rfl)<| .guard (j := 8) (dj := 43) rfl (l1 rfl) rfl (l1 rfl) (fun hg => .lenRd (l1 rfl) (.gd hg (.t rfl)) Tryz.underlying28)<| .guard (j := 8) (dj := 43) rfl (l1 rfl) rfl (l1 rfl) (fun hg => .eql (l1 rfl) (.gd hg (.t rfl)) (.const _ _ _))<| .cons (.pickAnd (l1 rfl) (.t rfl) (.t rfl) (.const _ _ _))<| .cons (.assign (l1 rfl) (.t rfl))<| .nil _ _ _) ?_
    refine AWP.ret ?_
    obtain rfl := Option.some.inj h
    refine retJ (Res.vc (s' := ⟨[(2,bW (((decide (y_5.2 = (9 : Int))) && (decide ((6 : Int) < (a0.Pq.length : Int)))) && (decide ((y_5.1.Order.length : Int) = (0 : Int)))))],[]⟩) (VC.sub (.of rfl) (.n _)) ?_)
    refine Res.drop (H := []) rfl ?_
    exact Res.of rfl (.cons (.tmp rfl) (.nil)) rfl rfl
   ·have h := iteF hc h
    refine AWP.skip ?_
    refine AWP.seq ?_
    refine AWP.seq ?_
    obtain ⟨y_7,hy_7,h⟩ := bindS h
    obtain ⟨y_8,hy_8,h⟩ := bindS h
    obtain ⟨y_9,hy_9,h⟩ := bindS h
    obtain ⟨y_10,hy_10,h⟩ := bindS h
    obtain ⟨y_11,hy_11,h⟩ := bindS h
    refine AWP.dw mixed [(1,.ptr 1 0),(3,.ptr 2 0),(4,iW y_5.2),(34,bW (!decide (y_5.2 = (0 : Int))))] [] [dO [0] 49 (.agg (pW false false a0)),dO [1] 50 (.ptr 2 (0 + 0)),dO [5] 51 (rW false y_5.1.Order eW),dO [1] 52 (.ptr 2 (0 + 1)),dO [7] 53 (iW y_5.1.Ln),dO [1] 54 (.ptr 2 (0 + 2)),dO [9] 55 (.agg (tW encK30 false false y_5.1.Proof.Sp y_5.1.Proof.Kd y_5.1.Proof.Lf)),dO [10] 56 (.agg (tW encK41 false false y_7.Sp y_7.Kd y_7.Lf)),dO [6,8,11] 57 (.agg [rW false y_5.1.Order eW,iW y_5.1.Ln,iW y_7.Sp,rW false y_7.Kd encK41,rW false y_7.Lf eW]),dO [4,12] 58 (bW y_8),dO [13] 59 (bW (!y_8)),dO [14] 60 (bW (!y_8)),dO [15,0] 61 (.gd (!(!y_8)) (.agg (pW false false a0))),dO [15,16] 62 (.gd (!(!y_8)) (.agg (pW false false y_9))),dO [15,1] 63 (.gd (!(!y_8)) (.agg [rW false y_5.1.Order eW,iW y_5.1.Ln,iW y_5.1.Proof.Sp,rW false y_5.1.Proof.Kd encK30,rW false y_5.1.Proof.Lf eW])),dO [15,17,18] 64 (.gd (!(!y_8)) (bW y_10)),dO [15,19] 65 (.gd (!(!y_8)) (bW (!y_10))),dO [15,20] 66 (bW ((!y_8) || (!y_10))),dO [21] 67 (bW ((!y_8) || (!y_10))),dO [22,1] 68 (.gd (!((!y_8) || (!y_10))) (.ptr 2 (0 + 2))),dO [22,23] 69 (.gd (!((!y_8) || (!y_10))) (.agg (tW encK30 false false y_5.1.Proof.Sp y_5.1.Proof.Kd y_5.1.Proof.Lf))),dO [22,24] 70 (.gd (!((!y_8) || (!y_10))) (bW y_11)),dO [22,25] 71 (.gd (!((!y_8) || (!y_10))) (bW (!y_11))),dO [22,26] 72 (bW (((!y_8) || (!y_10)) || (!y_11)))] [] [[(2,⟨33,false,[rW false y_5.1.Order eW,iW y_5.1.Ln,iW y_5.1.Proof.Sp,rW false y_5.1.Proof.Kd encK30,rW false y_5.1.Proof.Lf eW]⟩),(1,⟨25,false,(pW false false a0)⟩)]] [[],[],[1,2],[],[3,4],[],[5,6],[5,7],[1,8],[0,9],[0,10],[0,11],[0,12],[0,13],[0,12],[0,15],[0,16],[0,17],[0,18],[0,19],[0,20],[0,21],[0,22],[0,23]] [0,1,27] rfl rfl (by kernel_rfl) rfl (.r rfl rfl (fun _ q => .loadPA (l1 rfl) (q.t 0 rfl) agg25 rfl rfl rfl rfl)<| .r rfl rfl (fun _ q => .fieldP (l1 rfl) (q.t 0 rfl) fld33_0)<| .r rfl rfl (fun _ q => .loadP (l1 rfl) (q.t 0 rfl) one28 rfl rfl rfl)<| .r rfl rfl (fun _ q => .fieldP (l1 rfl) (q.t 0 rfl) fld33_1)<| .r rfl rfl (fun _ q => .loadP (l1 rfl) (q.t 0 rfl) one3 rfl rfl rfl)<| .r rfl rfl (fun _ q => .fieldP (l1 rfl) (q.t 0 rfl) fld33_2)<| .r rfl rfl (fun _ q => .loadPA (l1 rfl) (q.t 0 rfl) agg31 rfl rfl rfl rfl)<| .p rfl (fun _ q _ => .call0 (bw := false) (l1 rfl) (c10 (β2 := false) n (R30.mk y_5.1.Proof.Sp y_5.1.Proof.Kd y_5.1.Proof.Lf) hy_7) (.cons (q.t 0 rfl) (.ren rfl) (.nil)) rfl)<| .p rfl (fun _ q _ => .buildO (offs := [(0,1),(1,1),(2,3)]) (l1 rfl) (.cons (q.t 0 rfl) (by first | exact ⟨rfl,rfl⟩ | rfl) (.cons (q.t 1 rfl) (by first | exact ⟨rfl,rfl⟩ | rfl) (.cons (q.t 2 rfl) (by first | exact ⟨rfl,rfl⟩ | rfl) (.nil)))) zero45 offs45 rfl)<| .p rfl (fun _ q _ => .call0 (bw := false) (l1 rfl) (c9 (β3 := false) (β4 := false) (β5 := false) n (R24.mk a0.Pq a0.Bq) (R44.mk y_5.1.Order y_5.1.Ln (R41.mk y_7.Sp y_7.Kd y_7.Lf)) hy_8) (.cons (q.t 0 rfl) (.ren rfl) (.cons (q.t 1 rfl) (.ren rfl) (.nil))) rfl)<| .p rfl (fun _ q _ => .not (l1 rfl) (q.t 0 rfl))<| .p rfl (fun _ q _ => .move (l1 rfl) (q.t 0 rfl))<| .rf rfl rfl rfl rfl rfl rfl (fun hg _ q => .loadPA (l1 rfl) (q.t 1 rfl) agg25 rfl rfl rfl rfl)<| .gf rfl rfl rfl rfl rfl (fun hg _ q _ => .call0 (bw := false) (l1 rfl) (c7 (β1 := false) (β2 := false) n (R24.mk a0.Pq a0.Bq) (gdB hy_9 hg)) (.cons (.gd hg (q.t 1 rfl)) (.ren rfl) (.nil)) rfl)<| .rf rfl rfl rfl rfl rfl rfl (fun hg _ q => .loadPA (l1 rfl) (q.t 1 rfl) agg33 rfl rfl rfl rfl)<| .gf rfl rfl rfl rfl rfl (fun hg _ q _ => .call0 (bw := false) (l1 rfl) (c11 (β3 := false) (β4 := false) (β5 := false) n y_9 (R32.mk y_5.1.Order y_5.1.Ln (R30.mk y_5.1.Proof.Sp y_5.1.Proof.Kd y_5.1.Proof.Lf)) (gdB hy_10 hg)) (.cons (.gd hg (q.t 1 rfl)) (.ren rfl) (.cons (.gd hg (q.t 2 rfl)) (.ren rfl) (.nil))) rfl)<| .gf rfl rfl rfl rfl rfl (fun hg _ q _ => .not (l1 rfl) (.gd hg (q.t 1 rfl)))<| .p rfl (fun _ q _ => .pickOr (l1 rfl) (q.t 0 rfl) (.const _ _ _) (q.t 1 rfl))<| .p rfl (fun _ q _ => .move (l1 rfl) (q.t 0 rfl))<| .rf rfl rfl rfl rfl rfl rfl (fun hg _ q => .fieldP (l1 rfl) (q.t 1 rfl) fld33_2)<| .rf rfl rfl rfl rfl rfl rfl (fun hg _ q => .loadPA (l1 rfl) (.gd hg (q.t 1 rfl)) agg31 rfl rfl rfl rfl)<| .gf rfl rfl rfl rfl rfl (fun hg _ q _ => .call0 (bw := false) (l1 rfl) (c12 (β1 := false) (β2 := false) n (R30.mk y_5.1.Proof.Sp y_5.1.Proof.Kd y_5.1.Proof.Lf) (gdB hy_11 hg)) (.cons (.gd hg (q.t 1 rfl)) (.ren rfl) (.nil)) rfl)<| .gf rfl rfl rfl rfl rfl (fun hg _ q _ => .not (l1 rfl) (.gd hg (q.t 1 rfl)))<| .p rfl (fun _ q _ => .pickOr (l1 rfl) (q.t 0 rfl) (.const _ _ _) (q.t 1 rfl))<| .nil _) rfl rfl ?_
    refine AWP.vs ⟨[(1,.ptr 1 0),(3,.ptr 2 0),(72,bW (((!y_8) || (!y_10)) || (!y_11)))],[(2,⟨33,false,[rW false y_5.1.Order eW,iW y_5.1.Ln,iW y_5.1.Proof.Sp,rW false y_5.1.Proof.Kd encK30,rW false y_5.1.Proof.Lf eW]⟩),(1,⟨25,false,(pW false false a0)⟩)]⟩ rfl rfl ?_
    refine AWP.cond (.t rfl) (fun hc => ?_) (fun hc => ?_)
    ·have h := iteT hc h
     refine AWP.sr (.cons (.assign (l1 rfl) (.const _ _ _))<| .nil _ _ _) ?_
     refine AWP.ret ?_
     obtain rfl := Option.some.inj h
     refine retJ (Res.vc (s' := ⟨[(2,bW false)],[]⟩) (VC.sub (.of rfl) (.n _)) ?_)
     refine Res.drop (H := []) rfl ?_
     exact Res.of rfl (.cons (.tmp rfl) (.nil)) rfl rfl
    ·have h := iteF hc h
     refine AWP.skip ?_
     obtain ⟨y_12,hy_12,h⟩ := bindS h
     obtain ⟨y_13,hy_13,h⟩ := bindS h
     refine AWP.sv (.cons (.loadPA (l1 rfl) (.t rfl) agg25 rfl rfl rfl rfl)<| .cons (.call0 (bw := false) (l1 rfl) (c7 (β1 := false) (β2 := false) n (R24.mk a0.Pq a0.Bq) hy_12) (.cons (.t rfl) (.ren rfl) (.nil)) rfl)<| .cons (.call0 (bw := false) (l1 rfl) (c13 (β1 := false) (β2 := false) n y_12 hy_13) (.cons (.t rfl) (.ren rfl) (.nil)) rfl)<| .cons (.move (l1 rfl) (.t rfl))<| .cons (.extract (l1 rfl) (.t rfl) rfl)<| .cons (.extract (l1 rfl) (.t rfl) rfl)<| .cons (.extract (l1 rfl) (.t rfl) rfl)<| .cons (.assign (l1 rfl) (.t rfl))<| .cons (.assign (l1 rfl) (.t rfl))<| .cons (.assign (l1 rfl) (.t rfl))<| .nil _ _ _) ⟨[(3,.ptr 2 0),(6,iW y_13.2.1),(7,iW y_13.2.2)],[(2,⟨33,false,[rW false y_5.1.Order eW,iW y_5.1.Ln,iW y_5.1.Proof.Sp,rW false y_5.1.Proof.Kd encK30,rW false y_5.1.Proof.Lf eW]⟩)]⟩ rfl rfl ?_
     refine AWP.sr (.cons (.move (l1 rfl) (.t rfl))<| .cons (.eql (l1 rfl) (.t rfl) (.const _ _ _))<| .cons (.move (l1 rfl) (.t rfl))<| .guard (j := 2) (dj := 82) rfl (l1 rfl) rfl (l1 rfl) (fun hg => .move (l1 rfl) (.t rfl))<| .guard (j := 2) (dj := 82) rfl (l1 rfl) rfl (l1 rfl) (fun hg => .eql (l1 rfl) (.gd hg (.t rfl)) (.const _ _ _))<| .guard (j := 2) (dj := 82) rfl (l1 rfl) rfl (l1 rfl) (fun hg => .move (l1 rfl) (.gd hg (.t rfl)))<| .guard2 (j := 5) (dj := 85) rfl (l1 rfl) rfl (l1 rfl) (fun hg => .move (l1 rfl) (.t rfl))<| .guard2 (j := 5) (dj := 85) rfl (l1 rfl) rfl (l1 rfl) (fun hg => .fieldP (l1 rfl) (.t rfl) fld33_1)<| .guard2 (j := 5) (dj := 85) rfl (l1 rfl) rfl (l1 rfl) (fun hg => .loadP (l1 rfl) (.gd hg (.t rfl)) one3 rfl rfl rfl)<| .guard2 (j := 5) (dj := 85) rfl (l1 rfl) rfl (l1 rfl) (fun hg => .eql (l1 rfl) (.gd hg (.t rfl)) (.gd hg (.t rfl)))<| .guard (j := 2) (dj := 82) rfl (l1 rfl) rfl (l1 rfl) (fun hg => .pickAnd (l1 rfl) (.gd hg (.t rfl)) (.gdAnd hg (.t rfl)) (.const _ _ _))<| .cons (.pickOr (l1 rfl) (.t rfl) (.const _ _ _) (.t rfl))<| .cons (.assign (l1 rfl) (.t rfl))<| .nil _ _ _) ?_
     refine AWP.ret ?_
     obtain rfl := Option.some.inj h
     refine retJ (Res.vc (s' := ⟨[(2,bW ((decide (y_13.2.2 = (9 : Int))) || ((decide (y_13.2.2 = (0 : Int))) && (decide (y_13.2.1 = y_5.1.Ln)))))],[]⟩) (VC.sub (.of rfl) (.n _)) ?_)
     refine Res.drop (H := []) rfl ?_
     exact Res.of rfl (.cons (.tmp rfl) (.nil)) rfl rfl
end Go.AB

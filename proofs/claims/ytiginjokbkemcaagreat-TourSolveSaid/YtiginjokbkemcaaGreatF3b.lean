import Derived.Test.YtiginjokbkemcaaGreatProg
import Derived.Test.YtiginjokbkemcaaGreatF3a
import Derived.KernelRfl
set_option linter.unusedVariables false
set_option maxRecDepth 20000
namespace Go.AB
open Go Go.Proofs
theorem c50F (n : Nat) : ∀ (f : Nat) {β3 : Bool} {β4 : Bool} {β5 : Bool} {β6 : Bool} (a0 : R64) (a1 : Int) (a2_b0 : Int) (a3_b0_0_b0 : (List (List Int))) (a3_b0_1_b0 : (List R50)) (a3_b0_1_b1 : (List R71)) {r : (R30 × Int × Int)},m50F n f a0 a1 a2_b0 a3_b0_0_b0 a3_b0_1_b0 a3_b0_1_b1 = some r → Spec Tryz.prog 50 [1,2,3,4,5,6] [.agg (gW false false β3 a0.Gq a0.Path a0.Ln),iW a1,.ptr 1 0,.ptr 2 0,.ptr 5 0,.ptr 6 0] [(1,⟨3,false,[iW a2_b0]⟩),(2,⟨70,false,[.clo (.func 23) [] [.ptr 3 0,.ptr 4 0]]⟩),(3,⟨61,false,[rW β4 a3_b0_0_b0 encL3]⟩),(4,⟨37,false,[rW β5 a3_b0_1_b0 e50,rW β6 a3_b0_1_b1 e71]⟩),(5,⟨66,false,[.clo (.func 22) [] []]⟩),(6,⟨94,false,[.clo (.func 50) [] [.ptr 1 0,.ptr 2 0,.ptr 5 0,.ptr 6 0]]⟩)] (.tup [.agg (tW encK30 false false r.1.Sp r.1.Kd r.1.Lf),iW r.2.1]) [(1,⟨3,false,[iW r.2.2]⟩),(2,⟨70,false,[.clo (.func 23) [] [.ptr 3 0,.ptr 4 0]]⟩),(3,⟨61,false,[rW β4 a3_b0_0_b0 encL3]⟩),(4,⟨37,false,[rW β5 a3_b0_1_b0 e50,rW β6 a3_b0_1_b1 e71]⟩),(5,⟨66,false,[.clo (.func 22) [] []]⟩),(6,⟨94,false,[.clo (.func 50) [] [.ptr 1 0,.ptr 2 0,.ptr 5 0,.ptr 6 0]]⟩)] := by
 intro f
 induction f with
 | zero =>
  intro β3 β4 β5 β6 a0 a1 a2_b0 a3_b0_0_b0 a3_b0_1_b0 a3_b0_1_b1 r h
  cases (show (none : Option (R30 × Int × Int)) = some r from h)
 | succ f ih =>
 intro β3 β4 β5 β6 a0 a1 a2_b0 a3_b0_0_b0 a3_b0_1_b0 a3_b0_1_b1 r h
 replace h : m50B n (m50F n f) a0 a1 a2_b0 a3_b0_0_b0 a3_b0_1_b0 a3_b0_1_b1 = some r := h
 generalize m50F n f = rc_0 at h ih
 refine Spec.of (fn := Tryz.f50) Tryz.func50 Tryz.ntmps50 rfl rfl (le1 rfl) (fun w0 Zs Zb T0 ι0 => ?_)
 unfold m50B at h
 refine AWP.sv (.cons (.box (t := 7) (n := 4) (l1 rfl) (nm rfl) (.t rfl) (by first | exact ⟨rfl,rfl⟩ | rfl) rfl)<| .cons (.alloc (t := 8) (k := ⟨31,false,[iW (0 : Int),.sc (.slice none 0 0),.sc (.slice none 0 0)]⟩) (l1 rfl) (nm rfl) zero31 rfl rfl)<| .cons (.assign (l1 rfl) (.const _ _ _))<| .nil _ _ _) ⟨[(1,iW a1),(2,.ptr 1 0),(3,.ptr 2 0),(4,.ptr 5 0),(5,.ptr 6 0),(6,.ptr 7 0),(8,.ptr 8 0)],[(8,⟨31,false,[iW (0 : Int),.sc (.slice none 0 0),.sc (.slice none 0 0)]⟩),(7,⟨65,false,(gW false false β3 a0.Gq a0.Path a0.Ln)⟩),(1,⟨3,false,[iW a2_b0]⟩),(2,⟨70,false,[.clo (.func 23) [] [.ptr 3 0,.ptr 4 0]]⟩),(3,⟨61,false,[rW β4 a3_b0_0_b0 encL3]⟩),(4,⟨37,false,[rW β5 a3_b0_1_b0 e50,rW β6 a3_b0_1_b1 e71]⟩),(5,⟨66,false,[.clo (.func 22) [] []]⟩),(6,⟨94,false,[.clo (.func 50) [] [.ptr 1 0,.ptr 2 0,.ptr 5 0,.ptr 6 0]]⟩)]⟩ rfl rfl ?_
 refine AWP.seq ?_
 obtain ⟨c_1,hc_1,h⟩ := letS h
 refine AWP.sr (.cons (.loadP (l1 rfl) (.t rfl) one3 rfl rfl rfl)<| .cons (.add (l1 rfl) (.t rfl) (.const _ _ _))<| .cons (.storeP (.t rfl) (.t rfl) sz3 rfl (l1 rfl) rfl (by intro h; cases h) rfl)<| .nil _ _ _) ?_
 refine AWP.vc (s' := ⟨[(1,iW a1),(2,.ptr 1 0),(3,.ptr 2 0),(4,.ptr 5 0),(5,.ptr 6 0),(6,.ptr 7 0),(8,.ptr 8 0)],[(8,⟨31,false,[iW (0 : Int),.sc (.slice none 0 0),.sc (.slice none 0 0)]⟩),(7,⟨65,false,(gW false false β3 a0.Gq a0.Path a0.Ln)⟩),(1,⟨3,false,[iW c_1]⟩),(2,⟨70,false,[.clo (.func 23) [] [.ptr 3 0,.ptr 4 0]]⟩),(3,⟨61,false,[rW β4 a3_b0_0_b0 encL3]⟩),(4,⟨37,false,[rW β5 a3_b0_1_b0 e50,rW β6 a3_b0_1_b1 e71]⟩),(5,⟨66,false,[.clo (.func 22) [] []]⟩),(6,⟨94,false,[.clo (.func 50) [] [.ptr 1 0,.ptr 2 0,.ptr 5 0,.ptr 6 0]]⟩)]⟩) (by subst hc_1; exact VC.sub (.of rfl) (.of rfl)) ?_
 refine AWP.sv (.cons (.loadP (l1 rfl) (.t rfl) one3 rfl rfl rfl)<| .cons (.gtr (l1 rfl) (.t rfl) (.const _ _ _))<| .cons (.move (l1 rfl) (.t rfl))<| .guard (j := 2) (dj := 24) rfl (l1 rfl) rfl (l1 rfl) (fun hg => .move (l1 rfl) (.t rfl))<| .guard (j := 2) (dj := 24) rfl (l1 rfl) rfl (l1 rfl) (fun hg => .gtr (l1 rfl) (.gd hg (.t rfl)) (.const _ _ _))<| .cons (.pickOr (l1 rfl) (.t rfl) (.const _ _ _) (.t rfl))<| .nil _ _ _) ⟨[(1,iW a1),(3,.ptr 2 0),(4,.ptr 5 0),(5,.ptr 6 0),(6,.ptr 7 0),(8,.ptr 8 0),(27,bW ((decide ((2000 : Int) < c_1)) || (decide ((40 : Int) < a1))))],[(8,⟨31,false,[iW (0 : Int),.sc (.slice none 0 0),.sc (.slice none 0 0)]⟩),(7,⟨65,false,(gW false false β3 a0.Gq a0.Path a0.Ln)⟩),(1,⟨3,false,[iW c_1]⟩),(2,⟨70,false,[.clo (.func 23) [] [.ptr 3 0,.ptr 4 0]]⟩),(3,⟨61,false,[rW β4 a3_b0_0_b0 encL3]⟩),(4,⟨37,false,[rW β5 a3_b0_1_b0 e50,rW β6 a3_b0_1_b1 e71]⟩),(5,⟨66,false,[.clo (.func 22) [] []]⟩),(6,⟨94,false,[.clo (.func 50) [] [.ptr 1 0,.ptr 2 0,.ptr 5 0,.ptr 6 0]]⟩)]⟩ rfl rfl ?_
 refine AWP.cond (.t rfl) (fun hc => ?_) (fun hc => ?_)
 ·have h := iteT hc h
  refine AWP.sr (.cons (.buildO (offs := [(0,1),(1,1),(2,1)]) (l1 rfl) (.nil) zero31 offs31 rfl)<| .cons (.storePA (.t rfl) (.t rfl) sz31 rfl rfl (le1 rfl) (one_lit rfl) (by intro h; cases h) rfl)<| .cons (.assign (l1 rfl) (.const _ _ _))<| .nil _ _ _) ?_
  refine AWP.ret ?_
  obtain rfl := Option.some.inj h
  refine retJ (Res.vc (s' := ⟨[(8,.ptr 8 0),(9,iW (9 : Int))],[(8,⟨31,false,[iW (0 : Int),rW false ([] : List K30) encK30,rW false ([] : List Int) eW]⟩),(1,⟨3,false,[iW c_1]⟩),(2,⟨70,false,[.clo (.func 23) [] [.ptr 3 0,.ptr 4 0]]⟩),(3,⟨61,false,[rW β4 a3_b0_0_b0 encL3]⟩),(4,⟨37,false,[rW β5 a3_b0_1_b0 e50,rW β6 a3_b0_1_b1 e71]⟩),(5,⟨66,false,[.clo (.func 22) [] []]⟩),(6,⟨94,false,[.clo (.func 50) [] [.ptr 1 0,.ptr 2 0,.ptr 5 0,.ptr 6 0]]⟩)]⟩) (VC.trans (VC.cell (t := 8) (i := 1) (v' := rW false ([] : List K30) encK30) rfl rfl rfl (fun _ _ _ _ h => nil_rd h)) (VC.trans (VC.cell (t := 8) (i := 2) (v' := rW false ([] : List Int) eW) rfl rfl rfl (fun _ _ _ _ h => nil_rd h)) (VC.sub (.of rfl) (.of rfl)))) ?_)
  refine Res.sub (H := [(8,⟨31,false,[iW (0 : Int),rW false ([] : List K30) encK30,rW false ([] : List Int) eW]⟩),(1,⟨3,false,[iW c_1]⟩),(2,⟨70,false,[.clo (.func 23) [] [.ptr 3 0,.ptr 4 0]]⟩),(3,⟨61,false,[rW β4 a3_b0_0_b0 encL3]⟩),(4,⟨37,false,[rW β5 a3_b0_1_b0 e50,rW β6 a3_b0_1_b1 e71]⟩),(5,⟨66,false,[.clo (.func 22) [] []]⟩),(6,⟨94,false,[.clo (.func 50) [] [.ptr 1 0,.ptr 2 0,.ptr 5 0,.ptr 6 0]]⟩)]) (.of rfl) ?_
  exact Res.of rfl (.cons (.cell rfl agg31 rfl rfl rfl rfl) (.cons (.tmp rfl) (.nil))) rfl rfl
 ·have h := iteF hc h
  refine AWP.skip ?_
  obtain ⟨y_2,hy_2,h⟩ := bindS h
  refine AWP.sv (.cons (.loadP (l1 rfl) (.t rfl) one70 rfl rfl rfl)<| .cons (.loadPA (l1 rfl) (.t rfl) agg65 rfl rfl rfl rfl)<| .cons (.keep (bw := false) (AStep.callV (us' := []) (avs := [.agg [rW false ((R64.mk (R24.mk a0.Gq.Pq a0.Gq.Bq) a0.Path a0.Ln).Gq.Pq) e50,rW false ((R64.mk (R24.mk a0.Gq.Pq a0.Gq.Bq) a0.Path a0.Ln).Gq.Bq) e71,rW β3 ((R64.mk (R24.mk a0.Gq.Pq a0.Gq.Bq) a0.Path a0.Ln).Path) eW,iW ((R64.mk (R24.mk a0.Gq.Pq a0.Gq.Bq) a0.Path a0.Ln).Ln)]]) (cs' := [.ptr 1 0,.ptr 2 0]) (σ := sgT [(1,3),(2,4)]) (bw := false) (l1 rfl) (.t rfl) (c23 (β1 := false) (β2 := false) (β3 := β3) (β4 := β4) (β5 := β5) (β6 := β6) n (R64.mk (R24.mk a0.Gq.Pq a0.Gq.Bq) a0.Path a0.Ln) a3_b0_0_b0 a3_b0_1_b0 a3_b0_1_b1 hy_2) (.nil) (.cons (.t rfl) (.ren rfl) (.nil)) (.cons (.ren rfl) (.cons (.ren rfl) (.nil))) (CallOk.mk' (.c rfl (.c rfl (.n))) rfl) (fun _ h => by cases h)) (CallOk.mk' (.c rfl (.c rfl (.n))) rfl) rfl rfl)<| .cons (.alloc (t := 9) (k := ⟨68,false,[iW (0 : Int),iW (0 : Int),.sc (.slice none 0 0)]⟩) (l1 rfl) (nm rfl) zero68 rfl rfl)<| .cons (.storePA (.t rfl) (.t rfl) sz68 rfl rfl (le1 rfl) (one_lit rfl) (by intro h; cases h) rfl)<| .nil _ _ _) ⟨[(1,iW a1),(4,.ptr 5 0),(5,.ptr 6 0),(6,.ptr 7 0),(8,.ptr 8 0),(10,.ptr 9 0)],[(9,⟨68,false,[iW y_2.Kind,iW y_2.Sp,rW β4 y_2.Lf eW]⟩),(8,⟨31,false,[iW (0 : Int),.sc (.slice none 0 0),.sc (.slice none 0 0)]⟩),(7,⟨65,false,(gW false false β3 a0.Gq a0.Path a0.Ln)⟩),(1,⟨3,false,[iW c_1]⟩),(2,⟨70,false,[.clo (.func 23) [] [.ptr 3 0,.ptr 4 0]]⟩),(3,⟨61,false,[rW β4 a3_b0_0_b0 encL3]⟩),(4,⟨37,false,[rW β5 a3_b0_1_b0 e50,rW β6 a3_b0_1_b1 e71]⟩),(5,⟨66,false,[.clo (.func 22) [] []]⟩),(6,⟨94,false,[.clo (.func 50) [] [.ptr 1 0,.ptr 2 0,.ptr 5 0,.ptr 6 0]]⟩)]⟩ rfl rfl ?_
  refine AWP.sv (.cons (.assign (l1 rfl) (.const _ _ _))<| .nil _ _ _) ⟨[(1,iW a1),(4,.ptr 5 0),(5,.ptr 6 0),(6,.ptr 7 0),(8,.ptr 8 0),(10,.ptr 9 0)],[(9,⟨68,false,[iW y_2.Kind,iW y_2.Sp,rW β4 y_2.Lf eW]⟩),(8,⟨31,false,[iW (0 : Int),.sc (.slice none 0 0),.sc (.slice none 0 0)]⟩),(7,⟨65,false,(gW false false β3 a0.Gq a0.Path a0.Ln)⟩),(1,⟨3,false,[iW c_1]⟩),(2,⟨70,false,[.clo (.func 23) [] [.ptr 3 0,.ptr 4 0]]⟩),(3,⟨61,false,[rW β4 a3_b0_0_b0 encL3]⟩),(4,⟨37,false,[rW β5 a3_b0_1_b0 e50,rW β6 a3_b0_1_b1 e71]⟩),(5,⟨66,false,[.clo (.func 22) [] []]⟩),(6,⟨94,false,[.clo (.func 50) [] [.ptr 1 0,.ptr 2 0,.ptr 5 0,.ptr 6 0]]⟩)]⟩ rfl rfl ?_
  refine AWP.seq ?_
  refine AWP.sv (.cons (.fieldP (l1 rfl) (.t rfl) fld68_0)<| .cons (.loadP (l1 rfl) (.t rfl) one3 rfl rfl rfl)<| .nil _ _ _) ⟨[(1,iW a1),(4,.ptr 5 0),(5,.ptr 6 0),(6,.ptr 7 0),(8,.ptr 8 0),(10,.ptr 9 0),(33,iW y_2.Kind)],[(9,⟨68,false,[iW y_2.Kind,iW y_2.Sp,rW β4 y_2.Lf eW]⟩),(8,⟨31,false,[iW (0 : Int),.sc (.slice none 0 0),.sc (.slice none 0 0)]⟩),(7,⟨65,false,(gW false false β3 a0.Gq a0.Path a0.Ln)⟩),(1,⟨3,false,[iW c_1]⟩),(2,⟨70,false,[.clo (.func 23) [] [.ptr 3 0,.ptr 4 0]]⟩),(3,⟨61,false,[rW β4 a3_b0_0_b0 encL3]⟩),(4,⟨37,false,[rW β5 a3_b0_1_b0 e50,rW β6 a3_b0_1_b1 e71]⟩),(5,⟨66,false,[.clo (.func 22) [] []]⟩),(6,⟨94,false,[.clo (.func 50) [] [.ptr 1 0,.ptr 2 0,.ptr 5 0,.ptr 6 0]]⟩)]⟩ rfl rfl ?_
  refine AWP.block ?_
  refine AWP.sv (.cons (.eql (l1 rfl) (.t rfl) (.const _ _ _))<| .cons (.assign (l1 rfl) (.t rfl))<| .nil _ _ _) ⟨[(1,iW a1),(4,.ptr 5 0),(5,.ptr 6 0),(6,.ptr 7 0),(8,.ptr 8 0),(10,.ptr 9 0),(33,iW y_2.Kind),(35,bW (decide (y_2.Kind = (2 : Int))))],[(9,⟨68,false,[iW y_2.Kind,iW y_2.Sp,rW β4 y_2.Lf eW]⟩),(8,⟨31,false,[iW (0 : Int),.sc (.slice none 0 0),.sc (.slice none 0 0)]⟩),(7,⟨65,false,(gW false false β3 a0.Gq a0.Path a0.Ln)⟩),(1,⟨3,false,[iW c_1]⟩),(2,⟨70,false,[.clo (.func 23) [] [.ptr 3 0,.ptr 4 0]]⟩),(3,⟨61,false,[rW β4 a3_b0_0_b0 encL3]⟩),(4,⟨37,false,[rW β5 a3_b0_1_b0 e50,rW β6 a3_b0_1_b1 e71]⟩),(5,⟨66,false,[.clo (.func 22) [] []]⟩),(6,⟨94,false,[.clo (.func 50) [] [.ptr 1 0,.ptr 2 0,.ptr 5 0,.ptr 6 0]]⟩)]⟩ rfl rfl ?_
  refine AWP.cond (.t rfl) (fun hc => ?_) (fun hc => ?_)
  ·have h := iteT hc h
   obtain ⟨y_3,hy_3,h⟩ := bindS h
   refine AWP.sv (.cons (.fieldP (l1 rfl) (.t rfl) fld68_2)<| .cons (.loadP (l1 rfl) (.t rfl) one28 rfl rfl rfl)<| .cons (.call0 (bw := false) (l1 rfl) (c43 (β1 := β4) n y_2.Lf hy_3) (.cons (.t rfl) (.ren rfl) (.nil)) rfl)<| .cons (.buildO (offs := [(0,1),(1,1),(2,1)]) (l1 rfl) (.cons (.t rfl) (by first | exact ⟨rfl,rfl⟩ | rfl) (.nil)) zero31 offs31 rfl)<| .cons (.alloc (t := 10) (k := ⟨31,false,[iW (0 : Int),.sc (.slice none 0 0),.sc (.slice none 0 0)]⟩) (l1 rfl) (nm rfl) zero31 rfl rfl)<| .cons (.storePA (.t rfl) (.t rfl) sz31 rfl rfl (le1 rfl) (one_lit rfl) (by intro h; cases h) rfl)<| .nil _ _ _) ⟨[(8,.ptr 8 0),(12,.ptr 10 0)],[(10,⟨31,false,[iW (0 : Int),.sc (.slice none 0 0),rW false y_3 eW]⟩),(8,⟨31,false,[iW (0 : Int),.sc (.slice none 0 0),.sc (.slice none 0 0)]⟩),(1,⟨3,false,[iW c_1]⟩),(2,⟨70,false,[.clo (.func 23) [] [.ptr 3 0,.ptr 4 0]]⟩),(3,⟨61,false,[rW β4 a3_b0_0_b0 encL3]⟩),(4,⟨37,false,[rW β5 a3_b0_1_b0 e50,rW β6 a3_b0_1_b1 e71]⟩),(5,⟨66,false,[.clo (.func 22) [] []]⟩),(6,⟨94,false,[.clo (.func 50) [] [.ptr 1 0,.ptr 2 0,.ptr 5 0,.ptr 6 0]]⟩)]⟩ rfl rfl ?_
   refine AWP.seq ?_
   obtain ⟨y_4,hy_4,h⟩ := bindS h
   refine AWP.sv (.cons (.loadPA (l1 rfl) (.t rfl) agg31 rfl rfl rfl rfl)<| .cons (.call0 (bw := false) (l1 rfl) (c51 (β1 := false) (β2 := false) n (R30.mk (0 : Int) ([] : List K30) y_3) hy_4) (.cons (.t rfl) (.agg (.cons (.ren rfl) (.cons (.nil) (.cons (.ren rfl) (.nil))))) (.nil)) rfl)<| .cons (.not (l1 rfl) (.t rfl))<| .nil _ _ _) ⟨[(8,.ptr 8 0),(12,.ptr 10 0),(43,bW (!y_4))],[(10,⟨31,false,[iW (0 : Int),.sc (.slice none 0 0),rW false y_3 eW]⟩),(8,⟨31,false,[iW (0 : Int),.sc (.slice none 0 0),.sc (.slice none 0 0)]⟩),(1,⟨3,false,[iW c_1]⟩),(2,⟨70,false,[.clo (.func 23) [] [.ptr 3 0,.ptr 4 0]]⟩),(3,⟨61,false,[rW β4 a3_b0_0_b0 encL3]⟩),(4,⟨37,false,[rW β5 a3_b0_1_b0 e50,rW β6 a3_b0_1_b1 e71]⟩),(5,⟨66,false,[.clo (.func 22) [] []]⟩),(6,⟨94,false,[.clo (.func 50) [] [.ptr 1 0,.ptr 2 0,.ptr 5 0,.ptr 6 0]]⟩)]⟩ rfl rfl ?_
   refine AWP.cond (.t rfl) (fun hc => ?_) (fun hc => ?_)
   ·have h := iteT hc h
    refine AWP.sr (.cons (.buildO (offs := [(0,1),(1,1),(2,1)]) (l1 rfl) (.nil) zero31 offs31 rfl)<| .cons (.storePA (.t rfl) (.t rfl) sz31 rfl rfl (le1 rfl) (one_lit rfl) (by intro h; cases h) rfl)<| .cons (.assign (l1 rfl) (.const _ _ _))<| .nil _ _ _) ?_
    refine AWP.ret ?_
    obtain rfl := Option.some.inj h
    refine retJ (Res.vc (s' := ⟨[(8,.ptr 8 0),(9,iW (9 : Int))],[(8,⟨31,false,[iW (0 : Int),rW false ([] : List K30) encK30,rW false ([] : List Int) eW]⟩),(1,⟨3,false,[iW c_1]⟩),(2,⟨70,false,[.clo (.func 23) [] [.ptr 3 0,.ptr 4 0]]⟩),(3,⟨61,false,[rW β4 a3_b0_0_b0 encL3]⟩),(4,⟨37,false,[rW β5 a3_b0_1_b0 e50,rW β6 a3_b0_1_b1 e71]⟩),(5,⟨66,false,[.clo (.func 22) [] []]⟩),(6,⟨94,false,[.clo (.func 50) [] [.ptr 1 0,.ptr 2 0,.ptr 5 0,.ptr 6 0]]⟩)]⟩) (VC.trans (VC.cell (t := 8) (i := 1) (v' := rW false ([] : List K30) encK30) rfl rfl rfl (fun _ _ _ _ h => nil_rd h)) (VC.trans (VC.cell (t := 8) (i := 2) (v' := rW false ([] : List Int) eW) rfl rfl rfl (fun _ _ _ _ h => nil_rd h)) (VC.sub (.of rfl) (.of rfl)))) ?_)
    refine Res.sub (H := [(8,⟨31,false,[iW (0 : Int),rW false ([] : List K30) encK30,rW false ([] : List Int) eW]⟩),(1,⟨3,false,[iW c_1]⟩),(2,⟨70,false,[.clo (.func 23) [] [.ptr 3 0,.ptr 4 0]]⟩),(3,⟨61,false,[rW β4 a3_b0_0_b0 encL3]⟩),(4,⟨37,false,[rW β5 a3_b0_1_b0 e50,rW β6 a3_b0_1_b1 e71]⟩),(5,⟨66,false,[.clo (.func 22) [] []]⟩),(6,⟨94,false,[.clo (.func 50) [] [.ptr 1 0,.ptr 2 0,.ptr 5 0,.ptr 6 0]]⟩)]) (.of rfl) ?_
    exact Res.of rfl (.cons (.cell rfl agg31 rfl rfl rfl rfl) (.cons (.tmp rfl) (.nil))) rfl rfl
   ·have h := iteF hc h
    refine AWP.skip ?_
    refine AWP.sr (.cons (.loadPA (l1 rfl) (.t rfl) agg31 rfl rfl rfl rfl)<| .cons (.storePA (.t rfl) (.t rfl) sz31 rfl rfl (le1 rfl) (one_lit rfl) (by intro h; cases h) rfl)<| .cons (.assign (l1 rfl) (.const _ _ _))<| .nil _ _ _) ?_
    refine AWP.ret ?_
    obtain rfl := Option.some.inj h
    refine retJ (Res.vc (s' := ⟨[(8,.ptr 8 0),(9,iW (0 : Int))],[(8,⟨31,false,[iW (0 : Int),rW false ([] : List K30) encK30,rW false y_3 eW]⟩),(1,⟨3,false,[iW c_1]⟩),(2,⟨70,false,[.clo (.func 23) [] [.ptr 3 0,.ptr 4 0]]⟩),(3,⟨61,false,[rW β4 a3_b0_0_b0 encL3]⟩),(4,⟨37,false,[rW β5 a3_b0_1_b0 e50,rW β6 a3_b0_1_b1 e71]⟩),(5,⟨66,false,[.clo (.func 22) [] []]⟩),(6,⟨94,false,[.clo (.func 50) [] [.ptr 1 0,.ptr 2 0,.ptr 5 0,.ptr 6 0]]⟩)]⟩) (VC.trans (VC.cell (t := 8) (i := 1) (v' := rW false ([] : List K30) encK30) rfl rfl rfl (fun _ _ _ _ h => nil_rd h)) (VC.sub (.of rfl) (.of rfl))) ?_)
    refine Res.sub (H := [(8,⟨31,false,[iW (0 : Int),rW false ([] : List K30) encK30,rW false y_3 eW]⟩),(1,⟨3,false,[iW c_1]⟩),(2,⟨70,false,[.clo (.func 23) [] [.ptr 3 0,.ptr 4 0]]⟩),(3,⟨61,false,[rW β4 a3_b0_0_b0 encL3]⟩),(4,⟨37,false,[rW β5 a3_b0_1_b0 e50,rW β6 a3_b0_1_b1 e71]⟩),(5,⟨66,false,[.clo (.func 22) [] []]⟩),(6,⟨94,false,[.clo (.func 50) [] [.ptr 1 0,.ptr 2 0,.ptr 5 0,.ptr 6 0]]⟩)]) (.of rfl) ?_
    exact Res.of rfl (.cons (.cell rfl agg31 rfl rfl rfl rfl) (.cons (.tmp rfl) (.nil))) rfl rfl
  ·have h := iteF hc h
   refine AWP.sv (.cons (.eql (l1 rfl) (.t rfl) (.const _ _ _))<| .cons (.assign (l1 rfl) (.t rfl))<| .nil _ _ _) ⟨[(1,iW a1),(4,.ptr 5 0),(5,.ptr 6 0),(6,.ptr 7 0),(8,.ptr 8 0),(10,.ptr 9 0),(46,bW (decide (y_2.Kind = (1 : Int))))],[(9,⟨68,false,[iW y_2.Kind,iW y_2.Sp,rW β4 y_2.Lf eW]⟩),(8,⟨31,false,[iW (0 : Int),.sc (.slice none 0 0),.sc (.slice none 0 0)]⟩),(7,⟨65,false,(gW false false β3 a0.Gq a0.Path a0.Ln)⟩),(1,⟨3,false,[iW c_1]⟩),(2,⟨70,false,[.clo (.func 23) [] [.ptr 3 0,.ptr 4 0]]⟩),(3,⟨61,false,[rW β4 a3_b0_0_b0 encL3]⟩),(4,⟨37,false,[rW β5 a3_b0_1_b0 e50,rW β6 a3_b0_1_b1 e71]⟩),(5,⟨66,false,[.clo (.func 22) [] []]⟩),(6,⟨94,false,[.clo (.func 50) [] [.ptr 1 0,.ptr 2 0,.ptr 5 0,.ptr 6 0]]⟩)]⟩ rfl rfl ?_
   refine AWP.cond (.t rfl) (fun hc => ?_) (fun hc => ?_)
   ·have h := iteT hc h
    obtain ⟨y_5,hy_5,h⟩ := bindS h
    refine AWP.sv (.cons (.loadP (l1 rfl) (.t rfl) one66 rfl rfl rfl)<| .cons (.loadPA (l1 rfl) (.t rfl) agg65 rfl rfl rfl rfl)<| .cons (.fieldP (l1 rfl) (.t rfl) fld68_1)<| .cons (.loadP (l1 rfl) (.t rfl) one3 rfl rfl rfl)<| .cons (.keep (bw := false) (AStep.callV (us' := []) (avs := [.agg [rW false ((R64.mk (R24.mk a0.Gq.Pq a0.Gq.Bq) a0.Path a0.Ln).Gq.Pq) e50,rW false ((R64.mk (R24.mk a0.Gq.Pq a0.Gq.Bq) a0.Path a0.Ln).Gq.Bq) e71,rW β3 ((R64.mk (R24.mk a0.Gq.Pq a0.Gq.Bq) a0.Path a0.Ln).Path) eW,iW ((R64.mk (R24.mk a0.Gq.Pq a0.Gq.Bq) a0.Path a0.Ln).Ln)],iW y_2.Sp]) (cs' := []) (σ := sgT []) (bw := false) (l1 rfl) (.t rfl) (c22 (β3 := β3) n (R64.mk (R24.mk a0.Gq.Pq a0.Gq.Bq) a0.Path a0.Ln) y_2.Sp hy_5) (.nil) (.cons (.t rfl) (.ren rfl) (.cons (.t rfl) (.ren rfl) (.nil))) (.nil) (CallOk.mk' (.n) rfl) (fun _ h => by cases h)) (CallOk.mk' (.n) rfl) rfl rfl)<| .cons (.move (l1 rfl) (.t rfl))<| .cons (.extract (l1 rfl) (.t rfl) rfl)<| .cons (.extract (l1 rfl) (.t rfl) rfl)<| .cons (.assign (l1 rfl) (.t rfl))<| .cons (.assign (l1 rfl) (.t rfl))<| .nil _ _ _) ⟨[(1,iW a1),(5,.ptr 6 0),(8,.ptr 8 0),(10,.ptr 9 0),(13,rW false y_5.1 encR64),(14,bW y_5.2)],[(9,⟨68,false,[iW y_2.Kind,iW y_2.Sp,rW β4 y_2.Lf eW]⟩),(8,⟨31,false,[iW (0 : Int),.sc (.slice none 0 0),.sc (.slice none 0 0)]⟩),(1,⟨3,false,[iW c_1]⟩),(2,⟨70,false,[.clo (.func 23) [] [.ptr 3 0,.ptr 4 0]]⟩),(3,⟨61,false,[rW β4 a3_b0_0_b0 encL3]⟩),(4,⟨37,false,[rW β5 a3_b0_1_b0 e50,rW β6 a3_b0_1_b1 e71]⟩),(5,⟨66,false,[.clo (.func 22) [] []]⟩),(6,⟨94,false,[.clo (.func 50) [] [.ptr 1 0,.ptr 2 0,.ptr 5 0,.ptr 6 0]]⟩)]⟩ rfl rfl ?_
    refine AWP.seq ?_
    refine AWP.sv (.cons (.move (l1 rfl) (.t rfl))<| .cons (.not (l1 rfl) (.t rfl))<| .cons (.move (l1 rfl) (.t rfl))<| .guard (j := 2) (dj := 58) rfl (l1 rfl) rfl (l1 rfl) (fun hg => .move (l1 rfl) (.t rfl))<| .guard (j := 2) (dj := 58) rfl (l1 rfl) rfl (l1 rfl) (fun hg => .lenRd (l1 rfl) (.gd hg (.t rfl)) Tryz.underlying95)<| .guard (j := 2) (dj := 58) rfl (l1 rfl) rfl (l1 rfl) (fun hg => .eql (l1 rfl) (.gd hg (.t rfl)) (.const _ _ _))<| .cons (.pickOr (l1 rfl) (.t rfl) (.const _ _ _) (.t rfl))<| .nil _ _ _) ⟨[(1,iW a1),(5,.ptr 6 0),(8,.ptr 8 0),(10,.ptr 9 0),(13,rW false y_5.1 encR64),(62,bW ((!y_5.2) || (decide ((y_5.1.length : Int) = (0 : Int)))))],[(9,⟨68,false,[iW y_2.Kind,iW y_2.Sp,rW β4 y_2.Lf eW]⟩),(8,⟨31,false,[iW (0 : Int),.sc (.slice none 0 0),.sc (.slice none 0 0)]⟩),(1,⟨3,false,[iW c_1]⟩),(2,⟨70,false,[.clo (.func 23) [] [.ptr 3 0,.ptr 4 0]]⟩),(3,⟨61,false,[rW β4 a3_b0_0_b0 encL3]⟩),(4,⟨37,false,[rW β5 a3_b0_1_b0 e50,rW β6 a3_b0_1_b1 e71]⟩),(5,⟨66,false,[.clo (.func 22) [] []]⟩),(6,⟨94,false,[.clo (.func 50) [] [.ptr 1 0,.ptr 2 0,.ptr 5 0,.ptr 6 0]]⟩)]⟩ rfl rfl ?_
    refine AWP.cond (.t rfl) (fun hc => ?_) (fun hc => ?_)
    ·have h := iteT hc h
     refine AWP.sr (.cons (.buildO (offs := [(0,1),(1,1),(2,1)]) (l1 rfl) (.nil) zero31 offs31 rfl)<| .cons (.storePA (.t rfl) (.t rfl) sz31 rfl rfl (le1 rfl) (one_lit rfl) (by intro h; cases h) rfl)<| .cons (.assign (l1 rfl) (.const _ _ _))<| .nil _ _ _) ?_
     refine AWP.ret ?_
     obtain rfl := Option.some.inj h
     refine retJ (Res.vc (s' := ⟨[(8,.ptr 8 0),(9,iW (8 : Int))],[(8,⟨31,false,[iW (0 : Int),rW false ([] : List K30) encK30,rW false ([] : List Int) eW]⟩),(1,⟨3,false,[iW c_1]⟩),(2,⟨70,false,[.clo (.func 23) [] [.ptr 3 0,.ptr 4 0]]⟩),(3,⟨61,false,[rW β4 a3_b0_0_b0 encL3]⟩),(4,⟨37,false,[rW β5 a3_b0_1_b0 e50,rW β6 a3_b0_1_b1 e71]⟩),(5,⟨66,false,[.clo (.func 22) [] []]⟩),(6,⟨94,false,[.clo (.func 50) [] [.ptr 1 0,.ptr 2 0,.ptr 5 0,.ptr 6 0]]⟩)]⟩) (VC.trans (VC.cell (t := 8) (i := 1) (v' := rW false ([] : List K30) encK30) rfl rfl rfl (fun _ _ _ _ h => nil_rd h)) (VC.trans (VC.cell (t := 8) (i := 2) (v' := rW false ([] : List Int) eW) rfl rfl rfl (fun _ _ _ _ h => nil_rd h)) (VC.sub (.of rfl) (.of rfl)))) ?_)
     refine Res.sub (H := [(8,⟨31,false,[iW (0 : Int),rW false ([] : List K30) encK30,rW false ([] : List Int) eW]⟩),(1,⟨3,false,[iW c_1]⟩),(2,⟨70,false,[.clo (.func 23) [] [.ptr 3 0,.ptr 4 0]]⟩),(3,⟨61,false,[rW β4 a3_b0_0_b0 encL3]⟩),(4,⟨37,false,[rW β5 a3_b0_1_b0 e50,rW β6 a3_b0_1_b1 e71]⟩),(5,⟨66,false,[.clo (.func 22) [] []]⟩),(6,⟨94,false,[.clo (.func 50) [] [.ptr 1 0,.ptr 2 0,.ptr 5 0,.ptr 6 0]]⟩)]) (.of rfl) ?_
     exact Res.of rfl (.cons (.cell rfl agg31 rfl rfl rfl rfl) (.cons (.tmp rfl) (.nil))) rfl rfl
    ·have h := iteF hc h
     refine AWP.skip ?_
     refine AWP.rg (.cons (.move (l1 rfl) (.t rfl))<| .cons (.assign (l1 rfl) (.t rfl))<| .nil _ _ _) ?_
     refine AWP.vs ⟨[(1,iW a1),(5,.ptr 6 0),(8,.ptr 8 0),(10,.ptr 9 0),(11,rW false y_5.1 encR64)],[(9,⟨68,false,[iW y_2.Kind,iW y_2.Sp,rW β4 y_2.Lf eW]⟩),(8,⟨31,false,[iW (0 : Int),.sc (.slice none 0 0),.sc (.slice none 0 0)]⟩),(1,⟨3,false,[iW c_1]⟩),(2,⟨70,false,[.clo (.func 23) [] [.ptr 3 0,.ptr 4 0]]⟩),(3,⟨61,false,[rW β4 a3_b0_0_b0 encL3]⟩),(4,⟨37,false,[rW β5 a3_b0_1_b0 e50,rW β6 a3_b0_1_b1 e71]⟩),(5,⟨66,false,[.clo (.func 22) [] []]⟩),(6,⟨94,false,[.clo (.func 50) [] [.ptr 1 0,.ptr 2 0,.ptr 5 0,.ptr 6 0]]⟩)]⟩ rfl rfl ?_
     refine AWP.sv (.cons (.fieldP (l1 rfl) (.t rfl) fld68_1)<| .cons (.loadP (l1 rfl) (.t rfl) one3 rfl rfl rfl)<| .cons (.buildO (offs := [(0,1),(1,1),(2,1)]) (l1 rfl) (.cons (.t rfl) (by first | exact ⟨rfl,rfl⟩ | rfl) (.nil)) zero31 offs31 rfl)<| .cons (.alloc (t := 11) (k := ⟨31,false,[iW (0 : Int),.sc (.slice none 0 0),.sc (.slice none 0 0)]⟩) (l1 rfl) (nm rfl) zero31 rfl rfl)<| .cons (.storePA (.t rfl) (.t rfl) sz31 rfl rfl (le1 rfl) (one_lit rfl) (by intro h; cases h) rfl)<| .nil _ _ _) ⟨[(1,iW a1),(5,.ptr 6 0),(8,.ptr 8 0),(10,.ptr 9 0),(11,rW false y_5.1 encR64),(15,.ptr 11 0)],[(11,⟨31,false,[iW y_2.Sp,.sc (.slice none 0 0),.sc (.slice none 0 0)]⟩),(9,⟨68,false,[iW y_2.Kind,iW y_2.Sp,rW β4 y_2.Lf eW]⟩),(8,⟨31,false,[iW (0 : Int),.sc (.slice none 0 0),.sc (.slice none 0 0)]⟩),(1,⟨3,false,[iW c_1]⟩),(2,⟨70,false,[.clo (.func 23) [] [.ptr 3 0,.ptr 4 0]]⟩),(3,⟨61,false,[rW β4 a3_b0_0_b0 encL3]⟩),(4,⟨37,false,[rW β5 a3_b0_1_b0 e50,rW β6 a3_b0_1_b1 e71]⟩),(5,⟨66,false,[.clo (.func 22) [] []]⟩),(6,⟨94,false,[.clo (.func 50) [] [.ptr 1 0,.ptr 2 0,.ptr 5 0,.ptr 6 0]]⟩)]⟩ rfl rfl ?_
     refine AWP.seq ?_
     obtain ⟨y_6,hy_6,h⟩ := bindS h
     refine AWP.sv (.cons (.move (l1 rfl) (.t rfl))<| .cons (.lenRd (l1 rfl) (.t rfl) Tryz.underlying95)<| .cons (.gtr (l1 rfl) (.t rfl) (.const _ _ _))<| .cons (.move (l1 rfl) (.t rfl))<| .guard (j := 3) (dj := 71) rfl (l1 rfl) rfl (l1 rfl) (fun hg => .fieldP (l1 rfl) (.t rfl) fld68_1)<| .guard (j := 3) (dj := 71) rfl (l1 rfl) rfl (l1 rfl) (fun hg => .loadP (l1 rfl) (.gd hg (.t rfl)) one3 rfl rfl rfl)<| .guard (j := 3) (dj := 71) rfl (l1 rfl) rfl (l1 rfl) (fun hg => .call0 (bw := false) (l1 rfl) (c52 n y_2.Sp (gdB hy_6 hg)) (.cons (.gd hg (.t rfl)) (.ren rfl) (.nil)) rfl)<| .guard (j := 3) (dj := 71) rfl (l1 rfl) rfl (l1 rfl) (fun hg => .not (l1 rfl) (.gd hg (.t rfl)))<| .cons (.pickOr (l1 rfl) (.t rfl) (.const _ _ _) (.t rfl))<| .nil _ _ _) ⟨[(1,iW a1),(5,.ptr 6 0),(8,.ptr 8 0),(11,rW false y_5.1 encR64),(15,.ptr 11 0),(76,bW ((decide ((100 : Int) < (y_5.1.length : Int))) || (!y_6)))],[(11,⟨31,false,[iW y_2.Sp,.sc (.slice none 0 0),.sc (.slice none 0 0)]⟩),(8,⟨31,false,[iW (0 : Int),.sc (.slice none 0 0),.sc (.slice none 0 0)]⟩),(1,⟨3,false,[iW c_1]⟩),(2,⟨70,false,[.clo (.func 23) [] [.ptr 3 0,.ptr 4 0]]⟩),(3,⟨61,false,[rW β4 a3_b0_0_b0 encL3]⟩),(4,⟨37,false,[rW β5 a3_b0_1_b0 e50,rW β6 a3_b0_1_b1 e71]⟩),(5,⟨66,false,[.clo (.func 22) [] []]⟩),(6,⟨94,false,[.clo (.func 50) [] [.ptr 1 0,.ptr 2 0,.ptr 5 0,.ptr 6 0]]⟩)]⟩ rfl rfl ?_
     refine AWP.cond (.t rfl) (fun hc => ?_) (fun hc => ?_)
     ·have h := iteT hc h
      refine AWP.sr (.cons (.buildO (offs := [(0,1),(1,1),(2,1)]) (l1 rfl) (.nil) zero31 offs31 rfl)<| .cons (.storePA (.t rfl) (.t rfl) sz31 rfl rfl (le1 rfl) (one_lit rfl) (by intro h; cases h) rfl)<| .cons (.assign (l1 rfl) (.const _ _ _))<| .nil _ _ _) ?_
      refine AWP.ret ?_
      obtain rfl := Option.some.inj h
      refine retJ (Res.vc (s' := ⟨[(8,.ptr 8 0),(9,iW (9 : Int))],[(8,⟨31,false,[iW (0 : Int),rW false ([] : List K30) encK30,rW false ([] : List Int) eW]⟩),(1,⟨3,false,[iW c_1]⟩),(2,⟨70,false,[.clo (.func 23) [] [.ptr 3 0,.ptr 4 0]]⟩),(3,⟨61,false,[rW β4 a3_b0_0_b0 encL3]⟩),(4,⟨37,false,[rW β5 a3_b0_1_b0 e50,rW β6 a3_b0_1_b1 e71]⟩),(5,⟨66,false,[.clo (.func 22) [] []]⟩),(6,⟨94,false,[.clo (.func 50) [] [.ptr 1 0,.ptr 2 0,.ptr 5 0,.ptr 6 0]]⟩)]⟩) (VC.trans (VC.cell (t := 8) (i := 1) (v' := rW false ([] : List K30) encK30) rfl rfl rfl (fun _ _ _ _ h => nil_rd h)) (VC.trans (VC.cell (t := 8) (i := 2) (v' := rW false ([] : List Int) eW) rfl rfl rfl (fun _ _ _ _ h => nil_rd h)) (VC.sub (.of rfl) (.of rfl)))) ?_)
      refine Res.sub (H := [(8,⟨31,false,[iW (0 : Int),rW false ([] : List K30) encK30,rW false ([] : List Int) eW]⟩),(1,⟨3,false,[iW c_1]⟩),(2,⟨70,false,[.clo (.func 23) [] [.ptr 3 0,.ptr 4 0]]⟩),(3,⟨61,false,[rW β4 a3_b0_0_b0 encL3]⟩),(4,⟨37,false,[rW β5 a3_b0_1_b0 e50,rW β6 a3_b0_1_b1 e71]⟩),(5,⟨66,false,[.clo (.func 22) [] []]⟩),(6,⟨94,false,[.clo (.func 50) [] [.ptr 1 0,.ptr 2 0,.ptr 5 0,.ptr 6 0]]⟩)]) (.of rfl) ?_
      exact Res.of rfl (.cons (.cell rfl agg31 rfl rfl rfl rfl) (.cons (.tmp rfl) (.nil))) rfl rfl
     ·have h := iteF hc h
      refine AWP.skip ?_
      refine AWP.seq ?_
      refine AWP.sv (.cons (.move (l1 rfl) (.t rfl))<| .cons (.lenRd (l1 rfl) (.t rfl) Tryz.underlying95)<| .cons (.move (l1 rfl) (.const _ _ _))<| .nil _ _ _) ⟨[(1,iW a1),(5,.ptr 6 0),(8,.ptr 8 0),(15,.ptr 11 0),(78,rW false y_5.1 encR64),(79,iW (y_5.1.length : Int)),(80,iW (0 : Int))],[(11,⟨31,false,[iW y_2.Sp,.sc (.slice none 0 0),.sc (.slice none 0 0)]⟩),(8,⟨31,false,[iW (0 : Int),.sc (.slice none 0 0),.sc (.slice none 0 0)]⟩),(1,⟨3,false,[iW c_1]⟩),(2,⟨70,false,[.clo (.func 23) [] [.ptr 3 0,.ptr 4 0]]⟩),(3,⟨61,false,[rW β4 a3_b0_0_b0 encL3]⟩),(4,⟨37,false,[rW β5 a3_b0_1_b0 e50,rW β6 a3_b0_1_b1 e71]⟩),(5,⟨66,false,[.clo (.func 22) [] []]⟩),(6,⟨94,false,[.clo (.func 50) [] [.ptr 1 0,.ptr 2 0,.ptr 5 0,.ptr 6 0]]⟩)]⟩ rfl rfl ?_
      refine AWP.joinB' (S := fun p_23 : Int × (List K30) => ⟨[(8,.ptr 8 0),(15,.ptr 11 0)],[(1,⟨3,false,[iW p_23.1]⟩),(2,⟨70,false,[.clo (.func 23) [] [.ptr 3 0,.ptr 4 0]]⟩),(3,⟨61,false,[rW β4 a3_b0_0_b0 encL3]⟩),(4,⟨37,false,[rW β5 a3_b0_1_b0 e50,rW β6 a3_b0_1_b1 e71]⟩),(5,⟨66,false,[.clo (.func 22) [] []]⟩),(6,⟨94,false,[.clo (.func 50) [] [.ptr 1 0,.ptr 2 0,.ptr 5 0,.ptr 6 0]]⟩),(8,⟨31,false,[iW (0 : Int),.sc (.slice none 0 0),.sc (.slice none 0 0)]⟩),(11,⟨31,false,[iW y_2.Sp,.own 12 3 0 p_23.2.length,.sc (.slice none 0 0)]⟩),(12,⟨31,true,p_23.2.flatMap encK30⟩)]⟩) h (fun p_23 h => ?_) (fun k_24 h => ?_)
      ·refine AWP.sr (.cons (.loadPA (l1 rfl) (.t rfl) agg31 rfl rfl rfl rfl)<| .cons (.storePA (.t rfl) (.t rfl) sz31 rfl rfl (le1 rfl) (one_lit rfl) (by intro h; cases h) rfl)<| .cons (.assign (l1 rfl) (.const _ _ _))<| .nil _ _ _) ?_
       refine AWP.ret ?_
       obtain rfl := Option.some.inj h
       refine retJ (Res.vc (s' := ⟨[(8,.ptr 8 0),(9,iW (0 : Int))],[(8,⟨31,false,[iW y_2.Sp,rW false p_23.2 encK30,rW false ([] : List Int) eW]⟩),(1,⟨3,false,[iW p_23.1]⟩),(2,⟨70,false,[.clo (.func 23) [] [.ptr 3 0,.ptr 4 0]]⟩),(3,⟨61,false,[rW β4 a3_b0_0_b0 encL3]⟩),(4,⟨37,false,[rW β5 a3_b0_1_b0 e50,rW β6 a3_b0_1_b1 e71]⟩),(5,⟨66,false,[.clo (.func 22) [] []]⟩),(6,⟨94,false,[.clo (.func 50) [] [.ptr 1 0,.ptr 2 0,.ptr 5 0,.ptr 6 0]]⟩)]⟩) (VC.trans (VC.trans (VC.freeze (t := 12) rfl) (VC.cellEq (t := 8) (i := 1) (v' := rW false p_23.2 encK30) rfl rfl rfl (frz_rd (enc := encK30) encK30_len p_23.2 false))) (VC.trans (VC.cell (t := 8) (i := 2) (v' := rW false ([] : List Int) eW) rfl rfl rfl (fun _ _ _ _ h => nil_rd h)) (VC.sub (.of rfl) (.of rfl)))) ?_)
       refine Res.sub (H := [(8,⟨31,false,[iW y_2.Sp,rW false p_23.2 encK30,rW false ([] : List Int) eW]⟩),(1,⟨3,false,[iW p_23.1]⟩),(2,⟨70,false,[.clo (.func 23) [] [.ptr 3 0,.ptr 4 0]]⟩),(3,⟨61,false,[rW β4 a3_b0_0_b0 encL3]⟩),(4,⟨37,false,[rW β5 a3_b0_1_b0 e50,rW β6 a3_b0_1_b1 e71]⟩),(5,⟨66,false,[.clo (.func 22) [] []]⟩),(6,⟨94,false,[.clo (.func 50) [] [.ptr 1 0,.ptr 2 0,.ptr 5 0,.ptr 6 0]]⟩)]) (.of rfl) ?_
       exact Res.of rfl (.cons (.cell rfl agg31 rfl rfl rfl rfl) (.cons (.tmp rfl) (.nil))) rfl rfl
      ·refine AWP.vc (VC.trans (VC.newTag (t := 12) (E := 31) (nm rfl)) (VC.cell (t := 11) (i := 1) (v' := .own 12 3 0 0) rfl rfl rfl (fun _ _ _ _ h => nil_own h))) ?_
       refine AWP.vs ⟨[(1,iW a1),(5,.ptr 6 0),(8,.ptr 8 0),(15,.ptr 11 0),(78,rW false y_5.1 encR64),(79,iW (y_5.1.length : Int)),(80,iW (0 : Int))],[(1,⟨3,false,[iW c_1]⟩),(2,⟨70,false,[.clo (.func 23) [] [.ptr 3 0,.ptr 4 0]]⟩),(3,⟨61,false,[rW β4 a3_b0_0_b0 encL3]⟩),(4,⟨37,false,[rW β5 a3_b0_1_b0 e50,rW β6 a3_b0_1_b1 e71]⟩),(5,⟨66,false,[.clo (.func 22) [] []]⟩),(6,⟨94,false,[.clo (.func 50) [] [.ptr 1 0,.ptr 2 0,.ptr 5 0,.ptr 6 0]]⟩),(8,⟨31,false,[iW (0 : Int),.sc (.slice none 0 0),.sc (.slice none 0 0)]⟩),(11,⟨31,false,[iW y_2.Sp,.own 12 3 0 ([] : List K30).length,.sc (.slice none 0 0)]⟩),(12,⟨31,true,([] : List K30).flatMap encK30⟩)]⟩ rfl rfl ?_
       refine AWP.loopM (S := fun x_17 : Int × Int × (List K30) => ⟨[(1,iW a1),(5,.ptr 6 0),(8,.ptr 8 0),(15,.ptr 11 0),(78,rW false y_5.1 encR64),(79,iW (y_5.1.length : Int)),(80,iW x_17.1)],[(1,⟨3,false,[iW x_17.2.1]⟩),(2,⟨70,false,[.clo (.func 23) [] [.ptr 3 0,.ptr 4 0]]⟩),(3,⟨61,false,[rW β4 a3_b0_0_b0 encL3]⟩),(4,⟨37,false,[rW β5 a3_b0_1_b0 e50,rW β6 a3_b0_1_b1 e71]⟩),(5,⟨66,false,[.clo (.func 22) [] []]⟩),(6,⟨94,false,[.clo (.func 50) [] [.ptr 1 0,.ptr 2 0,.ptr 5 0,.ptr 6 0]]⟩),(8,⟨31,false,[iW (0 : Int),.sc (.slice none 0 0),.sc (.slice none 0 0)]⟩),(11,⟨31,false,[iW y_2.Sp,.own 12 3 0 x_17.2.2.length,.sc (.slice none 0 0)]⟩),(12,⟨31,true,x_17.2.2.flatMap encK30⟩)]⟩) (x := ((0 : Int),c_1,([] : List K30))) (fun nx_18 x_17 h => ?_) h
       unfold m50_L1 at h
       refine AWP.sv (.cons (.lss (l1 rfl) (.t rfl) (.t rfl))<| .nil _ _ _) ⟨[(1,iW a1),(5,.ptr 6 0),(8,.ptr 8 0),(15,.ptr 11 0),(78,rW false y_5.1 encR64),(79,iW (y_5.1.length : Int)),(80,iW x_17.1),(81,bW (decide (x_17.1 < (y_5.1.length : Int))))],[(1,⟨3,false,[iW x_17.2.1]⟩),(2,⟨70,false,[.clo (.func 23) [] [.ptr 3 0,.ptr 4 0]]⟩),(3,⟨61,false,[rW β4 a3_b0_0_b0 encL3]⟩),(4,⟨37,false,[rW β5 a3_b0_1_b0 e50,rW β6 a3_b0_1_b1 e71]⟩),(5,⟨66,false,[.clo (.func 22) [] []]⟩),(6,⟨94,false,[.clo (.func 50) [] [.ptr 1 0,.ptr 2 0,.ptr 5 0,.ptr 6 0]]⟩),(8,⟨31,false,[iW (0 : Int),.sc (.slice none 0 0),.sc (.slice none 0 0)]⟩),(11,⟨31,false,[iW y_2.Sp,.own 12 3 0 x_17.2.2.length,.sc (.slice none 0 0)]⟩),(12,⟨31,true,x_17.2.2.flatMap encK30⟩)]⟩ rfl rfl ?_
       refine AWP.seq ?_
       refine AWP.cond (.t rfl) (fun hc => ?_) (fun hc => ?_)
       ·have h := iteT hc h
        refine AWP.skip ?_
        refine AWP.seq ?_
        refine AWP.block ?_
        obtain ⟨y_19,hy_19,h⟩ := bindS h
        refine AWP.sv (.cons (.indexRd (enc := encR64) (l1 rfl) (.t rfl) (.t rfl) Tryz.underlying95 sz65 encR64_len rfl hy_19)<| .cons (.loadRA (out := (gW false false false y_19.Gq y_19.Path y_19.Ln)) (l1 rfl) (.t rfl) agg65 (Nat.le_of_eq (Eq.symm (encR64_len _))) rfl)<| .cons (.alloc (t := 13) (k := ⟨65,false,[.sc (.slice none 0 0),.sc (.slice none 0 0),.sc (.slice none 0 0),iW (0 : Int)]⟩) (l1 rfl) (nm rfl) zero65 rfl rfl)<| .cons (.storePA (.t rfl) (.t rfl) sz65 rfl rfl (le1 rfl) (one_lit rfl) (by intro h; cases h) rfl)<| .nil _ _ _) ⟨[(1,iW a1),(5,.ptr 6 0),(8,.ptr 8 0),(15,.ptr 11 0),(78,rW false y_5.1 encR64),(79,iW (y_5.1.length : Int)),(80,iW x_17.1),(17,.ptr 13 0)],[(13,⟨65,false,(gW false false false y_19.Gq y_19.Path y_19.Ln)⟩),(1,⟨3,false,[iW x_17.2.1]⟩),(2,⟨70,false,[.clo (.func 23) [] [.ptr 3 0,.ptr 4 0]]⟩),(3,⟨61,false,[rW β4 a3_b0_0_b0 encL3]⟩),(4,⟨37,false,[rW β5 a3_b0_1_b0 e50,rW β6 a3_b0_1_b1 e71]⟩),(5,⟨66,false,[.clo (.func 22) [] []]⟩),(6,⟨94,false,[.clo (.func 50) [] [.ptr 1 0,.ptr 2 0,.ptr 5 0,.ptr 6 0]]⟩),(8,⟨31,false,[iW (0 : Int),.sc (.slice none 0 0),.sc (.slice none 0 0)]⟩),(11,⟨31,false,[iW y_2.Sp,.own 12 3 0 x_17.2.2.length,.sc (.slice none 0 0)]⟩),(12,⟨31,true,x_17.2.2.flatMap encK30⟩)]⟩ rfl rfl ?_
        obtain ⟨y_20,hy_20,h⟩ := bindS h
        refine AWP.sv (.cons (.loadP (l1 rfl) (.t rfl) one94 rfl rfl rfl)<| .cons (.loadPA (l1 rfl) (.t rfl) agg65 rfl rfl rfl rfl)<| .cons (.move (l1 rfl) (.t rfl))<| .cons (.add (l1 rfl) (.t rfl) (.const _ _ _))<| .cons (.callV (us' := []) (avs := [.agg [rW false ((R64.mk (R24.mk y_19.Gq.Pq y_19.Gq.Bq) y_19.Path y_19.Ln).Gq.Pq) e50,rW false ((R64.mk (R24.mk y_19.Gq.Pq y_19.Gq.Bq) y_19.Path y_19.Ln).Gq.Bq) e71,rW false ((R64.mk (R24.mk y_19.Gq.Pq y_19.Gq.Bq) y_19.Path y_19.Ln).Path) eW,iW ((R64.mk (R24.mk y_19.Gq.Pq y_19.Gq.Bq) y_19.Path y_19.Ln).Ln)],iW (IntKind.wrap .i64 (a1 + (1 : Int)))]) (cs' := [.ptr 1 0,.ptr 2 0,.ptr 5 0,.ptr 6 0]) (σ := sgT [(1,1),(2,2),(3,3),(4,4),(5,5),(6,6)]) (bw := false) (l1 rfl) (.t rfl) (ih (β3 := false) (β4 := β4) (β5 := β5) (β6 := β6) (R64.mk (R24.mk y_19.Gq.Pq y_19.Gq.Bq) y_19.Path y_19.Ln) (IntKind.wrap .i64 (a1 + (1 : Int))) x_17.2.1 a3_b0_0_b0 a3_b0_1_b0 a3_b0_1_b1 hy_20) (.nil) (.cons (.t rfl) (.ren rfl) (.cons (.t rfl) (.ren rfl) (.nil))) (.cons (.ren rfl) (.cons (.ren rfl) (.cons (.ren rfl) (.cons (.ren rfl) (.nil))))) (CallOk.mk' (.c rfl (.c rfl (.c rfl (.c rfl (.c rfl (.c rfl (.n))))))) rfl) (fun _ h => by cases h))<| .cons (.move (l1 rfl) (.t rfl))<| .cons (.extract (l1 rfl) (.t rfl) rfl)<| .cons (.extract (l1 rfl) (.t rfl) rfl)<| .cons (.alloc (t := 14) (k := ⟨31,false,[iW (0 : Int),.sc (.slice none 0 0),.sc (.slice none 0 0)]⟩) (l1 rfl) (nm rfl) zero31 rfl rfl)<| .cons (.storePA (.t rfl) (.t rfl) sz31 rfl rfl (le1 rfl) (one_lit rfl) (by intro h; cases h) rfl)<| .cons (.assign (l1 rfl) (.t rfl))<| .nil _ _ _) ⟨[(1,iW a1),(5,.ptr 6 0),(8,.ptr 8 0),(15,.ptr 11 0),(78,rW false y_5.1 encR64),(79,iW (y_5.1.length : Int)),(80,iW x_17.1),(18,.ptr 14 0),(19,iW y_20.2.1)],[(14,⟨31,false,(tW encK30 false false y_20.1.Sp y_20.1.Kd y_20.1.Lf)⟩),(1,⟨3,false,[iW y_20.2.2]⟩),(2,⟨70,false,[.clo (.func 23) [] [.ptr 3 0,.ptr 4 0]]⟩),(3,⟨61,false,[rW β4 a3_b0_0_b0 encL3]⟩),(4,⟨37,false,[rW β5 a3_b0_1_b0 e50,rW β6 a3_b0_1_b1 e71]⟩),(5,⟨66,false,[.clo (.func 22) [] []]⟩),(6,⟨94,false,[.clo (.func 50) [] [.ptr 1 0,.ptr 2 0,.ptr 5 0,.ptr 6 0]]⟩),(8,⟨31,false,[iW (0 : Int),.sc (.slice none 0 0),.sc (.slice none 0 0)]⟩),(11,⟨31,false,[iW y_2.Sp,.own 12 3 0 x_17.2.2.length,.sc (.slice none 0 0)]⟩),(12,⟨31,true,x_17.2.2.flatMap encK30⟩)]⟩ rfl rfl ?_
        refine AWP.seq ?_
        refine AWP.sv (.cons (.move (l1 rfl) (.t rfl))<| .cons (.neq (l1 rfl) (.t rfl) (.const _ _ _))<| .nil _ _ _) ⟨[(1,iW a1),(5,.ptr 6 0),(8,.ptr 8 0),(15,.ptr 11 0),(78,rW false y_5.1 encR64),(79,iW (y_5.1.length : Int)),(80,iW x_17.1),(18,.ptr 14 0),(19,iW y_20.2.1),(93,bW (!decide (y_20.2.1 = (0 : Int))))],[(14,⟨31,false,(tW encK30 false false y_20.1.Sp y_20.1.Kd y_20.1.Lf)⟩),(1,⟨3,false,[iW y_20.2.2]⟩),(2,⟨70,false,[.clo (.func 23) [] [.ptr 3 0,.ptr 4 0]]⟩),(3,⟨61,false,[rW β4 a3_b0_0_b0 encL3]⟩),(4,⟨37,false,[rW β5 a3_b0_1_b0 e50,rW β6 a3_b0_1_b1 e71]⟩),(5,⟨66,false,[.clo (.func 22) [] []]⟩),(6,⟨94,false,[.clo (.func 50) [] [.ptr 1 0,.ptr 2 0,.ptr 5 0,.ptr 6 0]]⟩),(8,⟨31,false,[iW (0 : Int),.sc (.slice none 0 0),.sc (.slice none 0 0)]⟩),(11,⟨31,false,[iW y_2.Sp,.own 12 3 0 x_17.2.2.length,.sc (.slice none 0 0)]⟩),(12,⟨31,true,x_17.2.2.flatMap encK30⟩)]⟩ rfl rfl ?_
        refine AWP.cond (.t rfl) (fun hc => ?_) (fun hc => ?_)
        ·have h := iteT hc h
         refine AWP.sr (.cons (.buildO (offs := [(0,1),(1,1),(2,1)]) (l1 rfl) (.nil) zero31 offs31 rfl)<| .cons (.move (l1 rfl) (.t rfl))<| .cons (.storePA (.t rfl) (.t rfl) sz31 rfl rfl (le1 rfl) (one_lit rfl) (by intro h; cases h) rfl)<| .cons (.assign (l1 rfl) (.t rfl))<| .nil _ _ _) ?_
         refine AWP.ret ?_
         obtain rfl := Option.some.inj h
         refine retJ (Res.vc (s' := ⟨[(8,.ptr 8 0),(9,iW y_20.2.1)],[(8,⟨31,false,[iW (0 : Int),rW false ([] : List K30) encK30,rW false ([] : List Int) eW]⟩),(1,⟨3,false,[iW y_20.2.2]⟩),(2,⟨70,false,[.clo (.func 23) [] [.ptr 3 0,.ptr 4 0]]⟩),(3,⟨61,false,[rW β4 a3_b0_0_b0 encL3]⟩),(4,⟨37,false,[rW β5 a3_b0_1_b0 e50,rW β6 a3_b0_1_b1 e71]⟩),(5,⟨66,false,[.clo (.func 22) [] []]⟩),(6,⟨94,false,[.clo (.func 50) [] [.ptr 1 0,.ptr 2 0,.ptr 5 0,.ptr 6 0]]⟩)]⟩) (VC.trans (VC.cell (t := 8) (i := 1) (v' := rW false ([] : List K30) encK30) rfl rfl rfl (fun _ _ _ _ h => nil_rd h)) (VC.trans (VC.cell (t := 8) (i := 2) (v' := rW false ([] : List Int) eW) rfl rfl rfl (fun _ _ _ _ h => nil_rd h)) (VC.sub (.of rfl) (.of rfl)))) ?_)
         refine Res.sub (H := [(8,⟨31,false,[iW (0 : Int),rW false ([] : List K30) encK30,rW false ([] : List Int) eW]⟩),(1,⟨3,false,[iW y_20.2.2]⟩),(2,⟨70,false,[.clo (.func 23) [] [.ptr 3 0,.ptr 4 0]]⟩),(3,⟨61,false,[rW β4 a3_b0_0_b0 encL3]⟩),(4,⟨37,false,[rW β5 a3_b0_1_b0 e50,rW β6 a3_b0_1_b1 e71]⟩),(5,⟨66,false,[.clo (.func 22) [] []]⟩),(6,⟨94,false,[.clo (.func 50) [] [.ptr 1 0,.ptr 2 0,.ptr 5 0,.ptr 6 0]]⟩)]) (.of rfl) ?_
         exact Res.of rfl (.cons (.cell rfl agg31 rfl rfl rfl rfl) (.cons (.tmp rfl) (.nil))) rfl rfl
        ·have h := iteF hc h
         refine AWP.skip ?_
         obtain ⟨l12_21,hl12_21,h⟩ := bindS h
         refine AWP.rg (.cons (.fieldP (l1 rfl) (.t rfl) fld31_1)<| .cons (.loadP (l1 rfl) (.t rfl) one29 rfl rfl rfl)<| .cons (.loadPA (l1 rfl) (.t rfl) agg31 rfl rfl rfl rfl)<| .cons (.buildSlice (t := 15) (out := ([(K30.of (R30.mk y_20.1.Sp y_20.1.Kd y_20.1.Lf))] : List K30).flatMap encK30) (l1 rfl) (nm rfl) (.cons (.t rfl) (by first | exact ⟨rfl,rfl⟩ | rfl) (.nil)) Tryz.underlying29 zero31 el31 (by decide) (by decide) (Eq.trans rfl (congrArg some (encK30_of1 (R30.mk y_20.1.Sp y_20.1.Kd y_20.1.Lf)).symm)) (still_all encK30_still _))<| .cons (.appK (enc := encK30) (l1 rfl) (nm rfl) (.t rfl) (Src.own (.t rfl) rfl (lendAll encK30_len _) (flatMap_length encK30_len _) (one_all encK30_one _) (.inl rfl)) Tryz.underlying29 ⟨_,Tryz.underlying29,by intro k hk; cases hk⟩ el31 rfl encK30_len rfl rfl (by decide) hl12_21)<| .cons (.fieldP (l1 rfl) (.t rfl) fld31_1)<| .cons (.storeP (.t rfl) (.t rfl) sz29 rfl (l1 rfl) rfl (by intro h; cases h) rfl)<| .nil _ _ _) ?_
         refine AWP.vs ⟨[(1,iW a1),(5,.ptr 6 0),(8,.ptr 8 0),(15,.ptr 11 0),(78,rW false y_5.1 encR64),(79,iW (y_5.1.length : Int)),(80,iW x_17.1)],[(12,⟨31,true,l12_21.flatMap encK30⟩),(1,⟨3,false,[iW y_20.2.2]⟩),(2,⟨70,false,[.clo (.func 23) [] [.ptr 3 0,.ptr 4 0]]⟩),(3,⟨61,false,[rW β4 a3_b0_0_b0 encL3]⟩),(4,⟨37,false,[rW β5 a3_b0_1_b0 e50,rW β6 a3_b0_1_b1 e71]⟩),(5,⟨66,false,[.clo (.func 22) [] []]⟩),(6,⟨94,false,[.clo (.func 50) [] [.ptr 1 0,.ptr 2 0,.ptr 5 0,.ptr 6 0]]⟩),(8,⟨31,false,[iW (0 : Int),.sc (.slice none 0 0),.sc (.slice none 0 0)]⟩),(11,⟨31,false,[iW y_2.Sp,.own 12 3 0 l12_21.length,.sc (.slice none 0 0)]⟩)]⟩ rfl rfl ?_
         obtain ⟨t80_22,ht80_22,h⟩ := letS h
         refine AWP.rg (.cons (.add (l1 rfl) (.t rfl) (.const _ _ _))<| .cons (.move (l1 rfl) (.t rfl))<| .nil _ _ _) ?_
         exact endJ (t80_22,y_20.2.2,l12_21) h (by subst ht80_22; exact VC.sub (.of rfl) (.of rfl))
       ·have h := iteF hc h
        refine AWP.exit ?_
        exact endJ (x_17.2.1,x_17.2.2) h (VC.sub (.of rfl) (.of rfl))
   ·have h := iteF hc h
    refine AWP.sr (.cons (.buildO (offs := [(0,1),(1,1),(2,1)]) (l1 rfl) (.nil) zero31 offs31 rfl)<| .cons (.storePA (.t rfl) (.t rfl) sz31 rfl rfl (le1 rfl) (one_lit rfl) (by intro h; cases h) rfl)<| .cons (.assign (l1 rfl) (.const _ _ _))<| .nil _ _ _) ?_
    refine AWP.ret ?_
    obtain rfl := Option.some.inj h
    refine retJ (Res.vc (s' := ⟨[(8,.ptr 8 0),(9,iW (8 : Int))],[(8,⟨31,false,[iW (0 : Int),rW false ([] : List K30) encK30,rW false ([] : List Int) eW]⟩),(1,⟨3,false,[iW c_1]⟩),(2,⟨70,false,[.clo (.func 23) [] [.ptr 3 0,.ptr 4 0]]⟩),(3,⟨61,false,[rW β4 a3_b0_0_b0 encL3]⟩),(4,⟨37,false,[rW β5 a3_b0_1_b0 e50,rW β6 a3_b0_1_b1 e71]⟩),(5,⟨66,false,[.clo (.func 22) [] []]⟩),(6,⟨94,false,[.clo (.func 50) [] [.ptr 1 0,.ptr 2 0,.ptr 5 0,.ptr 6 0]]⟩)]⟩) (VC.trans (VC.cell (t := 8) (i := 1) (v' := rW false ([] : List K30) encK30) rfl rfl rfl (fun _ _ _ _ h => nil_rd h)) (VC.trans (VC.cell (t := 8) (i := 2) (v' := rW false ([] : List Int) eW) rfl rfl rfl (fun _ _ _ _ h => nil_rd h)) (VC.sub (.of rfl) (.of rfl)))) ?_)
    refine Res.sub (H := [(8,⟨31,false,[iW (0 : Int),rW false ([] : List K30) encK30,rW false ([] : List Int) eW]⟩),(1,⟨3,false,[iW c_1]⟩),(2,⟨70,false,[.clo (.func 23) [] [.ptr 3 0,.ptr 4 0]]⟩),(3,⟨61,false,[rW β4 a3_b0_0_b0 encL3]⟩),(4,⟨37,false,[rW β5 a3_b0_1_b0 e50,rW β6 a3_b0_1_b1 e71]⟩),(5,⟨66,false,[.clo (.func 22) [] []]⟩),(6,⟨94,false,[.clo (.func 50) [] [.ptr 1 0,.ptr 2 0,.ptr 5 0,.ptr 6 0]]⟩)]) (.of rfl) ?_
    exact Res.of rfl (.cons (.cell rfl agg31 rfl rfl rfl rfl) (.cons (.tmp rfl) (.nil))) rfl rfl
theorem c50 (n : Nat) {β3 : Bool} {β4 : Bool} {β5 : Bool} {β6 : Bool} (a0 : R64) (a1 : Int) (a2_b0 : Int) (a3_b0_0_b0 : (List (List Int))) (a3_b0_1_b0 : (List R50)) (a3_b0_1_b1 : (List R71)) {r : (R30 × Int × Int)} (h : m50 n a0 a1 a2_b0 a3_b0_0_b0 a3_b0_1_b0 a3_b0_1_b1 = some r) : Spec Tryz.prog 50 [1,2,3,4,5,6] [.agg (gW false false β3 a0.Gq a0.Path a0.Ln),iW a1,.ptr 1 0,.ptr 2 0,.ptr 5 0,.ptr 6 0] [(1,⟨3,false,[iW a2_b0]⟩),(2,⟨70,false,[.clo (.func 23) [] [.ptr 3 0,.ptr 4 0]]⟩),(3,⟨61,false,[rW β4 a3_b0_0_b0 encL3]⟩),(4,⟨37,false,[rW β5 a3_b0_1_b0 e50,rW β6 a3_b0_1_b1 e71]⟩),(5,⟨66,false,[.clo (.func 22) [] []]⟩),(6,⟨94,false,[.clo (.func 50) [] [.ptr 1 0,.ptr 2 0,.ptr 5 0,.ptr 6 0]]⟩)] (.tup [.agg (tW encK30 false false r.1.Sp r.1.Kd r.1.Lf),iW r.2.1]) [(1,⟨3,false,[iW r.2.2]⟩),(2,⟨70,false,[.clo (.func 23) [] [.ptr 3 0,.ptr 4 0]]⟩),(3,⟨61,false,[rW β4 a3_b0_0_b0 encL3]⟩),(4,⟨37,false,[rW β5 a3_b0_1_b0 e50,rW β6 a3_b0_1_b1 e71]⟩),(5,⟨66,false,[.clo (.func 22) [] []]⟩),(6,⟨94,false,[.clo (.func 50) [] [.ptr 1 0,.ptr 2 0,.ptr 5 0,.ptr 6 0]]⟩)] := c50F n n a0 a1 a2_b0 a3_b0_0_b0 a3_b0_1_b0 a3_b0_1_b1 h
theorem c21 {β3 : Bool} {β4 : Bool} {β5 : Bool} {β6 : Bool} (n : Nat) (a0 : R64) (a2_0_b0 : (List (List Int))) (a2_1_b0 : (List R50)) (a2_1_b1 : (List R71)) {r : (R30 × Int)} (h : m21 n a0 a2_0_b0 a2_1_b0 a2_1_b1 = some r) : Spec Tryz.prog 21 [1,2] [.agg (gW false false β3 a0.Gq a0.Path a0.Ln),.clo (.func 22) [] [],.clo (.func 23) [] [.ptr 1 0,.ptr 2 0]] [(1,⟨61,false,[rW β4 a2_0_b0 encL3]⟩),(2,⟨37,false,[rW β5 a2_1_b0 e50,rW β6 a2_1_b1 e71]⟩)] (.tup [.agg (tW encK30 false false r.1.Sp r.1.Kd r.1.Lf),iW r.2]) [(1,⟨61,false,[rW β4 a2_0_b0 encL3]⟩),(2,⟨37,false,[rW β5 a2_1_b0 e50,rW β6 a2_1_b1 e71]⟩)] := by
 refine Spec.of (fn := Tryz.f21) Tryz.func21 Tryz.ntmps21 rfl rfl (le1 rfl) (fun w0 Zs Zb T0 ι0 => ?_)
 unfold m21 at h
 refine AWP.sv (.cons (.box (t := 3) (n := 4) (l1 rfl) (nm rfl) (.t rfl) (by first | exact ⟨rfl,rfl⟩ | rfl) rfl)<| .cons (.box (t := 4) (n := 1) (l1 rfl) (nm rfl) (.t rfl) (by first | exact ⟨rfl,rfl⟩ | rfl) rfl)<| .cons (.box (t := 5) (n := 1) (l1 rfl) (nm rfl) (.t rfl) (by first | exact ⟨rfl,rfl⟩ | rfl) rfl)<| .cons (.alloc (t := 6) (k := ⟨31,false,[iW (0 : Int),.sc (.slice none 0 0),.sc (.slice none 0 0)]⟩) (l1 rfl) (nm rfl) zero31 rfl rfl)<| .cons (.assign (l1 rfl) (.const _ _ _))<| .nil _ _ _) ⟨[(3,.ptr 3 0),(4,.ptr 4 0),(5,.ptr 5 0),(6,.ptr 6 0)],[(6,⟨31,false,[iW (0 : Int),.sc (.slice none 0 0),.sc (.slice none 0 0)]⟩),(5,⟨70,false,[.clo (.func 23) [] [.ptr 1 0,.ptr 2 0]]⟩),(4,⟨66,false,[.clo (.func 22) [] []]⟩),(3,⟨65,false,(gW false false β3 a0.Gq a0.Path a0.Ln)⟩),(1,⟨61,false,[rW β4 a2_0_b0 encL3]⟩),(2,⟨37,false,[rW β5 a2_1_b0 e50,rW β6 a2_1_b1 e71]⟩)]⟩ rfl rfl ?_
 refine AWP.sv (.cons (.alloc (t := 7) (k := ⟨3,false,[iW (0 : Int)]⟩) (l1 rfl) (nm rfl) zero3 rfl rfl)<| .cons (.storeP (.t rfl) (.const _ _ _) sz3 rfl (l1 rfl) rfl (by intro h; cases h) rfl)<| .nil _ _ _) ⟨[(3,.ptr 3 0),(4,.ptr 4 0),(5,.ptr 5 0),(6,.ptr 6 0),(8,.ptr 7 0)],[(7,⟨3,false,[iW (0 : Int)]⟩),(6,⟨31,false,[iW (0 : Int),.sc (.slice none 0 0),.sc (.slice none 0 0)]⟩),(5,⟨70,false,[.clo (.func 23) [] [.ptr 1 0,.ptr 2 0]]⟩),(4,⟨66,false,[.clo (.func 22) [] []]⟩),(3,⟨65,false,(gW false false β3 a0.Gq a0.Path a0.Ln)⟩),(1,⟨61,false,[rW β4 a2_0_b0 encL3]⟩),(2,⟨37,false,[rW β5 a2_1_b0 e50,rW β6 a2_1_b1 e71]⟩)]⟩ rfl rfl ?_
 refine AWP.sv (.cons (.alloc (t := 8) (k := ⟨94,false,[.sc (.nilFunc)]⟩) (l1 rfl) (nm rfl) zero94 rfl rfl)<| .nil _ _ _) ⟨[(3,.ptr 3 0),(4,.ptr 4 0),(5,.ptr 5 0),(6,.ptr 6 0),(8,.ptr 7 0),(9,.ptr 8 0)],[(8,⟨94,false,[.sc (.nilFunc)]⟩),(7,⟨3,false,[iW (0 : Int)]⟩),(6,⟨31,false,[iW (0 : Int),.sc (.slice none 0 0),.sc (.slice none 0 0)]⟩),(5,⟨70,false,[.clo (.func 23) [] [.ptr 1 0,.ptr 2 0]]⟩),(4,⟨66,false,[.clo (.func 22) [] []]⟩),(3,⟨65,false,(gW false false β3 a0.Gq a0.Path a0.Ln)⟩),(1,⟨61,false,[rW β4 a2_0_b0 encL3]⟩),(2,⟨37,false,[rW β5 a2_1_b0 e50,rW β6 a2_1_b1 e71]⟩)]⟩ rfl rfl ?_
 refine AWP.sv (.cons (.makeFunc (l1 rfl) (.nil) (.cons (.t rfl) (.cons (.t rfl) (.cons (.t rfl) (.cons (.t rfl) (.nil))))))<| .cons (.storeP (.t rfl) (.t rfl) sz94 rfl (l1 rfl) rfl (by intro h; cases h) rfl)<| .nil _ _ _) ⟨[(3,.ptr 3 0),(6,.ptr 6 0),(9,.ptr 8 0)],[(8,⟨94,false,[.clo (.func 50) [] [.ptr 7 0,.ptr 5 0,.ptr 4 0,.ptr 8 0]]⟩),(7,⟨3,false,[iW (0 : Int)]⟩),(6,⟨31,false,[iW (0 : Int),.sc (.slice none 0 0),.sc (.slice none 0 0)]⟩),(5,⟨70,false,[.clo (.func 23) [] [.ptr 1 0,.ptr 2 0]]⟩),(4,⟨66,false,[.clo (.func 22) [] []]⟩),(3,⟨65,false,(gW false false β3 a0.Gq a0.Path a0.Ln)⟩),(1,⟨61,false,[rW β4 a2_0_b0 encL3]⟩),(2,⟨37,false,[rW β5 a2_1_b0 e50,rW β6 a2_1_b1 e71]⟩)]⟩ rfl rfl ?_
 obtain ⟨y_1,hy_1,h⟩ := bindS h
 refine AWP.sr (.cons (.loadP (l1 rfl) (.t rfl) one94 rfl rfl rfl)<| .cons (.loadPA (l1 rfl) (.t rfl) agg65 rfl rfl rfl rfl)<| .cons (.callV (us' := []) (avs := [.agg [rW false ((R64.mk (R24.mk a0.Gq.Pq a0.Gq.Bq) a0.Path a0.Ln).Gq.Pq) e50,rW false ((R64.mk (R24.mk a0.Gq.Pq a0.Gq.Bq) a0.Path a0.Ln).Gq.Bq) e71,rW β3 ((R64.mk (R24.mk a0.Gq.Pq a0.Gq.Bq) a0.Path a0.Ln).Path) eW,iW ((R64.mk (R24.mk a0.Gq.Pq a0.Gq.Bq) a0.Path a0.Ln).Ln)],iW (1 : Int)]) (cs' := [.ptr 1 0,.ptr 2 0,.ptr 5 0,.ptr 6 0]) (σ := sgT [(1,7),(2,5),(3,1),(4,2),(5,4),(6,8)]) (bw := false) (l1 rfl) (.t rfl) (c50 (β3 := β3) (β4 := β4) (β5 := β5) (β6 := β6) n (R64.mk (R24.mk a0.Gq.Pq a0.Gq.Bq) a0.Path a0.Ln) (1 : Int) (0 : Int) a2_0_b0 a2_1_b0 a2_1_b1 hy_1) (.nil) (.cons (.t rfl) (.ren rfl) (.cons (.const _ _ _) (.ren rfl) (.nil))) (.cons (.ren rfl) (.cons (.ren rfl) (.cons (.ren rfl) (.cons (.ren rfl) (.nil))))) (CallOk.mk' (.c rfl (.c rfl (.c rfl (.c rfl (.c rfl (.c rfl (.n))))))) rfl) (fun _ h => by cases h))<| .cons (.extract (l1 rfl) (.t rfl) rfl)<| .cons (.extract (l1 rfl) (.t rfl) rfl)<| .cons (.storePA (.t rfl) (.t rfl) sz31 rfl rfl (le1 rfl) (one_lit rfl) (by intro h; cases h) rfl)<| .cons (.assign (l1 rfl) (.t rfl))<| .nil _ _ _) ?_
 refine AWP.ret ?_
 obtain rfl := Option.some.inj h
 refine retJ (Res.vc (s' := ⟨[(6,.ptr 6 0),(7,iW y_1.2.1)],[(6,⟨31,false,(tW encK30 false false y_1.1.Sp y_1.1.Kd y_1.1.Lf)⟩),(1,⟨61,false,[rW β4 a2_0_b0 encL3]⟩),(2,⟨37,false,[rW β5 a2_1_b0 e50,rW β6 a2_1_b1 e71]⟩)]⟩) (VC.sub (.of rfl) (.of rfl)) ?_)
 refine Res.sub (H := [(6,⟨31,false,(tW encK30 false false y_1.1.Sp y_1.1.Kd y_1.1.Lf)⟩),(1,⟨61,false,[rW β4 a2_0_b0 encL3]⟩),(2,⟨37,false,[rW β5 a2_1_b0 e50,rW β6 a2_1_b1 e71]⟩)]) (.of rfl) ?_
 exact Res.of rfl (.cons (.cell rfl agg31 rfl rfl rfl rfl) (.cons (.tmp rfl) (.nil))) rfl rfl
theorem c6 (n : Nat) (a0 : R24) {r : (R32 × Int)} (h : m6 n a0 = some r) : Spec Tryz.prog 6 [] [.agg (pW false false a0)] [] (.tup [.agg [rW false r.1.Order eW,iW r.1.Ln,iW r.1.Proof.Sp,rW false r.1.Proof.Kd encK30,rW false r.1.Proof.Lf eW],iW r.2]) [] := by
 refine Spec.of (fn := Tryz.f6) Tryz.func6 Tryz.ntmps6 rfl rfl (le1 rfl) (fun w0 Zs Zb T0 ι0 => ?_)
 unfold m6 at h
 refine AWP.sv (.cons (.box (t := 1) (n := 2) (l1 rfl) (nm rfl) (.t rfl) (by first | exact ⟨rfl,rfl⟩ | rfl) rfl)<| .cons (.alloc (t := 2) (k := ⟨33,false,[.sc (.slice none 0 0),iW (0 : Int),iW (0 : Int),.sc (.slice none 0 0),.sc (.slice none 0 0)]⟩) (l1 rfl) (nm rfl) zero33 rfl rfl)<| .cons (.assign (l1 rfl) (.const _ _ _))<| .nil _ _ _) ⟨[(1,.ptr 1 0),(2,.ptr 2 0)],[(2,⟨33,false,[.sc (.slice none 0 0),iW (0 : Int),iW (0 : Int),.sc (.slice none 0 0),.sc (.slice none 0 0)]⟩),(1,⟨37,false,(pW false false a0)⟩)]⟩ rfl rfl ?_
 obtain ⟨y_1,hy_1,h⟩ := bindS h
 refine AWP.sv (.cons (.loadPA (l1 rfl) (.t rfl) agg37 rfl rfl rfl rfl)<| .cons (.call0 (bw := false) (l1 rfl) (c13 (β1 := false) (β2 := false) n (R24.mk a0.Pq a0.Bq) hy_1) (.cons (.t rfl) (.ren rfl) (.nil)) rfl)<| .cons (.move (l1 rfl) (.t rfl))<| .cons (.extract (l1 rfl) (.t rfl) rfl)<| .cons (.extract (l1 rfl) (.t rfl) rfl)<| .cons (.extract (l1 rfl) (.t rfl) rfl)<| .cons (.assign (l1 rfl) (.t rfl))<| .cons (.assign (l1 rfl) (.t rfl))<| .cons (.assign (l1 rfl) (.t rfl))<| .nil _ _ _) ⟨[(1,.ptr 1 0),(2,.ptr 2 0),(4,rW false y_1.1 eW),(5,iW y_1.2.1),(6,iW y_1.2.2)],[(2,⟨33,false,[.sc (.slice none 0 0),iW (0 : Int),iW (0 : Int),.sc (.slice none 0 0),.sc (.slice none 0 0)]⟩),(1,⟨37,false,(pW false false a0)⟩)]⟩ rfl rfl ?_
 refine AWP.seq ?_
 refine AWP.sv (.cons (.move (l1 rfl) (.t rfl))<| .nil _ _ _) ⟨[(1,.ptr 1 0),(2,.ptr 2 0),(4,rW false y_1.1 eW),(5,iW y_1.2.1),(6,iW y_1.2.2),(15,iW y_1.2.2)],[(2,⟨33,false,[.sc (.slice none 0 0),iW (0 : Int),iW (0 : Int),.sc (.slice none 0 0),.sc (.slice none 0 0)]⟩),(1,⟨37,false,(pW false false a0)⟩)]⟩ rfl rfl ?_
 refine AWP.block ?_
 refine AWP.sv (.cons (.eql (l1 rfl) (.t rfl) (.const _ _ _))<| .cons (.assign (l1 rfl) (.t rfl))<| .nil _ _ _) ⟨[(1,.ptr 1 0),(2,.ptr 2 0),(4,rW false y_1.1 eW),(5,iW y_1.2.1),(6,iW y_1.2.2),(15,iW y_1.2.2),(18,bW (decide (y_1.2.2 = (0 : Int))))],[(2,⟨33,false,[.sc (.slice none 0 0),iW (0 : Int),iW (0 : Int),.sc (.slice none 0 0),.sc (.slice none 0 0)]⟩),(1,⟨37,false,(pW false false a0)⟩)]⟩ rfl rfl ?_
 refine AWP.join' (S := fun p_5 : (List Int) × Int => ⟨[(1,.ptr 1 0),(2,.ptr 2 0),(4,rW false p_5.1 eW),(5,iW p_5.2)],[(1,⟨37,false,(pW false false a0)⟩),(2,⟨33,false,[.sc (.slice none 0 0),iW (0 : Int),iW (0 : Int),.sc (.slice none 0 0),.sc (.slice none 0 0)]⟩)]⟩) h (fun p_5 h => ?_) (fun k_6 h => ?_)
 ·refine AWP.seq ?_
  obtain ⟨l3_7,hl3_7,h⟩ := bindS h
  obtain ⟨y_8,hy_8,h⟩ := bindS h
  obtain ⟨c_9,hc_9,h⟩ := letS h
  refine AWP.dw mixed [(1,.ptr 1 0),(2,.ptr 2 0),(4,rW false p_5.1 eW),(5,iW p_5.2)] [] [⟨[0],0,1,some (32,.ptr 1 (0 + 0)),[]⟩,⟨[4],0,1,some (33,rW false a0.Pq e50),[]⟩,⟨[5],0,2,some (34,iW (a0.Pq.length : Int)),[]⟩,⟨[6],0,2,some (35,rW false l3_7 eW),[]⟩,⟨[0],0,1,some (36,.agg (pW false false a0)),[]⟩,⟨[8],0,2,some (37,rW false y_8 eW),[]⟩,⟨[7,9],0,2,some (38,rW false ([l3_7,y_8] : List (List Int)) encL3),[]⟩,⟨[],0,0,some (7,.ptr 5 0),[5]⟩,⟨[11,10],1,1,none,[]⟩] [7,8] [[(1,⟨37,false,(pW false false a0)⟩),(2,⟨33,false,[.sc (.slice none 0 0),iW (0 : Int),iW (0 : Int),.sc (.slice none 0 0),.sc (.slice none 0 0)]⟩)],[(5,⟨61,false,[.sc (.slice none 0 0)]⟩),(1,⟨37,false,(pW false false a0)⟩),(2,⟨33,false,[.sc (.slice none 0 0),iW (0 : Int),iW (0 : Int),.sc (.slice none 0 0),.sc (.slice none 0 0)]⟩)],[(5,⟨61,false,[rW false ([l3_7,y_8] : List (List Int)) encL3]⟩),(1,⟨37,false,(pW false false a0)⟩),(2,⟨33,false,[.sc (.slice none 0 0),iW (0 : Int),iW (0 : Int),.sc (.slice none 0 0),.sc (.slice none 0 0)]⟩)]] [[],[0,1],[0,2],[0,3],[],[4,5],[0,6],[],[0,8]] [0,1,2,3,11] rfl rfl (by kernel_rfl) rfl (.read rfl (.c (.put (fun E hE => .fieldP (l1 rfl) (hE.t 0 rfl) fld37_0)) (.c (.put (fun E hE => .fieldP (l1 rfl) (hE.t 0 rfl) fld37_0)) (.n)))<| .read rfl (.c (.put (fun E hE => .loadP (l1 rfl) (hE.t 0 rfl) one22 rfl rfl rfl)) (.c (.put (fun E hE => .loadP (l1 rfl) (hE.t 0 rfl) one22 rfl rfl rfl)) (.n)))<| .p rfl (fun _ q _ => .lenRd (l1 rfl) (q.t 0 rfl) Tryz.underlying22)<| .p rfl (fun _ q _ => .frzAny (fun t ht => AStep.mkS (enc := eW) (t := t) (l1 rfl) ht (q.t 0 rfl) (q.t 0 rfl) Tryz.underlying28 zero3 el3 rfl (encI_len .i64) (by decide) hl3_7) rfl (encI_len .i64))<| .read rfl (.c (.put (fun E hE => .loadPA (l1 rfl) (hE.t 0 rfl) agg37 rfl rfl rfl rfl)) (.c (.put (fun E hE => .loadPA (l1 rfl) (hE.t 0 rfl) agg37 rfl rfl rfl rfl)) (.n)))<| .p rfl (fun _ q _ => .call0 (bw := false) (l1 rfl) (c20 (β1 := false) (β2 := false) n (R24.mk a0.Pq a0.Bq) (60 : Int) hy_8) (.cons (q.t 0 rfl) (.ren rfl) (.cons (.const _ _ _) (.ren rfl) (.nil))) rfl)<| .p rfl (fun _ q _ => .frzAny (fun t ht => AStep.buildSlice (t := t) (out := ([l3_7,y_8] : List (List Int)).flatMap encL3) (l1 rfl) ht (.cons (q.t 0 rfl) (by first | exact ⟨rfl,rfl⟩ | rfl) (.cons (q.t 1 rfl) (by first | exact ⟨rfl,rfl⟩ | rfl) (.nil))) Tryz.underlying61 zero28 el28 (by decide) (by decide) rfl (still_all encL3_still _)) rfl encL3_len)<| .turn rfl rfl rfl rfl rfl (.new (fun E hE => .alloc (t := 5) (k := ⟨61,false,[.sc (.slice none 0 0)]⟩) (l1 rfl) (nm rfl) zero61 rfl rfl) rfl)<| .turn rfl rfl rfl rfl rfl (.store (fun E hE => .storeP (hE.t 0 rfl) (hE.t 1 rfl) sz61 rfl (l1 rfl) rfl (by intro h; cases h) rfl) rfl)<| .nil _) rfl rfl ?_
  refine AWP.vc (s' := ⟨[(1,.ptr 1 0),(2,.ptr 2 0),(4,rW false p_5.1 eW),(5,iW p_5.2),(7,.ptr 5 0)],[(5,⟨61,false,[rW false c_9 encL3]⟩),(1,⟨37,false,(pW false false a0)⟩),(2,⟨33,false,[.sc (.slice none 0 0),iW (0 : Int),iW (0 : Int),.sc (.slice none 0 0),.sc (.slice none 0 0)]⟩)]⟩) (by subst hc_9; exact VC.sub (.of rfl) (.of rfl)) ?_
  obtain ⟨y_10,hy_10,h⟩ := bindS h
  refine AWP.sv (.cons (.loadPA (l1 rfl) (.t rfl) agg37 rfl rfl rfl rfl)<| .cons (.buildSlice (t := 6) (out := ([(0 : Int)] : List Int).flatMap eW) (l1 rfl) (nm rfl) (.cons (.const _ _ _) (by first | exact ⟨rfl,rfl⟩ | rfl) (.nil)) Tryz.underlying28 zero3 el3 (by decide) (by decide) rfl (still_all (encI_still .i64) _))<| .cons (.move (l1 rfl) (.t rfl))<| .cons (.buildO (offs := [(0,2),(2,1),(3,1)]) (l1 rfl) (.cons (.t rfl) (by first | exact ⟨rfl,rfl⟩ | rfl) (.cons (.t rfl) (by first | exact ⟨rfl,rfl⟩ | rfl) (.cons (.t rfl) (by first | exact ⟨rfl,rfl⟩ | rfl) (.nil)))) zero65 offs65 rfl)<| .cons (.makeFunc (l1 rfl) (.nil) (.cons (.t rfl) (.cons (.t rfl) (.nil))))<| .cons (.keep (bw := true) (AStep.call (σ := sgT [(1,5),(2,1)]) (bw := true) (l1 rfl) (c21 (β3 := true) (β4 := false) (β5 := false) (β6 := false) n (R64.mk (R24.mk a0.Pq a0.Bq) ([(0 : Int)] : List Int) p_5.2) c_9 a0.Pq a0.Bq hy_10) (.cons (.t rfl) (.agg (.cons (.ren rfl) (.cons (.ren rfl) (.cons (.lendRow rfl rfl (encI_len .i64) rfl) (.cons (.ren rfl) (.nil)))))) (.cons (.func _ _ _) (.ren rfl) (.cons (.t rfl) (.ren rfl) (.nil)))) (CallOk.mk' (.c rfl (.c rfl (.n))) rfl)) (CallOk.mk' (.c rfl (.c rfl (.n))) rfl) rfl rfl)<| .cons (.move (l1 rfl) (.t rfl))<| .cons (.extract (l1 rfl) (.t rfl) rfl)<| .cons (.extract (l1 rfl) (.t rfl) rfl)<| .cons (.alloc (t := 7) (k := ⟨31,false,[iW (0 : Int),.sc (.slice none 0 0),.sc (.slice none 0 0)]⟩) (l1 rfl) (nm rfl) zero31 rfl rfl)<| .cons (.storePA (.t rfl) (.t rfl) sz31 rfl rfl (le1 rfl) (one_lit rfl) (by intro h; cases h) rfl)<| .cons (.assign (l1 rfl) (.t rfl))<| .nil _ _ _) ⟨[(2,.ptr 2 0),(4,rW false p_5.1 eW),(5,iW p_5.2),(8,.ptr 7 0),(6,iW y_10.2)],[(7,⟨31,false,(tW encK30 false false y_10.1.Sp y_10.1.Kd y_10.1.Lf)⟩),(2,⟨33,false,[.sc (.slice none 0 0),iW (0 : Int),iW (0 : Int),.sc (.slice none 0 0),.sc (.slice none 0 0)]⟩)]⟩ rfl rfl ?_
  refine AWP.seq ?_
  refine AWP.sv (.cons (.move (l1 rfl) (.t rfl))<| .cons (.neq (l1 rfl) (.t rfl) (.const _ _ _))<| .nil _ _ _) ⟨[(2,.ptr 2 0),(4,rW false p_5.1 eW),(5,iW p_5.2),(8,.ptr 7 0),(49,bW (!decide (y_10.2 = (0 : Int))))],[(7,⟨31,false,(tW encK30 false false y_10.1.Sp y_10.1.Kd y_10.1.Lf)⟩),(2,⟨33,false,[.sc (.slice none 0 0),iW (0 : Int),iW (0 : Int),.sc (.slice none 0 0),.sc (.slice none 0 0)]⟩)]⟩ rfl rfl ?_
  refine AWP.cond (.t rfl) (fun hc => ?_) (fun hc => ?_)
  ·have h := iteT hc h
   refine AWP.sr (.cons (.buildO (offs := [(0,1),(1,1),(2,3)]) (l1 rfl) (.nil) zero33 offs33 rfl)<| .cons (.storePA (.t rfl) (.t rfl) sz33 rfl rfl (le1 rfl) (one_lit rfl) (by intro h; cases h) rfl)<| .cons (.assign (l1 rfl) (.const _ _ _))<| .nil _ _ _) ?_
   refine AWP.ret ?_
   obtain rfl := Option.some.inj h
   refine retJ (Res.vc (s' := ⟨[(2,.ptr 2 0),(3,iW (9 : Int))],[(2,⟨33,false,[rW false ([] : List Int) eW,iW (0 : Int),iW (0 : Int),rW false ([] : List K30) encK30,rW false ([] : List Int) eW]⟩)]⟩) (VC.trans (VC.cell (t := 2) (i := 0) (v' := rW false ([] : List Int) eW) rfl rfl rfl (fun _ _ _ _ h => nil_rd h)) (VC.trans (VC.cell (t := 2) (i := 3) (v' := rW false ([] : List K30) encK30) rfl rfl rfl (fun _ _ _ _ h => nil_rd h)) (VC.trans (VC.cell (t := 2) (i := 4) (v' := rW false ([] : List Int) eW) rfl rfl rfl (fun _ _ _ _ h => nil_rd h)) (VC.sub (.of rfl) (.of rfl))))) ?_)
   refine Res.drop (H := [(2,⟨33,false,[rW false ([] : List Int) eW,iW (0 : Int),iW (0 : Int),rW false ([] : List K30) encK30,rW false ([] : List Int) eW]⟩)]) rfl ?_
   exact Res.of rfl (.cons (.cell rfl agg33 rfl rfl rfl rfl) (.cons (.tmp rfl) (.nil))) rfl rfl
  ·have h := iteF hc h
   refine AWP.skip ?_
   refine AWP.sr (.cons (.move (l1 rfl) (.t rfl))<| .cons (.move (l1 rfl) (.t rfl))<| .cons (.loadPA (l1 rfl) (.t rfl) agg31 rfl rfl rfl rfl)<| .cons (.buildO (offs := [(0,1),(1,1),(2,3)]) (l1 rfl) (.cons (.t rfl) (by first | exact ⟨rfl,rfl⟩ | rfl) (.cons (.t rfl) (by first | exact ⟨rfl,rfl⟩ | rfl) (.cons (.t rfl) (by first | exact ⟨rfl,rfl⟩ | rfl) (.nil)))) zero33 offs33 rfl)<| .cons (.storePA (.t rfl) (.t rfl) sz33 rfl rfl (le1 rfl) (one_lit rfl) (by intro h; cases h) rfl)<| .cons (.assign (l1 rfl) (.const _ _ _))<| .nil _ _ _) ?_
   refine AWP.ret ?_
   obtain rfl := Option.some.inj h
   refine retJ (Res.vc (s' := ⟨[(2,.ptr 2 0),(3,iW (0 : Int))],[(2,⟨33,false,[rW false p_5.1 eW,iW p_5.2,iW y_10.1.Sp,rW false y_10.1.Kd encK30,rW false y_10.1.Lf eW]⟩)]⟩) (VC.sub (.of rfl) (.of rfl)) ?_)
   refine Res.drop (H := [(2,⟨33,false,[rW false p_5.1 eW,iW p_5.2,iW y_10.1.Sp,rW false y_10.1.Kd encK30,rW false y_10.1.Lf eW]⟩)]) rfl ?_
   exact Res.of rfl (.cons (.cell rfl agg33 rfl rfl rfl rfl) (.cons (.tmp rfl) (.nil))) rfl rfl
 ·refine AWP.cond (.t rfl) (fun hc => ?_) (fun hc => ?_)
  ·have h := iteT hc h
   refine AWP.skip ?_
   exact endJ (y_1.1,y_1.2.1) h (VC.sub (.of rfl) (.of rfl))
  ·have h := iteF hc h
   refine AWP.sv (.cons (.eql (l1 rfl) (.t rfl) (.const _ _ _))<| .cons (.assign (l1 rfl) (.t rfl))<| .nil _ _ _) ⟨[(1,.ptr 1 0),(2,.ptr 2 0),(6,iW y_1.2.2),(20,bW (decide (y_1.2.2 = (9 : Int))))],[(2,⟨33,false,[.sc (.slice none 0 0),iW (0 : Int),iW (0 : Int),.sc (.slice none 0 0),.sc (.slice none 0 0)]⟩),(1,⟨37,false,(pW false false a0)⟩)]⟩ rfl rfl ?_
   refine AWP.cond (.t rfl) (fun hc => ?_) (fun hc => ?_)
   ·have h := iteT hc h
    refine AWP.seq ?_
    obtain ⟨y_2,hy_2,h⟩ := bindS h
    obtain ⟨y_3,hy_3,h⟩ := bindS h
    refine AWP.dw mixed [(1,.ptr 1 0),(2,.ptr 2 0),(6,iW y_1.2.2),(20,bW (decide (y_1.2.2 = (9 : Int))))] [] [dO [0] 23 (.agg (pW false false a0)),dO [0] 24 (.agg (pW false false a0)),dO [5] 25 (rW false y_2 eW),dO [4,6] 26 (.tup [rW false y_3.1 eW,iW y_3.2]),dO [7] 22 (.tup [rW false y_3.1 eW,iW y_3.2]),dO [8] 27 (rW false y_3.1 eW),dO [8] 28 (iW y_3.2),dO [9] 4 (rW false y_3.1 eW)] [] [[(2,⟨33,false,[.sc (.slice none 0 0),iW (0 : Int),iW (0 : Int),.sc (.slice none 0 0),.sc (.slice none 0 0)]⟩),(1,⟨37,false,(pW false false a0)⟩)]] [[],[],[1,2],[0,3],[0,4],[0,5],[0,5],[0,6]] [0,1,11] rfl rfl (by kernel_rfl) rfl (.r rfl rfl (fun _ q => .loadPA (l1 rfl) (q.t 0 rfl) agg37 rfl rfl rfl rfl)<| .r rfl rfl (fun _ q => .loadPA (l1 rfl) (q.t 0 rfl) agg37 rfl rfl rfl rfl)<| .p rfl (fun _ q _ => .call0 (bw := false) (l1 rfl) (c18 (β1 := false) (β2 := false) n (R24.mk a0.Pq a0.Bq) hy_2) (.cons (q.t 0 rfl) (.ren rfl) (.nil)) rfl)<| .p rfl (fun _ q _ => .call0 (bw := false) (l1 rfl) (c17 (β1 := false) (β2 := false) (β3 := false) n (R24.mk a0.Pq a0.Bq) y_2 hy_3) (.cons (q.t 0 rfl) (.ren rfl) (.cons (q.t 1 rfl) (.ren rfl) (.nil))) rfl)<| .p rfl (fun _ q _ => .move (l1 rfl) (q.t 0 rfl))<| .p rfl (fun _ q _ => .extract (l1 rfl) (q.t 0 rfl) rfl)<| .p rfl (fun _ q _ => .extract (l1 rfl) (q.t 0 rfl) rfl)<| .p rfl (fun _ q _ => .assign (l1 rfl) (q.t 0 rfl))<| .nil _) rfl rfl ?_
    refine AWP.vs ⟨[(1,.ptr 1 0),(2,.ptr 2 0),(4,rW false y_3.1 eW)],[(2,⟨33,false,[.sc (.slice none 0 0),iW (0 : Int),iW (0 : Int),.sc (.slice none 0 0),.sc (.slice none 0 0)]⟩),(1,⟨37,false,(pW false false a0)⟩)]⟩ rfl rfl ?_
    obtain ⟨y_4,hy_4,h⟩ := bindS h
    refine AWP.rg (.cons (.loadPA (l1 rfl) (.t rfl) agg37 rfl rfl rfl rfl)<| .cons (.move (l1 rfl) (.t rfl))<| .cons (.call0 (bw := false) (l1 rfl) (c19 (β1 := false) (β2 := false) (β3 := false) n (R24.mk a0.Pq a0.Bq) y_3.1 hy_4) (.cons (.t rfl) (.ren rfl) (.cons (.t rfl) (.ren rfl) (.nil))) rfl)<| .cons (.assign (l1 rfl) (.t rfl))<| .nil _ _ _) ?_
    exact endJ (y_3.1,y_4) h (VC.sub (.of rfl) (.of rfl))
   ·have h := iteF hc h
    refine AWP.sr (.cons (.buildO (offs := [(0,1),(1,1),(2,3)]) (l1 rfl) (.nil) zero33 offs33 rfl)<| .cons (.move (l1 rfl) (.t rfl))<| .cons (.storePA (.t rfl) (.t rfl) sz33 rfl rfl (le1 rfl) (one_lit rfl) (by intro h; cases h) rfl)<| .cons (.assign (l1 rfl) (.t rfl))<| .nil _ _ _) ?_
    refine AWP.ret ?_
    obtain rfl := Option.some.inj h
    refine retJ (Res.vc (s' := ⟨[(2,.ptr 2 0),(3,iW y_1.2.2)],[(2,⟨33,false,[rW false ([] : List Int) eW,iW (0 : Int),iW (0 : Int),rW false ([] : List K30) encK30,rW false ([] : List Int) eW]⟩)]⟩) (VC.trans (VC.cell (t := 2) (i := 0) (v' := rW false ([] : List Int) eW) rfl rfl rfl (fun _ _ _ _ h => nil_rd h)) (VC.trans (VC.cell (t := 2) (i := 3) (v' := rW false ([] : List K30) encK30) rfl rfl rfl (fun _ _ _ _ h => nil_rd h)) (VC.trans (VC.cell (t := 2) (i := 4) (v' := rW false ([] : List Int) eW) rfl rfl rfl (fun _ _ _ _ h => nil_rd h)) (VC.sub (.of rfl) (.of rfl))))) ?_)
    refine Res.drop (H := [(2,⟨33,false,[rW false ([] : List Int) eW,iW (0 : Int),iW (0 : Int),rW false ([] : List K30) encK30,rW false ([] : List Int) eW]⟩)]) rfl ?_
    exact Res.of rfl (.cons (.cell rfl agg33 rfl rfl rfl rfl) (.cons (.tmp rfl) (.nil))) rfl rfl
theorem c57 {β1 : Bool} (n : Nat) (a0 : (List Int)) (a1 : Int) {r : Bool} (h : m57 n a0 a1 = some r) : Spec Tryz.prog 57 [] [rW β1 a0 eW,iW a1] [] (bW r) [] := by
 refine Spec.of (fn := Tryz.f57) Tryz.func57 Tryz.ntmps57 rfl rfl (le1 rfl) (fun w0 Zs Zb T0 ι0 => ?_)
 unfold m57 at h
 refine AWP.sv (.cons (.assign (l1 rfl) (.const _ _ _))<| .nil _ _ _) ⟨[(0,rW β1 a0 eW),(1,iW a1)],[]⟩ rfl rfl ?_
 refine AWP.seq ?_
 refine AWP.sv (.cons (.assign (l1 rfl) (.const _ _ _))<| .nil _ _ _) ⟨[(0,rW β1 a0 eW),(1,iW a1),(5,iW (0 : Int))],[]⟩ rfl rfl ?_
 refine AWP.joinB' (S := fun p_8 : Unit => ⟨[],[]⟩) h (fun p_8 h => ?_) (fun k_9 h => ?_)
 ·refine AWP.sr (.cons (.assign (l1 rfl) (.const _ _ _))<| .nil _ _ _) ?_
  refine AWP.ret ?_
  obtain rfl := Option.some.inj h
  refine retJ (Res.vc (s' := ⟨[(4,bW false)],[]⟩) (VC.sub (.of rfl) (.n _)) ?_)
  refine Res.drop (H := []) rfl ?_
  exact Res.of rfl (.cons (.tmp rfl) (.nil)) rfl rfl
 ·refine AWP.vs ⟨[(0,rW β1 a0 eW),(1,iW a1),(5,iW (0 : Int))],[]⟩ rfl rfl ?_
  refine AWP.loopM (S := fun x_4 : Int => ⟨[(0,rW β1 a0 eW),(1,iW a1),(5,iW x_4)],[]⟩) (x := (0 : Int)) (fun nx_5 x_4 h => ?_) h
  unfold m57_L1 at h
  refine AWP.seq ?_
  refine AWP.sv (.cons (.move (l1 rfl) (.t rfl))<| .cons (.move (l1 rfl) (.t rfl))<| .cons (.lenRd (l1 rfl) (.t rfl) Tryz.underlying28)<| .cons (.lss (l1 rfl) (.t rfl) (.t rfl))<| .nil _ _ _) ⟨[(0,rW β1 a0 eW),(1,iW a1),(5,iW x_4),(9,bW (decide (x_4 < (a0.length : Int))))],[]⟩ rfl rfl ?_
  refine AWP.cond (.t rfl) (fun hc => ?_) (fun hc => ?_)
  ·have h := iteT hc h
   refine AWP.skip ?_
   refine AWP.seq ?_
   refine AWP.block ?_
   obtain ⟨y_6,hy_6,h⟩ := bindS h
   refine AWP.sv (.cons (.move (l1 rfl) (.t rfl))<| .cons (.move (l1 rfl) (.t rfl))<| .cons (.indexRd (enc := eW) (l1 rfl) (.t rfl) (.t rfl) Tryz.underlying28 sz3 (encI_len .i64) rfl hy_6)<| .cons (.loadR (v := iW y_6) (l1 rfl) (.t rfl) one3 rfl)<| .cons (.move (l1 rfl) (.t rfl))<| .cons (.eql (l1 rfl) (.t rfl) (.t rfl))<| .nil _ _ _) ⟨[(0,rW β1 a0 eW),(1,iW a1),(5,iW x_4),(17,bW (decide (y_6 = a1)))],[]⟩ rfl rfl ?_
   refine AWP.cond (.t rfl) (fun hc => ?_) (fun hc => ?_)
   ·have h := iteT hc h
    refine AWP.sr (.cons (.assign (l1 rfl) (.const _ _ _))<| .nil _ _ _) ?_
    refine AWP.ret ?_
    obtain rfl := Option.some.inj h
    refine retJ (Res.vc (s' := ⟨[(4,bW true)],[]⟩) (VC.sub (.of rfl) (.n _)) ?_)
    refine Res.drop (H := []) rfl ?_
    exact Res.of rfl (.cons (.tmp rfl) (.nil)) rfl rfl
   ·have h := iteF hc h
    refine AWP.skip ?_
    obtain ⟨t5_7,ht5_7,h⟩ := letS h
    refine AWP.rg (.cons (.move (l1 rfl) (.t rfl))<| .cons (.add (l1 rfl) (.t rfl) (.const _ _ _))<| .cons (.assign (l1 rfl) (.t rfl))<| .nil _ _ _) ?_
    exact endJ t5_7 h (by subst ht5_7; exact VC.sub (.of rfl) (.n _))
  ·have h := iteF hc h
   refine AWP.exit ?_
   exact endJ () h (VC.sub (.n _) (.n _))
theorem c25 {β1 : Bool} {β2 : Bool} {β3 : Bool} (n : Nat) (a0 : R24) (a1 : (List Int)) {r : (List Int)} (h : m25 n a0 a1 = some r) : Spec Tryz.prog 25 [] [.agg (pW β1 β2 a0),rW β3 a1 eW] [] (rW false r eW) [] := by
 refine Spec.of (fn := Tryz.f25) Tryz.func25 Tryz.ntmps25 rfl rfl (le1 rfl) (fun w0 Zs Zb T0 ι0 => ?_)
 unfold m25 at h
 refine AWP.sv (.cons (.box (t := 1) (n := 2) (l1 rfl) (nm rfl) (.t rfl) (by first | exact ⟨rfl,rfl⟩ | rfl) rfl)<| .cons (.assign (l1 rfl) (.const _ _ _))<| .nil _ _ _) ⟨[(1,rW β3 a1 eW),(2,.ptr 1 0)],[(1,⟨25,false,(pW β1 β2 a0)⟩)]⟩ rfl rfl ?_
 refine AWP.sv (.cons (.assign (l1 rfl) (.const _ _ _))<| .nil _ _ _) ⟨[(1,rW β3 a1 eW),(2,.ptr 1 0),(5,.sc (.slice none 0 0))],[(1,⟨25,false,(pW β1 β2 a0)⟩)]⟩ rfl rfl ?_
 refine AWP.seq ?_
 refine AWP.sv (.cons (.assign (l1 rfl) (.const _ _ _))<| .nil _ _ _) ⟨[(1,rW β3 a1 eW),(2,.ptr 1 0),(5,.sc (.slice none 0 0)),(6,iW (0 : Int))],[(1,⟨25,false,(pW β1 β2 a0)⟩)]⟩ rfl rfl ?_
 refine AWP.joinB' (S := fun p_74 : (List Int) => ⟨[(5,.own 2 1 0 p_74.length)],[(2,⟨3,true,p_74.flatMap eW⟩)]⟩) h (fun p_74 h => ?_) (fun k_75 h => ?_)
 ·refine AWP.sr (.cons (.move (l1 rfl) (.t rfl))<| .cons (.assign (l1 rfl) (.t rfl))<| .nil _ _ _) ?_
  refine AWP.ret ?_
  obtain rfl := Option.some.inj h
  refine retJ (Res.vc (s' := ⟨[(4,rW false p_74 eW)],[]⟩) (VC.trans (VC.frz (d := 4) (t := 2) rfl rfl (encI_len .i64)) (VC.sub (.of rfl) (.n _))) ?_)
  refine Res.drop (H := []) rfl ?_
  exact Res.of rfl (.cons (.tmp rfl) (.nil)) rfl rfl
 ·refine AWP.vc (VC.nilOwn (d := 5) (t := 2) (sz := 1) (E := 3) rfl (nm rfl)) ?_
  refine AWP.vs ⟨[(1,rW β3 a1 eW),(2,.ptr 1 0),(5,.own 2 1 0 ([] : List Int).length),(6,iW (0 : Int))],[(1,⟨25,false,(pW β1 β2 a0)⟩),(2,⟨3,true,([] : List Int).flatMap eW⟩)]⟩ rfl rfl ?_
  refine AWP.loopM (S := fun x_49 : Int × (List Int) => ⟨[(1,rW β3 a1 eW),(2,.ptr 1 0),(5,.own 2 1 0 x_49.2.length),(6,iW x_49.1)],[(1,⟨25,false,(pW β1 β2 a0)⟩),(2,⟨3,true,x_49.2.flatMap eW⟩)]⟩) (x := ((0 : Int),([] : List Int))) (fun nx_50 x_49 h => ?_) h
  unfold m25_L3 at h
  refine AWP.seq ?_
  refine AWP.sv (.cons (.move (l1 rfl) (.t rfl))<| .cons (.fieldP (l1 rfl) (.t rfl) fld25_0)<| .cons (.loadP (l1 rfl) (.t rfl) one22 rfl rfl rfl)<| .cons (.lenRd (l1 rfl) (.t rfl) Tryz.underlying22)<| .cons (.lss (l1 rfl) (.t rfl) (.t rfl))<| .nil _ _ _) ⟨[(1,rW β3 a1 eW),(2,.ptr 1 0),(5,.own 2 1 0 x_49.2.length),(6,iW x_49.1),(13,bW (decide (x_49.1 < (a0.Pq.length : Int))))],[(1,⟨25,false,(pW β1 β2 a0)⟩),(2,⟨3,true,x_49.2.flatMap eW⟩)]⟩ rfl rfl ?_
  refine AWP.cond (.t rfl) (fun hc => ?_) (fun hc => ?_)
  ·have h := iteT hc h
   refine AWP.skip ?_
   refine AWP.seq ?_
   refine AWP.block ?_
   obtain ⟨y_51,hy_51,h⟩ := bindS h
   refine AWP.sv (.cons (.move (l1 rfl) (.t rfl))<| .cons (.move (l1 rfl) (.t rfl))<| .cons (.call0 (bw := false) (l1 rfl) (c57 (β1 := β3) n a1 x_49.1 hy_51) (.cons (.t rfl) (.ren rfl) (.cons (.t rfl) (.ren rfl) (.nil))) rfl)<| .cons (.not (l1 rfl) (.t rfl))<| .cons (.assign (l1 rfl) (.t rfl))<| .nil _ _ _) ⟨[(1,rW β3 a1 eW),(2,.ptr 1 0),(5,.own 2 1 0 x_49.2.length),(6,iW x_49.1),(7,bW (!y_51))],[(1,⟨25,false,(pW β1 β2 a0)⟩),(2,⟨3,true,x_49.2.flatMap eW⟩)]⟩ rfl rfl ?_
   refine AWP.seq ?_
   refine AWP.sv (.cons (.assign (l1 rfl) (.const _ _ _))<| .nil _ _ _) ⟨[(1,rW β3 a1 eW),(2,.ptr 1 0),(5,.own 2 1 0 x_49.2.length),(6,iW x_49.1),(7,bW (!y_51)),(8,iW (0 : Int))],[(1,⟨25,false,(pW β1 β2 a0)⟩),(2,⟨3,true,x_49.2.flatMap eW⟩)]⟩ rfl rfl ?_
   refine AWP.joinB' (S := fun p_68 : Bool => ⟨[(1,rW β3 a1 eW),(2,.ptr 1 0),(5,.own 2 1 0 x_49.2.length),(6,iW x_49.1),(7,bW p_68)],[(1,⟨25,false,(pW β1 β2 a0)⟩),(2,⟨3,true,x_49.2.flatMap eW⟩)]⟩) h (fun p_68 h => ?_) (fun k_69 h => ?_)
   ·refine AWP.sv (.cons (.move (l1 rfl) (.t rfl))<| .nil _ _ _) ⟨[(1,rW β3 a1 eW),(2,.ptr 1 0),(5,.own 2 1 0 x_49.2.length),(6,iW x_49.1),(48,bW p_68)],[(1,⟨25,false,(pW β1 β2 a0)⟩),(2,⟨3,true,x_49.2.flatMap eW⟩)]⟩ rfl rfl ?_
    refine AWP.join' (S := fun p_71 : (List Int) => ⟨[(1,rW β3 a1 eW),(2,.ptr 1 0),(5,.own 2 1 0 p_71.length),(6,iW x_49.1)],[(1,⟨25,false,(pW β1 β2 a0)⟩),(2,⟨3,true,p_71.flatMap eW⟩)]⟩) h (fun p_71 h => ?_) (fun k_72 h => ?_)
    ·obtain ⟨t6_73,ht6_73,h⟩ := letS h
     refine AWP.rg (.cons (.move (l1 rfl) (.t rfl))<| .cons (.add (l1 rfl) (.t rfl) (.const _ _ _))<| .cons (.assign (l1 rfl) (.t rfl))<| .nil _ _ _) ?_
     exact endJ (t6_73,p_71) h (by subst ht6_73; exact VC.sub (.of rfl) (.of rfl))
    ·refine AWP.cond (.t rfl) (fun hc => ?_) (fun hc => ?_)
     ·have h := iteT hc h
      obtain ⟨l2_70,hl2_70,h⟩ := bindS h
      refine AWP.rg (.cons (.move (l1 rfl) (.t rfl))<| .cons (.move (l1 rfl) (.t rfl))<| .cons (.buildSlice (t := 3) (out := ([x_49.1] : List Int).flatMap eW) (l1 rfl) (nm rfl) (.cons (.t rfl) (by first | exact ⟨rfl,rfl⟩ | rfl) (.nil)) Tryz.underlying28 zero3 el3 (by decide) (by decide) rfl (still_all (encI_still .i64) _))<| .cons (.app (enc := eW) (l1 rfl) (nm rfl) (.t rfl) (Src.own (.t rfl) rfl (lendAll (encI_len .i64) _) (flatMap_length (encI_len .i64) _) (one_all (encI_one .i64) _) (.inl rfl)) Tryz.underlying28 ⟨_,Tryz.underlying28,by intro k hk; cases hk⟩ el3 rfl (encI_len .i64) rfl rfl (by decide) hl2_70)<| .cons (.assign (l1 rfl) (.t rfl))<| .nil _ _ _) ?_
      exact endJ l2_70 h (VC.sub (.of rfl) (.of rfl))
     ·have h := iteF hc h
      refine AWP.skip ?_
      exact endJ x_49.2 h (VC.sub (.of rfl) (.of rfl))
   ·refine AWP.vs ⟨[(1,rW β3 a1 eW),(2,.ptr 1 0),(5,.own 2 1 0 x_49.2.length),(6,iW x_49.1),(7,bW (!y_51)),(8,iW (0 : Int))],[(1,⟨25,false,(pW β1 β2 a0)⟩),(2,⟨3,true,x_49.2.flatMap eW⟩)]⟩ rfl rfl ?_
    refine AWP.loopM (S := fun x_62 : Bool × Int => ⟨[(1,rW β3 a1 eW),(2,.ptr 1 0),(5,.own 2 1 0 x_49.2.length),(6,iW x_49.1),(7,bW x_62.1),(8,iW x_62.2)],[(1,⟨25,false,(pW β1 β2 a0)⟩),(2,⟨3,true,x_49.2.flatMap eW⟩)]⟩) (x := ((!y_51),(0 : Int))) (fun nx_63 x_62 h => ?_) h
    unfold m25_L4 at h
    refine AWP.seq ?_
    refine AWP.sv (.cons (.move (l1 rfl) (.t rfl))<| .cons (.fieldP (l1 rfl) (.t rfl) fld25_1)<| .cons (.loadP (l1 rfl) (.t rfl) one23 rfl rfl rfl)<| .cons (.lenRd (l1 rfl) (.t rfl) Tryz.underlying23)<| .cons (.lss (l1 rfl) (.t rfl) (.t rfl))<| .nil _ _ _) ⟨[(1,rW β3 a1 eW),(2,.ptr 1 0),(5,.own 2 1 0 x_49.2.length),(6,iW x_49.1),(7,bW x_62.1),(8,iW x_62.2),(24,bW (decide (x_62.2 < (a0.Bq.length : Int))))],[(1,⟨25,false,(pW β1 β2 a0)⟩),(2,⟨3,true,x_49.2.flatMap eW⟩)]⟩ rfl rfl ?_
    refine AWP.cond (.t rfl) (fun hc => ?_) (fun hc => ?_)
    ·have h := iteT hc h
     refine AWP.skip ?_
     refine AWP.seq ?_
     refine AWP.block ?_
     obtain ⟨y_64,hy_64,h⟩ := bindS h
     obtain ⟨y_65,hy_65,h⟩ := bindS h
     obtain ⟨y_66,hy_66,h⟩ := bindS h
     refine AWP.rg (.cons (.move (l1 rfl) (.t rfl))<| .cons (.move (l1 rfl) (.t rfl))<| .guard (j := 1) (dj := 28) rfl (l1 rfl) rfl (l1 rfl) (fun hg => .fieldP (l1 rfl) (.t rfl) fld25_1)<| .guard (j := 1) (dj := 28) rfl (l1 rfl) rfl (l1 rfl) (fun hg => .loadP (l1 rfl) (.gd hg (.t rfl)) one23 rfl rfl rfl)<| .guard (j := 1) (dj := 28) rfl (l1 rfl) rfl (l1 rfl) (fun hg => .move (l1 rfl) (.t rfl))<| .guard (j := 1) (dj := 28) rfl (l1 rfl) rfl (l1 rfl) (fun hg => .indexRd (enc := e71) (l1 rfl) (.gd hg (.t rfl)) (.gd hg (.t rfl)) Tryz.underlying23 sz71 encR71_len rfl (gdB hy_64 hg))<| .guard (j := 1) (dj := 28) rfl (l1 rfl) rfl (l1 rfl) (fun hg => .idxR (l1 rfl) (.gd hg (.t rfl)) (.const _ _ _) Tryz.underlying71 sz3 (by decide) rfl)<| .guard (j := 1) (dj := 28) rfl (l1 rfl) rfl (l1 rfl) (fun hg => .loadR (v := iW y_64.f1) (l1 rfl) (.gd hg (.t rfl)) one3 rfl)<| .guard (j := 1) (dj := 28) rfl (l1 rfl) rfl (l1 rfl) (fun hg => .move (l1 rfl) (.t rfl))<| .guard (j := 1) (dj := 28) rfl (l1 rfl) rfl (l1 rfl) (fun hg => .neq (l1 rfl) (.gd hg (.t rfl)) (.gd hg (.t rfl)))<| .guard (j := 1) (dj := 28) rfl (l1 rfl) rfl (l1 rfl) (fun hg => .move (l1 rfl) (.gd hg (.t rfl)))<| .guard2 (j := 10) (dj := 37) rfl (l1 rfl) rfl (l1 rfl) (fun hg => .move (l1 rfl) (.t rfl))<| .guard2 (j := 10) (dj := 37) rfl (l1 rfl) rfl (l1 rfl) (fun hg => .fieldP (l1 rfl) (.t rfl) fld25_1)<| .guard2 (j := 10) (dj := 37) rfl (l1 rfl) rfl (l1 rfl) (fun hg => .loadP (l1 rfl) (.gd hg (.t rfl)) one23 rfl rfl rfl)<| .guard2 (j := 10) (dj := 37) rfl (l1 rfl) rfl (l1 rfl) (fun hg => .move (l1 rfl) (.t rfl))<| .guard2 (j := 10) (dj := 37) rfl (l1 rfl) rfl (l1 rfl) (fun hg => .indexRd (enc := e71) (l1 rfl) (.gd hg (.t rfl)) (.gd hg (.t rfl)) Tryz.underlying23 sz71 encR71_len rfl (gdB hy_65 hg))<| .guard2 (j := 10) (dj := 37) rfl (l1 rfl) rfl (l1 rfl) (fun hg => .idxR (l1 rfl) (.gd hg (.t rfl)) (.const _ _ _) Tryz.underlying71 sz3 (by decide) rfl)<| .guard2 (j := 10) (dj := 37) rfl (l1 rfl) rfl (l1 rfl) (fun hg => .loadR (v := iW y_65.f0) (l1 rfl) (.gd hg (.t rfl)) one3 rfl)<| .guard2 (j := 10) (dj := 37) rfl (l1 rfl) rfl (l1 rfl) (fun hg => .call0 (bw := false) (l1 rfl) (c57 (β1 := β3) n a1 y_65.f0 (gdB hy_66 hg)) (.cons (.gd hg (.t rfl)) (.ren rfl) (.cons (.gd hg (.t rfl)) (.ren rfl) (.nil))) rfl)<| .guard (j := 1) (dj := 28) rfl (l1 rfl) rfl (l1 rfl) (fun hg => .pickOr (l1 rfl) (.gd hg (.t rfl)) (.const _ _ _) (.gdAnd hg (.t rfl)))<| .cons (.pickAnd (l1 rfl) (.t rfl) (.t rfl) (.const _ _ _))<| .cons (.assign (l1 rfl) (.t rfl))<| .nil _ _ _) ?_
     refine AWP.vs ⟨[(1,rW β3 a1 eW),(2,.ptr 1 0),(5,.own 2 1 0 x_49.2.length),(6,iW x_49.1),(7,bW (x_62.1 && ((!decide (y_64.f1 = x_49.1)) || y_66))),(8,iW x_62.2)],[(1,⟨25,false,(pW β1 β2 a0)⟩),(2,⟨3,true,x_49.2.flatMap eW⟩)]⟩ rfl rfl ?_
     obtain ⟨t8_67,ht8_67,h⟩ := letS h
     refine AWP.rg (.cons (.move (l1 rfl) (.t rfl))<| .cons (.add (l1 rfl) (.t rfl) (.const _ _ _))<| .cons (.assign (l1 rfl) (.t rfl))<| .nil _ _ _) ?_
     exact endJ ((x_62.1 && ((!decide (y_64.f1 = x_49.1)) || y_66)),t8_67) h (by subst ht8_67; exact VC.sub (.of rfl) (.of rfl))
    ·have h := iteF hc h
     refine AWP.exit ?_
     exact endJ x_62.1 h (VC.sub (.of rfl) (.of rfl))
  ·have h := iteF hc h
   refine AWP.exit ?_
   exact endJ x_49.2 h (VC.sub (.of rfl) (.of rfl))
theorem c8 {β1 : Bool} {β2 : Bool} (n : Nat) (a0 : R24) {r : Bool} (h : m8 n a0 = some r) : Spec Tryz.prog 8 [] [.agg (pW β1 β2 a0)] [] (bW r) [] := by
 refine Spec.of (fn := Tryz.f8) Tryz.func8 Tryz.ntmps8 rfl rfl (le1 rfl) (fun w0 Zs Zb T0 ι0 => ?_)
 unfold m8 at h
 refine AWP.sv (.cons (.box (t := 1) (n := 2) (l1 rfl) (nm rfl) (.t rfl) (by first | exact ⟨rfl,rfl⟩ | rfl) rfl)<| .cons (.assign (l1 rfl) (.const _ _ _))<| .nil _ _ _) ⟨[(1,.ptr 1 0)],[(1,⟨25,false,(pW β1 β2 a0)⟩)]⟩ rfl rfl ?_
 refine AWP.sv (.cons (.fieldP (l1 rfl) (.t rfl) fld25_0)<| .cons (.loadP (l1 rfl) (.t rfl) one22 rfl rfl rfl)<| .cons (.lenRd (l1 rfl) (.t rfl) Tryz.underlying22)<| .cons (.assign (l1 rfl) (.t rfl))<| .nil _ _ _) ⟨[(1,.ptr 1 0),(3,iW (a0.Pq.length : Int))],[(1,⟨25,false,(pW β1 β2 a0)⟩)]⟩ rfl rfl ?_
 refine AWP.seq ?_
 refine AWP.sv (.cons (.move (l1 rfl) (.t rfl))<| .cons (.lss (l1 rfl) (.t rfl) (.const _ _ _))<| .cons (.move (l1 rfl) (.t rfl))<| .guard (j := 2) (dj := 15) rfl (l1 rfl) rfl (l1 rfl) (fun hg => .move (l1 rfl) (.t rfl))<| .guard (j := 2) (dj := 15) rfl (l1 rfl) rfl (l1 rfl) (fun hg => .gtr (l1 rfl) (.gd hg (.t rfl)) (.const _ _ _))<| .cons (.pickOr (l1 rfl) (.t rfl) (.const _ _ _) (.t rfl))<| .cons (.move (l1 rfl) (.t rfl))<| .guard (j := 6) (dj := 19) rfl (l1 rfl) rfl (l1 rfl) (fun hg => .fieldP (l1 rfl) (.t rfl) fld25_1)<| .guard (j := 6) (dj := 19) rfl (l1 rfl) rfl (l1 rfl) (fun hg => .loadP (l1 rfl) (.gd hg (.t rfl)) one23 rfl rfl rfl)<| .guard (j := 6) (dj := 19) rfl (l1 rfl) rfl (l1 rfl) (fun hg => .lenRd (l1 rfl) (.gd hg (.t rfl)) Tryz.underlying23)<| .guard (j := 6) (dj := 19) rfl (l1 rfl) rfl (l1 rfl) (fun hg => .gtr (l1 rfl) (.gd hg (.t rfl)) (.const _ _ _))<| .cons (.pickOr (l1 rfl) (.t rfl) (.const _ _ _) (.t rfl))<| .nil _ _ _) ⟨[(1,.ptr 1 0),(3,iW (a0.Pq.length : Int)),(24,bW (((decide ((a0.Pq.length : Int) < (1 : Int))) || (decide ((60 : Int) < (a0.Pq.length : Int)))) || (decide ((200 : Int) < (a0.Bq.length : Int)))))],[(1,⟨25,false,(pW β1 β2 a0)⟩)]⟩ rfl rfl ?_
 refine AWP.cond (.t rfl) (fun hc => ?_) (fun hc => ?_)
 ·have h := iteT hc h
  refine AWP.sr (.cons (.assign (l1 rfl) (.const _ _ _))<| .nil _ _ _) ?_
  refine AWP.ret ?_
  obtain rfl := Option.some.inj h
  refine retJ (Res.vc (s' := ⟨[(2,bW false)],[]⟩) (VC.sub (.of rfl) (.n _)) ?_)
  refine Res.drop (H := []) rfl ?_
  exact Res.of rfl (.cons (.tmp rfl) (.nil)) rfl rfl
 ·have h := iteF hc h
  refine AWP.skip ?_
  refine AWP.seq ?_
  refine AWP.sv (.cons (.assign (l1 rfl) (.const _ _ _))<| .nil _ _ _) ⟨[(1,.ptr 1 0),(3,iW (a0.Pq.length : Int)),(4,iW (0 : Int))],[(1,⟨25,false,(pW β1 β2 a0)⟩)]⟩ rfl rfl ?_
  refine AWP.joinB' (S := fun p_8 : Unit => ⟨[(1,.ptr 1 0),(3,iW (a0.Pq.length : Int))],[(1,⟨25,false,(pW β1 β2 a0)⟩)]⟩) h (fun p_8 h => ?_) (fun k_9 h => ?_)
  ·refine AWP.seq ?_
   refine AWP.sv (.cons (.assign (l1 rfl) (.const _ _ _))<| .nil _ _ _) ⟨[(1,.ptr 1 0),(3,iW (a0.Pq.length : Int)),(6,iW (0 : Int))],[(1,⟨25,false,(pW β1 β2 a0)⟩)]⟩ rfl rfl ?_
   refine AWP.joinB' (S := fun p_19 : Unit => ⟨[(1,.ptr 1 0),(3,iW (a0.Pq.length : Int))],[(1,⟨25,false,(pW β1 β2 a0)⟩)]⟩) h (fun p_19 h => ?_) (fun k_20 h => ?_)
   ·refine AWP.sv (.cons (.buildSlice (t := 4) (out := ([(0 : Int)] : List Int).flatMap eW) (l1 rfl) (nm rfl) (.cons (.const _ _ _) (by first | exact ⟨rfl,rfl⟩ | rfl) (.nil)) Tryz.underlying28 zero3 el3 (by decide) (by decide) rfl (still_all (encI_still .i64) _))<| .cons (.assign (l1 rfl) (.t rfl))<| .nil _ _ _) ⟨[(1,.ptr 1 0),(3,iW (a0.Pq.length : Int)),(8,.own 4 1 0 ([(0 : Int)] : List Int).length)],[(4,⟨3,true,([(0 : Int)] : List Int).flatMap eW⟩),(1,⟨25,false,(pW β1 β2 a0)⟩)]⟩ rfl rfl ?_
    refine AWP.seq ?_
    refine AWP.joinB' (S := fun p_34 : Unit => ⟨[],[]⟩) h (fun p_34 h => ?_) (fun k_35 h => ?_)
    ·refine AWP.sr (.cons (.assign (l1 rfl) (.const _ _ _))<| .nil _ _ _) ?_
     refine AWP.ret ?_
     obtain rfl := Option.some.inj h
     refine retJ (Res.vc (s' := ⟨[(2,bW true)],[]⟩) (VC.sub (.of rfl) (.n _)) ?_)
     refine Res.drop (H := []) rfl ?_
     exact Res.of rfl (.cons (.tmp rfl) (.nil)) rfl rfl
    ·refine AWP.vs ⟨[(1,.ptr 1 0),(3,iW (a0.Pq.length : Int)),(8,.own 4 1 0 ([(0 : Int)] : List Int).length)],[(1,⟨25,false,(pW β1 β2 a0)⟩),(4,⟨3,true,([(0 : Int)] : List Int).flatMap eW⟩)]⟩ rfl rfl ?_
     refine AWP.loopM (S := fun x_29 : (List Int) => ⟨[(1,.ptr 1 0),(3,iW (a0.Pq.length : Int)),(8,.own 4 1 0 x_29.length)],[(1,⟨25,false,(pW β1 β2 a0)⟩),(4,⟨3,true,x_29.flatMap eW⟩)]⟩) (x := ([(0 : Int)] : List Int)) (fun nx_30 x_29 h => ?_) h
     unfold m8_L3 at h
     refine AWP.seq ?_
     refine AWP.sv (.cons (.move (l1 rfl) (.t rfl))<| .cons (.lenOwn (l1 rfl) (.t rfl) Tryz.underlying28)<| .cons (.move (l1 rfl) (.t rfl))<| .cons (.lss (l1 rfl) (.t rfl) (.t rfl))<| .nil _ _ _) ⟨[(1,.ptr 1 0),(3,iW (a0.Pq.length : Int)),(8,.own 4 1 0 x_29.length),(96,bW (decide ((x_29.length : Int) < (a0.Pq.length : Int))))],[(1,⟨25,false,(pW β1 β2 a0)⟩),(4,⟨3,true,x_29.flatMap eW⟩)]⟩ rfl rfl ?_
     refine AWP.cond (.t rfl) (fun hc => ?_) (fun hc => ?_)
     ·have h := iteT hc h
      refine AWP.skip ?_
      refine AWP.block ?_
      obtain ⟨y_31,hy_31,h⟩ := bindS h
      refine AWP.sv (.cons (.loadPA (l1 rfl) (.t rfl) agg25 rfl rfl rfl rfl)<| .cons (.move (l1 rfl) (.t rfl))<| .cons (.call0 (bw := true) (l1 rfl) (c25 (β1 := β1) (β2 := β2) (β3 := true) n (R24.mk a0.Pq a0.Bq) x_29 hy_31) (.cons (.t rfl) (.ren rfl) (.cons (.t rfl) (.lendRow rfl rfl (encI_len .i64) rfl) (.nil))) rfl)<| .cons (.assign (l1 rfl) (.t rfl))<| .nil _ _ _) ⟨[(1,.ptr 1 0),(3,iW (a0.Pq.length : Int)),(8,.own 4 1 0 x_29.length),(9,rW false y_31 eW)],[(1,⟨25,false,(pW β1 β2 a0)⟩),(4,⟨3,true,x_29.flatMap eW⟩)]⟩ rfl rfl ?_
      refine AWP.seq ?_
      refine AWP.sv (.cons (.move (l1 rfl) (.t rfl))<| .cons (.lenRd (l1 rfl) (.t rfl) Tryz.underlying28)<| .cons (.eql (l1 rfl) (.t rfl) (.const _ _ _))<| .nil _ _ _) ⟨[(1,.ptr 1 0),(3,iW (a0.Pq.length : Int)),(8,.own 4 1 0 x_29.length),(9,rW false y_31 eW),(102,bW (decide ((y_31.length : Int) = (0 : Int))))],[(1,⟨25,false,(pW β1 β2 a0)⟩),(4,⟨3,true,x_29.flatMap eW⟩)]⟩ rfl rfl ?_
      refine AWP.cond (.t rfl) (fun hc => ?_) (fun hc => ?_)
      ·have h := iteT hc h
       refine AWP.sr (.cons (.assign (l1 rfl) (.const _ _ _))<| .nil _ _ _) ?_
       refine AWP.ret ?_
       obtain rfl := Option.some.inj h
       refine retJ (Res.vc (s' := ⟨[(2,bW false)],[]⟩) (VC.sub (.of rfl) (.n _)) ?_)
       refine Res.drop (H := []) rfl ?_
       exact Res.of rfl (.cons (.tmp rfl) (.nil)) rfl rfl
      ·have h := iteF hc h
       refine AWP.skip ?_
       obtain ⟨y_32,hy_32,h⟩ := bindS h
       obtain ⟨l4_33,hl4_33,h⟩ := bindS h
       refine AWP.rg (.cons (.move (l1 rfl) (.t rfl))<| .cons (.move (l1 rfl) (.t rfl))<| .cons (.indexRd (enc := eW) (l1 rfl) (.t rfl) (.const _ _ _) Tryz.underlying28 sz3 (encI_len .i64) rfl hy_32)<| .cons (.loadR (v := iW y_32) (l1 rfl) (.t rfl) one3 rfl)<| .cons (.buildSlice (t := 5) (out := ([y_32] : List Int).flatMap eW) (l1 rfl) (nm rfl) (.cons (.t rfl) (by first | exact ⟨rfl,rfl⟩ | rfl) (.nil)) Tryz.underlying28 zero3 el3 (by decide) (by decide) rfl (still_all (encI_still .i64) _))<| .cons (.app (enc := eW) (l1 rfl) (nm rfl) (.t rfl) (Src.own (.t rfl) rfl (lendAll (encI_len .i64) _) (flatMap_length (encI_len .i64) _) (one_all (encI_one .i64) _) (.inl rfl)) Tryz.underlying28 ⟨_,Tryz.underlying28,by intro k hk; cases hk⟩ el3 rfl (encI_len .i64) rfl rfl (by decide) hl4_33)<| .cons (.assign (l1 rfl) (.t rfl))<| .nil _ _ _) ?_
       exact endJ l4_33 h (VC.sub (.of rfl) (.of rfl))
     ·have h := iteF hc h
      refine AWP.exit ?_
      exact endJ () h (VC.sub (.n _) (.n _))
   ·refine AWP.vs ⟨[(1,.ptr 1 0),(3,iW (a0.Pq.length : Int)),(6,iW (0 : Int))],[(1,⟨25,false,(pW β1 β2 a0)⟩)]⟩ rfl rfl ?_
    refine AWP.loopM (S := fun x_14 : Int => ⟨[(1,.ptr 1 0),(3,iW (a0.Pq.length : Int)),(6,iW x_14)],[(1,⟨25,false,(pW β1 β2 a0)⟩)]⟩) (x := (0 : Int)) (fun nx_15 x_14 h => ?_) h
    unfold m8_L2 at h
    refine AWP.seq ?_
    refine AWP.sv (.cons (.move (l1 rfl) (.t rfl))<| .cons (.fieldP (l1 rfl) (.t rfl) fld25_1)<| .cons (.loadP (l1 rfl) (.t rfl) one23 rfl rfl rfl)<| .cons (.lenRd (l1 rfl) (.t rfl) Tryz.underlying23)<| .cons (.lss (l1 rfl) (.t rfl) (.t rfl))<| .nil _ _ _) ⟨[(1,.ptr 1 0),(3,iW (a0.Pq.length : Int)),(6,iW x_14),(57,bW (decide (x_14 < (a0.Bq.length : Int))))],[(1,⟨25,false,(pW β1 β2 a0)⟩)]⟩ rfl rfl ?_
    refine AWP.cond (.t rfl) (fun hc => ?_) (fun hc => ?_)
    ·have h := iteT hc h
     refine AWP.skip ?_
     refine AWP.seq ?_
     refine AWP.block ?_
     obtain ⟨y_16,hy_16,h⟩ := bindS h
     refine AWP.sv (.cons (.fieldP (l1 rfl) (.t rfl) fld25_1)<| .cons (.loadP (l1 rfl) (.t rfl) one23 rfl rfl rfl)<| .cons (.move (l1 rfl) (.t rfl))<| .cons (.indexRd (enc := e71) (l1 rfl) (.t rfl) (.t rfl) Tryz.underlying23 sz71 encR71_len rfl hy_16)<| .cons (.loadRA (out := [iW y_16.f0,iW y_16.f1]) (l1 rfl) (.t rfl) agg71 (Nat.le_of_eq (Eq.symm (encR71_len _))) rfl)<| .cons (.alloc (t := 3) (k := ⟨71,false,[iW (0 : Int),iW (0 : Int)]⟩) (l1 rfl) (nm rfl) zero71 rfl rfl)<| .cons (.storePA (.t rfl) (.t rfl) sz71 rfl rfl (le1 rfl) (one_lit rfl) (by intro h; cases h) rfl)<| .nil _ _ _) ⟨[(1,.ptr 1 0),(3,iW (a0.Pq.length : Int)),(6,iW x_14),(7,.ptr 3 0)],[(3,⟨71,false,[iW y_16.f0,iW y_16.f1]⟩),(1,⟨25,false,(pW β1 β2 a0)⟩)]⟩ rfl rfl ?_
     obtain ⟨t91_17,ht91_17,h⟩ := letS h
     refine AWP.sr (.cons (.idxP (l1 rfl) (.t rfl) (.const _ _ _) Tryz.underlying71 sz3 (by decide) rfl)<| .cons (.loadP (l1 rfl) (.t rfl) one3 rfl rfl rfl)<| .cons (.lss (l1 rfl) (.t rfl) (.const _ _ _))<| .cons (.move (l1 rfl) (.t rfl))<| .guard (j := 3) (dj := 68) rfl (l1 rfl) rfl (l1 rfl) (fun hg => .idxP (l1 rfl) (.t rfl) (.const _ _ _) Tryz.underlying71 sz3 (by decide) rfl)<| .guard (j := 3) (dj := 68) rfl (l1 rfl) rfl (l1 rfl) (fun hg => .loadP (l1 rfl) (.gd hg (.t rfl)) one3 rfl rfl rfl)<| .guard (j := 3) (dj := 68) rfl (l1 rfl) rfl (l1 rfl) (fun hg => .move (l1 rfl) (.t rfl))<| .guard (j := 3) (dj := 68) rfl (l1 rfl) rfl (l1 rfl) (fun hg => .geq (l1 rfl) (.gd hg (.t rfl)) (.gd hg (.t rfl)))<| .cons (.pickOr (l1 rfl) (.t rfl) (.const _ _ _) (.t rfl))<| .cons (.move (l1 rfl) (.t rfl))<| .guard (j := 9) (dj := 74) rfl (l1 rfl) rfl (l1 rfl) (fun hg => .idxP (l1 rfl) (.t rfl) (.const _ _ _) Tryz.underlying71 sz3 (by decide) rfl)<| .guard (j := 9) (dj := 74) rfl (l1 rfl) rfl (l1 rfl) (fun hg => .loadP (l1 rfl) (.gd hg (.t rfl)) one3 rfl rfl rfl)<| .guard (j := 9) (dj := 74) rfl (l1 rfl) rfl (l1 rfl) (fun hg => .lss (l1 rfl) (.gd hg (.t rfl)) (.const _ _ _))<| .cons (.pickOr (l1 rfl) (.t rfl) (.const _ _ _) (.t rfl))<| .cons (.move (l1 rfl) (.t rfl))<| .guard (j := 14) (dj := 79) rfl (l1 rfl) rfl (l1 rfl) (fun hg => .idxP (l1 rfl) (.t rfl) (.const _ _ _) Tryz.underlying71 sz3 (by decide) rfl)<| .guard (j := 14) (dj := 79) rfl (l1 rfl) rfl (l1 rfl) (fun hg => .loadP (l1 rfl) (.gd hg (.t rfl)) one3 rfl rfl rfl)<| .guard (j := 14) (dj := 79) rfl (l1 rfl) rfl (l1 rfl) (fun hg => .move (l1 rfl) (.t rfl))<| .guard (j := 14) (dj := 79) rfl (l1 rfl) rfl (l1 rfl) (fun hg => .geq (l1 rfl) (.gd hg (.t rfl)) (.gd hg (.t rfl)))<| .cons (.pickOr (l1 rfl) (.t rfl) (.const _ _ _) (.t rfl))<| .cons (.move (l1 rfl) (.t rfl))<| .guard (j := 20) (dj := 85) rfl (l1 rfl) rfl (l1 rfl) (fun hg => .idxP (l1 rfl) (.t rfl) (.const _ _ _) Tryz.underlying71 sz3 (by decide) rfl)<| .guard (j := 20) (dj := 85) rfl (l1 rfl) rfl (l1 rfl) (fun hg => .loadP (l1 rfl) (.gd hg (.t rfl)) one3 rfl rfl rfl)<| .guard (j := 20) (dj := 85) rfl (l1 rfl) rfl (l1 rfl) (fun hg => .idxP (l1 rfl) (.t rfl) (.const _ _ _) Tryz.underlying71 sz3 (by decide) rfl)<| .guard (j := 20) (dj := 85) rfl (l1 rfl) rfl (l1 rfl) (fun hg => .loadP (l1 rfl) (.gd hg (.t rfl)) one3 rfl rfl rfl)<| .guard (j := 20) (dj := 85) rfl (l1 rfl) rfl (l1 rfl) (fun hg => .eql (l1 rfl) (.gd hg (.t rfl)) (.gd hg (.t rfl)))<| .cons (.pickOr (l1 rfl) (.t rfl) (.const _ _ _) (.t rfl))<| .nil _ _ _) ?_
     refine AWP.vc (s' := ⟨[(1,.ptr 1 0),(3,iW (a0.Pq.length : Int)),(6,iW x_14),(91,bW t91_17)],[(1,⟨25,false,(pW β1 β2 a0)⟩)]⟩) (by subst ht91_17; exact VC.sub (.of rfl) (.of rfl)) ?_
     refine AWP.cond (.t rfl) (fun hc => ?_) (fun hc => ?_)
     ·have h := iteT hc h
      refine AWP.sr (.cons (.assign (l1 rfl) (.const _ _ _))<| .nil _ _ _) ?_
      refine AWP.ret ?_
      obtain rfl := Option.some.inj h
      refine retJ (Res.vc (s' := ⟨[(2,bW false)],[]⟩) (VC.sub (.of rfl) (.n _)) ?_)
      refine Res.drop (H := []) rfl ?_
      exact Res.of rfl (.cons (.tmp rfl) (.nil)) rfl rfl
     ·have h := iteF hc h
      refine AWP.skip ?_
      obtain ⟨t6_18,ht6_18,h⟩ := letS h
      refine AWP.rg (.cons (.move (l1 rfl) (.t rfl))<| .cons (.add (l1 rfl) (.t rfl) (.const _ _ _))<| .cons (.assign (l1 rfl) (.t rfl))<| .nil _ _ _) ?_
      exact endJ t6_18 h (by subst ht6_18; exact VC.sub (.of rfl) (.of rfl))
    ·have h := iteF hc h
     refine AWP.exit ?_
     exact endJ () h (VC.sub (.of rfl) (.of rfl))
  ·refine AWP.vs ⟨[(1,.ptr 1 0),(3,iW (a0.Pq.length : Int)),(4,iW (0 : Int))],[(1,⟨25,false,(pW β1 β2 a0)⟩)]⟩ rfl rfl ?_
   refine AWP.loopM (S := fun x_4 : Int => ⟨[(1,.ptr 1 0),(3,iW (a0.Pq.length : Int)),(4,iW x_4)],[(1,⟨25,false,(pW β1 β2 a0)⟩)]⟩) (x := (0 : Int)) (fun nx_5 x_4 h => ?_) h
   unfold m8_L1 at h
   refine AWP.seq ?_
   refine AWP.sv (.cons (.move (l1 rfl) (.t rfl))<| .cons (.move (l1 rfl) (.t rfl))<| .cons (.lss (l1 rfl) (.t rfl) (.t rfl))<| .nil _ _ _) ⟨[(1,.ptr 1 0),(3,iW (a0.Pq.length : Int)),(4,iW x_4),(27,bW (decide (x_4 < (a0.Pq.length : Int))))],[(1,⟨25,false,(pW β1 β2 a0)⟩)]⟩ rfl rfl ?_
   refine AWP.cond (.t rfl) (fun hc => ?_) (fun hc => ?_)
   ·have h := iteT hc h
    refine AWP.skip ?_
    refine AWP.seq ?_
    refine AWP.block ?_
    obtain ⟨y_6,hy_6,h⟩ := bindS h
    refine AWP.sv (.cons (.fieldP (l1 rfl) (.t rfl) fld25_0)<| .cons (.loadP (l1 rfl) (.t rfl) one22 rfl rfl rfl)<| .cons (.move (l1 rfl) (.t rfl))<| .cons (.indexRd (enc := e50) (l1 rfl) (.t rfl) (.t rfl) Tryz.underlying22 sz51 encR50_len rfl hy_6)<| .cons (.loadRA (out := [iW y_6.X,iW y_6.Y]) (l1 rfl) (.t rfl) agg51 (Nat.le_of_eq (Eq.symm (encR50_len _))) rfl)<| .cons (.alloc (t := 2) (k := ⟨51,false,[iW (0 : Int),iW (0 : Int)]⟩) (l1 rfl) (nm rfl) zero51 rfl rfl)<| .cons (.storePA (.t rfl) (.t rfl) sz51 rfl rfl (le1 rfl) (one_lit rfl) (by intro h; cases h) rfl)<| .nil _ _ _) ⟨[(1,.ptr 1 0),(3,iW (a0.Pq.length : Int)),(4,iW x_4),(5,.ptr 2 0)],[(2,⟨51,false,[iW y_6.X,iW y_6.Y]⟩),(1,⟨25,false,(pW β1 β2 a0)⟩)]⟩ rfl rfl ?_
    refine AWP.sv (.cons (.fieldP (l1 rfl) (.t rfl) fld51_0)<| .cons (.loadP (l1 rfl) (.t rfl) one3 rfl rfl rfl)<| .cons (.lss (l1 rfl) (.t rfl) (.const _ _ _))<| .cons (.move (l1 rfl) (.t rfl))<| .guard (j := 3) (dj := 38) rfl (l1 rfl) rfl (l1 rfl) (fun hg => .fieldP (l1 rfl) (.t rfl) fld51_0)<| .guard (j := 3) (dj := 38) rfl (l1 rfl) rfl (l1 rfl) (fun hg => .loadP (l1 rfl) (.gd hg (.t rfl)) one3 rfl rfl rfl)<| .guard (j := 3) (dj := 38) rfl (l1 rfl) rfl (l1 rfl) (fun hg => .gtr (l1 rfl) (.gd hg (.t rfl)) (.const _ _ _))<| .cons (.pickOr (l1 rfl) (.t rfl) (.const _ _ _) (.t rfl))<| .cons (.move (l1 rfl) (.t rfl))<| .guard (j := 8) (dj := 43) rfl (l1 rfl) rfl (l1 rfl) (fun hg => .fieldP (l1 rfl) (.t rfl) fld51_1)<| .guard (j := 8) (dj := 43) rfl (l1 rfl) rfl (l1 rfl) (fun hg => .loadP (l1 rfl) (.gd hg (.t rfl)) one3 rfl rfl rfl)<| .guard (j := 8) (dj := 43) rfl (l1 rfl) rfl (l1 rfl) (fun hg => .lss (l1 rfl) (.gd hg (.t rfl)) (.const _ _ _))<| .cons (.pickOr (l1 rfl) (.t rfl) (.const _ _ _) (.t rfl))<| .cons (.move (l1 rfl) (.t rfl))<| .guard (j := 13) (dj := 48) rfl (l1 rfl) rfl (l1 rfl) (fun hg => .fieldP (l1 rfl) (.t rfl) fld51_1)<| .guard (j := 13) (dj := 48) rfl (l1 rfl) rfl (l1 rfl) (fun hg => .loadP (l1 rfl) (.gd hg (.t rfl)) one3 rfl rfl rfl)<| .guard (j := 13) (dj := 48) rfl (l1 rfl) rfl (l1 rfl) (fun hg => .gtr (l1 rfl) (.gd hg (.t rfl)) (.const _ _ _))<| .cons (.pickOr (l1 rfl) (.t rfl) (.const _ _ _) (.t rfl))<| .nil _ _ _) ⟨[(1,.ptr 1 0),(3,iW (a0.Pq.length : Int)),(4,iW x_4),(52,bW ((((decide (y_6.X < (-8000 : Int))) || (decide ((8000 : Int) < y_6.X))) || (decide (y_6.Y < (-8000 : Int)))) || (decide ((8000 : Int) < y_6.Y))))],[(1,⟨25,false,(pW β1 β2 a0)⟩)]⟩ rfl rfl ?_
    refine AWP.cond (.t rfl) (fun hc => ?_) (fun hc => ?_)
    ·have h := iteT hc h
     refine AWP.sr (.cons (.assign (l1 rfl) (.const _ _ _))<| .nil _ _ _) ?_
     refine AWP.ret ?_
     obtain rfl := Option.some.inj h
     refine retJ (Res.vc (s' := ⟨[(2,bW false)],[]⟩) (VC.sub (.of rfl) (.n _)) ?_)
     refine Res.drop (H := []) rfl ?_
     exact Res.of rfl (.cons (.tmp rfl) (.nil)) rfl rfl
    ·have h := iteF hc h
     refine AWP.skip ?_
     obtain ⟨t4_7,ht4_7,h⟩ := letS h
     refine AWP.rg (.cons (.move (l1 rfl) (.t rfl))<| .cons (.add (l1 rfl) (.t rfl) (.const _ _ _))<| .cons (.assign (l1 rfl) (.t rfl))<| .nil _ _ _) ?_
     exact endJ t4_7 h (by subst ht4_7; exact VC.sub (.of rfl) (.of rfl))
   ·have h := iteF hc h
    refine AWP.exit ?_
    exact endJ () h (VC.sub (.of rfl) (.of rfl))
theorem c10F (n : Nat) : ∀ (f : Nat) {β2 : Bool} (a0 : R30) {r : R41},m10F n f a0 = some r → Spec Tryz.prog 10 [] [.agg (tW encK30 false β2 a0.Sp a0.Kd a0.Lf)] [] (.agg (tW encK41 false β2 r.Sp r.Kd r.Lf)) [] := by
 intro f
 induction f with
 | zero =>
  intro β2 a0 r h
  cases (show (none : Option R41) = some r from h)
 | succ f ih =>
 intro β2 a0 r h
 replace h : m10B n (m10F n f) a0 = some r := h
 generalize m10F n f = rc_0 at h ih
 refine Spec.of (fn := Tryz.f10) Tryz.func10 Tryz.ntmps10 rfl rfl (le1 rfl) (fun w0 Zs Zb T0 ι0 => ?_)
 unfold m10B at h
 refine AWP.sv (.cons (.box (t := 1) (n := 3) (l1 rfl) (nm rfl) (.t rfl) (by first | exact ⟨rfl,rfl⟩ | rfl) rfl)<| .cons (.alloc (t := 2) (k := ⟨42,false,[iW (0 : Int),.sc (.slice none 0 0),.sc (.slice none 0 0)]⟩) (l1 rfl) (nm rfl) zero42 rfl rfl)<| .nil _ _ _) ⟨[(1,.ptr 1 0),(2,.ptr 2 0)],[(2,⟨42,false,[iW (0 : Int),.sc (.slice none 0 0),.sc (.slice none 0 0)]⟩),(1,⟨31,false,(tW encK30 false β2 a0.Sp a0.Kd a0.Lf)⟩)]⟩ rfl rfl ?_
 refine AWP.sv (.cons (.fieldP (l1 rfl) (.t rfl) fld31_0)<| .cons (.loadP (l1 rfl) (.t rfl) one3 rfl rfl rfl)<| .cons (.fieldP (l1 rfl) (.t rfl) fld31_2)<| .cons (.loadP (l1 rfl) (.t rfl) one28 rfl rfl rfl)<| .cons (.buildO (offs := [(0,1),(1,1),(2,1)]) (l1 rfl) (.cons (.t rfl) (by first | exact ⟨rfl,rfl⟩ | rfl) (.cons (.t rfl) (by first | exact ⟨rfl,rfl⟩ | rfl) (.nil))) zero42 offs42 rfl)<| .cons (.alloc (t := 3) (k := ⟨42,false,[iW (0 : Int),.sc (.slice none 0 0),.sc (.slice none 0 0)]⟩) (l1 rfl) (nm rfl) zero42 rfl rfl)<| .cons (.storePA (.t rfl) (.t rfl) sz42 rfl rfl (le1 rfl) (one_lit rfl) (by intro h; cases h) rfl)<| .nil _ _ _) ⟨[(1,.ptr 1 0),(2,.ptr 2 0),(3,.ptr 3 0)],[(3,⟨42,false,[iW a0.Sp,.sc (.slice none 0 0),rW β2 a0.Lf eW]⟩),(2,⟨42,false,[iW (0 : Int),.sc (.slice none 0 0),.sc (.slice none 0 0)]⟩),(1,⟨31,false,(tW encK30 false β2 a0.Sp a0.Kd a0.Lf)⟩)]⟩ rfl rfl ?_
 refine AWP.seq ?_
 refine AWP.sv (.cons (.fieldP (l1 rfl) (.t rfl) fld31_1)<| .cons (.loadP (l1 rfl) (.t rfl) one29 rfl rfl rfl)<| .cons (.lenRd (l1 rfl) (.t rfl) Tryz.underlying29)<| .cons (.move (l1 rfl) (.const _ _ _))<| .nil _ _ _) ⟨[(2,.ptr 2 0),(3,.ptr 3 0),(12,rW false a0.Kd encK30),(13,iW (a0.Kd.length : Int)),(14,iW (0 : Int))],[(3,⟨42,false,[iW a0.Sp,.sc (.slice none 0 0),rW β2 a0.Lf eW]⟩),(2,⟨42,false,[iW (0 : Int),.sc (.slice none 0 0),.sc (.slice none 0 0)]⟩)]⟩ rfl rfl ?_
 refine AWP.joinB' (S := fun p_17 : (List K41) => ⟨[(2,.ptr 2 0),(3,.ptr 3 0)],[(2,⟨42,false,[iW (0 : Int),.sc (.slice none 0 0),.sc (.slice none 0 0)]⟩),(3,⟨42,false,[iW a0.Sp,.own 4 3 0 p_17.length,rW β2 a0.Lf eW]⟩),(4,⟨42,true,p_17.flatMap encK41⟩)]⟩) h (fun p_17 h => ?_) (fun k_18 h => ?_)
 ·refine AWP.sr (.cons (.loadPA (l1 rfl) (.t rfl) agg42 rfl rfl rfl rfl)<| .cons (.storePA (.t rfl) (.t rfl) sz42 rfl rfl (le1 rfl) (one_lit rfl) (by intro h; cases h) rfl)<| .nil _ _ _) ?_
  refine AWP.ret ?_
  obtain rfl := Option.some.inj h
  refine retJ (Res.vc (s' := ⟨[(2,.ptr 2 0)],[(2,⟨42,false,[iW a0.Sp,rW false p_17 encK41,rW β2 a0.Lf eW]⟩)]⟩) (VC.trans (VC.trans (VC.freeze (t := 4) rfl) (VC.cellEq (t := 2) (i := 1) (v' := rW false p_17 encK41) rfl rfl rfl (frz_rd (enc := encK41) encK41_len p_17 false))) (VC.sub (.of rfl) (.of rfl))) ?_)
  refine Res.drop (H := [(2,⟨42,false,[iW a0.Sp,rW false p_17 encK41,rW β2 a0.Lf eW]⟩)]) rfl ?_
  exact Res.of rfl (.cons (.cell rfl agg42 rfl rfl rfl rfl) (.nil)) rfl rfl
 ·refine AWP.vc (VC.trans (VC.newTag (t := 4) (E := 42) (nm rfl)) (VC.cell (t := 3) (i := 1) (v' := .own 4 3 0 0) rfl rfl rfl (fun _ _ _ _ h => nil_own h))) ?_
  refine AWP.vs ⟨[(2,.ptr 2 0),(3,.ptr 3 0),(12,rW false a0.Kd encK30),(13,iW (a0.Kd.length : Int)),(14,iW (0 : Int))],[(2,⟨42,false,[iW (0 : Int),.sc (.slice none 0 0),.sc (.slice none 0 0)]⟩),(3,⟨42,false,[iW a0.Sp,.own 4 3 0 ([] : List K41).length,rW β2 a0.Lf eW]⟩),(4,⟨42,true,([] : List K41).flatMap encK41⟩)]⟩ rfl rfl ?_
  refine AWP.loopM (S := fun x_11 : Int × (List K41) => ⟨[(2,.ptr 2 0),(3,.ptr 3 0),(12,rW false a0.Kd encK30),(13,iW (a0.Kd.length : Int)),(14,iW x_11.1)],[(2,⟨42,false,[iW (0 : Int),.sc (.slice none 0 0),.sc (.slice none 0 0)]⟩),(3,⟨42,false,[iW a0.Sp,.own 4 3 0 x_11.2.length,rW β2 a0.Lf eW]⟩),(4,⟨42,true,x_11.2.flatMap encK41⟩)]⟩) (x := ((0 : Int),([] : List K41))) (fun nx_12 x_11 h => ?_) h
  unfold m10_L1 at h
  refine AWP.sv (.cons (.lss (l1 rfl) (.t rfl) (.t rfl))<| .nil _ _ _) ⟨[(2,.ptr 2 0),(3,.ptr 3 0),(12,rW false a0.Kd encK30),(13,iW (a0.Kd.length : Int)),(14,iW x_11.1),(15,bW (decide (x_11.1 < (a0.Kd.length : Int))))],[(2,⟨42,false,[iW (0 : Int),.sc (.slice none 0 0),.sc (.slice none 0 0)]⟩),(3,⟨42,false,[iW a0.Sp,.own 4 3 0 x_11.2.length,rW β2 a0.Lf eW]⟩),(4,⟨42,true,x_11.2.flatMap encK41⟩)]⟩ rfl rfl ?_
  refine AWP.seq ?_
  refine AWP.cond (.t rfl) (fun hc => ?_) (fun hc => ?_)
  ·have h := iteT hc h
   refine AWP.skip ?_
   refine AWP.seq ?_
   refine AWP.block ?_
   obtain ⟨y_13,hy_13,h⟩ := bindS h
   refine AWP.sv (.cons (.indexRdC (enc := encK30) (l1 rfl) (.t rfl) (.t rfl) Tryz.underlying29 sz31 encK30_len rfl hy_13 (encK30_out _))<| .cons (.loadRA (out := (tW encK30 false false y_13.out.Sp y_13.out.Kd y_13.out.Lf)) (l1 rfl) (.t rfl) agg31 (le1 rfl) rfl)<| .cons (.alloc (t := 5) (k := ⟨31,false,[iW (0 : Int),.sc (.slice none 0 0),.sc (.slice none 0 0)]⟩) (l1 rfl) (nm rfl) zero31 rfl rfl)<| .cons (.storePA (.t rfl) (.t rfl) sz31 rfl rfl (le1 rfl) (one_lit rfl) (by intro h; cases h) rfl)<| .nil _ _ _) ⟨[(2,.ptr 2 0),(3,.ptr 3 0),(12,rW false a0.Kd encK30),(13,iW (a0.Kd.length : Int)),(14,iW x_11.1),(5,.ptr 5 0)],[(5,⟨31,false,(tW encK30 false false y_13.out.Sp y_13.out.Kd y_13.out.Lf)⟩),(2,⟨42,false,[iW (0 : Int),.sc (.slice none 0 0),.sc (.slice none 0 0)]⟩),(3,⟨42,false,[iW a0.Sp,.own 4 3 0 x_11.2.length,rW β2 a0.Lf eW]⟩),(4,⟨42,true,x_11.2.flatMap encK41⟩)]⟩ rfl rfl ?_
   obtain ⟨y_14,hy_14,h⟩ := bindS h
   obtain ⟨l4_15,hl4_15,h⟩ := bindS h
   refine AWP.dw mixed [(2,.ptr 2 0),(3,.ptr 3 0),(5,.ptr 5 0),(12,rW false a0.Kd encK30),(13,iW (a0.Kd.length : Int)),(14,iW x_11.1)] [(7,[5])] [dO [1] 18 (.ptr 3 (0 + 1)),dO [6] 19 (.own 4 3 0 x_11.2.length),dO [2] 20 (.agg (tW encK30 false false y_13.out.Sp y_13.out.Kd y_13.out.Lf)),⟨[8],0,2,some (21,.agg (tW encK41 false false y_14.Sp y_14.Kd y_14.Lf)),[]⟩,⟨[9],0,2,some (22,rW false ([(K41.of y_14)] : List K41) encK41),[]⟩,⟨[7,10],0,0,some (23,.own 4 3 0 l4_15.length),[4]⟩,⟨[1],1,1,some (24,.ptr 3 (0 + 1)),[]⟩,⟨[12,11],1,1,none,[]⟩] [5,7] [[(5,⟨31,false,(tW encK30 false false y_13.out.Sp y_13.out.Kd y_13.out.Lf)⟩),(2,⟨42,false,[iW (0 : Int),.sc (.slice none 0 0),.sc (.slice none 0 0)]⟩),(3,⟨42,false,[iW a0.Sp,.own 4 3 0 x_11.2.length,rW β2 a0.Lf eW]⟩),(4,⟨42,true,x_11.2.flatMap encK41⟩)],[(4,⟨42,true,l4_15.flatMap encK41⟩),(5,⟨31,false,(tW encK30 false false y_13.out.Sp y_13.out.Kd y_13.out.Lf)⟩),(2,⟨42,false,[iW (0 : Int),.sc (.slice none 0 0),.sc (.slice none 0 0)]⟩),(3,⟨42,false,[iW a0.Sp,.any,rW β2 a0.Lf eW]⟩)],[(4,⟨42,true,l4_15.flatMap encK41⟩),(5,⟨31,false,(tW encK30 false false y_13.out.Sp y_13.out.Kd y_13.out.Lf)⟩),(2,⟨42,false,[iW (0 : Int),.sc (.slice none 0 0),.sc (.slice none 0 0)]⟩),(3,⟨42,false,[iW a0.Sp,.own 4 3 0 l4_15.length,rW β2 a0.Lf eW]⟩)]] [[],[0,1],[],[2,3],[2,4],[0,5],[0,6],[0,7]] [0,1,3,4,5] rfl rfl (by kernel_rfl) rfl (.read rfl (.c (.put (fun E hE => .fieldP (l1 rfl) (hE.t 0 rfl) fld42_1)) (.n))<| .read rfl (.c (.put (fun E hE => .loadP (l1 rfl) (hE.t 0 rfl) one40 rfl rfl rfl)) (.n))<| .read rfl (.c (.put (fun E hE => .loadPA (l1 rfl) (hE.t 0 rfl) agg31 rfl rfl rfl rfl)) (.n))<| .p rfl (fun _ q _ => .call0 (bw := false) (l1 rfl) (ih (β2 := false) (R30.mk y_13.out.Sp y_13.out.Kd y_13.out.Lf) hy_14) (.cons (q.t 0 rfl) (.ren rfl) (.nil)) rfl)<| .p rfl (fun _ q _ => .frzAny (fun t ht => AStep.buildSlice (t := t) (out := ([(K41.of y_14)] : List K41).flatMap encK41) (l1 rfl) ht (.cons (q.t 0 rfl) (by first | exact ⟨rfl,rfl⟩ | rfl) (.nil)) Tryz.underlying40 zero42 el42 (by decide) (by decide) (Eq.trans rfl (congrArg some (encK41_of1 y_14).symm)) (still_all encK41_still _)) rfl encK41_len)<| .turn rfl rfl rfl rfl rfl (.new (fun E hE => .appK (enc := encK41) (l1 rfl) (nm rfl) (hE.t 0 rfl) (Src.rd (hE.t 1 rfl) (flatMap_length encK41_len _) (one_all encK41_one _) (.inl rfl)) Tryz.underlying40 ⟨_,Tryz.underlying40,by intro k hk; cases hk⟩ el42 rfl encK41_len rfl rfl (by decide) hl4_15) rfl)<| .read rfl (.c (.put (fun E hE => .fieldP (l1 rfl) (hE.t 0 rfl) fld42_1)) (.n))<| .turn rfl rfl rfl rfl rfl (.store (fun E hE => .storeP (hE.t 0 rfl) (hE.t 1 rfl) sz40 rfl (l1 rfl) rfl (by intro h; cases h) rfl) rfl)<| .nil _) rfl rfl ?_
   refine AWP.vs ⟨[(2,.ptr 2 0),(3,.ptr 3 0),(12,rW false a0.Kd encK30),(13,iW (a0.Kd.length : Int)),(14,iW x_11.1)],[(4,⟨42,true,l4_15.flatMap encK41⟩),(2,⟨42,false,[iW (0 : Int),.sc (.slice none 0 0),.sc (.slice none 0 0)]⟩),(3,⟨42,false,[iW a0.Sp,.own 4 3 0 l4_15.length,rW β2 a0.Lf eW]⟩)]⟩ rfl rfl ?_
   obtain ⟨t14_16,ht14_16,h⟩ := letS h
   refine AWP.rg (.cons (.add (l1 rfl) (.t rfl) (.const _ _ _))<| .cons (.move (l1 rfl) (.t rfl))<| .nil _ _ _) ?_
   exact endJ (t14_16,l4_15) h (by subst ht14_16; exact VC.sub (.of rfl) (.of rfl))
  ·have h := iteF hc h
   refine AWP.exit ?_
   exact endJ x_11.2 h (VC.sub (.of rfl) (.of rfl))
theorem c10 (n : Nat) {β2 : Bool} (a0 : R30) {r : R41} (h : m10 n a0 = some r) : Spec Tryz.prog 10 [] [.agg (tW encK30 false β2 a0.Sp a0.Kd a0.Lf)] [] (.agg (tW encK41 false β2 r.Sp r.Kd r.Lf)) [] := c10F n n a0 h
theorem c58 {β1 : Bool} {β2 : Bool} {β3 : Bool} (n : Nat) (a0 : R24) (a1 : (List Int)) {r : Bool} (h : m58 n a0 a1 = some r) : Spec Tryz.prog 58 [] [.agg (pW β1 β2 a0),rW β3 a1 eW] [] (bW r) [] := by
 refine Spec.of (fn := Tryz.f58) Tryz.func58 Tryz.ntmps58 rfl rfl (le1 rfl) (fun w0 Zs Zb T0 ι0 => ?_)
 unfold m58 at h
 refine AWP.sv (.cons (.box (t := 1) (n := 2) (l1 rfl) (nm rfl) (.t rfl) (by first | exact ⟨rfl,rfl⟩ | rfl) rfl)<| .cons (.assign (l1 rfl) (.const _ _ _))<| .nil _ _ _) ⟨[(1,rW β3 a1 eW),(2,.ptr 1 0)],[(1,⟨25,false,(pW β1 β2 a0)⟩)]⟩ rfl rfl ?_
 refine AWP.seq ?_
 obtain ⟨y_1,hy_1,h⟩ := bindS h
 refine AWP.sv (.cons (.move (l1 rfl) (.t rfl))<| .cons (.lenRd (l1 rfl) (.t rfl) Tryz.underlying28)<| .cons (.fieldP (l1 rfl) (.t rfl) fld25_0)<| .cons (.loadP (l1 rfl) (.t rfl) one22 rfl rfl rfl)<| .cons (.lenRd (l1 rfl) (.t rfl) Tryz.underlying22)<| .cons (.neq (l1 rfl) (.t rfl) (.t rfl))<| .cons (.move (l1 rfl) (.t rfl))<| .guard (j := 6) (dj := 12) rfl (l1 rfl) rfl (l1 rfl) (fun hg => .move (l1 rfl) (.t rfl))<| .guard (j := 6) (dj := 12) rfl (l1 rfl) rfl (l1 rfl) (fun hg => .indexRd (enc := eW) (l1 rfl) (.gd hg (.t rfl)) (.const _ _ _) Tryz.underlying28 sz3 (encI_len .i64) rfl (gdB hy_1 hg))<| .guard (j := 6) (dj := 12) rfl (l1 rfl) rfl (l1 rfl) (fun hg => .loadR (v := iW y_1) (l1 rfl) (.gd hg (.t rfl)) one3 rfl)<| .guard (j := 6) (dj := 12) rfl (l1 rfl) rfl (l1 rfl) (fun hg => .neq (l1 rfl) (.gd hg (.t rfl)) (.const _ _ _))<| .cons (.pickOr (l1 rfl) (.t rfl) (.const _ _ _) (.t rfl))<| .nil _ _ _) ⟨[(1,rW β3 a1 eW),(2,.ptr 1 0),(17,bW ((!decide ((a1.length : Int) = (a0.Pq.length : Int))) || (!decide (y_1 = (0 : Int)))))],[(1,⟨25,false,(pW β1 β2 a0)⟩)]⟩ rfl rfl ?_
 refine AWP.cond (.t rfl) (fun hc => ?_) (fun hc => ?_)
 ·have h := iteT hc h
  refine AWP.sr (.cons (.assign (l1 rfl) (.const _ _ _))<| .nil _ _ _) ?_
  refine AWP.ret ?_
  obtain rfl := Option.some.inj h
  refine retJ (Res.vc (s' := ⟨[(4,bW false)],[]⟩) (VC.sub (.of rfl) (.n _)) ?_)
  refine Res.drop (H := []) rfl ?_
  exact Res.of rfl (.cons (.tmp rfl) (.nil)) rfl rfl
 ·have h := iteF hc h
  refine AWP.skip ?_
  refine AWP.seq ?_
  refine AWP.sv (.cons (.assign (l1 rfl) (.const _ _ _))<| .nil _ _ _) ⟨[(1,rW β3 a1 eW),(2,.ptr 1 0),(5,iW (1 : Int))],[(1,⟨25,false,(pW β1 β2 a0)⟩)]⟩ rfl rfl ?_
  refine AWP.joinB' (S := fun p_15 : Unit => ⟨[],[]⟩) h (fun p_15 h => ?_) (fun k_16 h => ?_)
  ·refine AWP.sr (.cons (.assign (l1 rfl) (.const _ _ _))<| .nil _ _ _) ?_
   refine AWP.ret ?_
   obtain rfl := Option.some.inj h
   refine retJ (Res.vc (s' := ⟨[(4,bW true)],[]⟩) (VC.sub (.of rfl) (.n _)) ?_)
   refine Res.drop (H := []) rfl ?_
   exact Res.of rfl (.cons (.tmp rfl) (.nil)) rfl rfl
  ·refine AWP.vs ⟨[(1,rW β3 a1 eW),(2,.ptr 1 0),(5,iW (1 : Int))],[(1,⟨25,false,(pW β1 β2 a0)⟩)]⟩ rfl rfl ?_
   refine AWP.loopM (S := fun x_8 : Int => ⟨[(1,rW β3 a1 eW),(2,.ptr 1 0),(5,iW x_8)],[(1,⟨25,false,(pW β1 β2 a0)⟩)]⟩) (x := (1 : Int)) (fun nx_9 x_8 h => ?_) h
   unfold m58_L1 at h
   refine AWP.seq ?_
   refine AWP.sv (.cons (.move (l1 rfl) (.t rfl))<| .cons (.move (l1 rfl) (.t rfl))<| .cons (.lenRd (l1 rfl) (.t rfl) Tryz.underlying28)<| .cons (.lss (l1 rfl) (.t rfl) (.t rfl))<| .nil _ _ _) ⟨[(1,rW β3 a1 eW),(2,.ptr 1 0),(5,iW x_8),(21,bW (decide (x_8 < (a1.length : Int))))],[(1,⟨25,false,(pW β1 β2 a0)⟩)]⟩ rfl rfl ?_
   refine AWP.cond (.t rfl) (fun hc => ?_) (fun hc => ?_)
   ·have h := iteT hc h
    refine AWP.skip ?_
    refine AWP.seq ?_
    refine AWP.block ?_
    refine AWP.seq ?_
    obtain ⟨s_10,hs_10,h⟩ := bindS h
    obtain ⟨y_11,hy_11,h⟩ := bindS h
    obtain ⟨y_12,hy_12,h⟩ := bindS h
    obtain ⟨y_13,hy_13,h⟩ := bindS h
    refine AWP.dw mixed [(1,rW β3 a1 eW),(2,.ptr 1 0),(5,iW x_8),(21,bW (decide (x_8 < (a1.length : Int))))] [] [dO [1] 24 (.agg (pW β1 β2 a0)),dO [0] 25 (rW β3 a1 eW),dO [2] 26 (iW x_8),dO [5,6] 27 (rW β3 s_10 eW),dO [4,7] 28 (rW false y_11 eW),dO [0] 29 (rW β3 a1 eW),dO [2] 30 (iW x_8),dO [9,10] 31 (.rptr β3 [iW y_12]),dO [11] 32 (iW y_12),dO [8,12] 33 (bW y_13),dO [13] 34 (bW (!y_13))] [] [[(1,⟨25,false,(pW β1 β2 a0)⟩)]] [[],[],[],[1,3],[0,4],[],[],[5,7],[5,8],[0,9],[0,10]] [0,1,2,14] rfl rfl (by kernel_rfl) rfl (.r rfl rfl (fun _ q => .loadPA (l1 rfl) (q.t 0 rfl) agg25 rfl rfl rfl rfl)<| .p rfl (fun _ q _ => .move (l1 rfl) (q.t 0 rfl))<| .p rfl (fun _ q _ => .move (l1 rfl) (q.t 0 rfl))<| .p rfl (fun _ q _ => .slRd (enc := eW) (l1 rfl) (q.t 0 rfl) Tryz.underlying28 sz3 (encI_len .i64) rfl (.none _ _ _) (.some (q.t 1 rfl)) hs_10)<| .p rfl (fun _ q _ => .call0 (bw := false) (l1 rfl) (c25 (β1 := β1) (β2 := β2) (β3 := β3) n (R24.mk a0.Pq a0.Bq) s_10 hy_11) (.cons (q.t 0 rfl) (.ren rfl) (.cons (q.t 1 rfl) (.ren rfl) (.nil))) rfl)<| .p rfl (fun _ q _ => .move (l1 rfl) (q.t 0 rfl))<| .p rfl (fun _ q _ => .move (l1 rfl) (q.t 0 rfl))<| .p rfl (fun _ q _ => .indexRd (enc := eW) (l1 rfl) (q.t 0 rfl) (q.t 1 rfl) Tryz.underlying28 sz3 (encI_len .i64) rfl hy_12)<| .p rfl (fun _ q _ => .loadR (v := iW y_12) (l1 rfl) (q.t 0 rfl) one3 rfl)<| .p rfl (fun _ q _ => .call0 (bw := false) (l1 rfl) (c57 (β1 := false) n y_11 y_12 hy_13) (.cons (q.t 0 rfl) (.ren rfl) (.cons (q.t 1 rfl) (.ren rfl) (.nil))) rfl)<| .p rfl (fun _ q _ => .not (l1 rfl) (q.t 0 rfl))<| .nil _) rfl rfl ?_
    refine AWP.vs ⟨[(1,rW β3 a1 eW),(2,.ptr 1 0),(5,iW x_8),(34,bW (!y_13))],[(1,⟨25,false,(pW β1 β2 a0)⟩)]⟩ rfl rfl ?_
    refine AWP.cond (.t rfl) (fun hc => ?_) (fun hc => ?_)
    ·have h := iteT hc h
     refine AWP.sr (.cons (.assign (l1 rfl) (.const _ _ _))<| .nil _ _ _) ?_
     refine AWP.ret ?_
     obtain rfl := Option.some.inj h
     refine retJ (Res.vc (s' := ⟨[(4,bW false)],[]⟩) (VC.sub (.of rfl) (.n _)) ?_)
     refine Res.drop (H := []) rfl ?_
     exact Res.of rfl (.cons (.tmp rfl) (.nil)) rfl rfl
    ·have h := iteF hc h
     refine AWP.skip ?_
     obtain ⟨t5_14,ht5_14,h⟩ := letS h
     refine AWP.rg (.cons (.move (l1 rfl) (.t rfl))<| .cons (.add (l1 rfl) (.t rfl) (.const _ _ _))<| .cons (.assign (l1 rfl) (.t rfl))<| .nil _ _ _) ?_
     exact endJ t5_14 h (by subst ht5_14; exact VC.sub (.of rfl) (.of rfl))
   ·have h := iteF hc h
    refine AWP.exit ?_
    exact endJ () h (VC.sub (.n _) (.n _))
theorem c83 (n : Nat) (a0 : R50) (a1 : R50) {r : Int} (h : m83 n a0 a1 = some r) : Spec Tryz.prog 83 [] [.agg [iW a0.X,iW a0.Y],.agg [iW a1.X,iW a1.Y]] [] (iW r) [] := by
 refine Spec.of (fn := Tryz.f83) Tryz.func83 Tryz.ntmps83 rfl rfl (le1 rfl) (fun w0 Zs Zb T0 ι0 => ?_)
 unfold m83 at h
 refine AWP.sv (.cons (.box (t := 1) (n := 2) (l1 rfl) (nm rfl) (.t rfl) (by first | exact ⟨rfl,rfl⟩ | rfl) rfl)<| .cons (.box (t := 2) (n := 2) (l1 rfl) (nm rfl) (.t rfl) (by first | exact ⟨rfl,rfl⟩ | rfl) rfl)<| .cons (.assign (l1 rfl) (.const _ _ _))<| .nil _ _ _) ⟨[(2,.ptr 1 0),(3,.ptr 2 0)],[(2,⟨51,false,[iW a1.X,iW a1.Y]⟩),(1,⟨51,false,[iW a0.X,iW a0.Y]⟩)]⟩ rfl rfl ?_
 obtain ⟨t4_1,ht4_1,h⟩ := letS h
 refine AWP.sr (.cons (.fieldP (l1 rfl) (.t rfl) fld51_0)<| .cons (.loadP (l1 rfl) (.t rfl) one3 rfl rfl rfl)<| .cons (.fieldP (l1 rfl) (.t rfl) fld51_0)<| .cons (.loadP (l1 rfl) (.t rfl) one3 rfl rfl rfl)<| .cons (.sub (l1 rfl) (.t rfl) (.t rfl))<| .cons (.fieldP (l1 rfl) (.t rfl) fld51_0)<| .cons (.loadP (l1 rfl) (.t rfl) one3 rfl rfl rfl)<| .cons (.fieldP (l1 rfl) (.t rfl) fld51_0)<| .cons (.loadP (l1 rfl) (.t rfl) one3 rfl rfl rfl)<| .cons (.sub (l1 rfl) (.t rfl) (.t rfl))<| .cons (.fieldP (l1 rfl) (.t rfl) fld51_1)<| .cons (.loadP (l1 rfl) (.t rfl) one3 rfl rfl rfl)<| .cons (.fieldP (l1 rfl) (.t rfl) fld51_1)<| .cons (.loadP (l1 rfl) (.t rfl) one3 rfl rfl rfl)<| .cons (.sub (l1 rfl) (.t rfl) (.t rfl))<| .cons (.fieldP (l1 rfl) (.t rfl) fld51_1)<| .cons (.loadP (l1 rfl) (.t rfl) one3 rfl rfl rfl)<| .cons (.fieldP (l1 rfl) (.t rfl) fld51_1)<| .cons (.loadP (l1 rfl) (.t rfl) one3 rfl rfl rfl)<| .cons (.sub (l1 rfl) (.t rfl) (.t rfl))<| .cons (.max4 (l1 rfl) (.t rfl) (.t rfl) (.t rfl) (.t rfl))<| .cons (.assign (l1 rfl) (.t rfl))<| .nil _ _ _) ?_
 refine AWP.ret ?_
 obtain rfl := Option.some.inj h
 refine retJ (Res.vc (s' := ⟨[(4,iW t4_1)],[]⟩) (by subst ht4_1; exact VC.sub (.of rfl) (.n _)) ?_)
 refine Res.drop (H := []) rfl ?_
 exact Res.of rfl (.cons (.tmp rfl) (.nil)) rfl rfl
theorem c82 {β1 : Bool} {β2 : Bool} {β3 : Bool} (n : Nat) (a0 : R24) (a1 : (List Int)) {r : Int} (h : m82 n a0 a1 = some r) : Spec Tryz.prog 82 [] [.agg (pW β1 β2 a0),rW β3 a1 eW] [] (iW r) [] := by
 refine Spec.of (fn := Tryz.f82) Tryz.func82 Tryz.ntmps82 rfl rfl (le1 rfl) (fun w0 Zs Zb T0 ι0 => ?_)
 unfold m82 at h
 refine AWP.sv (.cons (.box (t := 1) (n := 2) (l1 rfl) (nm rfl) (.t rfl) (by first | exact ⟨rfl,rfl⟩ | rfl) rfl)<| .cons (.assign (l1 rfl) (.const _ _ _))<| .nil _ _ _) ⟨[(1,rW β3 a1 eW),(2,.ptr 1 0)],[(1,⟨25,false,(pW β1 β2 a0)⟩)]⟩ rfl rfl ?_
 refine AWP.sv (.cons (.assign (l1 rfl) (.const _ _ _))<| .nil _ _ _) ⟨[(1,rW β3 a1 eW),(2,.ptr 1 0),(5,iW (0 : Int))],[(1,⟨25,false,(pW β1 β2 a0)⟩)]⟩ rfl rfl ?_
 refine AWP.seq ?_
 refine AWP.sv (.cons (.assign (l1 rfl) (.const _ _ _))<| .nil _ _ _) ⟨[(1,rW β3 a1 eW),(2,.ptr 1 0),(5,iW (0 : Int)),(6,iW (1 : Int))],[(1,⟨25,false,(pW β1 β2 a0)⟩)]⟩ rfl rfl ?_
 refine AWP.joinB' (S := fun p_18 : Int => ⟨[(5,iW p_18)],[]⟩) h (fun p_18 h => ?_) (fun k_19 h => ?_)
 ·refine AWP.sr (.cons (.move (l1 rfl) (.t rfl))<| .cons (.assign (l1 rfl) (.t rfl))<| .nil _ _ _) ?_
  refine AWP.ret ?_
  obtain rfl := Option.some.inj h
  refine retJ (Res.vc (s' := ⟨[(4,iW p_18)],[]⟩) (VC.sub (.of rfl) (.n _)) ?_)
  refine Res.drop (H := []) rfl ?_
  exact Res.of rfl (.cons (.tmp rfl) (.nil)) rfl rfl
 ·refine AWP.vs ⟨[(1,rW β3 a1 eW),(2,.ptr 1 0),(5,iW (0 : Int)),(6,iW (1 : Int))],[(1,⟨25,false,(pW β1 β2 a0)⟩)]⟩ rfl rfl ?_
  refine AWP.loopM (S := fun x_9 : Int × Int => ⟨[(1,rW β3 a1 eW),(2,.ptr 1 0),(5,iW x_9.1),(6,iW x_9.2)],[(1,⟨25,false,(pW β1 β2 a0)⟩)]⟩) (x := ((0 : Int),(1 : Int))) (fun nx_10 x_9 h => ?_) h
  unfold m82_L1 at h
  refine AWP.seq ?_
  refine AWP.sv (.cons (.move (l1 rfl) (.t rfl))<| .cons (.move (l1 rfl) (.t rfl))<| .cons (.lenRd (l1 rfl) (.t rfl) Tryz.underlying28)<| .cons (.lss (l1 rfl) (.t rfl) (.t rfl))<| .nil _ _ _) ⟨[(1,rW β3 a1 eW),(2,.ptr 1 0),(5,iW x_9.1),(6,iW x_9.2),(10,bW (decide (x_9.2 < (a1.length : Int))))],[(1,⟨25,false,(pW β1 β2 a0)⟩)]⟩ rfl rfl ?_
  refine AWP.cond (.t rfl) (fun hc => ?_) (fun hc => ?_)
  ·have h := iteT hc h
   refine AWP.skip ?_
   refine AWP.seq ?_
   refine AWP.block ?_
   obtain ⟨y_11,hy_11,h⟩ := bindS h
   obtain ⟨y_12,hy_12,h⟩ := bindS h
   obtain ⟨y_13,hy_13,h⟩ := bindS h
   obtain ⟨y_14,hy_14,h⟩ := bindS h
   obtain ⟨y_15,hy_15,h⟩ := bindS h
   obtain ⟨t5_16,ht5_16,h⟩ := letS h
   refine AWP.dw mixed [(1,rW β3 a1 eW),(2,.ptr 1 0),(5,iW x_9.1),(6,iW x_9.2),(10,bW (decide (x_9.2 < (a1.length : Int))))] [(2,[20])] [dO [2] 13 (iW x_9.1),dO [1] 14 (.ptr 1 (0 + 0)),dO [6] 15 (rW β1 a0.Pq e50),dO [0] 16 (rW β3 a1 eW),dO [3] 17 (iW x_9.2),dO [9] 18 (iW (IntKind.wrap .i64 (x_9.2 - (1 : Int)))),dO [8,10] 19 (.rptr β3 [iW y_11]),dO [11] 20 (iW y_11),dO [7,12] 21 (.rptr β1 [iW y_12.X,iW y_12.Y]),dO [13] 22 (.agg [iW y_12.X,iW y_12.Y]),dO [1] 23 (.ptr 1 (0 + 0)),dO [15] 24 (rW β1 a0.Pq e50),dO [0] 25 (rW β3 a1 eW),dO [3] 26 (iW x_9.2),dO [17,18] 27 (.rptr β3 [iW y_13]),dO [19] 28 (iW y_13),dO [16,20] 29 (.rptr β1 [iW y_14.X,iW y_14.Y]),dO [21] 30 (.agg [iW y_14.X,iW y_14.Y]),dO [14,22] 31 (iW y_15),dO [5,23] 32 (iW (IntKind.wrap .i64 (x_9.1 + y_15))),dO [24] 5 (iW (IntKind.wrap .i64 (x_9.1 + y_15)))] [] [[(1,⟨25,false,(pW β1 β2 a0)⟩)]] [[],[],[1,2],[],[],[4,5],[3,6],[3,7],[1,8],[1,9],[],[10,11],[],[],[12,14],[12,15],[10,16],[10,17],[1,18],[0,19],[0,20]] [0,1,25,3] rfl rfl (by kernel_rfl) rfl (.p rfl (fun _ q _ => .move (l1 rfl) (q.t 0 rfl))<| .r rfl rfl (fun _ q => .fieldP (l1 rfl) (q.t 0 rfl) fld25_0)<| .r rfl rfl (fun _ q => .loadP (l1 rfl) (q.t 0 rfl) one22 rfl rfl rfl)<| .p rfl (fun _ q _ => .move (l1 rfl) (q.t 0 rfl))<| .p rfl (fun _ q _ => .move (l1 rfl) (q.t 0 rfl))<| .p rfl (fun _ q _ => .sub (l1 rfl) (q.t 0 rfl) (.const _ _ _))<| .p rfl (fun _ q _ => .indexRd (enc := eW) (l1 rfl) (q.t 0 rfl) (q.t 1 rfl) Tryz.underlying28 sz3 (encI_len .i64) rfl hy_11)<| .p rfl (fun _ q _ => .loadR (v := iW y_11) (l1 rfl) (q.t 0 rfl) one3 rfl)<| .p rfl (fun _ q _ => .indexRd (enc := e50) (l1 rfl) (q.t 0 rfl) (q.t 1 rfl) Tryz.underlying22 sz51 encR50_len rfl hy_12)<| .p rfl (fun _ q _ => .loadRA (out := [iW y_12.X,iW y_12.Y]) (l1 rfl) (q.t 0 rfl) agg51 (Nat.le_of_eq (Eq.symm (encR50_len _))) rfl)<| .r rfl rfl (fun _ q => .fieldP (l1 rfl) (q.t 0 rfl) fld25_0)<| .r rfl rfl (fun _ q => .loadP (l1 rfl) (q.t 0 rfl) one22 rfl rfl rfl)<| .p rfl (fun _ q _ => .move (l1 rfl) (q.t 0 rfl))<| .p rfl (fun _ q _ => .move (l1 rfl) (q.t 0 rfl))<| .p rfl (fun _ q _ => .indexRd (enc := eW) (l1 rfl) (q.t 0 rfl) (q.t 1 rfl) Tryz.underlying28 sz3 (encI_len .i64) rfl hy_13)<| .p rfl (fun _ q _ => .loadR (v := iW y_13) (l1 rfl) (q.t 0 rfl) one3 rfl)<| .p rfl (fun _ q _ => .indexRd (enc := e50) (l1 rfl) (q.t 0 rfl) (q.t 1 rfl) Tryz.underlying22 sz51 encR50_len rfl hy_14)<| .p rfl (fun _ q _ => .loadRA (out := [iW y_14.X,iW y_14.Y]) (l1 rfl) (q.t 0 rfl) agg51 (Nat.le_of_eq (Eq.symm (encR50_len _))) rfl)<| .p rfl (fun _ q _ => .call0 (bw := false) (l1 rfl) (c83 n (R50.mk y_12.X y_12.Y) (R50.mk y_14.X y_14.Y) hy_15) (.cons (q.t 0 rfl) (.ren rfl) (.cons (q.t 1 rfl) (.ren rfl) (.nil))) rfl)<| .p rfl (fun _ q _ => .add (l1 rfl) (q.t 0 rfl) (q.t 1 rfl))<| .p rfl (fun _ q _ => .assign (l1 rfl) (q.t 0 rfl))<| .nil _) rfl rfl ?_
   refine AWP.vc (s' := ⟨[(1,rW β3 a1 eW),(2,.ptr 1 0),(5,iW t5_16),(6,iW x_9.2)],[(1,⟨25,false,(pW β1 β2 a0)⟩)]⟩) (by subst ht5_16; exact VC.sub (.of rfl) (.of rfl)) ?_
   obtain ⟨t6_17,ht6_17,h⟩ := letS h
   refine AWP.rg (.cons (.move (l1 rfl) (.t rfl))<| .cons (.add (l1 rfl) (.t rfl) (.const _ _ _))<| .cons (.assign (l1 rfl) (.t rfl))<| .nil _ _ _) ?_
   exact endJ (t5_16,t6_17) h (by subst ht6_17; exact VC.sub (.of rfl) (.of rfl))
  ·have h := iteF hc h
   refine AWP.exit ?_
   exact endJ x_9.1 h (VC.sub (.of rfl) (.n _))
theorem c59 {β1 : Bool} {β2 : Bool} {β3 : Bool} (n : Nat) (a0 : R24) (a1 : (List Int)) {r : Int} (h : m59 n a0 a1 = some r) : Spec Tryz.prog 59 [] [.agg (pW β1 β2 a0),rW β3 a1 eW] [] (iW r) [] := by
 refine Spec.of (fn := Tryz.f59) Tryz.func59 Tryz.ntmps59 rfl rfl (le1 rfl) (fun w0 Zs Zb T0 ι0 => ?_)
 unfold m59 at h
 refine AWP.sv (.cons (.box (t := 1) (n := 2) (l1 rfl) (nm rfl) (.t rfl) (by first | exact ⟨rfl,rfl⟩ | rfl) rfl)<| .cons (.assign (l1 rfl) (.const _ _ _))<| .nil _ _ _) ⟨[(1,rW β3 a1 eW),(2,.ptr 1 0)],[(1,⟨25,false,(pW β1 β2 a0)⟩)]⟩ rfl rfl ?_
 refine AWP.seq ?_
 obtain ⟨y_1,hy_1,h⟩ := bindS h
 obtain ⟨y_2,hy_2,h⟩ := bindS h
 obtain ⟨y_3,hy_3,h⟩ := bindS h
 obtain ⟨y_4,hy_4,h⟩ := bindS h
 obtain ⟨y_5,hy_5,h⟩ := bindS h
 obtain ⟨t4_6,ht4_6,h⟩ := letS h
 refine AWP.dw mixed [(1,rW β3 a1 eW),(2,.ptr 1 0)] [] [dO [1] 5 (.agg (pW β1 β2 a0)),dO [0] 6 (rW β3 a1 eW),dO [2,3] 7 (iW y_1),dO [1] 8 (.ptr 1 (0 + 0)),dO [5] 9 (rW β1 a0.Pq e50),dO [0] 10 (rW β3 a1 eW),dO [0] 11 (rW β3 a1 eW),dO [8] 12 (iW (a1.length : Int)),dO [9] 13 (iW (IntKind.wrap .i64 ((a1.length : Int) - (1 : Int)))),dO [7,10] 14 (.rptr β3 [iW y_2]),dO [11] 15 (iW y_2),dO [6,12] 16 (.rptr β1 [iW y_3.X,iW y_3.Y]),dO [13] 17 (.agg [iW y_3.X,iW y_3.Y]),dO [1] 18 (.ptr 1 (0 + 0)),dO [15] 19 (rW β1 a0.Pq e50),dO [16] 20 (.rptr β1 [iW y_4.X,iW y_4.Y]),dO [17] 21 (.agg [iW y_4.X,iW y_4.Y]),dO [14,18] 22 (iW y_5),dO [4,19] 23 (iW (IntKind.wrap .i64 (y_1 + y_5))),dO [20] 4 (iW (IntKind.wrap .i64 (y_1 + y_5)))] [] [[(1,⟨25,false,(pW β1 β2 a0)⟩)]] [[],[],[0,2],[],[3,4],[],[],[6,7],[6,8],[5,9],[5,10],[3,11],[3,12],[],[13,14],[13,15],[13,16],[0,17],[0,18],[0,19]] [21] rfl rfl (by kernel_rfl) rfl (.r rfl rfl (fun _ q => .loadPA (l1 rfl) (q.t 0 rfl) agg25 rfl rfl rfl rfl)<| .p rfl (fun _ q _ => .move (l1 rfl) (q.t 0 rfl))<| .p rfl (fun _ q _ => .call0 (bw := false) (l1 rfl) (c82 (β1 := β1) (β2 := β2) (β3 := β3) n (R24.mk a0.Pq a0.Bq) a1 hy_1) (.cons (q.t 0 rfl) (.ren rfl) (.cons (q.t 1 rfl) (.ren rfl) (.nil))) rfl)<| .r rfl rfl (fun _ q => .fieldP (l1 rfl) (q.t 0 rfl) fld25_0)<| .r rfl rfl (fun _ q => .loadP (l1 rfl) (q.t 0 rfl) one22 rfl rfl rfl)<| .p rfl (fun _ q _ => .move (l1 rfl) (q.t 0 rfl))<| .p rfl (fun _ q _ => .move (l1 rfl) (q.t 0 rfl))<| .p rfl (fun _ q _ => .lenRd (l1 rfl) (q.t 0 rfl) Tryz.underlying28)<| .p rfl (fun _ q _ => .sub (l1 rfl) (q.t 0 rfl) (.const _ _ _))<| .p rfl (fun _ q _ => .indexRd (enc := eW) (l1 rfl) (q.t 0 rfl) (q.t 1 rfl) Tryz.underlying28 sz3 (encI_len .i64) rfl hy_2)<| .p rfl (fun _ q _ => .loadR (v := iW y_2) (l1 rfl) (q.t 0 rfl) one3 rfl)<| .p rfl (fun _ q _ => .indexRd (enc := e50) (l1 rfl) (q.t 0 rfl) (q.t 1 rfl) Tryz.underlying22 sz51 encR50_len rfl hy_3)<| .p rfl (fun _ q _ => .loadRA (out := [iW y_3.X,iW y_3.Y]) (l1 rfl) (q.t 0 rfl) agg51 (Nat.le_of_eq (Eq.symm (encR50_len _))) rfl)<| .r rfl rfl (fun _ q => .fieldP (l1 rfl) (q.t 0 rfl) fld25_0)<| .r rfl rfl (fun _ q => .loadP (l1 rfl) (q.t 0 rfl) one22 rfl rfl rfl)<| .p rfl (fun _ q _ => .indexRd (enc := e50) (l1 rfl) (q.t 0 rfl) (.const _ _ _) Tryz.underlying22 sz51 encR50_len rfl hy_4)<| .p rfl (fun _ q _ => .loadRA (out := [iW y_4.X,iW y_4.Y]) (l1 rfl) (q.t 0 rfl) agg51 (Nat.le_of_eq (Eq.symm (encR50_len _))) rfl)<| .p rfl (fun _ q _ => .call0 (bw := false) (l1 rfl) (c83 n (R50.mk y_3.X y_3.Y) (R50.mk y_4.X y_4.Y) hy_5) (.cons (q.t 0 rfl) (.ren rfl) (.cons (q.t 1 rfl) (.ren rfl) (.nil))) rfl)<| .p rfl (fun _ q _ => .add (l1 rfl) (q.t 0 rfl) (q.t 1 rfl))<| .p rfl (fun _ q _ => .assign (l1 rfl) (q.t 0 rfl))<| .nil _) rfl rfl ?_
 refine AWP.ret ?_
 obtain rfl := Option.some.inj h
 refine retJ (Res.vc (s' := ⟨[(4,iW t4_6)],[]⟩) (by subst ht4_6; exact VC.sub (.of rfl) (.n _)) ?_)
 refine Res.drop (H := []) rfl ?_
 exact Res.of rfl (.cons (.tmp rfl) (.nil)) rfl rfl
theorem c26 {β1 : Bool} {β2 : Bool} {β3 : Bool} (n : Nat) (a0 : R24) (a1 : (List Int)) {r : (Int × Int)} (h : m26 n a0 a1 = some r) : Spec Tryz.prog 26 [] [.agg (pW β1 β2 a0),rW β3 a1 eW] [] (.tup [iW r.1,iW r.2]) [] := by
 refine Spec.of (fn := Tryz.f26) Tryz.func26 Tryz.ntmps26 rfl rfl (le1 rfl) (fun w0 Zs Zb T0 ι0 => ?_)
 unfold m26 at h
 refine AWP.sv (.cons (.box (t := 1) (n := 2) (l1 rfl) (nm rfl) (.t rfl) (by first | exact ⟨rfl,rfl⟩ | rfl) rfl)<| .cons (.assign (l1 rfl) (.const _ _ _))<| .cons (.assign (l1 rfl) (.const _ _ _))<| .nil _ _ _) ⟨[(1,rW β3 a1 eW),(2,.ptr 1 0)],[(1,⟨25,false,(pW β1 β2 a0)⟩)]⟩ rfl rfl ?_
 refine AWP.seq ?_
 refine AWP.block ?_
 obtain ⟨y_1,hy_1,h⟩ := bindS h
 refine AWP.sv (.cons (.loadPA (l1 rfl) (.t rfl) agg25 rfl rfl rfl rfl)<| .cons (.call0 (bw := false) (l1 rfl) (c8 (β1 := β1) (β2 := β2) n (R24.mk a0.Pq a0.Bq) hy_1) (.cons (.t rfl) (.ren rfl) (.nil)) rfl)<| .cons (.not (l1 rfl) (.t rfl))<| .cons (.assign (l1 rfl) (.t rfl))<| .nil _ _ _) ⟨[(1,rW β3 a1 eW),(2,.ptr 1 0),(6,bW (!y_1))],[(1,⟨25,false,(pW β1 β2 a0)⟩)]⟩ rfl rfl ?_
 refine AWP.cond (.t rfl) (fun hc => ?_) (fun hc => ?_)
 ·have h := iteT hc h
  refine AWP.sr (.cons (.assign (l1 rfl) (.const _ _ _))<| .cons (.assign (l1 rfl) (.const _ _ _))<| .nil _ _ _) ?_
  refine AWP.ret ?_
  obtain rfl := Option.some.inj h
  refine retJ (Res.vc (s' := ⟨[(4,iW (0 : Int)),(5,iW (1 : Int))],[]⟩) (VC.sub (.of rfl) (.n _)) ?_)
  refine Res.drop (H := []) rfl ?_
  exact Res.of rfl (.cons (.tmp rfl) (.cons (.tmp rfl) (.nil))) rfl rfl
 ·have h := iteF hc h
  obtain ⟨y_2,hy_2,h⟩ := bindS h
  refine AWP.sv (.cons (.loadPA (l1 rfl) (.t rfl) agg25 rfl rfl rfl rfl)<| .cons (.move (l1 rfl) (.t rfl))<| .cons (.call0 (bw := false) (l1 rfl) (c58 (β1 := β1) (β2 := β2) (β3 := β3) n (R24.mk a0.Pq a0.Bq) a1 hy_2) (.cons (.t rfl) (.ren rfl) (.cons (.t rfl) (.ren rfl) (.nil))) rfl)<| .cons (.not (l1 rfl) (.t rfl))<| .cons (.assign (l1 rfl) (.t rfl))<| .nil _ _ _) ⟨[(1,rW β3 a1 eW),(2,.ptr 1 0),(10,bW (!y_2))],[(1,⟨25,false,(pW β1 β2 a0)⟩)]⟩ rfl rfl ?_
  refine AWP.cond (.t rfl) (fun hc => ?_) (fun hc => ?_)
  ·have h := iteT hc h
   refine AWP.sr (.cons (.assign (l1 rfl) (.const _ _ _))<| .cons (.assign (l1 rfl) (.const _ _ _))<| .nil _ _ _) ?_
   refine AWP.ret ?_
   obtain rfl := Option.some.inj h
   refine retJ (Res.vc (s' := ⟨[(4,iW (0 : Int)),(5,iW (22 : Int))],[]⟩) (VC.sub (.of rfl) (.n _)) ?_)
   refine Res.drop (H := []) rfl ?_
   exact Res.of rfl (.cons (.tmp rfl) (.cons (.tmp rfl) (.nil))) rfl rfl
  ·have h := iteF hc h
   refine AWP.skip ?_
   obtain ⟨y_3,hy_3,h⟩ := bindS h
   refine AWP.sr (.cons (.loadPA (l1 rfl) (.t rfl) agg25 rfl rfl rfl rfl)<| .cons (.move (l1 rfl) (.t rfl))<| .cons (.call0 (bw := false) (l1 rfl) (c59 (β1 := β1) (β2 := β2) (β3 := β3) n (R24.mk a0.Pq a0.Bq) a1 hy_3) (.cons (.t rfl) (.ren rfl) (.cons (.t rfl) (.ren rfl) (.nil))) rfl)<| .cons (.assign (l1 rfl) (.t rfl))<| .cons (.assign (l1 rfl) (.const _ _ _))<| .nil _ _ _) ?_
   refine AWP.ret ?_
   obtain rfl := Option.some.inj h
   refine retJ (Res.vc (s' := ⟨[(4,iW y_3),(5,iW (0 : Int))],[]⟩) (VC.sub (.of rfl) (.n _)) ?_)
   refine Res.drop (H := []) rfl ?_
   exact Res.of rfl (.cons (.tmp rfl) (.cons (.tmp rfl) (.nil))) rfl rfl
theorem c60 {β1 : Bool} {β2 : Bool} {β3 : Bool} (n : Nat) (a0 : R75) {r : Bool} (h : m60 n a0 = some r) : Spec Tryz.prog 60 [] [.agg (gW β1 β2 β3 a0.Gq a0.Path a0.Ln)] [] (bW r) [] := by
 refine Spec.of (fn := Tryz.f60) Tryz.func60 Tryz.ntmps60 rfl rfl (le1 rfl) (fun w0 Zs Zb T0 ι0 => ?_)
 unfold m60 at h
 refine AWP.sv (.cons (.box (t := 1) (n := 4) (l1 rfl) (nm rfl) (.t rfl) (by first | exact ⟨rfl,rfl⟩ | rfl) rfl)<| .cons (.assign (l1 rfl) (.const _ _ _))<| .nil _ _ _) ⟨[(1,.ptr 1 0)],[(1,⟨76,false,(gW β1 β2 β3 a0.Gq a0.Path a0.Ln)⟩)]⟩ rfl rfl ?_
 refine AWP.seq ?_
 obtain ⟨y_1,hy_1,h⟩ := bindS h
 obtain ⟨y_2,hy_2,h⟩ := bindS h
 obtain ⟨t40_3,ht40_3,h⟩ := letS h
 refine AWP.sr (.cons (.fieldP (l1 rfl) (.t rfl) fld76_0)<| .cons (.loadPA (l1 rfl) (.t rfl) agg25 rfl rfl rfl rfl)<| .cons (.call0 (bw := false) (l1 rfl) (c8 (β1 := β1) (β2 := β2) n (R24.mk a0.Gq.Pq a0.Gq.Bq) hy_1) (.cons (.t rfl) (.ren rfl) (.nil)) rfl)<| .cons (.not (l1 rfl) (.t rfl))<| .cons (.move (l1 rfl) (.t rfl))<| .guard (j := 4) (dj := 8) rfl (l1 rfl) rfl (l1 rfl) (fun hg => .fieldP (l1 rfl) (.t rfl) fld76_1)<| .guard (j := 4) (dj := 8) rfl (l1 rfl) rfl (l1 rfl) (fun hg => .loadP (l1 rfl) (.gd hg (.t rfl)) one28 rfl rfl rfl)<| .guard (j := 4) (dj := 8) rfl (l1 rfl) rfl (l1 rfl) (fun hg => .lenRd (l1 rfl) (.gd hg (.t rfl)) Tryz.underlying28)<| .guard (j := 4) (dj := 8) rfl (l1 rfl) rfl (l1 rfl) (fun hg => .eql (l1 rfl) (.gd hg (.t rfl)) (.const _ _ _))<| .cons (.pickOr (l1 rfl) (.t rfl) (.const _ _ _) (.t rfl))<| .cons (.move (l1 rfl) (.t rfl))<| .guard (j := 10) (dj := 14) rfl (l1 rfl) rfl (l1 rfl) (fun hg => .fieldP (l1 rfl) (.t rfl) fld76_1)<| .guard (j := 10) (dj := 14) rfl (l1 rfl) rfl (l1 rfl) (fun hg => .loadP (l1 rfl) (.gd hg (.t rfl)) one28 rfl rfl rfl)<| .guard (j := 10) (dj := 14) rfl (l1 rfl) rfl (l1 rfl) (fun hg => .lenRd (l1 rfl) (.gd hg (.t rfl)) Tryz.underlying28)<| .guard (j := 10) (dj := 14) rfl (l1 rfl) rfl (l1 rfl) (fun hg => .fieldP (l1 rfl) (.t rfl) fld76_0)<| .guard (j := 10) (dj := 14) rfl (l1 rfl) rfl (l1 rfl) (fun hg => .fieldP (l1 rfl) (.gd hg (.t rfl)) fld25_0)<| .guard (j := 10) (dj := 14) rfl (l1 rfl) rfl (l1 rfl) (fun hg => .loadP (l1 rfl) (.gd hg (.t rfl)) one22 rfl rfl rfl)<| .guard (j := 10) (dj := 14) rfl (l1 rfl) rfl (l1 rfl) (fun hg => .lenRd (l1 rfl) (.gd hg (.t rfl)) Tryz.underlying22)<| .guard (j := 10) (dj := 14) rfl (l1 rfl) rfl (l1 rfl) (fun hg => .gtr (l1 rfl) (.gd hg (.t rfl)) (.gd hg (.t rfl)))<| .cons (.pickOr (l1 rfl) (.t rfl) (.const _ _ _) (.t rfl))<| .cons (.move (l1 rfl) (.t rfl))<| .guard (j := 20) (dj := 24) rfl (l1 rfl) rfl (l1 rfl) (fun hg => .fieldP (l1 rfl) (.t rfl) fld76_1)<| .guard (j := 20) (dj := 24) rfl (l1 rfl) rfl (l1 rfl) (fun hg => .loadP (l1 rfl) (.gd hg (.t rfl)) one28 rfl rfl rfl)<| .guard (j := 20) (dj := 24) rfl (l1 rfl) rfl (l1 rfl) (fun hg => .indexRd (enc := eW) (l1 rfl) (.gd hg (.t rfl)) (.const _ _ _) Tryz.underlying28 sz3 (encI_len .i64) rfl (gdB hy_2 hg))<| .guard (j := 20) (dj := 24) rfl (l1 rfl) rfl (l1 rfl) (fun hg => .loadR (v := iW y_2) (l1 rfl) (.gd hg (.t rfl)) one3 rfl)<| .guard (j := 20) (dj := 24) rfl (l1 rfl) rfl (l1 rfl) (fun hg => .neq (l1 rfl) (.gd hg (.t rfl)) (.const _ _ _))<| .cons (.pickOr (l1 rfl) (.t rfl) (.const _ _ _) (.t rfl))<| .cons (.move (l1 rfl) (.t rfl))<| .guard (j := 27) (dj := 31) rfl (l1 rfl) rfl (l1 rfl) (fun hg => .fieldP (l1 rfl) (.t rfl) fld76_2)<| .guard (j := 27) (dj := 31) rfl (l1 rfl) rfl (l1 rfl) (fun hg => .loadP (l1 rfl) (.gd hg (.t rfl)) one3 rfl rfl rfl)<| .guard (j := 27) (dj := 31) rfl (l1 rfl) rfl (l1 rfl) (fun hg => .lss (l1 rfl) (.gd hg (.t rfl)) (.const _ _ _))<| .cons (.pickOr (l1 rfl) (.t rfl) (.const _ _ _) (.t rfl))<| .cons (.move (l1 rfl) (.t rfl))<| .guard (j := 32) (dj := 36) rfl (l1 rfl) rfl (l1 rfl) (fun hg => .fieldP (l1 rfl) (.t rfl) fld76_2)<| .guard (j := 32) (dj := 36) rfl (l1 rfl) rfl (l1 rfl) (fun hg => .loadP (l1 rfl) (.gd hg (.t rfl)) one3 rfl rfl rfl)<| .guard (j := 32) (dj := 36) rfl (l1 rfl) rfl (l1 rfl) (fun hg => .gtr (l1 rfl) (.gd hg (.t rfl)) (.const _ _ _))<| .cons (.pickOr (l1 rfl) (.t rfl) (.const _ _ _) (.t rfl))<| .nil _ _ _) ?_
 refine AWP.vc (s' := ⟨[(1,.ptr 1 0),(40,bW t40_3)],[(1,⟨76,false,(gW β1 β2 β3 a0.Gq a0.Path a0.Ln)⟩)]⟩) (by subst ht40_3; exact VC.sub (.of rfl) (.of rfl)) ?_
 refine AWP.cond (.t rfl) (fun hc => ?_) (fun hc => ?_)
 ·have h := iteT hc h
  refine AWP.sr (.cons (.assign (l1 rfl) (.const _ _ _))<| .nil _ _ _) ?_
  refine AWP.ret ?_
  obtain rfl := Option.some.inj h
  refine retJ (Res.vc (s' := ⟨[(2,bW false)],[]⟩) (VC.sub (.of rfl) (.n _)) ?_)
  refine Res.drop (H := []) rfl ?_
  exact Res.of rfl (.cons (.tmp rfl) (.nil)) rfl rfl
 ·have h := iteF hc h
  refine AWP.skip ?_
  refine AWP.seq ?_
  refine AWP.sv (.cons (.assign (l1 rfl) (.const _ _ _))<| .nil _ _ _) ⟨[(1,.ptr 1 0),(3,iW (1 : Int))],[(1,⟨76,false,(gW β1 β2 β3 a0.Gq a0.Path a0.Ln)⟩)]⟩ rfl rfl ?_
  refine AWP.joinB' (S := fun p_17 : Unit => ⟨[],[]⟩) h (fun p_17 h => ?_) (fun k_18 h => ?_)
  ·refine AWP.sr (.cons (.assign (l1 rfl) (.const _ _ _))<| .nil _ _ _) ?_
   refine AWP.ret ?_
   obtain rfl := Option.some.inj h
   refine retJ (Res.vc (s' := ⟨[(2,bW true)],[]⟩) (VC.sub (.of rfl) (.n _)) ?_)
   refine Res.drop (H := []) rfl ?_
   exact Res.of rfl (.cons (.tmp rfl) (.nil)) rfl rfl
  ·refine AWP.vs ⟨[(1,.ptr 1 0),(3,iW (1 : Int))],[(1,⟨76,false,(gW β1 β2 β3 a0.Gq a0.Path a0.Ln)⟩)]⟩ rfl rfl ?_
   refine AWP.loopM (S := fun x_10 : Int => ⟨[(1,.ptr 1 0),(3,iW x_10)],[(1,⟨76,false,(gW β1 β2 β3 a0.Gq a0.Path a0.Ln)⟩)]⟩) (x := (1 : Int)) (fun nx_11 x_10 h => ?_) h
   unfold m60_L1 at h
   refine AWP.seq ?_
   refine AWP.sv (.cons (.move (l1 rfl) (.t rfl))<| .cons (.fieldP (l1 rfl) (.t rfl) fld76_1)<| .cons (.loadP (l1 rfl) (.t rfl) one28 rfl rfl rfl)<| .cons (.lenRd (l1 rfl) (.t rfl) Tryz.underlying28)<| .cons (.lss (l1 rfl) (.t rfl) (.t rfl))<| .nil _ _ _) ⟨[(1,.ptr 1 0),(3,iW x_10),(45,bW (decide (x_10 < (a0.Path.length : Int))))],[(1,⟨76,false,(gW β1 β2 β3 a0.Gq a0.Path a0.Ln)⟩)]⟩ rfl rfl ?_
   refine AWP.cond (.t rfl) (fun hc => ?_) (fun hc => ?_)
   ·have h := iteT hc h
    refine AWP.skip ?_
    refine AWP.seq ?_
    refine AWP.block ?_
    refine AWP.seq ?_
    obtain ⟨s_12,hs_12,h⟩ := bindS h
    obtain ⟨y_13,hy_13,h⟩ := bindS h
    obtain ⟨y_14,hy_14,h⟩ := bindS h
    obtain ⟨y_15,hy_15,h⟩ := bindS h
    refine AWP.dw mixed [(1,.ptr 1 0),(3,iW x_10),(45,bW (decide (x_10 < (a0.Path.length : Int))))] [] [dO [0] 48 (.ptr 1 (0 + 0)),dO [3] 49 (.agg (pW β1 β2 a0.Gq)),dO [0] 50 (.ptr 1 (0 + 2)),dO [5] 51 (rW β3 a0.Path eW),dO [1] 52 (iW x_10),dO [6,7] 53 (rW β3 s_12 eW),dO [4,8] 54 (rW false y_13 eW),dO [0] 55 (.ptr 1 (0 + 2)),dO [10] 56 (rW β3 a0.Path eW),dO [1] 57 (iW x_10),dO [11,12] 58 (.rptr β3 [iW y_14]),dO [13] 59 (iW y_14),dO [9,14] 60 (bW y_15),dO [15] 61 (bW (!y_15))] [] [[(1,⟨76,false,(gW β1 β2 β3 a0.Gq a0.Path a0.Ln)⟩)]] [[],[0,1],[],[2,3],[],[2,5],[0,6],[],[7,8],[],[7,10],[7,11],[0,12],[0,13]] [0,1,16] rfl rfl (by kernel_rfl) rfl (.r rfl rfl (fun _ q => .fieldP (l1 rfl) (q.t 0 rfl) fld76_0)<| .r rfl rfl (fun _ q => .loadPA (l1 rfl) (q.t 0 rfl) agg25 rfl rfl rfl rfl)<| .r rfl rfl (fun _ q => .fieldP (l1 rfl) (q.t 0 rfl) fld76_1)<| .r rfl rfl (fun _ q => .loadP (l1 rfl) (q.t 0 rfl) one28 rfl rfl rfl)<| .p rfl (fun _ q _ => .move (l1 rfl) (q.t 0 rfl))<| .p rfl (fun _ q _ => .slRd (enc := eW) (l1 rfl) (q.t 0 rfl) Tryz.underlying28 sz3 (encI_len .i64) rfl (.none _ _ _) (.some (q.t 1 rfl)) hs_12)<| .p rfl (fun _ q _ => .call0 (bw := false) (l1 rfl) (c25 (β1 := β1) (β2 := β2) (β3 := β3) n (R24.mk a0.Gq.Pq a0.Gq.Bq) s_12 hy_13) (.cons (q.t 0 rfl) (.ren rfl) (.cons (q.t 1 rfl) (.ren rfl) (.nil))) rfl)<| .r rfl rfl (fun _ q => .fieldP (l1 rfl) (q.t 0 rfl) fld76_1)<| .r rfl rfl (fun _ q => .loadP (l1 rfl) (q.t 0 rfl) one28 rfl rfl rfl)<| .p rfl (fun _ q _ => .move (l1 rfl) (q.t 0 rfl))<| .p rfl (fun _ q _ => .indexRd (enc := eW) (l1 rfl) (q.t 0 rfl) (q.t 1 rfl) Tryz.underlying28 sz3 (encI_len .i64) rfl hy_14)<| .p rfl (fun _ q _ => .loadR (v := iW y_14) (l1 rfl) (q.t 0 rfl) one3 rfl)<| .p rfl (fun _ q _ => .call0 (bw := false) (l1 rfl) (c57 (β1 := false) n y_13 y_14 hy_15) (.cons (q.t 0 rfl) (.ren rfl) (.cons (q.t 1 rfl) (.ren rfl) (.nil))) rfl)<| .p rfl (fun _ q _ => .not (l1 rfl) (q.t 0 rfl))<| .nil _) rfl rfl ?_
    refine AWP.vs ⟨[(1,.ptr 1 0),(3,iW x_10),(61,bW (!y_15))],[(1,⟨76,false,(gW β1 β2 β3 a0.Gq a0.Path a0.Ln)⟩)]⟩ rfl rfl ?_
    refine AWP.cond (.t rfl) (fun hc => ?_) (fun hc => ?_)
    ·have h := iteT hc h
     refine AWP.sr (.cons (.assign (l1 rfl) (.const _ _ _))<| .nil _ _ _) ?_
     refine AWP.ret ?_
     obtain rfl := Option.some.inj h
     refine retJ (Res.vc (s' := ⟨[(2,bW false)],[]⟩) (VC.sub (.of rfl) (.n _)) ?_)
     refine Res.drop (H := []) rfl ?_
     exact Res.of rfl (.cons (.tmp rfl) (.nil)) rfl rfl
    ·have h := iteF hc h
     refine AWP.skip ?_
     obtain ⟨t3_16,ht3_16,h⟩ := letS h
     refine AWP.rg (.cons (.move (l1 rfl) (.t rfl))<| .cons (.add (l1 rfl) (.t rfl) (.const _ _ _))<| .cons (.assign (l1 rfl) (.t rfl))<| .nil _ _ _) ?_
     exact endJ t3_16 h (by subst ht3_16; exact VC.sub (.of rfl) (.of rfl))
   ·have h := iteF hc h
    refine AWP.exit ?_
    exact endJ () h (VC.sub (.n _) (.n _))
theorem c96 (n : Nat) (a0 : Int) {r : Bool} (h : m96 n a0 = some r) : Spec Tryz.prog 96 [] [iW a0] [] (bW r) [] := by
 refine Spec.of (fn := Tryz.f96) Tryz.func96 Tryz.ntmps96 rfl rfl (le1 rfl) (fun w0 Zs Zb T0 ι0 => ?_)
 unfold m96 at h
 refine AWP.sv (.cons (.assign (l1 rfl) (.const _ _ _))<| .nil _ _ _) ⟨[(0,iW a0)],[]⟩ rfl rfl ?_
 refine AWP.sr (.cons (.move (l1 rfl) (.t rfl))<| .cons (.geq (l1 rfl) (.t rfl) (.const _ _ _))<| .cons (.move (l1 rfl) (.t rfl))<| .guard (j := 2) (dj := 5) rfl (l1 rfl) rfl (l1 rfl) (fun hg => .move (l1 rfl) (.t rfl))<| .guard (j := 2) (dj := 5) rfl (l1 rfl) rfl (l1 rfl) (fun hg => .leq (l1 rfl) (.gd hg (.t rfl)) (.const _ _ _))<| .cons (.pickAnd (l1 rfl) (.t rfl) (.t rfl) (.const _ _ _))<| .cons (.assign (l1 rfl) (.t rfl))<| .nil _ _ _) ?_
 refine AWP.ret ?_
 obtain rfl := Option.some.inj h
 refine retJ (Res.vc (s' := ⟨[(2,bW ((decide ((-1073741824 : Int) ≤ a0)) && (decide (a0 ≤ (1073741824 : Int)))))],[]⟩) (VC.sub (.of rfl) (.n _)) ?_)
 refine Res.drop (H := []) rfl ?_
 exact Res.of rfl (.cons (.tmp rfl) (.nil)) rfl rfl
theorem c84F (n : Nat) : ∀ (f : Nat) {β1 : Bool} {β2 : Bool} (a0 : R41) {r : Bool},m84F n f a0 = some r → Spec Tryz.prog 84 [] [.agg (tW encK41 β1 β2 a0.Sp a0.Kd a0.Lf)] [] (bW r) [] := by
 intro f
 induction f with
 | zero =>
  intro β1 β2 a0 r h
  cases (show (none : Option Bool) = some r from h)
 | succ f ih =>
 intro β1 β2 a0 r h
 replace h : m84B n (m84F n f) a0 = some r := h
 generalize m84F n f = rc_0 at h ih
 refine Spec.of (fn := Tryz.f84) Tryz.func84 Tryz.ntmps84 rfl rfl (le1 rfl) (fun w0 Zs Zb T0 ι0 => ?_)
 unfold m84B at h
 refine AWP.sv (.cons (.box (t := 1) (n := 3) (l1 rfl) (nm rfl) (.t rfl) (by first | exact ⟨rfl,rfl⟩ | rfl) rfl)<| .cons (.assign (l1 rfl) (.const _ _ _))<| .nil _ _ _) ⟨[(1,.ptr 1 0)],[(1,⟨42,false,(tW encK41 β1 β2 a0.Sp a0.Kd a0.Lf)⟩)]⟩ rfl rfl ?_
 refine AWP.seq ?_
 obtain ⟨y_1,hy_1,h⟩ := bindS h
 obtain ⟨t43_2,ht43_2,h⟩ := letS h
 refine AWP.sr (.cons (.fieldP (l1 rfl) (.t rfl) fld42_0)<| .cons (.loadP (l1 rfl) (.t rfl) one3 rfl rfl rfl)<| .cons (.call0 (bw := false) (l1 rfl) (c96 n a0.Sp hy_1) (.cons (.t rfl) (.ren rfl) (.nil)) rfl)<| .cons (.not (l1 rfl) (.t rfl))<| .cons (.move (l1 rfl) (.t rfl))<| .guard (j := 4) (dj := 9) rfl (l1 rfl) rfl (l1 rfl) (fun hg => .fieldP (l1 rfl) (.t rfl) fld42_1)<| .guard (j := 4) (dj := 9) rfl (l1 rfl) rfl (l1 rfl) (fun hg => .loadP (l1 rfl) (.gd hg (.t rfl)) one40 rfl rfl rfl)<| .guard (j := 4) (dj := 9) rfl (l1 rfl) rfl (l1 rfl) (fun hg => .lenRd (l1 rfl) (.gd hg (.t rfl)) Tryz.underlying40)<| .guard (j := 4) (dj := 9) rfl (l1 rfl) rfl (l1 rfl) (fun hg => .gtr (l1 rfl) (.gd hg (.t rfl)) (.const _ _ _))<| .cons (.pickOr (l1 rfl) (.t rfl) (.const _ _ _) (.t rfl))<| .cons (.move (l1 rfl) (.t rfl))<| .guard (j := 10) (dj := 15) rfl (l1 rfl) rfl (l1 rfl) (fun hg => .fieldP (l1 rfl) (.t rfl) fld42_2)<| .guard (j := 10) (dj := 15) rfl (l1 rfl) rfl (l1 rfl) (fun hg => .loadP (l1 rfl) (.gd hg (.t rfl)) one28 rfl rfl rfl)<| .guard (j := 10) (dj := 15) rfl (l1 rfl) rfl (l1 rfl) (fun hg => .lenRd (l1 rfl) (.gd hg (.t rfl)) Tryz.underlying28)<| .guard (j := 10) (dj := 15) rfl (l1 rfl) rfl (l1 rfl) (fun hg => .gtr (l1 rfl) (.gd hg (.t rfl)) (.const _ _ _))<| .cons (.pickOr (l1 rfl) (.t rfl) (.const _ _ _) (.t rfl))<| .cons (.move (l1 rfl) (.t rfl))<| .guard (j := 16) (dj := 21) rfl (l1 rfl) rfl (l1 rfl) (fun hg => .fieldP (l1 rfl) (.t rfl) fld42_1)<| .guard (j := 16) (dj := 21) rfl (l1 rfl) rfl (l1 rfl) (fun hg => .loadP (l1 rfl) (.gd hg (.t rfl)) one40 rfl rfl rfl)<| .guard (j := 16) (dj := 21) rfl (l1 rfl) rfl (l1 rfl) (fun hg => .lenRd (l1 rfl) (.gd hg (.t rfl)) Tryz.underlying40)<| .guard (j := 16) (dj := 21) rfl (l1 rfl) rfl (l1 rfl) (fun hg => .gtr (l1 rfl) (.gd hg (.t rfl)) (.const _ _ _))<| .guard (j := 16) (dj := 21) rfl (l1 rfl) rfl (l1 rfl) (fun hg => .move (l1 rfl) (.gd hg (.t rfl)))<| .guard2 (j := 21) (dj := 26) rfl (l1 rfl) rfl (l1 rfl) (fun hg => .fieldP (l1 rfl) (.t rfl) fld42_2)<| .guard2 (j := 21) (dj := 26) rfl (l1 rfl) rfl (l1 rfl) (fun hg => .loadP (l1 rfl) (.gd hg (.t rfl)) one28 rfl rfl rfl)<| .guard2 (j := 21) (dj := 26) rfl (l1 rfl) rfl (l1 rfl) (fun hg => .lenRd (l1 rfl) (.gd hg (.t rfl)) Tryz.underlying28)<| .guard2 (j := 21) (dj := 26) rfl (l1 rfl) rfl (l1 rfl) (fun hg => .gtr (l1 rfl) (.gd hg (.t rfl)) (.const _ _ _))<| .guard (j := 16) (dj := 21) rfl (l1 rfl) rfl (l1 rfl) (fun hg => .pickAnd (l1 rfl) (.gd hg (.t rfl)) (.gdAnd hg (.t rfl)) (.const _ _ _))<| .cons (.pickOr (l1 rfl) (.t rfl) (.const _ _ _) (.t rfl))<| .cons (.move (l1 rfl) (.t rfl))<| .guard (j := 28) (dj := 33) rfl (l1 rfl) rfl (l1 rfl) (fun hg => .fieldP (l1 rfl) (.t rfl) fld42_1)<| .guard (j := 28) (dj := 33) rfl (l1 rfl) rfl (l1 rfl) (fun hg => .loadP (l1 rfl) (.gd hg (.t rfl)) one40 rfl rfl rfl)<| .guard (j := 28) (dj := 33) rfl (l1 rfl) rfl (l1 rfl) (fun hg => .lenRd (l1 rfl) (.gd hg (.t rfl)) Tryz.underlying40)<| .guard (j := 28) (dj := 33) rfl (l1 rfl) rfl (l1 rfl) (fun hg => .eql (l1 rfl) (.gd hg (.t rfl)) (.const _ _ _))<| .guard (j := 28) (dj := 33) rfl (l1 rfl) rfl (l1 rfl) (fun hg => .move (l1 rfl) (.gd hg (.t rfl)))<| .guard2 (j := 33) (dj := 38) rfl (l1 rfl) rfl (l1 rfl) (fun hg => .fieldP (l1 rfl) (.t rfl) fld42_0)<| .guard2 (j := 33) (dj := 38) rfl (l1 rfl) rfl (l1 rfl) (fun hg => .loadP (l1 rfl) (.gd hg (.t rfl)) one3 rfl rfl rfl)<| .guard2 (j := 33) (dj := 38) rfl (l1 rfl) rfl (l1 rfl) (fun hg => .neq (l1 rfl) (.gd hg (.t rfl)) (.const _ _ _))<| .guard (j := 28) (dj := 33) rfl (l1 rfl) rfl (l1 rfl) (fun hg => .pickAnd (l1 rfl) (.gd hg (.t rfl)) (.gdAnd hg (.t rfl)) (.const _ _ _))<| .cons (.pickOr (l1 rfl) (.t rfl) (.const _ _ _) (.t rfl))<| .nil _ _ _) ?_
 refine AWP.vc (s' := ⟨[(1,.ptr 1 0),(43,bW t43_2)],[(1,⟨42,false,(tW encK41 β1 β2 a0.Sp a0.Kd a0.Lf)⟩)]⟩) (by subst ht43_2; exact VC.sub (.of rfl) (.of rfl)) ?_
 refine AWP.cond (.t rfl) (fun hc => ?_) (fun hc => ?_)
 ·have h := iteT hc h
  refine AWP.sr (.cons (.assign (l1 rfl) (.const _ _ _))<| .nil _ _ _) ?_
  refine AWP.ret ?_
  obtain rfl := Option.some.inj h
  refine retJ (Res.vc (s' := ⟨[(2,bW false)],[]⟩) (VC.sub (.of rfl) (.n _)) ?_)
  refine Res.drop (H := []) rfl ?_
  exact Res.of rfl (.cons (.tmp rfl) (.nil)) rfl rfl
 ·have h := iteF hc h
  refine AWP.skip ?_
  refine AWP.seq ?_
  refine AWP.sv (.cons (.assign (l1 rfl) (.const _ _ _))<| .nil _ _ _) ⟨[(1,.ptr 1 0),(3,iW (0 : Int))],[(1,⟨42,false,(tW encK41 β1 β2 a0.Sp a0.Kd a0.Lf)⟩)]⟩ rfl rfl ?_
  refine AWP.joinB' (S := fun p_12 : Unit => ⟨[(1,.ptr 1 0)],[(1,⟨42,false,(tW encK41 β1 β2 a0.Sp a0.Kd a0.Lf)⟩)]⟩) h (fun p_12 h => ?_) (fun k_13 h => ?_)
  ·refine AWP.seq ?_
   refine AWP.sv (.cons (.assign (l1 rfl) (.const _ _ _))<| .nil _ _ _) ⟨[(1,.ptr 1 0),(4,iW (0 : Int))],[(1,⟨42,false,(tW encK41 β1 β2 a0.Sp a0.Kd a0.Lf)⟩)]⟩ rfl rfl ?_
   refine AWP.joinB' (S := fun p_23 : Unit => ⟨[],[]⟩) h (fun p_23 h => ?_) (fun k_24 h => ?_)
   ·refine AWP.sr (.cons (.assign (l1 rfl) (.const _ _ _))<| .nil _ _ _) ?_
    refine AWP.ret ?_
    obtain rfl := Option.some.inj h
    refine retJ (Res.vc (s' := ⟨[(2,bW true)],[]⟩) (VC.sub (.of rfl) (.n _)) ?_)
    refine Res.drop (H := []) rfl ?_
    exact Res.of rfl (.cons (.tmp rfl) (.nil)) rfl rfl
   ·refine AWP.vs ⟨[(1,.ptr 1 0),(4,iW (0 : Int))],[(1,⟨42,false,(tW encK41 β1 β2 a0.Sp a0.Kd a0.Lf)⟩)]⟩ rfl rfl ?_
    refine AWP.loopM (S := fun x_18 : Int => ⟨[(1,.ptr 1 0),(4,iW x_18)],[(1,⟨42,false,(tW encK41 β1 β2 a0.Sp a0.Kd a0.Lf)⟩)]⟩) (x := (0 : Int)) (fun nx_19 x_18 h => ?_) h
    unfold m84_L2 at h
    refine AWP.seq ?_
    refine AWP.sv (.cons (.move (l1 rfl) (.t rfl))<| .cons (.fieldP (l1 rfl) (.t rfl) fld42_1)<| .cons (.loadP (l1 rfl) (.t rfl) one40 rfl rfl rfl)<| .cons (.lenRd (l1 rfl) (.t rfl) Tryz.underlying40)<| .cons (.lss (l1 rfl) (.t rfl) (.t rfl))<| .nil _ _ _) ⟨[(1,.ptr 1 0),(4,iW x_18),(62,bW (decide (x_18 < (a0.Kd.length : Int))))],[(1,⟨42,false,(tW encK41 β1 β2 a0.Sp a0.Kd a0.Lf)⟩)]⟩ rfl rfl ?_
    refine AWP.cond (.t rfl) (fun hc => ?_) (fun hc => ?_)
    ·have h := iteT hc h
     refine AWP.skip ?_
     refine AWP.seq ?_
     refine AWP.block ?_
     obtain ⟨y_20,hy_20,h⟩ := bindS h
     obtain ⟨y_21,hy_21,h⟩ := bindS h
     refine AWP.sv (.cons (.fieldP (l1 rfl) (.t rfl) fld42_1)<| .cons (.loadP (l1 rfl) (.t rfl) one40 rfl rfl rfl)<| .cons (.move (l1 rfl) (.t rfl))<| .cons (.indexRdC (enc := encK41) (l1 rfl) (.t rfl) (.t rfl) Tryz.underlying40 sz42 encK41_len rfl hy_20 (encK41_out _))<| .cons (.loadRA (out := (tW encK41 β1 β1 y_20.out.Sp y_20.out.Kd y_20.out.Lf)) (l1 rfl) (.t rfl) agg42 (le1 rfl) rfl)<| .cons (.call0 (bw := false) (l1 rfl) (ih (β1 := β1) (β2 := β1) (R41.mk y_20.out.Sp y_20.out.Kd y_20.out.Lf) hy_21) (.cons (.t rfl) (.ren rfl) (.nil)) rfl)<| .cons (.not (l1 rfl) (.t rfl))<| .nil _ _ _) ⟨[(1,.ptr 1 0),(4,iW x_18),(71,bW (!y_21))],[(1,⟨42,false,(tW encK41 β1 β2 a0.Sp a0.Kd a0.Lf)⟩)]⟩ rfl rfl ?_
     refine AWP.cond (.t rfl) (fun hc => ?_) (fun hc => ?_)
     ·have h := iteT hc h
      refine AWP.sr (.cons (.assign (l1 rfl) (.const _ _ _))<| .nil _ _ _) ?_
      refine AWP.ret ?_
      obtain rfl := Option.some.inj h
      refine retJ (Res.vc (s' := ⟨[(2,bW false)],[]⟩) (VC.sub (.of rfl) (.n _)) ?_)
      refine Res.drop (H := []) rfl ?_
      exact Res.of rfl (.cons (.tmp rfl) (.nil)) rfl rfl
     ·have h := iteF hc h
      refine AWP.skip ?_
      obtain ⟨t4_22,ht4_22,h⟩ := letS h
      refine AWP.rg (.cons (.move (l1 rfl) (.t rfl))<| .cons (.add (l1 rfl) (.t rfl) (.const _ _ _))<| .cons (.assign (l1 rfl) (.t rfl))<| .nil _ _ _) ?_
      exact endJ t4_22 h (by subst ht4_22; exact VC.sub (.of rfl) (.of rfl))
    ·have h := iteF hc h
     refine AWP.exit ?_
     exact endJ () h (VC.sub (.n _) (.n _))
  ·refine AWP.vs ⟨[(1,.ptr 1 0),(3,iW (0 : Int))],[(1,⟨42,false,(tW encK41 β1 β2 a0.Sp a0.Kd a0.Lf)⟩)]⟩ rfl rfl ?_
   refine AWP.loopM (S := fun x_7 : Int => ⟨[(1,.ptr 1 0),(3,iW x_7)],[(1,⟨42,false,(tW encK41 β1 β2 a0.Sp a0.Kd a0.Lf)⟩)]⟩) (x := (0 : Int)) (fun nx_8 x_7 h => ?_) h
   unfold m84_L1 at h
   refine AWP.seq ?_
   refine AWP.sv (.cons (.move (l1 rfl) (.t rfl))<| .cons (.fieldP (l1 rfl) (.t rfl) fld42_2)<| .cons (.loadP (l1 rfl) (.t rfl) one28 rfl rfl rfl)<| .cons (.lenRd (l1 rfl) (.t rfl) Tryz.underlying28)<| .cons (.lss (l1 rfl) (.t rfl) (.t rfl))<| .nil _ _ _) ⟨[(1,.ptr 1 0),(3,iW x_7),(48,bW (decide (x_7 < (a0.Lf.length : Int))))],[(1,⟨42,false,(tW encK41 β1 β2 a0.Sp a0.Kd a0.Lf)⟩)]⟩ rfl rfl ?_
   refine AWP.cond (.t rfl) (fun hc => ?_) (fun hc => ?_)
   ·have h := iteT hc h
    refine AWP.skip ?_
    refine AWP.seq ?_
    refine AWP.block ?_
    obtain ⟨y_9,hy_9,h⟩ := bindS h
    obtain ⟨y_10,hy_10,h⟩ := bindS h
    refine AWP.sv (.cons (.fieldP (l1 rfl) (.t rfl) fld42_2)<| .cons (.loadP (l1 rfl) (.t rfl) one28 rfl rfl rfl)<| .cons (.move (l1 rfl) (.t rfl))<| .cons (.indexRd (enc := eW) (l1 rfl) (.t rfl) (.t rfl) Tryz.underlying28 sz3 (encI_len .i64) rfl hy_9)<| .cons (.loadR (v := iW y_9) (l1 rfl) (.t rfl) one3 rfl)<| .cons (.call0 (bw := false) (l1 rfl) (c96 n y_9 hy_10) (.cons (.t rfl) (.ren rfl) (.nil)) rfl)<| .cons (.not (l1 rfl) (.t rfl))<| .nil _ _ _) ⟨[(1,.ptr 1 0),(3,iW x_7),(57,bW (!y_10))],[(1,⟨42,false,(tW encK41 β1 β2 a0.Sp a0.Kd a0.Lf)⟩)]⟩ rfl rfl ?_
    refine AWP.cond (.t rfl) (fun hc => ?_) (fun hc => ?_)
    ·have h := iteT hc h
     refine AWP.sr (.cons (.assign (l1 rfl) (.const _ _ _))<| .nil _ _ _) ?_
     refine AWP.ret ?_
     obtain rfl := Option.some.inj h
     refine retJ (Res.vc (s' := ⟨[(2,bW false)],[]⟩) (VC.sub (.of rfl) (.n _)) ?_)
     refine Res.drop (H := []) rfl ?_
     exact Res.of rfl (.cons (.tmp rfl) (.nil)) rfl rfl
    ·have h := iteF hc h
     refine AWP.skip ?_
     obtain ⟨t3_11,ht3_11,h⟩ := letS h
     refine AWP.rg (.cons (.move (l1 rfl) (.t rfl))<| .cons (.add (l1 rfl) (.t rfl) (.const _ _ _))<| .cons (.assign (l1 rfl) (.t rfl))<| .nil _ _ _) ?_
     exact endJ t3_11 h (by subst ht3_11; exact VC.sub (.of rfl) (.of rfl))
   ·have h := iteF hc h
    refine AWP.exit ?_
    exact endJ () h (VC.sub (.of rfl) (.of rfl))
theorem c84 (n : Nat) {β1 : Bool} {β2 : Bool} (a0 : R41) {r : Bool} (h : m84 n a0 = some r) : Spec Tryz.prog 84 [] [.agg (tW encK41 β1 β2 a0.Sp a0.Kd a0.Lf)] [] (bW r) [] := c84F n n a0 h
theorem c85F (n : Nat) : ∀ (f : Nat) {β1 : Bool} {β2 : Bool} (a0 : R41) {r : Int},m85F n f a0 = some r → Spec Tryz.prog 85 [] [.agg (tW encK41 β1 β2 a0.Sp a0.Kd a0.Lf)] [] (iW r) [] := by
 intro f
 induction f with
 | zero =>
  intro β1 β2 a0 r h
  cases (show (none : Option Int) = some r from h)
 | succ f ih =>
 intro β1 β2 a0 r h
 replace h : m85B n (m85F n f) a0 = some r := h
 generalize m85F n f = rc_0 at h ih
 refine Spec.of (fn := Tryz.f85) Tryz.func85 Tryz.ntmps85 rfl rfl (le1 rfl) (fun w0 Zs Zb T0 ι0 => ?_)
 unfold m85B at h
 refine AWP.sv (.cons (.box (t := 1) (n := 3) (l1 rfl) (nm rfl) (.t rfl) (by first | exact ⟨rfl,rfl⟩ | rfl) rfl)<| .cons (.assign (l1 rfl) (.const _ _ _))<| .nil _ _ _) ⟨[(1,.ptr 1 0)],[(1,⟨42,false,(tW encK41 β1 β2 a0.Sp a0.Kd a0.Lf)⟩)]⟩ rfl rfl ?_
 refine AWP.sv (.cons (.assign (l1 rfl) (.const _ _ _))<| .nil _ _ _) ⟨[(1,.ptr 1 0),(3,iW (1 : Int))],[(1,⟨42,false,(tW encK41 β1 β2 a0.Sp a0.Kd a0.Lf)⟩)]⟩ rfl rfl ?_
 refine AWP.seq ?_
 refine AWP.sv (.cons (.assign (l1 rfl) (.const _ _ _))<| .nil _ _ _) ⟨[(1,.ptr 1 0),(3,iW (1 : Int)),(4,iW (0 : Int))],[(1,⟨42,false,(tW encK41 β1 β2 a0.Sp a0.Kd a0.Lf)⟩)]⟩ rfl rfl ?_
 refine AWP.joinB' (S := fun p_12 : Int => ⟨[(3,iW p_12)],[]⟩) h (fun p_12 h => ?_) (fun k_13 h => ?_)
 ·refine AWP.sr (.cons (.move (l1 rfl) (.t rfl))<| .cons (.assign (l1 rfl) (.t rfl))<| .nil _ _ _) ?_
  refine AWP.ret ?_
  obtain rfl := Option.some.inj h
  refine retJ (Res.vc (s' := ⟨[(2,iW p_12)],[]⟩) (VC.sub (.of rfl) (.n _)) ?_)
  refine Res.drop (H := []) rfl ?_
  exact Res.of rfl (.cons (.tmp rfl) (.nil)) rfl rfl
 ·refine AWP.vs ⟨[(1,.ptr 1 0),(3,iW (1 : Int)),(4,iW (0 : Int))],[(1,⟨42,false,(tW encK41 β1 β2 a0.Sp a0.Kd a0.Lf)⟩)]⟩ rfl rfl ?_
  refine AWP.loopM (S := fun x_6 : Int × Int => ⟨[(1,.ptr 1 0),(3,iW x_6.1),(4,iW x_6.2)],[(1,⟨42,false,(tW encK41 β1 β2 a0.Sp a0.Kd a0.Lf)⟩)]⟩) (x := ((1 : Int),(0 : Int))) (fun nx_7 x_6 h => ?_) h
  unfold m85_L1 at h
  refine AWP.seq ?_
  refine AWP.sv (.cons (.move (l1 rfl) (.t rfl))<| .cons (.fieldP (l1 rfl) (.t rfl) fld42_1)<| .cons (.loadP (l1 rfl) (.t rfl) one40 rfl rfl rfl)<| .cons (.lenRd (l1 rfl) (.t rfl) Tryz.underlying40)<| .cons (.lss (l1 rfl) (.t rfl) (.t rfl))<| .nil _ _ _) ⟨[(1,.ptr 1 0),(3,iW x_6.1),(4,iW x_6.2),(9,bW (decide (x_6.2 < (a0.Kd.length : Int))))],[(1,⟨42,false,(tW encK41 β1 β2 a0.Sp a0.Kd a0.Lf)⟩)]⟩ rfl rfl ?_
  refine AWP.cond (.t rfl) (fun hc => ?_) (fun hc => ?_)
  ·have h := iteT hc h
   refine AWP.skip ?_
   refine AWP.seq ?_
   refine AWP.block ?_
   obtain ⟨y_8,hy_8,h⟩ := bindS h
   obtain ⟨y_9,hy_9,h⟩ := bindS h
   obtain ⟨t3_10,ht3_10,h⟩ := letS h
   refine AWP.rg (.cons (.move (l1 rfl) (.t rfl))<| .cons (.fieldP (l1 rfl) (.t rfl) fld42_1)<| .cons (.loadP (l1 rfl) (.t rfl) one40 rfl rfl rfl)<| .cons (.move (l1 rfl) (.t rfl))<| .cons (.indexRdC (enc := encK41) (l1 rfl) (.t rfl) (.t rfl) Tryz.underlying40 sz42 encK41_len rfl hy_8 (encK41_out _))<| .cons (.loadRA (out := (tW encK41 β1 β1 y_8.out.Sp y_8.out.Kd y_8.out.Lf)) (l1 rfl) (.t rfl) agg42 (le1 rfl) rfl)<| .cons (.call0 (bw := false) (l1 rfl) (ih (β1 := β1) (β2 := β1) (R41.mk y_8.out.Sp y_8.out.Kd y_8.out.Lf) hy_9) (.cons (.t rfl) (.ren rfl) (.nil)) rfl)<| .cons (.add (l1 rfl) (.t rfl) (.t rfl))<| .cons (.assign (l1 rfl) (.t rfl))<| .nil _ _ _) ?_
   refine AWP.vc (s' := ⟨[(1,.ptr 1 0),(3,iW t3_10),(4,iW x_6.2)],[(1,⟨42,false,(tW encK41 β1 β2 a0.Sp a0.Kd a0.Lf)⟩)]⟩) (by subst ht3_10; exact VC.sub (.of rfl) (.of rfl)) ?_
   obtain ⟨t4_11,ht4_11,h⟩ := letS h
   refine AWP.rg (.cons (.move (l1 rfl) (.t rfl))<| .cons (.add (l1 rfl) (.t rfl) (.const _ _ _))<| .cons (.assign (l1 rfl) (.t rfl))<| .nil _ _ _) ?_
   exact endJ (t3_10,t4_11) h (by subst ht4_11; exact VC.sub (.of rfl) (.of rfl))
  ·have h := iteF hc h
   refine AWP.exit ?_
   exact endJ x_6.1 h (VC.sub (.of rfl) (.n _))
theorem c85 (n : Nat) {β1 : Bool} {β2 : Bool} (a0 : R41) {r : Int} (h : m85 n a0 = some r) : Spec Tryz.prog 85 [] [.agg (tW encK41 β1 β2 a0.Sp a0.Kd a0.Lf)] [] (iW r) [] := c85F n n a0 h
theorem c86F (n : Nat) : ∀ (f : Nat) {β1 : Bool} {β2 : Bool} (a0 : R41) {r : Int},m86F n f a0 = some r → Spec Tryz.prog 86 [] [.agg (tW encK41 β1 β2 a0.Sp a0.Kd a0.Lf)] [] (iW r) [] := by
 intro f
 induction f with
 | zero =>
  intro β1 β2 a0 r h
  cases (show (none : Option Int) = some r from h)
 | succ f ih =>
 intro β1 β2 a0 r h
 replace h : m86B n (m86F n f) a0 = some r := h
 generalize m86F n f = rc_0 at h ih
 refine Spec.of (fn := Tryz.f86) Tryz.func86 Tryz.ntmps86 rfl rfl (le1 rfl) (fun w0 Zs Zb T0 ι0 => ?_)
 unfold m86B at h
 refine AWP.sv (.cons (.box (t := 1) (n := 3) (l1 rfl) (nm rfl) (.t rfl) (by first | exact ⟨rfl,rfl⟩ | rfl) rfl)<| .cons (.assign (l1 rfl) (.const _ _ _))<| .nil _ _ _) ⟨[(1,.ptr 1 0)],[(1,⟨42,false,(tW encK41 β1 β2 a0.Sp a0.Kd a0.Lf)⟩)]⟩ rfl rfl ?_
 refine AWP.sv (.cons (.assign (l1 rfl) (.const _ _ _))<| .nil _ _ _) ⟨[(1,.ptr 1 0),(3,iW (0 : Int))],[(1,⟨42,false,(tW encK41 β1 β2 a0.Sp a0.Kd a0.Lf)⟩)]⟩ rfl rfl ?_
 refine AWP.seq ?_
 refine AWP.sv (.cons (.assign (l1 rfl) (.const _ _ _))<| .nil _ _ _) ⟨[(1,.ptr 1 0),(3,iW (0 : Int)),(4,iW (0 : Int))],[(1,⟨42,false,(tW encK41 β1 β2 a0.Sp a0.Kd a0.Lf)⟩)]⟩ rfl rfl ?_
 refine AWP.joinB' (S := fun p_12 : Int => ⟨[(3,iW p_12)],[]⟩) h (fun p_12 h => ?_) (fun k_13 h => ?_)
 ·obtain ⟨t2_14,ht2_14,h⟩ := letS h
  refine AWP.sr (.cons (.move (l1 rfl) (.t rfl))<| .cons (.add (l1 rfl) (.t rfl) (.const _ _ _))<| .cons (.assign (l1 rfl) (.t rfl))<| .nil _ _ _) ?_
  refine AWP.ret ?_
  obtain rfl := Option.some.inj h
  refine retJ (Res.vc (s' := ⟨[(2,iW t2_14)],[]⟩) (by subst ht2_14; exact VC.sub (.of rfl) (.n _)) ?_)
  refine Res.drop (H := []) rfl ?_
  exact Res.of rfl (.cons (.tmp rfl) (.nil)) rfl rfl
 ·refine AWP.vs ⟨[(1,.ptr 1 0),(3,iW (0 : Int)),(4,iW (0 : Int))],[(1,⟨42,false,(tW encK41 β1 β2 a0.Sp a0.Kd a0.Lf)⟩)]⟩ rfl rfl ?_
  refine AWP.loopM (S := fun x_6 : Int × Int => ⟨[(1,.ptr 1 0),(3,iW x_6.1),(4,iW x_6.2)],[(1,⟨42,false,(tW encK41 β1 β2 a0.Sp a0.Kd a0.Lf)⟩)]⟩) (x := ((0 : Int),(0 : Int))) (fun nx_7 x_6 h => ?_) h
  unfold m86_L1 at h
  refine AWP.seq ?_
  refine AWP.sv (.cons (.move (l1 rfl) (.t rfl))<| .cons (.fieldP (l1 rfl) (.t rfl) fld42_1)<| .cons (.loadP (l1 rfl) (.t rfl) one40 rfl rfl rfl)<| .cons (.lenRd (l1 rfl) (.t rfl) Tryz.underlying40)<| .cons (.lss (l1 rfl) (.t rfl) (.t rfl))<| .nil _ _ _) ⟨[(1,.ptr 1 0),(3,iW x_6.1),(4,iW x_6.2),(9,bW (decide (x_6.2 < (a0.Kd.length : Int))))],[(1,⟨42,false,(tW encK41 β1 β2 a0.Sp a0.Kd a0.Lf)⟩)]⟩ rfl rfl ?_
  refine AWP.cond (.t rfl) (fun hc => ?_) (fun hc => ?_)
  ·have h := iteT hc h
   refine AWP.skip ?_
   refine AWP.seq ?_
   refine AWP.block ?_
   obtain ⟨y_8,hy_8,h⟩ := bindS h
   obtain ⟨y_9,hy_9,h⟩ := bindS h
   obtain ⟨t3_10,ht3_10,h⟩ := letS h
   refine AWP.rg (.cons (.move (l1 rfl) (.t rfl))<| .cons (.fieldP (l1 rfl) (.t rfl) fld42_1)<| .cons (.loadP (l1 rfl) (.t rfl) one40 rfl rfl rfl)<| .cons (.move (l1 rfl) (.t rfl))<| .cons (.indexRdC (enc := encK41) (l1 rfl) (.t rfl) (.t rfl) Tryz.underlying40 sz42 encK41_len rfl hy_8 (encK41_out _))<| .cons (.loadRA (out := (tW encK41 β1 β1 y_8.out.Sp y_8.out.Kd y_8.out.Lf)) (l1 rfl) (.t rfl) agg42 (le1 rfl) rfl)<| .cons (.call0 (bw := false) (l1 rfl) (ih (β1 := β1) (β2 := β1) (R41.mk y_8.out.Sp y_8.out.Kd y_8.out.Lf) hy_9) (.cons (.t rfl) (.ren rfl) (.nil)) rfl)<| .cons (.max2 (l1 rfl) (.t rfl) (.t rfl))<| .cons (.assign (l1 rfl) (.t rfl))<| .nil _ _ _) ?_
   refine AWP.vc (s' := ⟨[(1,.ptr 1 0),(3,iW t3_10),(4,iW x_6.2)],[(1,⟨42,false,(tW encK41 β1 β2 a0.Sp a0.Kd a0.Lf)⟩)]⟩) (by subst ht3_10; exact VC.sub (.of rfl) (.of rfl)) ?_
   obtain ⟨t4_11,ht4_11,h⟩ := letS h
   refine AWP.rg (.cons (.move (l1 rfl) (.t rfl))<| .cons (.add (l1 rfl) (.t rfl) (.const _ _ _))<| .cons (.assign (l1 rfl) (.t rfl))<| .nil _ _ _) ?_
   exact endJ (t3_10,t4_11) h (by subst ht4_11; exact VC.sub (.of rfl) (.of rfl))
  ·have h := iteF hc h
   refine AWP.exit ?_
   exact endJ x_6.1 h (VC.sub (.of rfl) (.n _))
theorem c86 (n : Nat) {β1 : Bool} {β2 : Bool} (a0 : R41) {r : Int} (h : m86 n a0 = some r) : Spec Tryz.prog 86 [] [.agg (tW encK41 β1 β2 a0.Sp a0.Kd a0.Lf)] [] (iW r) [] := c86F n n a0 h
theorem c61 {β1 : Bool} {β2 : Bool} (n : Nat) (a0 : R41) {r : Bool} (h : m61 n a0 = some r) : Spec Tryz.prog 61 [] [.agg (tW encK41 β1 β2 a0.Sp a0.Kd a0.Lf)] [] (bW r) [] := by
 refine Spec.of (fn := Tryz.f61) Tryz.func61 Tryz.ntmps61 rfl rfl (le1 rfl) (fun w0 Zs Zb T0 ι0 => ?_)
 unfold m61 at h
 refine AWP.sv (.cons (.box (t := 1) (n := 3) (l1 rfl) (nm rfl) (.t rfl) (by first | exact ⟨rfl,rfl⟩ | rfl) rfl)<| .cons (.assign (l1 rfl) (.const _ _ _))<| .nil _ _ _) ⟨[(1,.ptr 1 0)],[(1,⟨42,false,(tW encK41 β1 β2 a0.Sp a0.Kd a0.Lf)⟩)]⟩ rfl rfl ?_
 obtain ⟨y_1,hy_1,h⟩ := bindS h
 obtain ⟨y_2,hy_2,h⟩ := bindS h
 obtain ⟨y_3,hy_3,h⟩ := bindS h
 refine AWP.sr (.cons (.loadPA (l1 rfl) (.t rfl) agg42 rfl rfl rfl rfl)<| .cons (.call0 (bw := false) (l1 rfl) (c84 (β1 := β1) (β2 := β2) n (R41.mk a0.Sp a0.Kd a0.Lf) hy_1) (.cons (.t rfl) (.ren rfl) (.nil)) rfl)<| .cons (.move (l1 rfl) (.t rfl))<| .guard (j := 2) (dj := 5) rfl (l1 rfl) rfl (l1 rfl) (fun hg => .loadPA (l1 rfl) (.t rfl) agg42 rfl rfl rfl rfl)<| .guard (j := 2) (dj := 5) rfl (l1 rfl) rfl (l1 rfl) (fun hg => .call0 (bw := false) (l1 rfl) (c85 (β1 := β1) (β2 := β2) n (R41.mk a0.Sp a0.Kd a0.Lf) (gdB hy_2 hg)) (.cons (.gd hg (.t rfl)) (.ren rfl) (.nil)) rfl)<| .guard (j := 2) (dj := 5) rfl (l1 rfl) rfl (l1 rfl) (fun hg => .leq (l1 rfl) (.gd hg (.t rfl)) (.const _ _ _))<| .cons (.pickAnd (l1 rfl) (.t rfl) (.t rfl) (.const _ _ _))<| .cons (.move (l1 rfl) (.t rfl))<| .guard (j := 7) (dj := 10) rfl (l1 rfl) rfl (l1 rfl) (fun hg => .loadPA (l1 rfl) (.t rfl) agg42 rfl rfl rfl rfl)<| .guard (j := 7) (dj := 10) rfl (l1 rfl) rfl (l1 rfl) (fun hg => .call0 (bw := false) (l1 rfl) (c86 (β1 := β1) (β2 := β2) n (R41.mk a0.Sp a0.Kd a0.Lf) (gdB hy_3 hg)) (.cons (.gd hg (.t rfl)) (.ren rfl) (.nil)) rfl)<| .guard (j := 7) (dj := 10) rfl (l1 rfl) rfl (l1 rfl) (fun hg => .leq (l1 rfl) (.gd hg (.t rfl)) (.const _ _ _))<| .cons (.pickAnd (l1 rfl) (.t rfl) (.t rfl) (.const _ _ _))<| .cons (.assign (l1 rfl) (.t rfl))<| .nil _ _ _) ?_
 refine AWP.ret ?_
 obtain rfl := Option.some.inj h
 refine retJ (Res.vc (s' := ⟨[(2,bW ((y_1 && (decide (y_2 ≤ (2000 : Int)))) && (decide (y_3 ≤ (40 : Int)))))],[]⟩) (VC.sub (.of rfl) (.n _)) ?_)
 refine Res.drop (H := []) rfl ?_
 exact Res.of rfl (.cons (.tmp rfl) (.nil)) rfl rfl
theorem c97 {β1 : Bool} {β2 : Bool} {β3 : Bool} (n : Nat) (a0 : R24) (a1 : (List Int)) {r : Bool} (h : m97 n a0 a1 = some r) : Spec Tryz.prog 97 [] [.agg (pW β1 β2 a0),rW β3 a1 eW] [] (bW r) [] := by
 refine Spec.of (fn := Tryz.f97) Tryz.func97 Tryz.ntmps97 rfl rfl (le1 rfl) (fun w0 Zs Zb T0 ι0 => ?_)
 unfold m97 at h
 refine AWP.sv (.cons (.box (t := 1) (n := 2) (l1 rfl) (nm rfl) (.t rfl) (by first | exact ⟨rfl,rfl⟩ | rfl) rfl)<| .cons (.assign (l1 rfl) (.const _ _ _))<| .nil _ _ _) ⟨[(1,rW β3 a1 eW),(2,.ptr 1 0)],[(1,⟨25,false,(pW β1 β2 a0)⟩)]⟩ rfl rfl ?_
 refine AWP.seq ?_
 refine AWP.sv (.cons (.assign (l1 rfl) (.const _ _ _))<| .nil _ _ _) ⟨[(1,rW β3 a1 eW),(2,.ptr 1 0),(5,iW (0 : Int))],[(1,⟨25,false,(pW β1 β2 a0)⟩)]⟩ rfl rfl ?_
 refine AWP.joinB' (S := fun p_10 : Unit => ⟨[(1,rW β3 a1 eW),(2,.ptr 1 0)],[(1,⟨25,false,(pW β1 β2 a0)⟩)]⟩) h (fun p_10 h => ?_) (fun k_11 h => ?_)
 ·refine AWP.sr (.cons (.move (l1 rfl) (.t rfl))<| .cons (.lenRd (l1 rfl) (.t rfl) Tryz.underlying28)<| .cons (.fieldP (l1 rfl) (.t rfl) fld25_0)<| .cons (.loadP (l1 rfl) (.t rfl) one22 rfl rfl rfl)<| .cons (.lenRd (l1 rfl) (.t rfl) Tryz.underlying22)<| .cons (.eql (l1 rfl) (.t rfl) (.t rfl))<| .cons (.assign (l1 rfl) (.t rfl))<| .nil _ _ _) ?_
  refine AWP.ret ?_
  obtain rfl := Option.some.inj h
  refine retJ (Res.vc (s' := ⟨[(4,bW (decide ((a1.length : Int) = (a0.Pq.length : Int))))],[]⟩) (VC.sub (.of rfl) (.n _)) ?_)
  refine Res.drop (H := []) rfl ?_
  exact Res.of rfl (.cons (.tmp rfl) (.nil)) rfl rfl
 ·refine AWP.vs ⟨[(1,rW β3 a1 eW),(2,.ptr 1 0),(5,iW (0 : Int))],[(1,⟨25,false,(pW β1 β2 a0)⟩)]⟩ rfl rfl ?_
  refine AWP.loopM (S := fun x_5 : Int => ⟨[(1,rW β3 a1 eW),(2,.ptr 1 0),(5,iW x_5)],[(1,⟨25,false,(pW β1 β2 a0)⟩)]⟩) (x := (0 : Int)) (fun nx_6 x_5 h => ?_) h
  unfold m97_L1 at h
  refine AWP.seq ?_
  refine AWP.sv (.cons (.move (l1 rfl) (.t rfl))<| .cons (.move (l1 rfl) (.t rfl))<| .cons (.lenRd (l1 rfl) (.t rfl) Tryz.underlying28)<| .cons (.lss (l1 rfl) (.t rfl) (.t rfl))<| .nil _ _ _) ⟨[(1,rW β3 a1 eW),(2,.ptr 1 0),(5,iW x_5),(9,bW (decide (x_5 < (a1.length : Int))))],[(1,⟨25,false,(pW β1 β2 a0)⟩)]⟩ rfl rfl ?_
  refine AWP.cond (.t rfl) (fun hc => ?_) (fun hc => ?_)
  ·have h := iteT hc h
   refine AWP.skip ?_
   refine AWP.seq ?_
   refine AWP.block ?_
   obtain ⟨y_7,hy_7,h⟩ := bindS h
   obtain ⟨y_8,hy_8,h⟩ := bindS h
   refine AWP.sv (.cons (.move (l1 rfl) (.t rfl))<| .cons (.move (l1 rfl) (.t rfl))<| .cons (.indexRd (enc := eW) (l1 rfl) (.t rfl) (.t rfl) Tryz.underlying28 sz3 (encI_len .i64) rfl hy_7)<| .cons (.loadR (v := iW y_7) (l1 rfl) (.t rfl) one3 rfl)<| .cons (.lss (l1 rfl) (.t rfl) (.const _ _ _))<| .cons (.move (l1 rfl) (.t rfl))<| .guard (j := 5) (dj := 17) rfl (l1 rfl) rfl (l1 rfl) (fun hg => .move (l1 rfl) (.t rfl))<| .guard (j := 5) (dj := 17) rfl (l1 rfl) rfl (l1 rfl) (fun hg => .move (l1 rfl) (.t rfl))<| .guard (j := 5) (dj := 17) rfl (l1 rfl) rfl (l1 rfl) (fun hg => .indexRd (enc := eW) (l1 rfl) (.gd hg (.t rfl)) (.gd hg (.t rfl)) Tryz.underlying28 sz3 (encI_len .i64) rfl (gdB hy_8 hg))<| .guard (j := 5) (dj := 17) rfl (l1 rfl) rfl (l1 rfl) (fun hg => .loadR (v := iW y_8) (l1 rfl) (.gd hg (.t rfl)) one3 rfl)<| .guard (j := 5) (dj := 17) rfl (l1 rfl) rfl (l1 rfl) (fun hg => .gtr (l1 rfl) (.gd hg (.t rfl)) (.const _ _ _))<| .cons (.pickOr (l1 rfl) (.t rfl) (.const _ _ _) (.t rfl))<| .nil _ _ _) ⟨[(1,rW β3 a1 eW),(2,.ptr 1 0),(5,iW x_5),(23,bW ((decide (y_7 < (-20000 : Int))) || (decide ((20000 : Int) < y_8))))],[(1,⟨25,false,(pW β1 β2 a0)⟩)]⟩ rfl rfl ?_
   refine AWP.cond (.t rfl) (fun hc => ?_) (fun hc => ?_)
   ·have h := iteT hc h
    refine AWP.sr (.cons (.assign (l1 rfl) (.const _ _ _))<| .nil _ _ _) ?_
    refine AWP.ret ?_
    obtain rfl := Option.some.inj h
    refine retJ (Res.vc (s' := ⟨[(4,bW false)],[]⟩) (VC.sub (.of rfl) (.n _)) ?_)
    refine Res.drop (H := []) rfl ?_
    exact Res.of rfl (.cons (.tmp rfl) (.nil)) rfl rfl
   ·have h := iteF hc h
    refine AWP.skip ?_
    obtain ⟨t5_9,ht5_9,h⟩ := letS h
    refine AWP.rg (.cons (.move (l1 rfl) (.t rfl))<| .cons (.add (l1 rfl) (.t rfl) (.const _ _ _))<| .cons (.assign (l1 rfl) (.t rfl))<| .nil _ _ _) ?_
    exact endJ t5_9 h (by subst ht5_9; exact VC.sub (.of rfl) (.of rfl))
  ·have h := iteF hc h
   refine AWP.exit ?_
   exact endJ () h (VC.sub (.of rfl) (.of rfl))
theorem c106 {β1 : Bool} {β2 : Bool} {β3 : Bool} (n : Nat) (a0 : R24) (a1 : (List Int)) (a2 : Int) (a3 : Int) {r : Int} (h : m106 n a0 a1 a2 a3 = some r) : Spec Tryz.prog 106 [] [.agg (pW β1 β2 a0),rW β3 a1 eW,iW a2,iW a3] [] (iW r) [] := by
 refine Spec.of (fn := Tryz.f106) Tryz.func106 Tryz.ntmps106 rfl rfl (le1 rfl) (fun w0 Zs Zb T0 ι0 => ?_)
 unfold m106 at h
 refine AWP.sv (.cons (.box (t := 1) (n := 2) (l1 rfl) (nm rfl) (.t rfl) (by first | exact ⟨rfl,rfl⟩ | rfl) rfl)<| .cons (.assign (l1 rfl) (.const _ _ _))<| .nil _ _ _) ⟨[(1,rW β3 a1 eW),(2,iW a2),(3,iW a3),(4,.ptr 1 0)],[(1,⟨25,false,(pW β1 β2 a0)⟩)]⟩ rfl rfl ?_
 refine AWP.seq ?_
 obtain ⟨y_1,hy_1,h⟩ := bindS h
 obtain ⟨y_2,hy_2,h⟩ := bindS h
 obtain ⟨y_3,hy_3,h⟩ := bindS h
 obtain ⟨y_4,hy_4,h⟩ := bindS h
 obtain ⟨y_5,hy_5,h⟩ := bindS h
 obtain ⟨t8_6,ht8_6,h⟩ := letS h
 refine AWP.dw mixed [(1,rW β3 a1 eW),(2,iW a2),(3,iW a3),(4,.ptr 1 0)] [] [dO [3] 9 (.ptr 1 (0 + 0)),dO [4] 10 (rW β1 a0.Pq e50),dO [1] 11 (iW a2),dO [5,6] 12 (.rptr β1 [iW y_1.X,iW y_1.Y]),dO [7] 13 (.agg [iW y_1.X,iW y_1.Y]),dO [3] 14 (.ptr 1 (0 + 0)),dO [9] 15 (rW β1 a0.Pq e50),dO [2] 16 (iW a3),dO [10,11] 17 (.rptr β1 [iW y_2.X,iW y_2.Y]),dO [12] 18 (.agg [iW y_2.X,iW y_2.Y]),dO [8,13] 19 (iW y_3),dO [0] 20 (rW β3 a1 eW),dO [1] 21 (iW a2),dO [15,16] 22 (.rptr β3 [iW y_4]),dO [17] 23 (iW y_4),dO [14,18] 24 (iW (IntKind.wrap .i64 (y_3 + y_4))),dO [0] 25 (rW β3 a1 eW),dO [2] 26 (iW a3),dO [20,21] 27 (.rptr β3 [iW y_5]),dO [22] 28 (iW y_5),dO [19,23] 29 (iW (IntKind.wrap .i64 ((IntKind.wrap .i64 (y_3 + y_4)) + y_5))),dO [24] 8 (iW (IntKind.wrap .i64 ((IntKind.wrap .i64 (y_3 + y_4)) + y_5)))] [] [[(1,⟨25,false,(pW β1 β2 a0)⟩)]] [[],[0,1],[],[0,3],[0,4],[],[5,6],[],[5,8],[5,9],[0,10],[],[],[11,13],[11,14],[0,15],[],[],[16,18],[16,19],[0,20],[0,21]] [25] rfl rfl (by kernel_rfl) rfl (.r rfl rfl (fun _ q => .fieldP (l1 rfl) (q.t 0 rfl) fld25_0)<| .r rfl rfl (fun _ q => .loadP (l1 rfl) (q.t 0 rfl) one22 rfl rfl rfl)<| .p rfl (fun _ q _ => .move (l1 rfl) (q.t 0 rfl))<| .p rfl (fun _ q _ => .indexRd (enc := e50) (l1 rfl) (q.t 0 rfl) (q.t 1 rfl) Tryz.underlying22 sz51 encR50_len rfl hy_1)<| .p rfl (fun _ q _ => .loadRA (out := [iW y_1.X,iW y_1.Y]) (l1 rfl) (q.t 0 rfl) agg51 (Nat.le_of_eq (Eq.symm (encR50_len _))) rfl)<| .r rfl rfl (fun _ q => .fieldP (l1 rfl) (q.t 0 rfl) fld25_0)<| .r rfl rfl (fun _ q => .loadP (l1 rfl) (q.t 0 rfl) one22 rfl rfl rfl)<| .p rfl (fun _ q _ => .move (l1 rfl) (q.t 0 rfl))<| .p rfl (fun _ q _ => .indexRd (enc := e50) (l1 rfl) (q.t 0 rfl) (q.t 1 rfl) Tryz.underlying22 sz51 encR50_len rfl hy_2)<| .p rfl (fun _ q _ => .loadRA (out := [iW y_2.X,iW y_2.Y]) (l1 rfl) (q.t 0 rfl) agg51 (Nat.le_of_eq (Eq.symm (encR50_len _))) rfl)<| .p rfl (fun _ q _ => .call0 (bw := false) (l1 rfl) (c83 n (R50.mk y_1.X y_1.Y) (R50.mk y_2.X y_2.Y) hy_3) (.cons (q.t 0 rfl) (.ren rfl) (.cons (q.t 1 rfl) (.ren rfl) (.nil))) rfl)<| .p rfl (fun _ q _ => .move (l1 rfl) (q.t 0 rfl))<| .p rfl (fun _ q _ => .move (l1 rfl) (q.t 0 rfl))<| .p rfl (fun _ q _ => .indexRd (enc := eW) (l1 rfl) (q.t 0 rfl) (q.t 1 rfl) Tryz.underlying28 sz3 (encI_len .i64) rfl hy_4)<| .p rfl (fun _ q _ => .loadR (v := iW y_4) (l1 rfl) (q.t 0 rfl) one3 rfl)<| .p rfl (fun _ q _ => .add (l1 rfl) (q.t 0 rfl) (q.t 1 rfl))<| .p rfl (fun _ q _ => .move (l1 rfl) (q.t 0 rfl))<| .p rfl (fun _ q _ => .move (l1 rfl) (q.t 0 rfl))<| .p rfl (fun _ q _ => .indexRd (enc := eW) (l1 rfl) (q.t 0 rfl) (q.t 1 rfl) Tryz.underlying28 sz3 (encI_len .i64) rfl hy_5)<| .p rfl (fun _ q _ => .loadR (v := iW y_5) (l1 rfl) (q.t 0 rfl) one3 rfl)<| .p rfl (fun _ q _ => .add (l1 rfl) (q.t 0 rfl) (q.t 1 rfl))<| .p rfl (fun _ q _ => .assign (l1 rfl) (q.t 0 rfl))<| .nil _) rfl rfl ?_
 refine AWP.ret ?_
 obtain rfl := Option.some.inj h
 refine retJ (Res.vc (s' := ⟨[(8,iW t8_6)],[]⟩) (by subst ht8_6; exact VC.sub (.of rfl) (.n _)) ?_)
 refine Res.drop (H := []) rfl ?_
 exact Res.of rfl (.cons (.tmp rfl) (.nil)) rfl rfl
end Go.AB

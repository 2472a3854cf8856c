import Derived.Test.YtpccmcepgllccaaGreatProg
import Derived.Test.YtpccmcepgllccaaGreatF3d
import Derived.KernelRfl
set_option linter.unusedVariables false
set_option maxRecDepth 20000
namespace Go.AB
open Go Go.Proofs
theorem c17 {β1 : Bool} (n : Nat) (a0 : (List R63)) {r : Bool} (h : m17 n a0 = some r) : Spec Tryz.prog 17 [] [rW β1 a0 e63] [] (bW r) [] := by
 refine Spec.of (fn := Tryz.f17) Tryz.func17 Tryz.ntmps17 rfl rfl (le1 rfl) (fun w0 Zs Zb T0 ι0 => ?_)
 unfold m17 at h
 refine AWP.seq ?_
 refine AWP.rg (.cons (.assign (l1 rfl) (.const _ _ _))<| .nil _ _ _) ?_
 refine AWP.vs ⟨[(0,rW β1 a0 e63)],[]⟩ rfl rfl ?_
 refine AWP.seq ?_
 refine AWP.rg (.cons (.move (l1 rfl) (.t rfl))<| .cons (.lenRd (l1 rfl) (.t rfl) Tryz.underlying22)<| .cons (.leq (l1 rfl) (.t rfl) (.const _ _ _))<| .cons (.assign (l1 rfl) (.t rfl))<| .nil _ _ _) ?_
 refine AWP.ret ?_
 obtain rfl := Option.some.inj h
 refine retJ (Res.vc (s' := ⟨[(2,bW (decide ((a0.length : Int) ≤ (10 : Int))))],[]⟩) (VC.sub (.of rfl) (.n _)) ?_)
 refine Res.drop (H := []) rfl ?_
 exact Res.of rfl (.cons (.tmp rfl) (.nil)) rfl rfl
theorem c41 {β1 : Bool} {β2 : Bool} (n : Nat) (a0 : R36) {r : R86} (h : m41 n a0 = some r) : Spec Tryz.prog 41 [] [.agg (gW β1 β2 a0.Jb a0.Dn a0.Mt a0.Bo)] [] (.agg [iW r.Kind,iW r.Sp,rW false r.Lf eW]) [] := by
 refine Spec.of (fn := Tryz.f41) Tryz.func41 Tryz.ntmps41 rfl rfl (le1 rfl) (fun w0 Zs Zb T0 ι0 => ?_)
 unfold m41 at h
 refine AWP.seq ?_
 refine AWP.rg (.cons (.box (t := 1) (n := 4) (l1 rfl) (nm rfl) (.t rfl) (by first | exact ⟨rfl,rfl⟩ | rfl) rfl)<| .cons (.alloc (t := 2) (k := ⟨87,false,[iW (0 : Int),iW (0 : Int),.sc (.slice none 0 0)]⟩) (l1 rfl) (nm rfl) zero87 rfl rfl)<| .nil _ _ _) ?_
 refine AWP.vs ⟨[(1,.ptr 1 0),(2,.ptr 2 0)],[(2,⟨87,false,[iW (0 : Int),iW (0 : Int),.sc (.slice none 0 0)]⟩),(1,⟨37,false,(gW β1 β2 a0.Jb a0.Dn a0.Mt a0.Bo)⟩)]⟩ rfl rfl ?_
 refine AWP.seq ?_
 refine AWP.seq ?_
 obtain ⟨y_1,hy_1,h⟩ := bindS h
 refine AWP.dw mixed [(1,.ptr 1 0),(2,.ptr 2 0)] [] [dO [0] 3 (.ptr 1 (0 + 3)),dO [2] 4 (iW a0.Bo),dO [0] 5 (.agg (gW β1 β2 a0.Jb a0.Dn a0.Mt a0.Bo)),dO [4] 6 (iW y_1),dO [3,5] 7 (bW (decide (a0.Bo ≤ y_1)))] [] [[(2,⟨87,false,[iW (0 : Int),iW (0 : Int),.sc (.slice none 0 0)]⟩),(1,⟨37,false,(gW β1 β2 a0.Jb a0.Dn a0.Mt a0.Bo)⟩)]] [[],[0,1],[],[2,3],[0,4]] [1,6] rfl rfl (by kernel_rfl) rfl (.r rfl rfl (fun _ q => .fieldP (l1 rfl) (q.t 0 rfl) fld37_3)<| .r rfl rfl (fun _ q => .loadP (l1 rfl) (q.t 0 rfl) one3 rfl rfl rfl)<| .r rfl rfl (fun _ q => .loadPA (l1 rfl) (q.t 0 rfl) agg37 rfl rfl rfl rfl)<| .p rfl (fun _ q _ => .call0 (bw := false) (l1 rfl) (c42 (β1 := β1) (β2 := β2) n (R36.mk a0.Jb a0.Dn a0.Mt a0.Bo) hy_1) (.cons (q.t 0 rfl) (.ren rfl) (.nil)) rfl)<| .p rfl (fun _ q _ => .leq (l1 rfl) (q.t 0 rfl) (q.t 1 rfl))<| .nil _) rfl rfl ?_
 refine AWP.vs ⟨[(2,.ptr 2 0),(7,bW (decide (a0.Bo ≤ y_1)))],[(2,⟨87,false,[iW (0 : Int),iW (0 : Int),.sc (.slice none 0 0)]⟩)]⟩ rfl rfl ?_
 refine AWP.cond (.t rfl) (fun hc => ?_) (fun hc => ?_)
 ·have h := iteT hc h
  refine AWP.seq ?_
  refine AWP.rg (.cons (.buildO (offs := [(0,1),(1,1),(2,1)]) (l1 rfl) (.cons (.const _ _ _) (by first | exact ⟨rfl,rfl⟩ | rfl) (.nil)) zero87 offs87 rfl)<| .cons (.storePA (.t rfl) (.t rfl) sz87 rfl rfl (le1 rfl) (one_lit rfl) (by intro h; cases h) rfl)<| .nil _ _ _) ?_
  refine AWP.ret ?_
  obtain rfl := Option.some.inj h
  refine retJ (Res.vc (s' := ⟨[(2,.ptr 2 0)],[(2,⟨87,false,[iW (2 : Int),iW (0 : Int),rW false ([] : List Int) eW]⟩)]⟩) (VC.trans (VC.cell (t := 2) (i := 2) (v' := rW false ([] : List Int) eW) rfl rfl rfl (fun _ _ _ _ h => nil_rd h)) (VC.sub (.of rfl) (.of rfl))) ?_)
  refine Res.drop (H := [(2,⟨87,false,[iW (2 : Int),iW (0 : Int),rW false ([] : List Int) eW]⟩)]) rfl ?_
  exact Res.of rfl (.cons (.cell rfl agg87 rfl rfl rfl rfl) (.nil)) rfl rfl
 ·have h := iteF hc h
  refine AWP.skip ?_
  refine AWP.seq ?_
  refine AWP.rg (.cons (.buildO (offs := [(0,1),(1,1),(2,1)]) (l1 rfl) (.cons (.const _ _ _) (by first | exact ⟨rfl,rfl⟩ | rfl) (.nil)) zero87 offs87 rfl)<| .cons (.storePA (.t rfl) (.t rfl) sz87 rfl rfl (le1 rfl) (one_lit rfl) (by intro h; cases h) rfl)<| .nil _ _ _) ?_
  refine AWP.ret ?_
  obtain rfl := Option.some.inj h
  refine retJ (Res.vc (s' := ⟨[(2,.ptr 2 0)],[(2,⟨87,false,[iW (1 : Int),iW (0 : Int),rW false ([] : List Int) eW]⟩)]⟩) (VC.trans (VC.cell (t := 2) (i := 2) (v' := rW false ([] : List Int) eW) rfl rfl rfl (fun _ _ _ _ h => nil_rd h)) (VC.sub (.of rfl) (.of rfl))) ?_)
  refine Res.drop (H := [(2,⟨87,false,[iW (1 : Int),iW (0 : Int),rW false ([] : List Int) eW]⟩)]) rfl ?_
  exact Res.of rfl (.cons (.cell rfl agg87 rfl rfl rfl rfl) (.nil)) rfl rfl
theorem c61F (n : Nat) : ∀ (f : Nat) {β2 : Bool} (a0 : R36) (a1 : Int) (a2_b0 : Int) {r : (R40 × Int × Int)},m61F n f a0 a1 a2_b0 = some r → Spec Tryz.prog 61 [1,2,3,4] [.agg (gW false β2 a0.Jb a0.Dn a0.Mt a0.Bo),iW a1,.ptr 1 0,.ptr 2 0,.ptr 3 0,.ptr 4 0] [(1,⟨3,false,[iW a2_b0]⟩),(2,⟨89,false,[.clo (.func 41) [] []]⟩),(3,⟨72,false,[.clo (.func 29) [] []]⟩),(4,⟨106,false,[.clo (.func 61) [] [.ptr 1 0,.ptr 2 0,.ptr 3 0,.ptr 4 0]]⟩)] (.tup [.agg (tW encK40 false false r.1.Sp r.1.Kd r.1.Lf),iW r.2.1]) [(1,⟨3,false,[iW r.2.2]⟩),(2,⟨89,false,[.clo (.func 41) [] []]⟩),(3,⟨72,false,[.clo (.func 29) [] []]⟩),(4,⟨106,false,[.clo (.func 61) [] [.ptr 1 0,.ptr 2 0,.ptr 3 0,.ptr 4 0]]⟩)] := by
 intro f
 induction f with
 | zero =>
  intro β2 a0 a1 a2_b0 r h
  cases (show (none : Option (R40 × Int × Int)) = some r from h)
 | succ f ih =>
 intro β2 a0 a1 a2_b0 r h
 replace h : m61B n (m61F n f) a0 a1 a2_b0 = some r := h
 generalize m61F n f = rc_0 at h ih
 refine Spec.of (fn := Tryz.f61) Tryz.func61 Tryz.ntmps61 rfl rfl (le1 rfl) (fun w0 Zs Zb T0 ι0 => ?_)
 unfold m61B at h
 refine AWP.seq ?_
 refine AWP.rg (.cons (.box (t := 5) (n := 4) (l1 rfl) (nm rfl) (.t rfl) (by first | exact ⟨rfl,rfl⟩ | rfl) rfl)<| .cons (.alloc (t := 6) (k := ⟨41,false,[iW (0 : Int),.sc (.slice none 0 0),.sc (.slice none 0 0)]⟩) (l1 rfl) (nm rfl) zero41 rfl rfl)<| .cons (.assign (l1 rfl) (.const _ _ _))<| .nil _ _ _) ?_
 refine AWP.vs ⟨[(1,iW a1),(2,.ptr 1 0),(3,.ptr 2 0),(4,.ptr 3 0),(5,.ptr 4 0),(6,.ptr 5 0),(8,.ptr 6 0)],[(6,⟨41,false,[iW (0 : Int),.sc (.slice none 0 0),.sc (.slice none 0 0)]⟩),(5,⟨37,false,(gW false β2 a0.Jb a0.Dn a0.Mt a0.Bo)⟩),(1,⟨3,false,[iW a2_b0]⟩),(2,⟨89,false,[.clo (.func 41) [] []]⟩),(3,⟨72,false,[.clo (.func 29) [] []]⟩),(4,⟨106,false,[.clo (.func 61) [] [.ptr 1 0,.ptr 2 0,.ptr 3 0,.ptr 4 0]]⟩)]⟩ rfl rfl ?_
 refine AWP.seq ?_
 refine AWP.seq ?_
 obtain ⟨c_1,hc_1,h⟩ := letS h
 refine AWP.rg (.cons (.loadP (l1 rfl) (.t rfl) one3 rfl rfl rfl)<| .cons (.add (l1 rfl) (.t rfl) (.const _ _ _))<| .cons (.storeP (.t rfl) (.t rfl) sz3 rfl (l1 rfl) rfl (by intro h; cases h) rfl)<| .nil _ _ _) ?_
 refine AWP.vc (s' := ⟨[(1,iW a1),(2,.ptr 1 0),(3,.ptr 2 0),(4,.ptr 3 0),(5,.ptr 4 0),(6,.ptr 5 0),(8,.ptr 6 0)],[(6,⟨41,false,[iW (0 : Int),.sc (.slice none 0 0),.sc (.slice none 0 0)]⟩),(5,⟨37,false,(gW false β2 a0.Jb a0.Dn a0.Mt a0.Bo)⟩),(1,⟨3,false,[iW c_1]⟩),(2,⟨89,false,[.clo (.func 41) [] []]⟩),(3,⟨72,false,[.clo (.func 29) [] []]⟩),(4,⟨106,false,[.clo (.func 61) [] [.ptr 1 0,.ptr 2 0,.ptr 3 0,.ptr 4 0]]⟩)]⟩) (by subst hc_1; exact VC.sub (.of rfl) (.of rfl)) ?_
 refine AWP.seq ?_
 refine AWP.rg (.cons (.loadP (l1 rfl) (.t rfl) one3 rfl rfl rfl)<| .cons (.gtr (l1 rfl) (.t rfl) (.const _ _ _))<| .cons (.move (l1 rfl) (.t rfl))<| .guard (j := 2) (dj := 24) rfl (l1 rfl) rfl (l1 rfl) (fun hg => .move (l1 rfl) (.t rfl))<| .guard (j := 2) (dj := 24) rfl (l1 rfl) rfl (l1 rfl) (fun hg => .gtr (l1 rfl) (.gd hg (.t rfl)) (.const _ _ _))<| .cons (.pickOr (l1 rfl) (.t rfl) (.const _ _ _) (.t rfl))<| .nil _ _ _) ?_
 refine AWP.vs ⟨[(1,iW a1),(3,.ptr 2 0),(4,.ptr 3 0),(5,.ptr 4 0),(6,.ptr 5 0),(8,.ptr 6 0),(27,bW ((decide ((2000 : Int) < c_1)) || (decide ((40 : Int) < a1))))],[(6,⟨41,false,[iW (0 : Int),.sc (.slice none 0 0),.sc (.slice none 0 0)]⟩),(5,⟨37,false,(gW false β2 a0.Jb a0.Dn a0.Mt a0.Bo)⟩),(1,⟨3,false,[iW c_1]⟩),(2,⟨89,false,[.clo (.func 41) [] []]⟩),(3,⟨72,false,[.clo (.func 29) [] []]⟩),(4,⟨106,false,[.clo (.func 61) [] [.ptr 1 0,.ptr 2 0,.ptr 3 0,.ptr 4 0]]⟩)]⟩ rfl rfl ?_
 refine AWP.cond (.t rfl) (fun hc => ?_) (fun hc => ?_)
 ·have h := iteT hc h
  refine AWP.seq ?_
  refine AWP.rg (.cons (.buildO (offs := [(0,1),(1,1),(2,1)]) (l1 rfl) (.nil) zero41 offs41 rfl)<| .cons (.storePA (.t rfl) (.t rfl) sz41 rfl rfl (le1 rfl) (one_lit rfl) (by intro h; cases h) rfl)<| .cons (.assign (l1 rfl) (.const _ _ _))<| .nil _ _ _) ?_
  refine AWP.ret ?_
  obtain rfl := Option.some.inj h
  refine retJ (Res.vc (s' := ⟨[(8,.ptr 6 0),(9,iW (9 : Int))],[(6,⟨41,false,[iW (0 : Int),rW false ([] : List K40) encK40,rW false ([] : List Int) eW]⟩),(1,⟨3,false,[iW c_1]⟩),(2,⟨89,false,[.clo (.func 41) [] []]⟩),(3,⟨72,false,[.clo (.func 29) [] []]⟩),(4,⟨106,false,[.clo (.func 61) [] [.ptr 1 0,.ptr 2 0,.ptr 3 0,.ptr 4 0]]⟩)]⟩) (VC.trans (VC.cell (t := 6) (i := 1) (v' := rW false ([] : List K40) encK40) rfl rfl rfl (fun _ _ _ _ h => nil_rd h)) (VC.trans (VC.cell (t := 6) (i := 2) (v' := rW false ([] : List Int) eW) rfl rfl rfl (fun _ _ _ _ h => nil_rd h)) (VC.sub (.of rfl) (.of rfl)))) ?_)
  refine Res.sub (H := [(6,⟨41,false,[iW (0 : Int),rW false ([] : List K40) encK40,rW false ([] : List Int) eW]⟩),(1,⟨3,false,[iW c_1]⟩),(2,⟨89,false,[.clo (.func 41) [] []]⟩),(3,⟨72,false,[.clo (.func 29) [] []]⟩),(4,⟨106,false,[.clo (.func 61) [] [.ptr 1 0,.ptr 2 0,.ptr 3 0,.ptr 4 0]]⟩)]) (.of rfl) ?_
  exact Res.of rfl (.cons (.cell rfl agg41 rfl rfl rfl rfl) (.cons (.tmp rfl) (.nil))) rfl rfl
 ·have h := iteF hc h
  refine AWP.skip ?_
  refine AWP.seq ?_
  obtain ⟨y_2,hy_2,h⟩ := bindS h
  refine AWP.rg (.cons (.loadP (l1 rfl) (.t rfl) one89 rfl rfl rfl)<| .cons (.loadPA (l1 rfl) (.t rfl) agg37 rfl rfl rfl rfl)<| .cons (.keep (bw := false) (AStep.callV (us' := []) (avs := [.agg [rW false ((R36.mk a0.Jb a0.Dn a0.Mt a0.Bo).Jb) e63,rW β2 ((R36.mk a0.Jb a0.Dn a0.Mt a0.Bo).Dn) eW,bW ((R36.mk a0.Jb a0.Dn a0.Mt a0.Bo).Mt),iW ((R36.mk a0.Jb a0.Dn a0.Mt a0.Bo).Bo)]]) (cs' := []) (σ := sgT []) (bw := false) (l1 rfl) (.t rfl) (c41 (β1 := false) (β2 := β2) n (R36.mk a0.Jb a0.Dn a0.Mt a0.Bo) hy_2) (.nil) (.cons (.t rfl) (.ren rfl) (.nil)) (.nil) (CallOk.mk' (.n) rfl) (fun _ h => by cases h)) (CallOk.mk' (.n) rfl) rfl rfl)<| .cons (.alloc (t := 7) (k := ⟨87,false,[iW (0 : Int),iW (0 : Int),.sc (.slice none 0 0)]⟩) (l1 rfl) (nm rfl) zero87 rfl rfl)<| .cons (.storePA (.t rfl) (.t rfl) sz87 rfl rfl (le1 rfl) (one_lit rfl) (by intro h; cases h) rfl)<| .nil _ _ _) ?_
  refine AWP.vs ⟨[(1,iW a1),(4,.ptr 3 0),(5,.ptr 4 0),(6,.ptr 5 0),(8,.ptr 6 0),(10,.ptr 7 0)],[(7,⟨87,false,[iW y_2.Kind,iW y_2.Sp,rW false y_2.Lf eW]⟩),(6,⟨41,false,[iW (0 : Int),.sc (.slice none 0 0),.sc (.slice none 0 0)]⟩),(5,⟨37,false,(gW false β2 a0.Jb a0.Dn a0.Mt a0.Bo)⟩),(1,⟨3,false,[iW c_1]⟩),(2,⟨89,false,[.clo (.func 41) [] []]⟩),(3,⟨72,false,[.clo (.func 29) [] []]⟩),(4,⟨106,false,[.clo (.func 61) [] [.ptr 1 0,.ptr 2 0,.ptr 3 0,.ptr 4 0]]⟩)]⟩ rfl rfl ?_
  refine AWP.seq ?_
  refine AWP.rg (.cons (.assign (l1 rfl) (.const _ _ _))<| .nil _ _ _) ?_
  refine AWP.vs ⟨[(1,iW a1),(4,.ptr 3 0),(5,.ptr 4 0),(6,.ptr 5 0),(8,.ptr 6 0),(10,.ptr 7 0)],[(7,⟨87,false,[iW y_2.Kind,iW y_2.Sp,rW false y_2.Lf eW]⟩),(6,⟨41,false,[iW (0 : Int),.sc (.slice none 0 0),.sc (.slice none 0 0)]⟩),(5,⟨37,false,(gW false β2 a0.Jb a0.Dn a0.Mt a0.Bo)⟩),(1,⟨3,false,[iW c_1]⟩),(2,⟨89,false,[.clo (.func 41) [] []]⟩),(3,⟨72,false,[.clo (.func 29) [] []]⟩),(4,⟨106,false,[.clo (.func 61) [] [.ptr 1 0,.ptr 2 0,.ptr 3 0,.ptr 4 0]]⟩)]⟩ rfl rfl ?_
  refine AWP.seq ?_
  refine AWP.seq ?_
  refine AWP.rg (.cons (.fieldP (l1 rfl) (.t rfl) fld87_0)<| .cons (.loadP (l1 rfl) (.t rfl) one3 rfl rfl rfl)<| .nil _ _ _) ?_
  refine AWP.vs ⟨[(1,iW a1),(4,.ptr 3 0),(5,.ptr 4 0),(6,.ptr 5 0),(8,.ptr 6 0),(10,.ptr 7 0),(33,iW y_2.Kind)],[(7,⟨87,false,[iW y_2.Kind,iW y_2.Sp,rW false y_2.Lf eW]⟩),(6,⟨41,false,[iW (0 : Int),.sc (.slice none 0 0),.sc (.slice none 0 0)]⟩),(5,⟨37,false,(gW false β2 a0.Jb a0.Dn a0.Mt a0.Bo)⟩),(1,⟨3,false,[iW c_1]⟩),(2,⟨89,false,[.clo (.func 41) [] []]⟩),(3,⟨72,false,[.clo (.func 29) [] []]⟩),(4,⟨106,false,[.clo (.func 61) [] [.ptr 1 0,.ptr 2 0,.ptr 3 0,.ptr 4 0]]⟩)]⟩ rfl rfl ?_
  refine AWP.block ?_
  refine AWP.seq ?_
  refine AWP.rg (.cons (.eql (l1 rfl) (.t rfl) (.const _ _ _))<| .cons (.assign (l1 rfl) (.t rfl))<| .nil _ _ _) ?_
  refine AWP.vs ⟨[(1,iW a1),(4,.ptr 3 0),(5,.ptr 4 0),(6,.ptr 5 0),(8,.ptr 6 0),(10,.ptr 7 0),(33,iW y_2.Kind),(35,bW (decide (y_2.Kind = (2 : Int))))],[(7,⟨87,false,[iW y_2.Kind,iW y_2.Sp,rW false y_2.Lf eW]⟩),(6,⟨41,false,[iW (0 : Int),.sc (.slice none 0 0),.sc (.slice none 0 0)]⟩),(5,⟨37,false,(gW false β2 a0.Jb a0.Dn a0.Mt a0.Bo)⟩),(1,⟨3,false,[iW c_1]⟩),(2,⟨89,false,[.clo (.func 41) [] []]⟩),(3,⟨72,false,[.clo (.func 29) [] []]⟩),(4,⟨106,false,[.clo (.func 61) [] [.ptr 1 0,.ptr 2 0,.ptr 3 0,.ptr 4 0]]⟩)]⟩ rfl rfl ?_
  refine AWP.cond (.t rfl) (fun hc => ?_) (fun hc => ?_)
  ·have h := iteT hc h
   refine AWP.seq ?_
   obtain ⟨y_3,hy_3,h⟩ := bindS h
   refine AWP.rg (.cons (.fieldP (l1 rfl) (.t rfl) fld87_2)<| .cons (.loadP (l1 rfl) (.t rfl) one23 rfl rfl rfl)<| .cons (.call0 (bw := false) (l1 rfl) (c52 (β1 := false) n y_2.Lf hy_3) (.cons (.t rfl) (.ren rfl) (.nil)) rfl)<| .cons (.buildO (offs := [(0,1),(1,1),(2,1)]) (l1 rfl) (.cons (.t rfl) (by first | exact ⟨rfl,rfl⟩ | rfl) (.nil)) zero41 offs41 rfl)<| .cons (.alloc (t := 8) (k := ⟨41,false,[iW (0 : Int),.sc (.slice none 0 0),.sc (.slice none 0 0)]⟩) (l1 rfl) (nm rfl) zero41 rfl rfl)<| .cons (.storePA (.t rfl) (.t rfl) sz41 rfl rfl (le1 rfl) (one_lit rfl) (by intro h; cases h) rfl)<| .nil _ _ _) ?_
   refine AWP.vs ⟨[(8,.ptr 6 0),(12,.ptr 8 0)],[(8,⟨41,false,[iW (0 : Int),.sc (.slice none 0 0),rW false y_3 eW]⟩),(6,⟨41,false,[iW (0 : Int),.sc (.slice none 0 0),.sc (.slice none 0 0)]⟩),(1,⟨3,false,[iW c_1]⟩),(2,⟨89,false,[.clo (.func 41) [] []]⟩),(3,⟨72,false,[.clo (.func 29) [] []]⟩),(4,⟨106,false,[.clo (.func 61) [] [.ptr 1 0,.ptr 2 0,.ptr 3 0,.ptr 4 0]]⟩)]⟩ rfl rfl ?_
   refine AWP.seq ?_
   refine AWP.seq ?_
   obtain ⟨y_4,hy_4,h⟩ := bindS h
   refine AWP.rg (.cons (.loadPA (l1 rfl) (.t rfl) agg41 rfl rfl rfl rfl)<| .cons (.call0 (bw := false) (l1 rfl) (c62 (β1 := false) (β2 := false) n (R40.mk (0 : Int) ([] : List K40) y_3) hy_4) (.cons (.t rfl) (.agg (.cons (.ren rfl) (.cons (.nil) (.cons (.ren rfl) (.nil))))) (.nil)) rfl)<| .cons (.not (l1 rfl) (.t rfl))<| .nil _ _ _) ?_
   refine AWP.vs ⟨[(8,.ptr 6 0),(12,.ptr 8 0),(43,bW (!y_4))],[(8,⟨41,false,[iW (0 : Int),.sc (.slice none 0 0),rW false y_3 eW]⟩),(6,⟨41,false,[iW (0 : Int),.sc (.slice none 0 0),.sc (.slice none 0 0)]⟩),(1,⟨3,false,[iW c_1]⟩),(2,⟨89,false,[.clo (.func 41) [] []]⟩),(3,⟨72,false,[.clo (.func 29) [] []]⟩),(4,⟨106,false,[.clo (.func 61) [] [.ptr 1 0,.ptr 2 0,.ptr 3 0,.ptr 4 0]]⟩)]⟩ rfl rfl ?_
   refine AWP.cond (.t rfl) (fun hc => ?_) (fun hc => ?_)
   ·have h := iteT hc h
    refine AWP.seq ?_
    refine AWP.rg (.cons (.buildO (offs := [(0,1),(1,1),(2,1)]) (l1 rfl) (.nil) zero41 offs41 rfl)<| .cons (.storePA (.t rfl) (.t rfl) sz41 rfl rfl (le1 rfl) (one_lit rfl) (by intro h; cases h) rfl)<| .cons (.assign (l1 rfl) (.const _ _ _))<| .nil _ _ _) ?_
    refine AWP.ret ?_
    obtain rfl := Option.some.inj h
    refine retJ (Res.vc (s' := ⟨[(8,.ptr 6 0),(9,iW (9 : Int))],[(6,⟨41,false,[iW (0 : Int),rW false ([] : List K40) encK40,rW false ([] : List Int) eW]⟩),(1,⟨3,false,[iW c_1]⟩),(2,⟨89,false,[.clo (.func 41) [] []]⟩),(3,⟨72,false,[.clo (.func 29) [] []]⟩),(4,⟨106,false,[.clo (.func 61) [] [.ptr 1 0,.ptr 2 0,.ptr 3 0,.ptr 4 0]]⟩)]⟩) (VC.trans (VC.cell (t := 6) (i := 1) (v' := rW false ([] : List K40) encK40) rfl rfl rfl (fun _ _ _ _ h => nil_rd h)) (VC.trans (VC.cell (t := 6) (i := 2) (v' := rW false ([] : List Int) eW) rfl rfl rfl (fun _ _ _ _ h => nil_rd h)) (VC.sub (.of rfl) (.of rfl)))) ?_)
    refine Res.sub (H := [(6,⟨41,false,[iW (0 : Int),rW false ([] : List K40) encK40,rW false ([] : List Int) eW]⟩),(1,⟨3,false,[iW c_1]⟩),(2,⟨89,false,[.clo (.func 41) [] []]⟩),(3,⟨72,false,[.clo (.func 29) [] []]⟩),(4,⟨106,false,[.clo (.func 61) [] [.ptr 1 0,.ptr 2 0,.ptr 3 0,.ptr 4 0]]⟩)]) (.of rfl) ?_
    exact Res.of rfl (.cons (.cell rfl agg41 rfl rfl rfl rfl) (.cons (.tmp rfl) (.nil))) rfl rfl
   ·have h := iteF hc h
    refine AWP.skip ?_
    refine AWP.seq ?_
    refine AWP.rg (.cons (.loadPA (l1 rfl) (.t rfl) agg41 rfl rfl rfl rfl)<| .cons (.storePA (.t rfl) (.t rfl) sz41 rfl rfl (le1 rfl) (one_lit rfl) (by intro h; cases h) rfl)<| .cons (.assign (l1 rfl) (.const _ _ _))<| .nil _ _ _) ?_
    refine AWP.ret ?_
    obtain rfl := Option.some.inj h
    refine retJ (Res.vc (s' := ⟨[(8,.ptr 6 0),(9,iW (0 : Int))],[(6,⟨41,false,[iW (0 : Int),rW false ([] : List K40) encK40,rW false y_3 eW]⟩),(1,⟨3,false,[iW c_1]⟩),(2,⟨89,false,[.clo (.func 41) [] []]⟩),(3,⟨72,false,[.clo (.func 29) [] []]⟩),(4,⟨106,false,[.clo (.func 61) [] [.ptr 1 0,.ptr 2 0,.ptr 3 0,.ptr 4 0]]⟩)]⟩) (VC.trans (VC.cell (t := 6) (i := 1) (v' := rW false ([] : List K40) encK40) rfl rfl rfl (fun _ _ _ _ h => nil_rd h)) (VC.sub (.of rfl) (.of rfl))) ?_)
    refine Res.sub (H := [(6,⟨41,false,[iW (0 : Int),rW false ([] : List K40) encK40,rW false y_3 eW]⟩),(1,⟨3,false,[iW c_1]⟩),(2,⟨89,false,[.clo (.func 41) [] []]⟩),(3,⟨72,false,[.clo (.func 29) [] []]⟩),(4,⟨106,false,[.clo (.func 61) [] [.ptr 1 0,.ptr 2 0,.ptr 3 0,.ptr 4 0]]⟩)]) (.of rfl) ?_
    exact Res.of rfl (.cons (.cell rfl agg41 rfl rfl rfl rfl) (.cons (.tmp rfl) (.nil))) rfl rfl
  ·have h := iteF hc h
   refine AWP.seq ?_
   refine AWP.rg (.cons (.eql (l1 rfl) (.t rfl) (.const _ _ _))<| .cons (.assign (l1 rfl) (.t rfl))<| .nil _ _ _) ?_
   refine AWP.vs ⟨[(1,iW a1),(4,.ptr 3 0),(5,.ptr 4 0),(6,.ptr 5 0),(8,.ptr 6 0),(10,.ptr 7 0),(46,bW (decide (y_2.Kind = (1 : Int))))],[(7,⟨87,false,[iW y_2.Kind,iW y_2.Sp,rW false y_2.Lf eW]⟩),(6,⟨41,false,[iW (0 : Int),.sc (.slice none 0 0),.sc (.slice none 0 0)]⟩),(5,⟨37,false,(gW false β2 a0.Jb a0.Dn a0.Mt a0.Bo)⟩),(1,⟨3,false,[iW c_1]⟩),(2,⟨89,false,[.clo (.func 41) [] []]⟩),(3,⟨72,false,[.clo (.func 29) [] []]⟩),(4,⟨106,false,[.clo (.func 61) [] [.ptr 1 0,.ptr 2 0,.ptr 3 0,.ptr 4 0]]⟩)]⟩ rfl rfl ?_
   refine AWP.cond (.t rfl) (fun hc => ?_) (fun hc => ?_)
   ·have h := iteT hc h
    refine AWP.seq ?_
    obtain ⟨y_5,hy_5,h⟩ := bindS h
    refine AWP.rg (.cons (.loadP (l1 rfl) (.t rfl) one72 rfl rfl rfl)<| .cons (.loadPA (l1 rfl) (.t rfl) agg37 rfl rfl rfl rfl)<| .cons (.fieldP (l1 rfl) (.t rfl) fld87_1)<| .cons (.loadP (l1 rfl) (.t rfl) one3 rfl rfl rfl)<| .cons (.keep (bw := false) (AStep.callV (us' := []) (avs := [.agg [rW false ((R36.mk a0.Jb a0.Dn a0.Mt a0.Bo).Jb) e63,rW β2 ((R36.mk a0.Jb a0.Dn a0.Mt a0.Bo).Dn) eW,bW ((R36.mk a0.Jb a0.Dn a0.Mt a0.Bo).Mt),iW ((R36.mk a0.Jb a0.Dn a0.Mt a0.Bo).Bo)],iW y_2.Sp]) (cs' := []) (σ := sgT []) (bw := false) (l1 rfl) (.t rfl) (c29 (β2 := β2) n (R36.mk a0.Jb a0.Dn a0.Mt a0.Bo) y_2.Sp hy_5) (.nil) (.cons (.t rfl) (.ren rfl) (.cons (.t rfl) (.ren rfl) (.nil))) (.nil) (CallOk.mk' (.n) rfl) (fun _ h => by cases h)) (CallOk.mk' (.n) rfl) rfl rfl)<| .cons (.move (l1 rfl) (.t rfl))<| .cons (.extract (l1 rfl) (.t rfl) rfl)<| .cons (.extract (l1 rfl) (.t rfl) rfl)<| .cons (.assign (l1 rfl) (.t rfl))<| .cons (.assign (l1 rfl) (.t rfl))<| .nil _ _ _) ?_
    refine AWP.vs ⟨[(1,iW a1),(5,.ptr 4 0),(8,.ptr 6 0),(10,.ptr 7 0),(13,rW false y_5.1 encR36),(14,bW y_5.2)],[(7,⟨87,false,[iW y_2.Kind,iW y_2.Sp,rW false y_2.Lf eW]⟩),(6,⟨41,false,[iW (0 : Int),.sc (.slice none 0 0),.sc (.slice none 0 0)]⟩),(1,⟨3,false,[iW c_1]⟩),(2,⟨89,false,[.clo (.func 41) [] []]⟩),(3,⟨72,false,[.clo (.func 29) [] []]⟩),(4,⟨106,false,[.clo (.func 61) [] [.ptr 1 0,.ptr 2 0,.ptr 3 0,.ptr 4 0]]⟩)]⟩ rfl rfl ?_
    refine AWP.seq ?_
    refine AWP.seq ?_
    refine AWP.rg (.cons (.move (l1 rfl) (.t rfl))<| .cons (.not (l1 rfl) (.t rfl))<| .cons (.move (l1 rfl) (.t rfl))<| .guard (j := 2) (dj := 58) rfl (l1 rfl) rfl (l1 rfl) (fun hg => .move (l1 rfl) (.t rfl))<| .guard (j := 2) (dj := 58) rfl (l1 rfl) rfl (l1 rfl) (fun hg => .lenRd (l1 rfl) (.gd hg (.t rfl)) Tryz.underlying96)<| .guard (j := 2) (dj := 58) rfl (l1 rfl) rfl (l1 rfl) (fun hg => .eql (l1 rfl) (.gd hg (.t rfl)) (.const _ _ _))<| .cons (.pickOr (l1 rfl) (.t rfl) (.const _ _ _) (.t rfl))<| .nil _ _ _) ?_
    refine AWP.vs ⟨[(1,iW a1),(5,.ptr 4 0),(8,.ptr 6 0),(10,.ptr 7 0),(13,rW false y_5.1 encR36),(62,bW ((!y_5.2) || (decide ((y_5.1.length : Int) = (0 : Int)))))],[(7,⟨87,false,[iW y_2.Kind,iW y_2.Sp,rW false y_2.Lf eW]⟩),(6,⟨41,false,[iW (0 : Int),.sc (.slice none 0 0),.sc (.slice none 0 0)]⟩),(1,⟨3,false,[iW c_1]⟩),(2,⟨89,false,[.clo (.func 41) [] []]⟩),(3,⟨72,false,[.clo (.func 29) [] []]⟩),(4,⟨106,false,[.clo (.func 61) [] [.ptr 1 0,.ptr 2 0,.ptr 3 0,.ptr 4 0]]⟩)]⟩ rfl rfl ?_
    refine AWP.cond (.t rfl) (fun hc => ?_) (fun hc => ?_)
    ·have h := iteT hc h
     refine AWP.seq ?_
     refine AWP.rg (.cons (.buildO (offs := [(0,1),(1,1),(2,1)]) (l1 rfl) (.nil) zero41 offs41 rfl)<| .cons (.storePA (.t rfl) (.t rfl) sz41 rfl rfl (le1 rfl) (one_lit rfl) (by intro h; cases h) rfl)<| .cons (.assign (l1 rfl) (.const _ _ _))<| .nil _ _ _) ?_
     refine AWP.ret ?_
     obtain rfl := Option.some.inj h
     refine retJ (Res.vc (s' := ⟨[(8,.ptr 6 0),(9,iW (8 : Int))],[(6,⟨41,false,[iW (0 : Int),rW false ([] : List K40) encK40,rW false ([] : List Int) eW]⟩),(1,⟨3,false,[iW c_1]⟩),(2,⟨89,false,[.clo (.func 41) [] []]⟩),(3,⟨72,false,[.clo (.func 29) [] []]⟩),(4,⟨106,false,[.clo (.func 61) [] [.ptr 1 0,.ptr 2 0,.ptr 3 0,.ptr 4 0]]⟩)]⟩) (VC.trans (VC.cell (t := 6) (i := 1) (v' := rW false ([] : List K40) encK40) rfl rfl rfl (fun _ _ _ _ h => nil_rd h)) (VC.trans (VC.cell (t := 6) (i := 2) (v' := rW false ([] : List Int) eW) rfl rfl rfl (fun _ _ _ _ h => nil_rd h)) (VC.sub (.of rfl) (.of rfl)))) ?_)
     refine Res.sub (H := [(6,⟨41,false,[iW (0 : Int),rW false ([] : List K40) encK40,rW false ([] : List Int) eW]⟩),(1,⟨3,false,[iW c_1]⟩),(2,⟨89,false,[.clo (.func 41) [] []]⟩),(3,⟨72,false,[.clo (.func 29) [] []]⟩),(4,⟨106,false,[.clo (.func 61) [] [.ptr 1 0,.ptr 2 0,.ptr 3 0,.ptr 4 0]]⟩)]) (.of rfl) ?_
     exact Res.of rfl (.cons (.cell rfl agg41 rfl rfl rfl rfl) (.cons (.tmp rfl) (.nil))) rfl rfl
    ·have h := iteF hc h
     refine AWP.skip ?_
     refine AWP.rg (.cons (.move (l1 rfl) (.t rfl))<| .cons (.assign (l1 rfl) (.t rfl))<| .nil _ _ _) ?_
     refine AWP.vs ⟨[(1,iW a1),(5,.ptr 4 0),(8,.ptr 6 0),(10,.ptr 7 0),(11,rW false y_5.1 encR36)],[(7,⟨87,false,[iW y_2.Kind,iW y_2.Sp,rW false y_2.Lf eW]⟩),(6,⟨41,false,[iW (0 : Int),.sc (.slice none 0 0),.sc (.slice none 0 0)]⟩),(1,⟨3,false,[iW c_1]⟩),(2,⟨89,false,[.clo (.func 41) [] []]⟩),(3,⟨72,false,[.clo (.func 29) [] []]⟩),(4,⟨106,false,[.clo (.func 61) [] [.ptr 1 0,.ptr 2 0,.ptr 3 0,.ptr 4 0]]⟩)]⟩ rfl rfl ?_
     refine AWP.seq ?_
     refine AWP.rg (.cons (.fieldP (l1 rfl) (.t rfl) fld87_1)<| .cons (.loadP (l1 rfl) (.t rfl) one3 rfl rfl rfl)<| .cons (.buildO (offs := [(0,1),(1,1),(2,1)]) (l1 rfl) (.cons (.t rfl) (by first | exact ⟨rfl,rfl⟩ | rfl) (.nil)) zero41 offs41 rfl)<| .cons (.alloc (t := 9) (k := ⟨41,false,[iW (0 : Int),.sc (.slice none 0 0),.sc (.slice none 0 0)]⟩) (l1 rfl) (nm rfl) zero41 rfl rfl)<| .cons (.storePA (.t rfl) (.t rfl) sz41 rfl rfl (le1 rfl) (one_lit rfl) (by intro h; cases h) rfl)<| .nil _ _ _) ?_
     refine AWP.vs ⟨[(1,iW a1),(5,.ptr 4 0),(8,.ptr 6 0),(10,.ptr 7 0),(11,rW false y_5.1 encR36),(15,.ptr 9 0)],[(9,⟨41,false,[iW y_2.Sp,.sc (.slice none 0 0),.sc (.slice none 0 0)]⟩),(7,⟨87,false,[iW y_2.Kind,iW y_2.Sp,rW false y_2.Lf eW]⟩),(6,⟨41,false,[iW (0 : Int),.sc (.slice none 0 0),.sc (.slice none 0 0)]⟩),(1,⟨3,false,[iW c_1]⟩),(2,⟨89,false,[.clo (.func 41) [] []]⟩),(3,⟨72,false,[.clo (.func 29) [] []]⟩),(4,⟨106,false,[.clo (.func 61) [] [.ptr 1 0,.ptr 2 0,.ptr 3 0,.ptr 4 0]]⟩)]⟩ rfl rfl ?_
     refine AWP.seq ?_
     refine AWP.seq ?_
     obtain ⟨y_6,hy_6,h⟩ := bindS h
     refine AWP.rg (.cons (.move (l1 rfl) (.t rfl))<| .cons (.lenRd (l1 rfl) (.t rfl) Tryz.underlying96)<| .cons (.gtr (l1 rfl) (.t rfl) (.const _ _ _))<| .cons (.move (l1 rfl) (.t rfl))<| .guard (j := 3) (dj := 71) rfl (l1 rfl) rfl (l1 rfl) (fun hg => .fieldP (l1 rfl) (.t rfl) fld87_1)<| .guard (j := 3) (dj := 71) rfl (l1 rfl) rfl (l1 rfl) (fun hg => .loadP (l1 rfl) (.gd hg (.t rfl)) one3 rfl rfl rfl)<| .guard (j := 3) (dj := 71) rfl (l1 rfl) rfl (l1 rfl) (fun hg => .call0 (bw := false) (l1 rfl) (c63 n y_2.Sp (gdB hy_6 hg)) (.cons (.gd hg (.t rfl)) (.ren rfl) (.nil)) rfl)<| .guard (j := 3) (dj := 71) rfl (l1 rfl) rfl (l1 rfl) (fun hg => .not (l1 rfl) (.gd hg (.t rfl)))<| .cons (.pickOr (l1 rfl) (.t rfl) (.const _ _ _) (.t rfl))<| .nil _ _ _) ?_
     refine AWP.vs ⟨[(1,iW a1),(5,.ptr 4 0),(8,.ptr 6 0),(11,rW false y_5.1 encR36),(15,.ptr 9 0),(76,bW ((decide ((100 : Int) < (y_5.1.length : Int))) || (!y_6)))],[(9,⟨41,false,[iW y_2.Sp,.sc (.slice none 0 0),.sc (.slice none 0 0)]⟩),(6,⟨41,false,[iW (0 : Int),.sc (.slice none 0 0),.sc (.slice none 0 0)]⟩),(1,⟨3,false,[iW c_1]⟩),(2,⟨89,false,[.clo (.func 41) [] []]⟩),(3,⟨72,false,[.clo (.func 29) [] []]⟩),(4,⟨106,false,[.clo (.func 61) [] [.ptr 1 0,.ptr 2 0,.ptr 3 0,.ptr 4 0]]⟩)]⟩ rfl rfl ?_
     refine AWP.cond (.t rfl) (fun hc => ?_) (fun hc => ?_)
     ·have h := iteT hc h
      refine AWP.seq ?_
      refine AWP.rg (.cons (.buildO (offs := [(0,1),(1,1),(2,1)]) (l1 rfl) (.nil) zero41 offs41 rfl)<| .cons (.storePA (.t rfl) (.t rfl) sz41 rfl rfl (le1 rfl) (one_lit rfl) (by intro h; cases h) rfl)<| .cons (.assign (l1 rfl) (.const _ _ _))<| .nil _ _ _) ?_
      refine AWP.ret ?_
      obtain rfl := Option.some.inj h
      refine retJ (Res.vc (s' := ⟨[(8,.ptr 6 0),(9,iW (9 : Int))],[(6,⟨41,false,[iW (0 : Int),rW false ([] : List K40) encK40,rW false ([] : List Int) eW]⟩),(1,⟨3,false,[iW c_1]⟩),(2,⟨89,false,[.clo (.func 41) [] []]⟩),(3,⟨72,false,[.clo (.func 29) [] []]⟩),(4,⟨106,false,[.clo (.func 61) [] [.ptr 1 0,.ptr 2 0,.ptr 3 0,.ptr 4 0]]⟩)]⟩) (VC.trans (VC.cell (t := 6) (i := 1) (v' := rW false ([] : List K40) encK40) rfl rfl rfl (fun _ _ _ _ h => nil_rd h)) (VC.trans (VC.cell (t := 6) (i := 2) (v' := rW false ([] : List Int) eW) rfl rfl rfl (fun _ _ _ _ h => nil_rd h)) (VC.sub (.of rfl) (.of rfl)))) ?_)
      refine Res.sub (H := [(6,⟨41,false,[iW (0 : Int),rW false ([] : List K40) encK40,rW false ([] : List Int) eW]⟩),(1,⟨3,false,[iW c_1]⟩),(2,⟨89,false,[.clo (.func 41) [] []]⟩),(3,⟨72,false,[.clo (.func 29) [] []]⟩),(4,⟨106,false,[.clo (.func 61) [] [.ptr 1 0,.ptr 2 0,.ptr 3 0,.ptr 4 0]]⟩)]) (.of rfl) ?_
      exact Res.of rfl (.cons (.cell rfl agg41 rfl rfl rfl rfl) (.cons (.tmp rfl) (.nil))) rfl rfl
     ·have h := iteF hc h
      refine AWP.skip ?_
      refine AWP.seq ?_
      refine AWP.seq ?_
      refine AWP.rg (.cons (.move (l1 rfl) (.t rfl))<| .cons (.lenRd (l1 rfl) (.t rfl) Tryz.underlying96)<| .cons (.move (l1 rfl) (.const _ _ _))<| .nil _ _ _) ?_
      refine AWP.vs ⟨[(1,iW a1),(5,.ptr 4 0),(8,.ptr 6 0),(15,.ptr 9 0),(78,rW false y_5.1 encR36),(79,iW (y_5.1.length : Int)),(80,iW (0 : Int))],[(9,⟨41,false,[iW y_2.Sp,.sc (.slice none 0 0),.sc (.slice none 0 0)]⟩),(6,⟨41,false,[iW (0 : Int),.sc (.slice none 0 0),.sc (.slice none 0 0)]⟩),(1,⟨3,false,[iW c_1]⟩),(2,⟨89,false,[.clo (.func 41) [] []]⟩),(3,⟨72,false,[.clo (.func 29) [] []]⟩),(4,⟨106,false,[.clo (.func 61) [] [.ptr 1 0,.ptr 2 0,.ptr 3 0,.ptr 4 0]]⟩)]⟩ rfl rfl ?_
      refine AWP.joinB' (S := fun p_23 : Int × (List K40) => ⟨[(8,.ptr 6 0),(15,.ptr 9 0)],[(1,⟨3,false,[iW p_23.1]⟩),(2,⟨89,false,[.clo (.func 41) [] []]⟩),(3,⟨72,false,[.clo (.func 29) [] []]⟩),(4,⟨106,false,[.clo (.func 61) [] [.ptr 1 0,.ptr 2 0,.ptr 3 0,.ptr 4 0]]⟩),(6,⟨41,false,[iW (0 : Int),.sc (.slice none 0 0),.sc (.slice none 0 0)]⟩),(9,⟨41,false,[iW y_2.Sp,.own 10 3 0 p_23.2.length,.sc (.slice none 0 0)]⟩),(10,⟨41,true,p_23.2.flatMap encK40⟩)]⟩) h (fun p_23 h => ?_) (fun k_24 h => ?_)
      ·refine AWP.seq ?_
       refine AWP.rg (.cons (.loadPA (l1 rfl) (.t rfl) agg41 rfl rfl rfl rfl)<| .cons (.storePA (.t rfl) (.t rfl) sz41 rfl rfl (le1 rfl) (one_lit rfl) (by intro h; cases h) rfl)<| .cons (.assign (l1 rfl) (.const _ _ _))<| .nil _ _ _) ?_
       refine AWP.ret ?_
       obtain rfl := Option.some.inj h
       refine retJ (Res.vc (s' := ⟨[(8,.ptr 6 0),(9,iW (0 : Int))],[(6,⟨41,false,[iW y_2.Sp,rW false p_23.2 encK40,rW false ([] : List Int) eW]⟩),(1,⟨3,false,[iW p_23.1]⟩),(2,⟨89,false,[.clo (.func 41) [] []]⟩),(3,⟨72,false,[.clo (.func 29) [] []]⟩),(4,⟨106,false,[.clo (.func 61) [] [.ptr 1 0,.ptr 2 0,.ptr 3 0,.ptr 4 0]]⟩)]⟩) (VC.trans (VC.trans (VC.freeze (t := 10) rfl) (VC.cellEq (t := 6) (i := 1) (v' := rW false p_23.2 encK40) rfl rfl rfl (frz_rd (enc := encK40) encK40_len p_23.2 false))) (VC.trans (VC.cell (t := 6) (i := 2) (v' := rW false ([] : List Int) eW) rfl rfl rfl (fun _ _ _ _ h => nil_rd h)) (VC.sub (.of rfl) (.of rfl)))) ?_)
       refine Res.sub (H := [(6,⟨41,false,[iW y_2.Sp,rW false p_23.2 encK40,rW false ([] : List Int) eW]⟩),(1,⟨3,false,[iW p_23.1]⟩),(2,⟨89,false,[.clo (.func 41) [] []]⟩),(3,⟨72,false,[.clo (.func 29) [] []]⟩),(4,⟨106,false,[.clo (.func 61) [] [.ptr 1 0,.ptr 2 0,.ptr 3 0,.ptr 4 0]]⟩)]) (.of rfl) ?_
       exact Res.of rfl (.cons (.cell rfl agg41 rfl rfl rfl rfl) (.cons (.tmp rfl) (.nil))) rfl rfl
      ·refine AWP.vc (VC.trans (VC.newTag (t := 10) (E := 41) (nm rfl)) (VC.cell (t := 9) (i := 1) (v' := .own 10 3 0 0) rfl rfl rfl (fun _ _ _ _ h => nil_own h))) ?_
       refine AWP.vs ⟨[(1,iW a1),(5,.ptr 4 0),(8,.ptr 6 0),(15,.ptr 9 0),(78,rW false y_5.1 encR36),(79,iW (y_5.1.length : Int)),(80,iW (0 : Int))],[(1,⟨3,false,[iW c_1]⟩),(2,⟨89,false,[.clo (.func 41) [] []]⟩),(3,⟨72,false,[.clo (.func 29) [] []]⟩),(4,⟨106,false,[.clo (.func 61) [] [.ptr 1 0,.ptr 2 0,.ptr 3 0,.ptr 4 0]]⟩),(6,⟨41,false,[iW (0 : Int),.sc (.slice none 0 0),.sc (.slice none 0 0)]⟩),(9,⟨41,false,[iW y_2.Sp,.own 10 3 0 ([] : List K40).length,.sc (.slice none 0 0)]⟩),(10,⟨41,true,([] : List K40).flatMap encK40⟩)]⟩ rfl rfl ?_
       refine AWP.loopM (S := fun x_17 : Int × Int × (List K40) => ⟨[(1,iW a1),(5,.ptr 4 0),(8,.ptr 6 0),(15,.ptr 9 0),(78,rW false y_5.1 encR36),(79,iW (y_5.1.length : Int)),(80,iW x_17.1)],[(1,⟨3,false,[iW x_17.2.1]⟩),(2,⟨89,false,[.clo (.func 41) [] []]⟩),(3,⟨72,false,[.clo (.func 29) [] []]⟩),(4,⟨106,false,[.clo (.func 61) [] [.ptr 1 0,.ptr 2 0,.ptr 3 0,.ptr 4 0]]⟩),(6,⟨41,false,[iW (0 : Int),.sc (.slice none 0 0),.sc (.slice none 0 0)]⟩),(9,⟨41,false,[iW y_2.Sp,.own 10 3 0 x_17.2.2.length,.sc (.slice none 0 0)]⟩),(10,⟨41,true,x_17.2.2.flatMap encK40⟩)]⟩) (x := ((0 : Int),c_1,([] : List K40))) (fun nx_18 x_17 h => ?_) h
       unfold m61_L1 at h
       refine AWP.seq ?_
       refine AWP.rg (.cons (.lss (l1 rfl) (.t rfl) (.t rfl))<| .nil _ _ _) ?_
       refine AWP.vs ⟨[(1,iW a1),(5,.ptr 4 0),(8,.ptr 6 0),(15,.ptr 9 0),(78,rW false y_5.1 encR36),(79,iW (y_5.1.length : Int)),(80,iW x_17.1),(81,bW (decide (x_17.1 < (y_5.1.length : Int))))],[(1,⟨3,false,[iW x_17.2.1]⟩),(2,⟨89,false,[.clo (.func 41) [] []]⟩),(3,⟨72,false,[.clo (.func 29) [] []]⟩),(4,⟨106,false,[.clo (.func 61) [] [.ptr 1 0,.ptr 2 0,.ptr 3 0,.ptr 4 0]]⟩),(6,⟨41,false,[iW (0 : Int),.sc (.slice none 0 0),.sc (.slice none 0 0)]⟩),(9,⟨41,false,[iW y_2.Sp,.own 10 3 0 x_17.2.2.length,.sc (.slice none 0 0)]⟩),(10,⟨41,true,x_17.2.2.flatMap encK40⟩)]⟩ rfl rfl ?_
       refine AWP.seq ?_
       refine AWP.cond (.t rfl) (fun hc => ?_) (fun hc => ?_)
       ·have h := iteT hc h
        refine AWP.skip ?_
        refine AWP.seq ?_
        refine AWP.block ?_
        refine AWP.seq ?_
        obtain ⟨y_19,hy_19,h⟩ := bindS h
        refine AWP.rg (.cons (.indexRd (enc := encR36) (l1 rfl) (.t rfl) (.t rfl) Tryz.underlying96 sz37 encR36_len rfl hy_19)<| .cons (.loadRA (out := (gW false false y_19.Jb y_19.Dn y_19.Mt y_19.Bo)) (l1 rfl) (.t rfl) agg37 (Nat.le_of_eq (Eq.symm (encR36_len _))) rfl)<| .cons (.alloc (t := 11) (k := ⟨37,false,[.sc (.slice none 0 0),.sc (.slice none 0 0),bW false,iW (0 : Int)]⟩) (l1 rfl) (nm rfl) zero37 rfl rfl)<| .cons (.storePA (.t rfl) (.t rfl) sz37 rfl rfl (le1 rfl) (one_lit rfl) (by intro h; cases h) rfl)<| .nil _ _ _) ?_
        refine AWP.vs ⟨[(1,iW a1),(5,.ptr 4 0),(8,.ptr 6 0),(15,.ptr 9 0),(78,rW false y_5.1 encR36),(79,iW (y_5.1.length : Int)),(80,iW x_17.1),(17,.ptr 11 0)],[(11,⟨37,false,(gW false false y_19.Jb y_19.Dn y_19.Mt y_19.Bo)⟩),(1,⟨3,false,[iW x_17.2.1]⟩),(2,⟨89,false,[.clo (.func 41) [] []]⟩),(3,⟨72,false,[.clo (.func 29) [] []]⟩),(4,⟨106,false,[.clo (.func 61) [] [.ptr 1 0,.ptr 2 0,.ptr 3 0,.ptr 4 0]]⟩),(6,⟨41,false,[iW (0 : Int),.sc (.slice none 0 0),.sc (.slice none 0 0)]⟩),(9,⟨41,false,[iW y_2.Sp,.own 10 3 0 x_17.2.2.length,.sc (.slice none 0 0)]⟩),(10,⟨41,true,x_17.2.2.flatMap encK40⟩)]⟩ rfl rfl ?_
        refine AWP.seq ?_
        obtain ⟨y_20,hy_20,h⟩ := bindS h
        refine AWP.rg (.cons (.loadP (l1 rfl) (.t rfl) one106 rfl rfl rfl)<| .cons (.loadPA (l1 rfl) (.t rfl) agg37 rfl rfl rfl rfl)<| .cons (.move (l1 rfl) (.t rfl))<| .cons (.add (l1 rfl) (.t rfl) (.const _ _ _))<| .cons (.callV (us' := []) (avs := [.agg [rW false ((R36.mk y_19.Jb y_19.Dn y_19.Mt y_19.Bo).Jb) e63,rW false ((R36.mk y_19.Jb y_19.Dn y_19.Mt y_19.Bo).Dn) eW,bW ((R36.mk y_19.Jb y_19.Dn y_19.Mt y_19.Bo).Mt),iW ((R36.mk y_19.Jb y_19.Dn y_19.Mt y_19.Bo).Bo)],iW (IntKind.wrap .i64 (a1 + (1 : Int)))]) (cs' := [.ptr 1 0,.ptr 2 0,.ptr 3 0,.ptr 4 0]) (σ := sgT [(1,1),(2,2),(3,3),(4,4)]) (bw := false) (l1 rfl) (.t rfl) (ih (β2 := false) (R36.mk y_19.Jb y_19.Dn y_19.Mt y_19.Bo) (IntKind.wrap .i64 (a1 + (1 : Int))) x_17.2.1 hy_20) (.nil) (.cons (.t rfl) (.ren rfl) (.cons (.t rfl) (.ren rfl) (.nil))) (.cons (.ren rfl) (.cons (.ren rfl) (.cons (.ren rfl) (.cons (.ren rfl) (.nil))))) (CallOk.mk' (.c rfl (.c rfl (.c rfl (.c rfl (.n))))) rfl) (fun _ h => by cases h))<| .cons (.move (l1 rfl) (.t rfl))<| .cons (.extract (l1 rfl) (.t rfl) rfl)<| .cons (.extract (l1 rfl) (.t rfl) rfl)<| .cons (.alloc (t := 12) (k := ⟨41,false,[iW (0 : Int),.sc (.slice none 0 0),.sc (.slice none 0 0)]⟩) (l1 rfl) (nm rfl) zero41 rfl rfl)<| .cons (.storePA (.t rfl) (.t rfl) sz41 rfl rfl (le1 rfl) (one_lit rfl) (by intro h; cases h) rfl)<| .cons (.assign (l1 rfl) (.t rfl))<| .nil _ _ _) ?_
        refine AWP.vs ⟨[(1,iW a1),(5,.ptr 4 0),(8,.ptr 6 0),(15,.ptr 9 0),(78,rW false y_5.1 encR36),(79,iW (y_5.1.length : Int)),(80,iW x_17.1),(18,.ptr 12 0),(19,iW y_20.2.1)],[(12,⟨41,false,(tW encK40 false false y_20.1.Sp y_20.1.Kd y_20.1.Lf)⟩),(1,⟨3,false,[iW y_20.2.2]⟩),(2,⟨89,false,[.clo (.func 41) [] []]⟩),(3,⟨72,false,[.clo (.func 29) [] []]⟩),(4,⟨106,false,[.clo (.func 61) [] [.ptr 1 0,.ptr 2 0,.ptr 3 0,.ptr 4 0]]⟩),(6,⟨41,false,[iW (0 : Int),.sc (.slice none 0 0),.sc (.slice none 0 0)]⟩),(9,⟨41,false,[iW y_2.Sp,.own 10 3 0 x_17.2.2.length,.sc (.slice none 0 0)]⟩),(10,⟨41,true,x_17.2.2.flatMap encK40⟩)]⟩ rfl rfl ?_
        refine AWP.seq ?_
        refine AWP.seq ?_
        refine AWP.rg (.cons (.move (l1 rfl) (.t rfl))<| .cons (.neq (l1 rfl) (.t rfl) (.const _ _ _))<| .nil _ _ _) ?_
        refine AWP.vs ⟨[(1,iW a1),(5,.ptr 4 0),(8,.ptr 6 0),(15,.ptr 9 0),(78,rW false y_5.1 encR36),(79,iW (y_5.1.length : Int)),(80,iW x_17.1),(18,.ptr 12 0),(19,iW y_20.2.1),(93,bW (!decide (y_20.2.1 = (0 : Int))))],[(12,⟨41,false,(tW encK40 false false y_20.1.Sp y_20.1.Kd y_20.1.Lf)⟩),(1,⟨3,false,[iW y_20.2.2]⟩),(2,⟨89,false,[.clo (.func 41) [] []]⟩),(3,⟨72,false,[.clo (.func 29) [] []]⟩),(4,⟨106,false,[.clo (.func 61) [] [.ptr 1 0,.ptr 2 0,.ptr 3 0,.ptr 4 0]]⟩),(6,⟨41,false,[iW (0 : Int),.sc (.slice none 0 0),.sc (.slice none 0 0)]⟩),(9,⟨41,false,[iW y_2.Sp,.own 10 3 0 x_17.2.2.length,.sc (.slice none 0 0)]⟩),(10,⟨41,true,x_17.2.2.flatMap encK40⟩)]⟩ rfl rfl ?_
        refine AWP.cond (.t rfl) (fun hc => ?_) (fun hc => ?_)
        ·have h := iteT hc h
         refine AWP.seq ?_
         refine AWP.rg (.cons (.buildO (offs := [(0,1),(1,1),(2,1)]) (l1 rfl) (.nil) zero41 offs41 rfl)<| .cons (.move (l1 rfl) (.t rfl))<| .cons (.storePA (.t rfl) (.t rfl) sz41 rfl rfl (le1 rfl) (one_lit rfl) (by intro h; cases h) rfl)<| .cons (.assign (l1 rfl) (.t rfl))<| .nil _ _ _) ?_
         refine AWP.ret ?_
         obtain rfl := Option.some.inj h
         refine retJ (Res.vc (s' := ⟨[(8,.ptr 6 0),(9,iW y_20.2.1)],[(6,⟨41,false,[iW (0 : Int),rW false ([] : List K40) encK40,rW false ([] : List Int) eW]⟩),(1,⟨3,false,[iW y_20.2.2]⟩),(2,⟨89,false,[.clo (.func 41) [] []]⟩),(3,⟨72,false,[.clo (.func 29) [] []]⟩),(4,⟨106,false,[.clo (.func 61) [] [.ptr 1 0,.ptr 2 0,.ptr 3 0,.ptr 4 0]]⟩)]⟩) (VC.trans (VC.cell (t := 6) (i := 1) (v' := rW false ([] : List K40) encK40) rfl rfl rfl (fun _ _ _ _ h => nil_rd h)) (VC.trans (VC.cell (t := 6) (i := 2) (v' := rW false ([] : List Int) eW) rfl rfl rfl (fun _ _ _ _ h => nil_rd h)) (VC.sub (.of rfl) (.of rfl)))) ?_)
         refine Res.sub (H := [(6,⟨41,false,[iW (0 : Int),rW false ([] : List K40) encK40,rW false ([] : List Int) eW]⟩),(1,⟨3,false,[iW y_20.2.2]⟩),(2,⟨89,false,[.clo (.func 41) [] []]⟩),(3,⟨72,false,[.clo (.func 29) [] []]⟩),(4,⟨106,false,[.clo (.func 61) [] [.ptr 1 0,.ptr 2 0,.ptr 3 0,.ptr 4 0]]⟩)]) (.of rfl) ?_
         exact Res.of rfl (.cons (.cell rfl agg41 rfl rfl rfl rfl) (.cons (.tmp rfl) (.nil))) rfl rfl
        ·have h := iteF hc h
         refine AWP.skip ?_
         obtain ⟨l10_21,hl10_21,h⟩ := bindS h
         refine AWP.rg (.cons (.fieldP (l1 rfl) (.t rfl) fld41_1)<| .cons (.loadP (l1 rfl) (.t rfl) one39 rfl rfl rfl)<| .cons (.loadPA (l1 rfl) (.t rfl) agg41 rfl rfl rfl rfl)<| .cons (.buildSlice (t := 13) (out := ([(K40.of (R40.mk y_20.1.Sp y_20.1.Kd y_20.1.Lf))] : List K40).flatMap encK40) (l1 rfl) (nm rfl) (.cons (.t rfl) (by first | exact ⟨rfl,rfl⟩ | rfl) (.nil)) Tryz.underlying39 zero41 el41 (by decide) (by decide) (Eq.trans rfl (congrArg some (encK40_of1 (R40.mk y_20.1.Sp y_20.1.Kd y_20.1.Lf)).symm)) (still_all encK40_still _))<| .cons (.appK (enc := encK40) (l1 rfl) (nm rfl) (.t rfl) (Src.own (.t rfl) rfl (lendAll encK40_len _) (flatMap_length encK40_len _) (one_all encK40_one _) (.inl rfl)) Tryz.underlying39 ⟨_,Tryz.underlying39,by intro k hk; cases hk⟩ el41 rfl encK40_len rfl rfl (by decide) hl10_21)<| .cons (.fieldP (l1 rfl) (.t rfl) fld41_1)<| .cons (.storeP (.t rfl) (.t rfl) sz39 rfl (l1 rfl) rfl (by intro h; cases h) rfl)<| .nil _ _ _) ?_
         refine AWP.vs ⟨[(1,iW a1),(5,.ptr 4 0),(8,.ptr 6 0),(15,.ptr 9 0),(78,rW false y_5.1 encR36),(79,iW (y_5.1.length : Int)),(80,iW x_17.1)],[(10,⟨41,true,l10_21.flatMap encK40⟩),(1,⟨3,false,[iW y_20.2.2]⟩),(2,⟨89,false,[.clo (.func 41) [] []]⟩),(3,⟨72,false,[.clo (.func 29) [] []]⟩),(4,⟨106,false,[.clo (.func 61) [] [.ptr 1 0,.ptr 2 0,.ptr 3 0,.ptr 4 0]]⟩),(6,⟨41,false,[iW (0 : Int),.sc (.slice none 0 0),.sc (.slice none 0 0)]⟩),(9,⟨41,false,[iW y_2.Sp,.own 10 3 0 l10_21.length,.sc (.slice none 0 0)]⟩)]⟩ rfl rfl ?_
         obtain ⟨t80_22,ht80_22,h⟩ := letS h
         refine AWP.rg (.cons (.add (l1 rfl) (.t rfl) (.const _ _ _))<| .cons (.move (l1 rfl) (.t rfl))<| .nil _ _ _) ?_
         exact endJ (t80_22,y_20.2.2,l10_21) h (by subst ht80_22; exact VC.sub (.of rfl) (.of rfl))
       ·have h := iteF hc h
        refine AWP.exit ?_
        exact endJ (x_17.2.1,x_17.2.2) h (VC.sub (.of rfl) (.of rfl))
   ·have h := iteF hc h
    refine AWP.seq ?_
    refine AWP.rg (.cons (.buildO (offs := [(0,1),(1,1),(2,1)]) (l1 rfl) (.nil) zero41 offs41 rfl)<| .cons (.storePA (.t rfl) (.t rfl) sz41 rfl rfl (le1 rfl) (one_lit rfl) (by intro h; cases h) rfl)<| .cons (.assign (l1 rfl) (.const _ _ _))<| .nil _ _ _) ?_
    refine AWP.ret ?_
    obtain rfl := Option.some.inj h
    refine retJ (Res.vc (s' := ⟨[(8,.ptr 6 0),(9,iW (8 : Int))],[(6,⟨41,false,[iW (0 : Int),rW false ([] : List K40) encK40,rW false ([] : List Int) eW]⟩),(1,⟨3,false,[iW c_1]⟩),(2,⟨89,false,[.clo (.func 41) [] []]⟩),(3,⟨72,false,[.clo (.func 29) [] []]⟩),(4,⟨106,false,[.clo (.func 61) [] [.ptr 1 0,.ptr 2 0,.ptr 3 0,.ptr 4 0]]⟩)]⟩) (VC.trans (VC.cell (t := 6) (i := 1) (v' := rW false ([] : List K40) encK40) rfl rfl rfl (fun _ _ _ _ h => nil_rd h)) (VC.trans (VC.cell (t := 6) (i := 2) (v' := rW false ([] : List Int) eW) rfl rfl rfl (fun _ _ _ _ h => nil_rd h)) (VC.sub (.of rfl) (.of rfl)))) ?_)
    refine Res.sub (H := [(6,⟨41,false,[iW (0 : Int),rW false ([] : List K40) encK40,rW false ([] : List Int) eW]⟩),(1,⟨3,false,[iW c_1]⟩),(2,⟨89,false,[.clo (.func 41) [] []]⟩),(3,⟨72,false,[.clo (.func 29) [] []]⟩),(4,⟨106,false,[.clo (.func 61) [] [.ptr 1 0,.ptr 2 0,.ptr 3 0,.ptr 4 0]]⟩)]) (.of rfl) ?_
    exact Res.of rfl (.cons (.cell rfl agg41 rfl rfl rfl rfl) (.cons (.tmp rfl) (.nil))) rfl rfl
theorem c61 (n : Nat) {β2 : Bool} (a0 : R36) (a1 : Int) (a2_b0 : Int) {r : (R40 × Int × Int)} (h : m61 n a0 a1 a2_b0 = some r) : Spec Tryz.prog 61 [1,2,3,4] [.agg (gW false β2 a0.Jb a0.Dn a0.Mt a0.Bo),iW a1,.ptr 1 0,.ptr 2 0,.ptr 3 0,.ptr 4 0] [(1,⟨3,false,[iW a2_b0]⟩),(2,⟨89,false,[.clo (.func 41) [] []]⟩),(3,⟨72,false,[.clo (.func 29) [] []]⟩),(4,⟨106,false,[.clo (.func 61) [] [.ptr 1 0,.ptr 2 0,.ptr 3 0,.ptr 4 0]]⟩)] (.tup [.agg (tW encK40 false false r.1.Sp r.1.Kd r.1.Lf),iW r.2.1]) [(1,⟨3,false,[iW r.2.2]⟩),(2,⟨89,false,[.clo (.func 41) [] []]⟩),(3,⟨72,false,[.clo (.func 29) [] []]⟩),(4,⟨106,false,[.clo (.func 61) [] [.ptr 1 0,.ptr 2 0,.ptr 3 0,.ptr 4 0]]⟩)] := c61F n n a0 a1 a2_b0 h
theorem c40 {β2 : Bool} (n : Nat) (a0 : R36) {r : (R40 × Int)} (h : m40 n a0 = some r) : Spec Tryz.prog 40 [] [.agg (gW false β2 a0.Jb a0.Dn a0.Mt a0.Bo),.clo (.func 29) [] [],.clo (.func 41) [] []] [] (.tup [.agg (tW encK40 false false r.1.Sp r.1.Kd r.1.Lf),iW r.2]) [] := by
 refine Spec.of (fn := Tryz.f40) Tryz.func40 Tryz.ntmps40 rfl rfl (le1 rfl) (fun w0 Zs Zb T0 ι0 => ?_)
 unfold m40 at h
 refine AWP.seq ?_
 refine AWP.rg (.cons (.box (t := 1) (n := 4) (l1 rfl) (nm rfl) (.t rfl) (by first | exact ⟨rfl,rfl⟩ | rfl) rfl)<| .cons (.box (t := 2) (n := 1) (l1 rfl) (nm rfl) (.t rfl) (by first | exact ⟨rfl,rfl⟩ | rfl) rfl)<| .cons (.box (t := 3) (n := 1) (l1 rfl) (nm rfl) (.t rfl) (by first | exact ⟨rfl,rfl⟩ | rfl) rfl)<| .cons (.alloc (t := 4) (k := ⟨41,false,[iW (0 : Int),.sc (.slice none 0 0),.sc (.slice none 0 0)]⟩) (l1 rfl) (nm rfl) zero41 rfl rfl)<| .cons (.assign (l1 rfl) (.const _ _ _))<| .nil _ _ _) ?_
 refine AWP.vs ⟨[(3,.ptr 1 0),(4,.ptr 2 0),(5,.ptr 3 0),(6,.ptr 4 0)],[(4,⟨41,false,[iW (0 : Int),.sc (.slice none 0 0),.sc (.slice none 0 0)]⟩),(3,⟨89,false,[.clo (.func 41) [] []]⟩),(2,⟨72,false,[.clo (.func 29) [] []]⟩),(1,⟨37,false,(gW false β2 a0.Jb a0.Dn a0.Mt a0.Bo)⟩)]⟩ rfl rfl ?_
 refine AWP.seq ?_
 refine AWP.rg (.cons (.alloc (t := 5) (k := ⟨3,false,[iW (0 : Int)]⟩) (l1 rfl) (nm rfl) zero3 rfl rfl)<| .cons (.storeP (.t rfl) (.const _ _ _) sz3 rfl (l1 rfl) rfl (by intro h; cases h) rfl)<| .nil _ _ _) ?_
 refine AWP.vs ⟨[(3,.ptr 1 0),(4,.ptr 2 0),(5,.ptr 3 0),(6,.ptr 4 0),(8,.ptr 5 0)],[(5,⟨3,false,[iW (0 : Int)]⟩),(4,⟨41,false,[iW (0 : Int),.sc (.slice none 0 0),.sc (.slice none 0 0)]⟩),(3,⟨89,false,[.clo (.func 41) [] []]⟩),(2,⟨72,false,[.clo (.func 29) [] []]⟩),(1,⟨37,false,(gW false β2 a0.Jb a0.Dn a0.Mt a0.Bo)⟩)]⟩ rfl rfl ?_
 refine AWP.seq ?_
 refine AWP.rg (.cons (.alloc (t := 6) (k := ⟨106,false,[.sc (.nilFunc)]⟩) (l1 rfl) (nm rfl) zero106 rfl rfl)<| .nil _ _ _) ?_
 refine AWP.vs ⟨[(3,.ptr 1 0),(4,.ptr 2 0),(5,.ptr 3 0),(6,.ptr 4 0),(8,.ptr 5 0),(9,.ptr 6 0)],[(6,⟨106,false,[.sc (.nilFunc)]⟩),(5,⟨3,false,[iW (0 : Int)]⟩),(4,⟨41,false,[iW (0 : Int),.sc (.slice none 0 0),.sc (.slice none 0 0)]⟩),(3,⟨89,false,[.clo (.func 41) [] []]⟩),(2,⟨72,false,[.clo (.func 29) [] []]⟩),(1,⟨37,false,(gW false β2 a0.Jb a0.Dn a0.Mt a0.Bo)⟩)]⟩ rfl rfl ?_
 refine AWP.seq ?_
 refine AWP.rg (.cons (.makeFunc (l1 rfl) (.nil) (.cons (.t rfl) (.cons (.t rfl) (.cons (.t rfl) (.cons (.t rfl) (.nil))))))<| .cons (.storeP (.t rfl) (.t rfl) sz106 rfl (l1 rfl) rfl (by intro h; cases h) rfl)<| .nil _ _ _) ?_
 refine AWP.vs ⟨[(3,.ptr 1 0),(6,.ptr 4 0),(9,.ptr 6 0)],[(6,⟨106,false,[.clo (.func 61) [] [.ptr 5 0,.ptr 3 0,.ptr 2 0,.ptr 6 0]]⟩),(5,⟨3,false,[iW (0 : Int)]⟩),(4,⟨41,false,[iW (0 : Int),.sc (.slice none 0 0),.sc (.slice none 0 0)]⟩),(3,⟨89,false,[.clo (.func 41) [] []]⟩),(2,⟨72,false,[.clo (.func 29) [] []]⟩),(1,⟨37,false,(gW false β2 a0.Jb a0.Dn a0.Mt a0.Bo)⟩)]⟩ rfl rfl ?_
 refine AWP.seq ?_
 obtain ⟨y_1,hy_1,h⟩ := bindS h
 refine AWP.rg (.cons (.loadP (l1 rfl) (.t rfl) one106 rfl rfl rfl)<| .cons (.loadPA (l1 rfl) (.t rfl) agg37 rfl rfl rfl rfl)<| .cons (.callV (us' := []) (avs := [.agg [rW false ((R36.mk a0.Jb a0.Dn a0.Mt a0.Bo).Jb) e63,rW β2 ((R36.mk a0.Jb a0.Dn a0.Mt a0.Bo).Dn) eW,bW ((R36.mk a0.Jb a0.Dn a0.Mt a0.Bo).Mt),iW ((R36.mk a0.Jb a0.Dn a0.Mt a0.Bo).Bo)],iW (1 : Int)]) (cs' := [.ptr 1 0,.ptr 2 0,.ptr 3 0,.ptr 4 0]) (σ := sgT [(1,5),(2,3),(3,2),(4,6)]) (bw := false) (l1 rfl) (.t rfl) (c61 (β2 := β2) n (R36.mk a0.Jb a0.Dn a0.Mt a0.Bo) (1 : Int) (0 : Int) hy_1) (.nil) (.cons (.t rfl) (.ren rfl) (.cons (.const _ _ _) (.ren rfl) (.nil))) (.cons (.ren rfl) (.cons (.ren rfl) (.cons (.ren rfl) (.cons (.ren rfl) (.nil))))) (CallOk.mk' (.c rfl (.c rfl (.c rfl (.c rfl (.n))))) rfl) (fun _ h => by cases h))<| .cons (.extract (l1 rfl) (.t rfl) rfl)<| .cons (.extract (l1 rfl) (.t rfl) rfl)<| .cons (.storePA (.t rfl) (.t rfl) sz41 rfl rfl (le1 rfl) (one_lit rfl) (by intro h; cases h) rfl)<| .cons (.assign (l1 rfl) (.t rfl))<| .nil _ _ _) ?_
 refine AWP.ret ?_
 obtain rfl := Option.some.inj h
 refine retJ (Res.vc (s' := ⟨[(6,.ptr 4 0),(7,iW y_1.2.1)],[(4,⟨41,false,(tW encK40 false false y_1.1.Sp y_1.1.Kd y_1.1.Lf)⟩)]⟩) (VC.sub (.of rfl) (.of rfl)) ?_)
 refine Res.drop (H := [(4,⟨41,false,(tW encK40 false false y_1.1.Sp y_1.1.Kd y_1.1.Lf)⟩)]) rfl ?_
 exact Res.of rfl (.cons (.cell rfl agg41 rfl rfl rfl rfl) (.cons (.tmp rfl) (.nil))) rfl rfl
theorem c18 (n : Nat) (a0 : (List R63)) (a1 : Bool) {r : (R44 × Int)} (h : m18 n a0 a1 = some r) : Spec Tryz.prog 18 [] [rW false a0 e63,bW a1] [] (.tup [.agg [rW false r.1.Order eW,iW r.1.Value,iW r.1.Proof.Sp,rW false r.1.Proof.Kd encK40,rW false r.1.Proof.Lf eW],iW r.2]) [] := by
 refine Spec.of (fn := Tryz.f18) Tryz.func18 Tryz.ntmps18 rfl rfl (le1 rfl) (fun w0 Zs Zb T0 ι0 => ?_)
 unfold m18 at h
 refine AWP.seq ?_
 refine AWP.rg (.cons (.alloc (t := 1) (k := ⟨45,false,[.sc (.slice none 0 0),iW (0 : Int),iW (0 : Int),.sc (.slice none 0 0),.sc (.slice none 0 0)]⟩) (l1 rfl) (nm rfl) zero45 rfl rfl)<| .cons (.assign (l1 rfl) (.const _ _ _))<| .nil _ _ _) ?_
 refine AWP.vs ⟨[(0,rW false a0 e63),(1,bW a1),(4,.ptr 1 0)],[(1,⟨45,false,[.sc (.slice none 0 0),iW (0 : Int),iW (0 : Int),.sc (.slice none 0 0),.sc (.slice none 0 0)]⟩)]⟩ rfl rfl ?_
 refine AWP.seq ?_
 refine AWP.block ?_
 refine AWP.seq ?_
 obtain ⟨y_1,hy_1,h⟩ := bindS h
 refine AWP.rg (.cons (.move (l1 rfl) (.t rfl))<| .cons (.call0 (bw := false) (l1 rfl) (c25 (β1 := false) n a0 hy_1) (.cons (.t rfl) (.ren rfl) (.nil)) rfl)<| .cons (.not (l1 rfl) (.t rfl))<| .cons (.assign (l1 rfl) (.t rfl))<| .nil _ _ _) ?_
 refine AWP.vs ⟨[(0,rW false a0 e63),(1,bW a1),(4,.ptr 1 0),(10,bW (!y_1))],[(1,⟨45,false,[.sc (.slice none 0 0),iW (0 : Int),iW (0 : Int),.sc (.slice none 0 0),.sc (.slice none 0 0)]⟩)]⟩ rfl rfl ?_
 refine AWP.cond (.t rfl) (fun hc => ?_) (fun hc => ?_)
 ·have h := iteT hc h
  refine AWP.seq ?_
  refine AWP.rg (.cons (.buildO (offs := [(0,1),(1,1),(2,3)]) (l1 rfl) (.nil) zero45 offs45 rfl)<| .cons (.storePA (.t rfl) (.t rfl) sz45 rfl rfl (le1 rfl) (one_lit rfl) (by intro h; cases h) rfl)<| .cons (.assign (l1 rfl) (.const _ _ _))<| .nil _ _ _) ?_
  refine AWP.ret ?_
  obtain rfl := Option.some.inj h
  refine retJ (Res.vc (s' := ⟨[(4,.ptr 1 0),(5,iW (1 : Int))],[(1,⟨45,false,[rW false ([] : List Int) eW,iW (0 : Int),iW (0 : Int),rW false ([] : List K40) encK40,rW false ([] : List Int) eW]⟩)]⟩) (VC.trans (VC.cell (t := 1) (i := 0) (v' := rW false ([] : List Int) eW) rfl rfl rfl (fun _ _ _ _ h => nil_rd h)) (VC.trans (VC.cell (t := 1) (i := 3) (v' := rW false ([] : List K40) encK40) rfl rfl rfl (fun _ _ _ _ h => nil_rd h)) (VC.trans (VC.cell (t := 1) (i := 4) (v' := rW false ([] : List Int) eW) rfl rfl rfl (fun _ _ _ _ h => nil_rd h)) (VC.sub (.of rfl) (.of rfl))))) ?_)
  refine Res.drop (H := [(1,⟨45,false,[rW false ([] : List Int) eW,iW (0 : Int),iW (0 : Int),rW false ([] : List K40) encK40,rW false ([] : List Int) eW]⟩)]) rfl ?_
  exact Res.of rfl (.cons (.cell rfl agg45 rfl rfl rfl rfl) (.cons (.tmp rfl) (.nil))) rfl rfl
 ·have h := iteF hc h
  refine AWP.seq ?_
  refine AWP.rg (.cons (.move (l1 rfl) (.t rfl))<| .cons (.lenRd (l1 rfl) (.t rfl) Tryz.underlying35)<| .cons (.eql (l1 rfl) (.t rfl) (.const _ _ _))<| .cons (.assign (l1 rfl) (.t rfl))<| .nil _ _ _) ?_
  refine AWP.vs ⟨[(0,rW false a0 e63),(1,bW a1),(4,.ptr 1 0),(15,bW (decide ((a0.length : Int) = (0 : Int))))],[(1,⟨45,false,[.sc (.slice none 0 0),iW (0 : Int),iW (0 : Int),.sc (.slice none 0 0),.sc (.slice none 0 0)]⟩)]⟩ rfl rfl ?_
  refine AWP.cond (.t rfl) (fun hc => ?_) (fun hc => ?_)
  ·have h := iteT hc h
   refine AWP.seq ?_
   refine AWP.rg (.cons (.buildO (offs := [(0,1),(1,1),(2,3)]) (l1 rfl) (.nil) zero45 offs45 rfl)<| .cons (.storePA (.t rfl) (.t rfl) sz45 rfl rfl (le1 rfl) (one_lit rfl) (by intro h; cases h) rfl)<| .cons (.assign (l1 rfl) (.const _ _ _))<| .nil _ _ _) ?_
   refine AWP.ret ?_
   obtain rfl := Option.some.inj h
   refine retJ (Res.vc (s' := ⟨[(4,.ptr 1 0),(5,iW (8 : Int))],[(1,⟨45,false,[rW false ([] : List Int) eW,iW (0 : Int),iW (0 : Int),rW false ([] : List K40) encK40,rW false ([] : List Int) eW]⟩)]⟩) (VC.trans (VC.cell (t := 1) (i := 0) (v' := rW false ([] : List Int) eW) rfl rfl rfl (fun _ _ _ _ h => nil_rd h)) (VC.trans (VC.cell (t := 1) (i := 3) (v' := rW false ([] : List K40) encK40) rfl rfl rfl (fun _ _ _ _ h => nil_rd h)) (VC.trans (VC.cell (t := 1) (i := 4) (v' := rW false ([] : List Int) eW) rfl rfl rfl (fun _ _ _ _ h => nil_rd h)) (VC.sub (.of rfl) (.of rfl))))) ?_)
   refine Res.drop (H := [(1,⟨45,false,[rW false ([] : List Int) eW,iW (0 : Int),iW (0 : Int),rW false ([] : List K40) encK40,rW false ([] : List Int) eW]⟩)]) rfl ?_
   exact Res.of rfl (.cons (.cell rfl agg45 rfl rfl rfl rfl) (.cons (.tmp rfl) (.nil))) rfl rfl
  ·have h := iteF hc h
   refine AWP.seq ?_
   refine AWP.rg (.cons (.move (l1 rfl) (.t rfl))<| .cons (.lenRd (l1 rfl) (.t rfl) Tryz.underlying35)<| .cons (.gtr (l1 rfl) (.t rfl) (.const _ _ _))<| .cons (.assign (l1 rfl) (.t rfl))<| .nil _ _ _) ?_
   refine AWP.vs ⟨[(0,rW false a0 e63),(1,bW a1),(4,.ptr 1 0),(20,bW (decide ((7 : Int) < (a0.length : Int))))],[(1,⟨45,false,[.sc (.slice none 0 0),iW (0 : Int),iW (0 : Int),.sc (.slice none 0 0),.sc (.slice none 0 0)]⟩)]⟩ rfl rfl ?_
   refine AWP.cond (.t rfl) (fun hc => ?_) (fun hc => ?_)
   ·have h := iteT hc h
    refine AWP.seq ?_
    refine AWP.rg (.cons (.buildO (offs := [(0,1),(1,1),(2,3)]) (l1 rfl) (.nil) zero45 offs45 rfl)<| .cons (.storePA (.t rfl) (.t rfl) sz45 rfl rfl (le1 rfl) (one_lit rfl) (by intro h; cases h) rfl)<| .cons (.assign (l1 rfl) (.const _ _ _))<| .nil _ _ _) ?_
    refine AWP.ret ?_
    obtain rfl := Option.some.inj h
    refine retJ (Res.vc (s' := ⟨[(4,.ptr 1 0),(5,iW (9 : Int))],[(1,⟨45,false,[rW false ([] : List Int) eW,iW (0 : Int),iW (0 : Int),rW false ([] : List K40) encK40,rW false ([] : List Int) eW]⟩)]⟩) (VC.trans (VC.cell (t := 1) (i := 0) (v' := rW false ([] : List Int) eW) rfl rfl rfl (fun _ _ _ _ h => nil_rd h)) (VC.trans (VC.cell (t := 1) (i := 3) (v' := rW false ([] : List K40) encK40) rfl rfl rfl (fun _ _ _ _ h => nil_rd h)) (VC.trans (VC.cell (t := 1) (i := 4) (v' := rW false ([] : List Int) eW) rfl rfl rfl (fun _ _ _ _ h => nil_rd h)) (VC.sub (.of rfl) (.of rfl))))) ?_)
    refine Res.drop (H := [(1,⟨45,false,[rW false ([] : List Int) eW,iW (0 : Int),iW (0 : Int),rW false ([] : List K40) encK40,rW false ([] : List Int) eW]⟩)]) rfl ?_
    exact Res.of rfl (.cons (.cell rfl agg45 rfl rfl rfl rfl) (.cons (.tmp rfl) (.nil))) rfl rfl
   ·have h := iteF hc h
    refine AWP.skip ?_
    refine AWP.seq ?_
    obtain ⟨y_2,hy_2,h⟩ := bindS h
    refine AWP.rg (.cons (.move (l1 rfl) (.t rfl))<| .cons (.move (l1 rfl) (.t rfl))<| .cons (.call0 (bw := false) (l1 rfl) (c39 (β1 := false) n a0 a1 hy_2) (.cons (.t rfl) (.ren rfl) (.cons (.t rfl) (.ren rfl) (.nil))) rfl)<| .cons (.move (l1 rfl) (.t rfl))<| .cons (.extract (l1 rfl) (.t rfl) rfl)<| .cons (.extract (l1 rfl) (.t rfl) rfl)<| .cons (.assign (l1 rfl) (.t rfl))<| .cons (.assign (l1 rfl) (.t rfl))<| .nil _ _ _) ?_
    refine AWP.vs ⟨[(0,rW false a0 e63),(1,bW a1),(4,.ptr 1 0),(6,rW false y_2.1 eW),(7,iW y_2.2)],[(1,⟨45,false,[.sc (.slice none 0 0),iW (0 : Int),iW (0 : Int),.sc (.slice none 0 0),.sc (.slice none 0 0)]⟩)]⟩ rfl rfl ?_
    refine AWP.seq ?_
    obtain ⟨y_3,hy_3,h⟩ := bindS h
    refine AWP.rg (.cons (.move (l1 rfl) (.t rfl))<| .cons (.move (l1 rfl) (.t rfl))<| .cons (.move (l1 rfl) (.t rfl))<| .cons (.buildO (offs := [(0,1),(1,1),(2,1),(3,1)]) (l1 rfl) (.cons (.t rfl) (by first | exact ⟨rfl,rfl⟩ | rfl) (.cons (.t rfl) (by first | exact ⟨rfl,rfl⟩ | rfl) (.cons (.t rfl) (by first | exact ⟨rfl,rfl⟩ | rfl) (.nil)))) zero37 offs37 rfl)<| .cons (.call0 (bw := false) (l1 rfl) (c40 (β2 := false) n (R36.mk a0 ([] : List Int) a1 y_2.2) hy_3) (.cons (.t rfl) (.agg (.cons (.ren rfl) (.cons (.nil) (.cons (.ren rfl) (.cons (.ren rfl) (.nil)))))) (.cons (.func _ _ _) (.ren rfl) (.cons (.func _ _ _) (.ren rfl) (.nil)))) rfl)<| .cons (.move (l1 rfl) (.t rfl))<| .cons (.extract (l1 rfl) (.t rfl) rfl)<| .cons (.extract (l1 rfl) (.t rfl) rfl)<| .cons (.alloc (t := 2) (k := ⟨41,false,[iW (0 : Int),.sc (.slice none 0 0),.sc (.slice none 0 0)]⟩) (l1 rfl) (nm rfl) zero41 rfl rfl)<| .cons (.storePA (.t rfl) (.t rfl) sz41 rfl rfl (le1 rfl) (one_lit rfl) (by intro h; cases h) rfl)<| .cons (.assign (l1 rfl) (.t rfl))<| .nil _ _ _) ?_
    refine AWP.vs ⟨[(4,.ptr 1 0),(6,rW false y_2.1 eW),(7,iW y_2.2),(8,.ptr 2 0),(9,iW y_3.2)],[(2,⟨41,false,(tW encK40 false false y_3.1.Sp y_3.1.Kd y_3.1.Lf)⟩),(1,⟨45,false,[.sc (.slice none 0 0),iW (0 : Int),iW (0 : Int),.sc (.slice none 0 0),.sc (.slice none 0 0)]⟩)]⟩ rfl rfl ?_
    refine AWP.seq ?_
    refine AWP.seq ?_
    refine AWP.rg (.cons (.move (l1 rfl) (.t rfl))<| .cons (.neq (l1 rfl) (.t rfl) (.const _ _ _))<| .nil _ _ _) ?_
    refine AWP.vs ⟨[(4,.ptr 1 0),(6,rW false y_2.1 eW),(7,iW y_2.2),(8,.ptr 2 0),(40,bW (!decide (y_3.2 = (0 : Int))))],[(2,⟨41,false,(tW encK40 false false y_3.1.Sp y_3.1.Kd y_3.1.Lf)⟩),(1,⟨45,false,[.sc (.slice none 0 0),iW (0 : Int),iW (0 : Int),.sc (.slice none 0 0),.sc (.slice none 0 0)]⟩)]⟩ rfl rfl ?_
    refine AWP.cond (.t rfl) (fun hc => ?_) (fun hc => ?_)
    ·have h := iteT hc h
     refine AWP.seq ?_
     refine AWP.rg (.cons (.buildO (offs := [(0,1),(1,1),(2,3)]) (l1 rfl) (.nil) zero45 offs45 rfl)<| .cons (.storePA (.t rfl) (.t rfl) sz45 rfl rfl (le1 rfl) (one_lit rfl) (by intro h; cases h) rfl)<| .cons (.assign (l1 rfl) (.const _ _ _))<| .nil _ _ _) ?_
     refine AWP.ret ?_
     obtain rfl := Option.some.inj h
     refine retJ (Res.vc (s' := ⟨[(4,.ptr 1 0),(5,iW (9 : Int))],[(1,⟨45,false,[rW false ([] : List Int) eW,iW (0 : Int),iW (0 : Int),rW false ([] : List K40) encK40,rW false ([] : List Int) eW]⟩)]⟩) (VC.trans (VC.cell (t := 1) (i := 0) (v' := rW false ([] : List Int) eW) rfl rfl rfl (fun _ _ _ _ h => nil_rd h)) (VC.trans (VC.cell (t := 1) (i := 3) (v' := rW false ([] : List K40) encK40) rfl rfl rfl (fun _ _ _ _ h => nil_rd h)) (VC.trans (VC.cell (t := 1) (i := 4) (v' := rW false ([] : List Int) eW) rfl rfl rfl (fun _ _ _ _ h => nil_rd h)) (VC.sub (.of rfl) (.of rfl))))) ?_)
     refine Res.drop (H := [(1,⟨45,false,[rW false ([] : List Int) eW,iW (0 : Int),iW (0 : Int),rW false ([] : List K40) encK40,rW false ([] : List Int) eW]⟩)]) rfl ?_
     exact Res.of rfl (.cons (.cell rfl agg45 rfl rfl rfl rfl) (.cons (.tmp rfl) (.nil))) rfl rfl
    ·have h := iteF hc h
     refine AWP.skip ?_
     refine AWP.seq ?_
     refine AWP.rg (.cons (.move (l1 rfl) (.t rfl))<| .cons (.move (l1 rfl) (.t rfl))<| .cons (.loadPA (l1 rfl) (.t rfl) agg41 rfl rfl rfl rfl)<| .cons (.buildO (offs := [(0,1),(1,1),(2,3)]) (l1 rfl) (.cons (.t rfl) (by first | exact ⟨rfl,rfl⟩ | rfl) (.cons (.t rfl) (by first | exact ⟨rfl,rfl⟩ | rfl) (.cons (.t rfl) (by first | exact ⟨rfl,rfl⟩ | rfl) (.nil)))) zero45 offs45 rfl)<| .cons (.storePA (.t rfl) (.t rfl) sz45 rfl rfl (le1 rfl) (one_lit rfl) (by intro h; cases h) rfl)<| .cons (.assign (l1 rfl) (.const _ _ _))<| .nil _ _ _) ?_
     refine AWP.ret ?_
     obtain rfl := Option.some.inj h
     refine retJ (Res.vc (s' := ⟨[(4,.ptr 1 0),(5,iW (0 : Int))],[(1,⟨45,false,[rW false y_2.1 eW,iW y_2.2,iW y_3.1.Sp,rW false y_3.1.Kd encK40,rW false y_3.1.Lf eW]⟩)]⟩) (VC.sub (.of rfl) (.of rfl)) ?_)
     refine Res.drop (H := [(1,⟨45,false,[rW false y_2.1 eW,iW y_2.2,iW y_3.1.Sp,rW false y_3.1.Kd encK40,rW false y_3.1.Lf eW]⟩)]) rfl ?_
     exact Res.of rfl (.cons (.cell rfl agg45 rfl rfl rfl rfl) (.cons (.tmp rfl) (.nil))) rfl rfl
theorem c20F (n : Nat) : ∀ (f : Nat) {β2 : Bool} (a0 : R40) {r : R27},m20F n f a0 = some r → Spec Tryz.prog 20 [] [.agg (tW encK40 false β2 a0.Sp a0.Kd a0.Lf)] [] (.agg (tW encK27 false β2 r.Sp r.Kd r.Lf)) [] := by
 intro f
 induction f with
 | zero =>
  intro β2 a0 r h
  cases (show (none : Option R27) = some r from h)
 | succ f ih =>
 intro β2 a0 r h
 replace h : m20B n (m20F n f) a0 = some r := h
 generalize m20F n f = rc_0 at h ih
 refine Spec.of (fn := Tryz.f20) Tryz.func20 Tryz.ntmps20 rfl rfl (le1 rfl) (fun w0 Zs Zb T0 ι0 => ?_)
 unfold m20B at h
 refine AWP.seq ?_
 refine AWP.rg (.cons (.box (t := 1) (n := 3) (l1 rfl) (nm rfl) (.t rfl) (by first | exact ⟨rfl,rfl⟩ | rfl) rfl)<| .cons (.alloc (t := 2) (k := ⟨28,false,[iW (0 : Int),.sc (.slice none 0 0),.sc (.slice none 0 0)]⟩) (l1 rfl) (nm rfl) zero28 rfl rfl)<| .nil _ _ _) ?_
 refine AWP.vs ⟨[(1,.ptr 1 0),(2,.ptr 2 0)],[(2,⟨28,false,[iW (0 : Int),.sc (.slice none 0 0),.sc (.slice none 0 0)]⟩),(1,⟨41,false,(tW encK40 false β2 a0.Sp a0.Kd a0.Lf)⟩)]⟩ rfl rfl ?_
 refine AWP.seq ?_
 refine AWP.rg (.cons (.fieldP (l1 rfl) (.t rfl) fld41_0)<| .cons (.loadP (l1 rfl) (.t rfl) one3 rfl rfl rfl)<| .cons (.fieldP (l1 rfl) (.t rfl) fld41_2)<| .cons (.loadP (l1 rfl) (.t rfl) one23 rfl rfl rfl)<| .cons (.buildO (offs := [(0,1),(1,1),(2,1)]) (l1 rfl) (.cons (.t rfl) (by first | exact ⟨rfl,rfl⟩ | rfl) (.cons (.t rfl) (by first | exact ⟨rfl,rfl⟩ | rfl) (.nil))) zero28 offs28 rfl)<| .cons (.alloc (t := 3) (k := ⟨28,false,[iW (0 : Int),.sc (.slice none 0 0),.sc (.slice none 0 0)]⟩) (l1 rfl) (nm rfl) zero28 rfl rfl)<| .cons (.storePA (.t rfl) (.t rfl) sz28 rfl rfl (le1 rfl) (one_lit rfl) (by intro h; cases h) rfl)<| .nil _ _ _) ?_
 refine AWP.vs ⟨[(1,.ptr 1 0),(2,.ptr 2 0),(3,.ptr 3 0)],[(3,⟨28,false,[iW a0.Sp,.sc (.slice none 0 0),rW β2 a0.Lf eW]⟩),(2,⟨28,false,[iW (0 : Int),.sc (.slice none 0 0),.sc (.slice none 0 0)]⟩),(1,⟨41,false,(tW encK40 false β2 a0.Sp a0.Kd a0.Lf)⟩)]⟩ rfl rfl ?_
 refine AWP.seq ?_
 refine AWP.seq ?_
 refine AWP.rg (.cons (.fieldP (l1 rfl) (.t rfl) fld41_1)<| .cons (.loadP (l1 rfl) (.t rfl) one39 rfl rfl rfl)<| .cons (.lenRd (l1 rfl) (.t rfl) Tryz.underlying39)<| .cons (.move (l1 rfl) (.const _ _ _))<| .nil _ _ _) ?_
 refine AWP.vs ⟨[(2,.ptr 2 0),(3,.ptr 3 0),(12,rW false a0.Kd encK40),(13,iW (a0.Kd.length : Int)),(14,iW (0 : Int))],[(3,⟨28,false,[iW a0.Sp,.sc (.slice none 0 0),rW β2 a0.Lf eW]⟩),(2,⟨28,false,[iW (0 : Int),.sc (.slice none 0 0),.sc (.slice none 0 0)]⟩)]⟩ rfl rfl ?_
 refine AWP.joinB' (S := fun p_17 : (List K27) => ⟨[(2,.ptr 2 0),(3,.ptr 3 0)],[(2,⟨28,false,[iW (0 : Int),.sc (.slice none 0 0),.sc (.slice none 0 0)]⟩),(3,⟨28,false,[iW a0.Sp,.own 4 3 0 p_17.length,rW β2 a0.Lf eW]⟩),(4,⟨28,true,p_17.flatMap encK27⟩)]⟩) h (fun p_17 h => ?_) (fun k_18 h => ?_)
 ·refine AWP.seq ?_
  refine AWP.rg (.cons (.loadPA (l1 rfl) (.t rfl) agg28 rfl rfl rfl rfl)<| .cons (.storePA (.t rfl) (.t rfl) sz28 rfl rfl (le1 rfl) (one_lit rfl) (by intro h; cases h) rfl)<| .nil _ _ _) ?_
  refine AWP.ret ?_
  obtain rfl := Option.some.inj h
  refine retJ (Res.vc (s' := ⟨[(2,.ptr 2 0)],[(2,⟨28,false,[iW a0.Sp,rW false p_17 encK27,rW β2 a0.Lf eW]⟩)]⟩) (VC.trans (VC.trans (VC.freeze (t := 4) rfl) (VC.cellEq (t := 2) (i := 1) (v' := rW false p_17 encK27) rfl rfl rfl (frz_rd (enc := encK27) encK27_len p_17 false))) (VC.sub (.of rfl) (.of rfl))) ?_)
  refine Res.drop (H := [(2,⟨28,false,[iW a0.Sp,rW false p_17 encK27,rW β2 a0.Lf eW]⟩)]) rfl ?_
  exact Res.of rfl (.cons (.cell rfl agg28 rfl rfl rfl rfl) (.nil)) rfl rfl
 ·refine AWP.vc (VC.trans (VC.newTag (t := 4) (E := 28) (nm rfl)) (VC.cell (t := 3) (i := 1) (v' := .own 4 3 0 0) rfl rfl rfl (fun _ _ _ _ h => nil_own h))) ?_
  refine AWP.vs ⟨[(2,.ptr 2 0),(3,.ptr 3 0),(12,rW false a0.Kd encK40),(13,iW (a0.Kd.length : Int)),(14,iW (0 : Int))],[(2,⟨28,false,[iW (0 : Int),.sc (.slice none 0 0),.sc (.slice none 0 0)]⟩),(3,⟨28,false,[iW a0.Sp,.own 4 3 0 ([] : List K27).length,rW β2 a0.Lf eW]⟩),(4,⟨28,true,([] : List K27).flatMap encK27⟩)]⟩ rfl rfl ?_
  refine AWP.loopM (S := fun x_11 : Int × (List K27) => ⟨[(2,.ptr 2 0),(3,.ptr 3 0),(12,rW false a0.Kd encK40),(13,iW (a0.Kd.length : Int)),(14,iW x_11.1)],[(2,⟨28,false,[iW (0 : Int),.sc (.slice none 0 0),.sc (.slice none 0 0)]⟩),(3,⟨28,false,[iW a0.Sp,.own 4 3 0 x_11.2.length,rW β2 a0.Lf eW]⟩),(4,⟨28,true,x_11.2.flatMap encK27⟩)]⟩) (x := ((0 : Int),([] : List K27))) (fun nx_12 x_11 h => ?_) h
  unfold m20_L1 at h
  refine AWP.seq ?_
  refine AWP.rg (.cons (.lss (l1 rfl) (.t rfl) (.t rfl))<| .nil _ _ _) ?_
  refine AWP.vs ⟨[(2,.ptr 2 0),(3,.ptr 3 0),(12,rW false a0.Kd encK40),(13,iW (a0.Kd.length : Int)),(14,iW x_11.1),(15,bW (decide (x_11.1 < (a0.Kd.length : Int))))],[(2,⟨28,false,[iW (0 : Int),.sc (.slice none 0 0),.sc (.slice none 0 0)]⟩),(3,⟨28,false,[iW a0.Sp,.own 4 3 0 x_11.2.length,rW β2 a0.Lf eW]⟩),(4,⟨28,true,x_11.2.flatMap encK27⟩)]⟩ rfl rfl ?_
  refine AWP.seq ?_
  refine AWP.cond (.t rfl) (fun hc => ?_) (fun hc => ?_)
  ·have h := iteT hc h
   refine AWP.skip ?_
   refine AWP.seq ?_
   refine AWP.block ?_
   refine AWP.seq ?_
   obtain ⟨y_13,hy_13,h⟩ := bindS h
   refine AWP.rg (.cons (.indexRdC (enc := encK40) (l1 rfl) (.t rfl) (.t rfl) Tryz.underlying39 sz41 encK40_len rfl hy_13 (encK40_out _))<| .cons (.loadRA (out := (tW encK40 false false y_13.out.Sp y_13.out.Kd y_13.out.Lf)) (l1 rfl) (.t rfl) agg41 (le1 rfl) rfl)<| .cons (.alloc (t := 5) (k := ⟨41,false,[iW (0 : Int),.sc (.slice none 0 0),.sc (.slice none 0 0)]⟩) (l1 rfl) (nm rfl) zero41 rfl rfl)<| .cons (.storePA (.t rfl) (.t rfl) sz41 rfl rfl (le1 rfl) (one_lit rfl) (by intro h; cases h) rfl)<| .nil _ _ _) ?_
   refine AWP.vs ⟨[(2,.ptr 2 0),(3,.ptr 3 0),(12,rW false a0.Kd encK40),(13,iW (a0.Kd.length : Int)),(14,iW x_11.1),(5,.ptr 5 0)],[(5,⟨41,false,(tW encK40 false false y_13.out.Sp y_13.out.Kd y_13.out.Lf)⟩),(2,⟨28,false,[iW (0 : Int),.sc (.slice none 0 0),.sc (.slice none 0 0)]⟩),(3,⟨28,false,[iW a0.Sp,.own 4 3 0 x_11.2.length,rW β2 a0.Lf eW]⟩),(4,⟨28,true,x_11.2.flatMap encK27⟩)]⟩ rfl rfl ?_
   obtain ⟨y_14,hy_14,h⟩ := bindS h
   obtain ⟨l4_15,hl4_15,h⟩ := bindS h
   refine AWP.dw mixed [(2,.ptr 2 0),(3,.ptr 3 0),(5,.ptr 5 0),(12,rW false a0.Kd encK40),(13,iW (a0.Kd.length : Int)),(14,iW x_11.1)] [(7,[5])] [dO [1] 18 (.ptr 3 (0 + 1)),dO [6] 19 (.own 4 3 0 x_11.2.length),dO [2] 20 (.agg (tW encK40 false false y_13.out.Sp y_13.out.Kd y_13.out.Lf)),⟨[8],0,2,some (21,.agg (tW encK27 false false y_14.Sp y_14.Kd y_14.Lf)),[]⟩,⟨[9],0,2,some (22,rW false ([(K27.of y_14)] : List K27) encK27),[]⟩,⟨[7,10],0,0,some (23,.own 4 3 0 l4_15.length),[4]⟩,⟨[1],1,1,some (24,.ptr 3 (0 + 1)),[]⟩,⟨[12,11],1,1,none,[]⟩] [5,7] [[(5,⟨41,false,(tW encK40 false false y_13.out.Sp y_13.out.Kd y_13.out.Lf)⟩),(2,⟨28,false,[iW (0 : Int),.sc (.slice none 0 0),.sc (.slice none 0 0)]⟩),(3,⟨28,false,[iW a0.Sp,.own 4 3 0 x_11.2.length,rW β2 a0.Lf eW]⟩),(4,⟨28,true,x_11.2.flatMap encK27⟩)],[(4,⟨28,true,l4_15.flatMap encK27⟩),(5,⟨41,false,(tW encK40 false false y_13.out.Sp y_13.out.Kd y_13.out.Lf)⟩),(2,⟨28,false,[iW (0 : Int),.sc (.slice none 0 0),.sc (.slice none 0 0)]⟩),(3,⟨28,false,[iW a0.Sp,.any,rW β2 a0.Lf eW]⟩)],[(4,⟨28,true,l4_15.flatMap encK27⟩),(5,⟨41,false,(tW encK40 false false y_13.out.Sp y_13.out.Kd y_13.out.Lf)⟩),(2,⟨28,false,[iW (0 : Int),.sc (.slice none 0 0),.sc (.slice none 0 0)]⟩),(3,⟨28,false,[iW a0.Sp,.own 4 3 0 l4_15.length,rW β2 a0.Lf eW]⟩)]] [[],[0,1],[],[2,3],[2,4],[0,5],[0,6],[0,7]] [0,1,3,4,5] rfl rfl (by kernel_rfl) rfl (.read rfl (.c (.put (fun E hE => .fieldP (l1 rfl) (hE.t 0 rfl) fld28_1)) (.n))<| .read rfl (.c (.put (fun E hE => .loadP (l1 rfl) (hE.t 0 rfl) one26 rfl rfl rfl)) (.n))<| .read rfl (.c (.put (fun E hE => .loadPA (l1 rfl) (hE.t 0 rfl) agg41 rfl rfl rfl rfl)) (.n))<| .p rfl (fun _ q _ => .call0 (bw := false) (l1 rfl) (ih (β2 := false) (R40.mk y_13.out.Sp y_13.out.Kd y_13.out.Lf) hy_14) (.cons (q.t 0 rfl) (.ren rfl) (.nil)) rfl)<| .p rfl (fun _ q _ => .frzAny (fun t ht => AStep.buildSlice (t := t) (out := ([(K27.of y_14)] : List K27).flatMap encK27) (l1 rfl) ht (.cons (q.t 0 rfl) (by first | exact ⟨rfl,rfl⟩ | rfl) (.nil)) Tryz.underlying26 zero28 el28 (by decide) (by decide) (Eq.trans rfl (congrArg some (encK27_of1 y_14).symm)) (still_all encK27_still _)) rfl encK27_len)<| .turn rfl rfl rfl rfl rfl (.new (fun E hE => .appK (enc := encK27) (l1 rfl) (nm rfl) (hE.t 0 rfl) (Src.rd (hE.t 1 rfl) (flatMap_length encK27_len _) (one_all encK27_one _) (.inl rfl)) Tryz.underlying26 ⟨_,Tryz.underlying26,by intro k hk; cases hk⟩ el28 rfl encK27_len rfl rfl (by decide) hl4_15) rfl)<| .read rfl (.c (.put (fun E hE => .fieldP (l1 rfl) (hE.t 0 rfl) fld28_1)) (.n))<| .turn rfl rfl rfl rfl rfl (.store (fun E hE => .storeP (hE.t 0 rfl) (hE.t 1 rfl) sz26 rfl (l1 rfl) rfl (by intro h; cases h) rfl) rfl)<| .nil _) rfl rfl ?_
   refine AWP.vs ⟨[(2,.ptr 2 0),(3,.ptr 3 0),(12,rW false a0.Kd encK40),(13,iW (a0.Kd.length : Int)),(14,iW x_11.1)],[(4,⟨28,true,l4_15.flatMap encK27⟩),(2,⟨28,false,[iW (0 : Int),.sc (.slice none 0 0),.sc (.slice none 0 0)]⟩),(3,⟨28,false,[iW a0.Sp,.own 4 3 0 l4_15.length,rW β2 a0.Lf eW]⟩)]⟩ rfl rfl ?_
   obtain ⟨t14_16,ht14_16,h⟩ := letS h
   refine AWP.rg (.cons (.add (l1 rfl) (.t rfl) (.const _ _ _))<| .cons (.move (l1 rfl) (.t rfl))<| .nil _ _ _) ?_
   exact endJ (t14_16,l4_15) h (by subst ht14_16; exact VC.sub (.of rfl) (.of rfl))
  ·have h := iteF hc h
   refine AWP.exit ?_
   exact endJ x_11.2 h (VC.sub (.of rfl) (.of rfl))
theorem c20 (n : Nat) {β2 : Bool} (a0 : R40) {r : R27} (h : m20 n a0 = some r) : Spec Tryz.prog 20 [] [.agg (tW encK40 false β2 a0.Sp a0.Kd a0.Lf)] [] (.agg (tW encK27 false β2 r.Sp r.Kd r.Lf)) [] := c20F n n a0 h
theorem c4 (n : Nat) (a0 : (List R63)) (a1 : Bool) {r : Bool} (h : m4 n a0 a1 = some r) : Spec Tryz.prog 4 [] [rW false a0 e63,bW a1] [] (bW r) [] := by
 refine Spec.of (fn := Tryz.f4) Tryz.func4 Tryz.ntmps4 rfl rfl (le1 rfl) (fun w0 Zs Zb T0 ι0 => ?_)
 unfold m4 at h
 refine AWP.seq ?_
 refine AWP.rg (.cons (.assign (l1 rfl) (.const _ _ _))<| .nil _ _ _) ?_
 refine AWP.vs ⟨[(0,rW false a0 e63),(1,bW a1)],[]⟩ rfl rfl ?_
 refine AWP.seq ?_
 refine AWP.seq ?_
 obtain ⟨y_1,hy_1,h⟩ := bindS h
 obtain ⟨y_2,hy_2,h⟩ := bindS h
 refine AWP.rg (.cons (.call0 (bw := false) (l1 rfl) (c5 n hy_1) (.nil) rfl)<| .cons (.not (l1 rfl) (.t rfl))<| .cons (.move (l1 rfl) (.t rfl))<| .guard (j := 2) (dj := 13) rfl (l1 rfl) rfl (l1 rfl) (fun hg => .move (l1 rfl) (.t rfl))<| .guard (j := 2) (dj := 13) rfl (l1 rfl) rfl (l1 rfl) (fun hg => .call0 (bw := false) (l1 rfl) (c17 (β1 := false) n a0 (gdB hy_2 hg)) (.cons (.gd hg (.t rfl)) (.ren rfl) (.nil)) rfl)<| .guard (j := 2) (dj := 13) rfl (l1 rfl) rfl (l1 rfl) (fun hg => .not (l1 rfl) (.gd hg (.t rfl)))<| .cons (.pickOr (l1 rfl) (.t rfl) (.const _ _ _) (.t rfl))<| .nil _ _ _) ?_
 refine AWP.vs ⟨[(0,rW false a0 e63),(1,bW a1),(17,bW ((!y_1) || (!y_2)))],[]⟩ rfl rfl ?_
 refine AWP.cond (.t rfl) (fun hc => ?_) (fun hc => ?_)
 ·have h := iteT hc h
  refine AWP.seq ?_
  obtain ⟨y_3,hy_3,h⟩ := bindS h
  refine AWP.rg (.cons (.call0 (bw := false) (l1 rfl) (c5 n hy_3) (.nil) rfl)<| .cons (.assign (l1 rfl) (.t rfl))<| .nil _ _ _) ?_
  refine AWP.ret ?_
  obtain rfl := Option.some.inj h
  refine retJ (Res.vc (s' := ⟨[(4,bW y_3)],[]⟩) (VC.sub (.of rfl) (.n _)) ?_)
  refine Res.drop (H := []) rfl ?_
  exact Res.of rfl (.cons (.tmp rfl) (.nil)) rfl rfl
 ·have h := iteF hc h
  refine AWP.skip ?_
  refine AWP.seq ?_
  obtain ⟨y_4,hy_4,h⟩ := bindS h
  obtain ⟨y_5,hy_5,h⟩ := bindS h
  refine AWP.rg (.cons (.move (l1 rfl) (.t rfl))<| .cons (.call0 (bw := false) (l1 rfl) (c13 (β1 := false) n a0 hy_4) (.cons (.t rfl) (.ren rfl) (.nil)) rfl)<| .cons (.move (l1 rfl) (.t rfl))<| .cons (.call0 (bw := false) (l1 rfl) (c18 n y_4 a1 hy_5) (.cons (.t rfl) (.ren rfl) (.cons (.t rfl) (.ren rfl) (.nil))) rfl)<| .cons (.move (l1 rfl) (.t rfl))<| .cons (.extract (l1 rfl) (.t rfl) rfl)<| .cons (.extract (l1 rfl) (.t rfl) rfl)<| .cons (.alloc (t := 1) (k := ⟨45,false,[.sc (.slice none 0 0),iW (0 : Int),iW (0 : Int),.sc (.slice none 0 0),.sc (.slice none 0 0)]⟩) (l1 rfl) (nm rfl) zero45 rfl rfl)<| .cons (.storePA (.t rfl) (.t rfl) sz45 rfl rfl (le1 rfl) (one_lit rfl) (by intro h; cases h) rfl)<| .cons (.assign (l1 rfl) (.t rfl))<| .nil _ _ _) ?_
  refine AWP.vs ⟨[(0,rW false a0 e63),(1,bW a1),(5,.ptr 1 0),(6,iW y_5.2)],[(1,⟨45,false,[rW false y_5.1.Order eW,iW y_5.1.Value,iW y_5.1.Proof.Sp,rW false y_5.1.Proof.Kd encK40,rW false y_5.1.Proof.Lf eW]⟩)]⟩ rfl rfl ?_
  refine AWP.seq ?_
  refine AWP.block ?_
  refine AWP.seq ?_
  obtain ⟨y_6,hy_6,h⟩ := bindS h
  refine AWP.rg (.cons (.move (l1 rfl) (.t rfl))<| .cons (.call0 (bw := false) (l1 rfl) (c19 (β1 := false) n a0 hy_6) (.cons (.t rfl) (.ren rfl) (.nil)) rfl)<| .cons (.not (l1 rfl) (.t rfl))<| .cons (.assign (l1 rfl) (.t rfl))<| .nil _ _ _) ?_
  refine AWP.vs ⟨[(0,rW false a0 e63),(1,bW a1),(5,.ptr 1 0),(6,iW y_5.2),(26,bW (!y_6))],[(1,⟨45,false,[rW false y_5.1.Order eW,iW y_5.1.Value,iW y_5.1.Proof.Sp,rW false y_5.1.Proof.Kd encK40,rW false y_5.1.Proof.Lf eW]⟩)]⟩ rfl rfl ?_
  refine AWP.cond (.t rfl) (fun hc => ?_) (fun hc => ?_)
  ·have h := iteT hc h
   refine AWP.seq ?_
   refine AWP.rg (.cons (.move (l1 rfl) (.t rfl))<| .cons (.eql (l1 rfl) (.t rfl) (.const _ _ _))<| .cons (.move (l1 rfl) (.t rfl))<| .guard (j := 2) (dj := 32) rfl (l1 rfl) rfl (l1 rfl) (fun hg => .fieldP (l1 rfl) (.t rfl) fld45_0)<| .guard (j := 2) (dj := 32) rfl (l1 rfl) rfl (l1 rfl) (fun hg => .loadP (l1 rfl) (.gd hg (.t rfl)) one23 rfl rfl rfl)<| .guard (j := 2) (dj := 32) rfl (l1 rfl) rfl (l1 rfl) (fun hg => .lenRd (l1 rfl) (.gd hg (.t rfl)) Tryz.underlying23)<| .guard (j := 2) (dj := 32) rfl (l1 rfl) rfl (l1 rfl) (fun hg => .eql (l1 rfl) (.gd hg (.t rfl)) (.const _ _ _))<| .cons (.pickAnd (l1 rfl) (.t rfl) (.t rfl) (.const _ _ _))<| .cons (.assign (l1 rfl) (.t rfl))<| .nil _ _ _) ?_
   refine AWP.ret ?_
   obtain rfl := Option.some.inj h
   refine retJ (Res.vc (s' := ⟨[(4,bW ((decide (y_5.2 = (1 : Int))) && (decide ((y_5.1.Order.length : Int) = (0 : Int)))))],[]⟩) (VC.sub (.of rfl) (.n _)) ?_)
   refine Res.drop (H := []) rfl ?_
   exact Res.of rfl (.cons (.tmp rfl) (.nil)) rfl rfl
  ·have h := iteF hc h
   refine AWP.seq ?_
   refine AWP.rg (.cons (.move (l1 rfl) (.t rfl))<| .cons (.lenRd (l1 rfl) (.t rfl) Tryz.underlying22)<| .cons (.eql (l1 rfl) (.t rfl) (.const _ _ _))<| .cons (.assign (l1 rfl) (.t rfl))<| .nil _ _ _) ?_
   refine AWP.vs ⟨[(0,rW false a0 e63),(1,bW a1),(5,.ptr 1 0),(6,iW y_5.2),(38,bW (decide ((a0.length : Int) = (0 : Int))))],[(1,⟨45,false,[rW false y_5.1.Order eW,iW y_5.1.Value,iW y_5.1.Proof.Sp,rW false y_5.1.Proof.Kd encK40,rW false y_5.1.Proof.Lf eW]⟩)]⟩ rfl rfl ?_
   refine AWP.cond (.t rfl) (fun hc => ?_) (fun hc => ?_)
   ·have h := iteT hc h
    refine AWP.seq ?_
    refine AWP.rg (.cons (.move (l1 rfl) (.t rfl))<| .cons (.eql (l1 rfl) (.t rfl) (.const _ _ _))<| .cons (.assign (l1 rfl) (.t rfl))<| .nil _ _ _) ?_
    refine AWP.ret ?_
    obtain rfl := Option.some.inj h
    refine retJ (Res.vc (s' := ⟨[(4,bW (decide (y_5.2 = (8 : Int))))],[]⟩) (VC.sub (.of rfl) (.n _)) ?_)
    refine Res.drop (H := []) rfl ?_
    exact Res.of rfl (.cons (.tmp rfl) (.nil)) rfl rfl
   ·have h := iteF hc h
    refine AWP.seq ?_
    refine AWP.rg (.cons (.move (l1 rfl) (.t rfl))<| .cons (.neq (l1 rfl) (.t rfl) (.const _ _ _))<| .cons (.assign (l1 rfl) (.t rfl))<| .nil _ _ _) ?_
    refine AWP.vs ⟨[(0,rW false a0 e63),(1,bW a1),(5,.ptr 1 0),(6,iW y_5.2),(44,bW (!decide (y_5.2 = (0 : Int))))],[(1,⟨45,false,[rW false y_5.1.Order eW,iW y_5.1.Value,iW y_5.1.Proof.Sp,rW false y_5.1.Proof.Kd encK40,rW false y_5.1.Proof.Lf eW]⟩)]⟩ rfl rfl ?_
    refine AWP.cond (.t rfl) (fun hc => ?_) (fun hc => ?_)
    ·have h := iteT hc h
     refine AWP.seq ?_
     refine AWP.rg (.cons (.move (l1 rfl) (.t rfl))<| .cons (.eql (l1 rfl) (.t rfl) (.const _ _ _))<| .cons (.move (l1 rfl) (.t rfl))<| .guard (j := 2) (dj := 49) rfl (l1 rfl) rfl (l1 rfl) (fun hg => .move (l1 rfl) (.t rfl))<| .guard (j := 2) (dj := 49) rfl (l1 rfl) rfl (l1 rfl) (fun hg => .lenRd (l1 rfl) (.gd hg (.t rfl)) Tryz.underlying22)<| .guard (j := 2) (dj := 49) rfl (l1 rfl) rfl (l1 rfl) (fun hg => .gtr (l1 rfl) (.gd hg (.t rfl)) (.const _ _ _))<| .cons (.pickAnd (l1 rfl) (.t rfl) (.t rfl) (.const _ _ _))<| .cons (.move (l1 rfl) (.t rfl))<| .guard (j := 7) (dj := 54) rfl (l1 rfl) rfl (l1 rfl) (fun hg => .fieldP (l1 rfl) (.t rfl) fld45_0)<| .guard (j := 7) (dj := 54) rfl (l1 rfl) rfl (l1 rfl) (fun hg => .loadP (l1 rfl) (.gd hg (.t rfl)) one23 rfl rfl rfl)<| .guard (j := 7) (dj := 54) rfl (l1 rfl) rfl (l1 rfl) (fun hg => .lenRd (l1 rfl) (.gd hg (.t rfl)) Tryz.underlying23)<| .guard (j := 7) (dj := 54) rfl (l1 rfl) rfl (l1 rfl) (fun hg => .eql (l1 rfl) (.gd hg (.t rfl)) (.const _ _ _))<| .cons (.pickAnd (l1 rfl) (.t rfl) (.t rfl) (.const _ _ _))<| .cons (.assign (l1 rfl) (.t rfl))<| .nil _ _ _) ?_
     refine AWP.ret ?_
     obtain rfl := Option.some.inj h
     refine retJ (Res.vc (s' := ⟨[(4,bW (((decide (y_5.2 = (9 : Int))) && (decide ((5 : Int) < (a0.length : Int)))) && (decide ((y_5.1.Order.length : Int) = (0 : Int)))))],[]⟩) (VC.sub (.of rfl) (.n _)) ?_)
     refine Res.drop (H := []) rfl ?_
     exact Res.of rfl (.cons (.tmp rfl) (.nil)) rfl rfl
    ·have h := iteF hc h
     refine AWP.skip ?_
     refine AWP.seq ?_
     obtain ⟨y_7,hy_7,h⟩ := bindS h
     refine AWP.dw mixed [(0,rW false a0 e63),(1,bW a1),(5,.ptr 1 0),(6,iW y_5.2),(44,bW (!decide (y_5.2 = (0 : Int))))] [] [⟨[2],0,1,some (60,.ptr 1 (0 + 0)),[]⟩,⟨[5],0,1,some (61,rW false y_5.1.Order eW),[]⟩,⟨[2],0,1,some (62,.ptr 1 (0 + 1)),[]⟩,⟨[7],0,1,some (63,iW y_5.1.Value),[]⟩,⟨[2],0,1,some (64,.ptr 1 (0 + 2)),[]⟩,⟨[9],0,1,some (65,.agg (tW encK40 false false y_5.1.Proof.Sp y_5.1.Proof.Kd y_5.1.Proof.Lf)),[]⟩,⟨[10],0,2,some (66,.agg (tW encK27 false false y_7.Sp y_7.Kd y_7.Lf)),[]⟩,⟨[6,8,11],0,2,some (67,.agg [rW false y_5.1.Order eW,iW y_5.1.Value,iW y_7.Sp,rW false y_7.Kd encK27,rW false y_7.Lf eW]),[]⟩,⟨[],0,0,some (7,.ptr 2 0),[2]⟩,⟨[13,12],1,1,none,[]⟩] [8,9] [[(1,⟨45,false,[rW false y_5.1.Order eW,iW y_5.1.Value,iW y_5.1.Proof.Sp,rW false y_5.1.Proof.Kd encK40,rW false y_5.1.Proof.Lf eW]⟩)],[(2,⟨47,false,[.sc (.slice none 0 0),iW (0 : Int),iW (0 : Int),.sc (.slice none 0 0),.sc (.slice none 0 0)]⟩),(1,⟨45,false,[rW false y_5.1.Order eW,iW y_5.1.Value,iW y_5.1.Proof.Sp,rW false y_5.1.Proof.Kd encK40,rW false y_5.1.Proof.Lf eW]⟩)],[(2,⟨47,false,[rW false y_5.1.Order eW,iW y_5.1.Value,iW y_7.Sp,rW false y_7.Kd encK27,rW false y_7.Lf eW]⟩),(1,⟨45,false,[rW false y_5.1.Order eW,iW y_5.1.Value,iW y_5.1.Proof.Sp,rW false y_5.1.Proof.Kd encK40,rW false y_5.1.Proof.Lf eW]⟩)]] [[],[0,1],[],[2,3],[],[4,5],[4,6],[0,7],[],[0,9]] [0,1,2,13] rfl rfl (by kernel_rfl) rfl (.read rfl (.c (.put (fun E hE => .fieldP (l1 rfl) (hE.t 0 rfl) fld45_0)) (.c (.put (fun E hE => .fieldP (l1 rfl) (hE.t 0 rfl) fld45_0)) (.n)))<| .read rfl (.c (.put (fun E hE => .loadP (l1 rfl) (hE.t 0 rfl) one23 rfl rfl rfl)) (.c (.put (fun E hE => .loadP (l1 rfl) (hE.t 0 rfl) one23 rfl rfl rfl)) (.n)))<| .read rfl (.c (.put (fun E hE => .fieldP (l1 rfl) (hE.t 0 rfl) fld45_1)) (.c (.put (fun E hE => .fieldP (l1 rfl) (hE.t 0 rfl) fld45_1)) (.n)))<| .read rfl (.c (.put (fun E hE => .loadP (l1 rfl) (hE.t 0 rfl) one3 rfl rfl rfl)) (.c (.put (fun E hE => .loadP (l1 rfl) (hE.t 0 rfl) one3 rfl rfl rfl)) (.n)))<| .read rfl (.c (.put (fun E hE => .fieldP (l1 rfl) (hE.t 0 rfl) fld45_2)) (.c (.put (fun E hE => .fieldP (l1 rfl) (hE.t 0 rfl) fld45_2)) (.n)))<| .read rfl (.c (.put (fun E hE => .loadPA (l1 rfl) (hE.t 0 rfl) agg41 rfl rfl rfl rfl)) (.c (.put (fun E hE => .loadPA (l1 rfl) (hE.t 0 rfl) agg41 rfl rfl rfl rfl)) (.n)))<| .p rfl (fun _ q _ => .call0 (bw := false) (l1 rfl) (c20 (β2 := false) n (R40.mk y_5.1.Proof.Sp y_5.1.Proof.Kd y_5.1.Proof.Lf) hy_7) (.cons (q.t 0 rfl) (.ren rfl) (.nil)) rfl)<| .p rfl (fun _ q _ => .buildO (offs := [(0,1),(1,1),(2,3)]) (l1 rfl) (.cons (q.t 0 rfl) (by first | exact ⟨rfl,rfl⟩ | rfl) (.cons (q.t 1 rfl) (by first | exact ⟨rfl,rfl⟩ | rfl) (.cons (q.t 2 rfl) (by first | exact ⟨rfl,rfl⟩ | rfl) (.nil)))) zero47 offs47 rfl)<| .turn rfl rfl rfl rfl rfl (.new (fun E hE => .alloc (t := 2) (k := ⟨47,false,[.sc (.slice none 0 0),iW (0 : Int),iW (0 : Int),.sc (.slice none 0 0),.sc (.slice none 0 0)]⟩) (l1 rfl) (nm rfl) zero47 rfl rfl) rfl)<| .turn rfl rfl rfl rfl rfl (.store (fun E hE => .storePA (hE.t 0 rfl) (hE.t 1 rfl) sz47 rfl rfl (le1 rfl) (one_lit rfl) (by intro h; cases h) rfl) rfl)<| .nil _) rfl rfl ?_
     refine AWP.vs ⟨[(0,rW false a0 e63),(1,bW a1),(5,.ptr 1 0),(7,.ptr 2 0)],[(2,⟨47,false,[rW false y_5.1.Order eW,iW y_5.1.Value,iW y_7.Sp,rW false y_7.Kd encK27,rW false y_7.Lf eW]⟩),(1,⟨45,false,[rW false y_5.1.Order eW,iW y_5.1.Value,iW y_5.1.Proof.Sp,rW false y_5.1.Proof.Kd encK40,rW false y_5.1.Proof.Lf eW]⟩)]⟩ rfl rfl ?_
     refine AWP.seq ?_
     obtain ⟨y_8,hy_8,h⟩ := bindS h
     obtain ⟨y_9,hy_9,h⟩ := bindS h
     refine AWP.rg (.cons (.move (l1 rfl) (.t rfl))<| .cons (.call0 (bw := false) (l1 rfl) (c13 (β1 := false) n a0 hy_8) (.cons (.t rfl) (.ren rfl) (.nil)) rfl)<| .cons (.move (l1 rfl) (.t rfl))<| .cons (.call0 (bw := false) (l1 rfl) (c21 (β1 := false) n y_8 a1 hy_9) (.cons (.t rfl) (.ren rfl) (.cons (.t rfl) (.ren rfl) (.nil))) rfl)<| .cons (.move (l1 rfl) (.t rfl))<| .cons (.extract (l1 rfl) (.t rfl) rfl)<| .cons (.extract (l1 rfl) (.t rfl) rfl)<| .cons (.extract (l1 rfl) (.t rfl) rfl)<| .cons (.assign (l1 rfl) (.t rfl))<| .cons (.assign (l1 rfl) (.t rfl))<| .cons (.assign (l1 rfl) (.t rfl))<| .nil _ _ _) ?_
     refine AWP.vs ⟨[(0,rW false a0 e63),(1,bW a1),(5,.ptr 1 0),(7,.ptr 2 0),(9,iW y_9.2.1),(10,iW y_9.2.2)],[(2,⟨47,false,[rW false y_5.1.Order eW,iW y_5.1.Value,iW y_7.Sp,rW false y_7.Kd encK27,rW false y_7.Lf eW]⟩),(1,⟨45,false,[rW false y_5.1.Order eW,iW y_5.1.Value,iW y_5.1.Proof.Sp,rW false y_5.1.Proof.Kd encK40,rW false y_5.1.Proof.Lf eW]⟩)]⟩ rfl rfl ?_
     refine AWP.seq ?_
     obtain ⟨y_10,hy_10,h⟩ := bindS h
     obtain ⟨y_11,hy_11,h⟩ := bindS h
     obtain ⟨y_12,hy_12,h⟩ := bindS h
     obtain ⟨y_13,hy_13,h⟩ := bindS h
     refine AWP.dw mixed [(0,rW false a0 e63),(1,bW a1),(5,.ptr 1 0),(7,.ptr 2 0),(9,iW y_9.2.1),(10,iW y_9.2.2)] [] [dO [0] 76 (rW false a0 e63),dO [1] 77 (bW a1),dO [3] 78 (.agg [rW false y_5.1.Order eW,iW y_5.1.Value,iW y_7.Sp,rW false y_7.Kd encK27,rW false y_7.Lf eW]),dO [6,7,8] 79 (bW y_10),dO [9] 80 (bW y_10),dO [10,0] 81 (.gd y_10 (rW false a0 e63)),dO [10,11] 82 (.gd y_10 (rW false y_11 e63)),dO [10,1] 83 (.gd y_10 (bW a1)),dO [10,2] 84 (.gd y_10 (.agg [rW false y_5.1.Order eW,iW y_5.1.Value,iW y_5.1.Proof.Sp,rW false y_5.1.Proof.Kd encK40,rW false y_5.1.Proof.Lf eW])),dO [10,12,13,14] 85 (.gd y_10 (bW y_12)),dO [10,15] 86 (bW (y_10 && y_12)),dO [16] 87 (bW (y_10 && y_12)),dO [17,2] 88 (.gd (y_10 && y_12) (.ptr 1 (0 + 2))),dO [17,18] 89 (.gd (y_10 && y_12) (.agg (tW encK40 false false y_5.1.Proof.Sp y_5.1.Proof.Kd y_5.1.Proof.Lf))),dO [17,19] 90 (.gd (y_10 && y_12) (bW y_13)),dO [17,20] 91 (bW ((y_10 && y_12) && y_13)),dO [21] 92 (bW ((y_10 && y_12) && y_13)),dO [22,5] 93 (.gd ((y_10 && y_12) && y_13) (iW y_9.2.2)),dO [22,23] 94 (.gd ((y_10 && y_12) && y_13) (bW (decide (y_9.2.2 = (9 : Int))))),dO [22,24] 95 (.gd ((y_10 && y_12) && y_13) (bW (decide (y_9.2.2 = (9 : Int))))),dO [25,5] 96 (.gd (((y_10 && y_12) && y_13) && (!(decide (y_9.2.2 = (9 : Int))))) (iW y_9.2.2)),dO [25,26] 97 (.gd (((y_10 && y_12) && y_13) && (!(decide (y_9.2.2 = (9 : Int))))) (bW (decide (y_9.2.2 = (0 : Int))))),dO [25,27] 98 (.gd (((y_10 && y_12) && y_13) && (!(decide (y_9.2.2 = (9 : Int))))) (bW (decide (y_9.2.2 = (0 : Int))))),dO [28,4] 99 (.gd ((((y_10 && y_12) && y_13) && (!(decide (y_9.2.2 = (9 : Int))))) && (decide (y_9.2.2 = (0 : Int)))) (iW y_9.2.1)),dO [28,2] 100 (.gd ((((y_10 && y_12) && y_13) && (!(decide (y_9.2.2 = (9 : Int))))) && (decide (y_9.2.2 = (0 : Int)))) (.ptr 1 (0 + 1))),dO [28,30] 101 (.gd ((((y_10 && y_12) && y_13) && (!(decide (y_9.2.2 = (9 : Int))))) && (decide (y_9.2.2 = (0 : Int)))) (iW y_5.1.Value)),dO [28,29,31] 102 (.gd ((((y_10 && y_12) && y_13) && (!(decide (y_9.2.2 = (9 : Int))))) && (decide (y_9.2.2 = (0 : Int)))) (bW (decide (y_9.2.1 = y_5.1.Value)))),dO [25,28,32] 103 (.gd (((y_10 && y_12) && y_13) && (!(decide (y_9.2.2 = (9 : Int))))) (bW ((decide (y_9.2.2 = (0 : Int))) && (decide (y_9.2.1 = y_5.1.Value))))),dO [22,25,33] 104 (.gd ((y_10 && y_12) && y_13) (bW ((decide (y_9.2.2 = (9 : Int))) || ((decide (y_9.2.2 = (0 : Int))) && (decide (y_9.2.1 = y_5.1.Value)))))),dO [22,34] 105 (bW (((y_10 && y_12) && y_13) && ((decide (y_9.2.2 = (9 : Int))) || ((decide (y_9.2.2 = (0 : Int))) && (decide (y_9.2.1 = y_5.1.Value)))))),dO [35] 4 (bW (((y_10 && y_12) && y_13) && ((decide (y_9.2.2 = (9 : Int))) || ((decide (y_9.2.2 = (0 : Int))) && (decide (y_9.2.1 = y_5.1.Value))))))] [] [[(2,⟨47,false,[rW false y_5.1.Order eW,iW y_5.1.Value,iW y_7.Sp,rW false y_7.Kd encK27,rW false y_7.Lf eW]⟩),(1,⟨45,false,[rW false y_5.1.Order eW,iW y_5.1.Value,iW y_5.1.Proof.Sp,rW false y_5.1.Proof.Kd encK40,rW false y_5.1.Proof.Lf eW]⟩)]] [[],[],[],[0,3],[0,4],[0,5],[0,6],[0,5],[0,5],[0,9],[0,10],[0,11],[0,12],[0,13],[0,14],[0,15],[0,16],[0,17],[0,18],[0,19],[0,20],[0,21],[0,22],[0,23],[0,23],[0,23,24,25],[0,26],[0,27],[0,28],[0,29],[0,30]] [36] rfl rfl (by kernel_rfl) rfl (.p rfl (fun _ q _ => .move (l1 rfl) (q.t 0 rfl))<| .p rfl (fun _ q _ => .move (l1 rfl) (q.t 0 rfl))<| .r rfl rfl (fun _ q => .loadPA (l1 rfl) (q.t 0 rfl) agg47 rfl rfl rfl rfl)<| .p rfl (fun _ q _ => .call0 (bw := false) (l1 rfl) (c14 (β2 := false) (β3 := false) (β4 := false) n a0 a1 (R46.mk y_5.1.Order y_5.1.Value (R27.mk y_7.Sp y_7.Kd y_7.Lf)) hy_10) (.cons (q.t 0 rfl) (.ren rfl) (.cons (q.t 1 rfl) (.ren rfl) (.cons (q.t 2 rfl) (.ren rfl) (.nil)))) rfl)<| .p rfl (fun _ q _ => .move (l1 rfl) (q.t 0 rfl))<| .gt rfl rfl rfl rfl rfl (fun hg _ q _ => .move (l1 rfl) (q.t 1 rfl))<| .gt rfl rfl rfl rfl rfl (fun hg _ q _ => .call0 (bw := false) (l1 rfl) (c13 (β1 := false) n a0 (gdB hy_11 hg)) (.cons (.gd hg (q.t 1 rfl)) (.ren rfl) (.nil)) rfl)<| .gt rfl rfl rfl rfl rfl (fun hg _ q _ => .move (l1 rfl) (q.t 1 rfl))<| .rt rfl rfl rfl rfl rfl rfl (fun hg _ q => .loadPA (l1 rfl) (q.t 1 rfl) agg45 rfl rfl rfl rfl)<| .gt rfl rfl rfl rfl rfl (fun hg _ q _ => .call0 (bw := false) (l1 rfl) (c12 (β2 := false) (β3 := false) (β4 := false) n y_11 a1 (R44.mk y_5.1.Order y_5.1.Value (R40.mk y_5.1.Proof.Sp y_5.1.Proof.Kd y_5.1.Proof.Lf)) (gdB hy_12 hg)) (.cons (.gd hg (q.t 1 rfl)) (.ren rfl) (.cons (.gd hg (q.t 2 rfl)) (.ren rfl) (.cons (.gd hg (q.t 3 rfl)) (.ren rfl) (.nil)))) rfl)<| .p rfl (fun _ q _ => .pickAnd (l1 rfl) (q.t 0 rfl) (q.t 1 rfl) (.const _ _ _))<| .p rfl (fun _ q _ => .move (l1 rfl) (q.t 0 rfl))<| .rt rfl rfl rfl rfl rfl rfl (fun hg _ q => .fieldP (l1 rfl) (q.t 1 rfl) fld45_2)<| .rt rfl rfl rfl rfl rfl rfl (fun hg _ q => .loadPA (l1 rfl) (.gd hg (q.t 1 rfl)) agg41 rfl rfl rfl rfl)<| .gt rfl rfl rfl rfl rfl (fun hg _ q _ => .call0 (bw := false) (l1 rfl) (c22 (β1 := false) (β2 := false) n (R40.mk y_5.1.Proof.Sp y_5.1.Proof.Kd y_5.1.Proof.Lf) (gdB hy_13 hg)) (.cons (.gd hg (q.t 1 rfl)) (.ren rfl) (.nil)) rfl)<| .p rfl (fun _ q _ => .pickAnd (l1 rfl) (q.t 0 rfl) (q.t 1 rfl) (.const _ _ _))<| .p rfl (fun _ q _ => .move (l1 rfl) (q.t 0 rfl))<| .gt rfl rfl rfl rfl rfl (fun hg _ q _ => .move (l1 rfl) (q.t 1 rfl))<| .gt rfl rfl rfl rfl rfl (fun hg _ q _ => .eql (l1 rfl) (.gd hg (q.t 1 rfl)) (.const _ _ _))<| .gt rfl rfl rfl rfl rfl (fun hg _ q _ => .move (l1 rfl) (.gd hg (q.t 1 rfl)))<| .pure rfl (fun H => .gput2 (b := (decide (y_9.2.2 = (9 : Int)))) (a0 := ((y_10 && y_12) && y_13)) (want := false) (j := 19) (dj := 95) rfl (l1 rfl) (l1 rfl) (fun E hE => hE.at (k := 0) rfl) (fun hg E hE => .move (l1 rfl) (hE.t 1 rfl)))<| .pure rfl (fun H => .gput2 (b := (decide (y_9.2.2 = (9 : Int)))) (a0 := ((y_10 && y_12) && y_13)) (want := false) (j := 19) (dj := 95) rfl (l1 rfl) (l1 rfl) (fun E hE => hE.at (k := 0) rfl) (fun hg E hE => .eql (l1 rfl) (.gd hg (hE.t 1 rfl)) (.const _ _ _)))<| .pure rfl (fun H => .gput2 (b := (decide (y_9.2.2 = (9 : Int)))) (a0 := ((y_10 && y_12) && y_13)) (want := false) (j := 19) (dj := 95) rfl (l1 rfl) (l1 rfl) (fun E hE => hE.at (k := 0) rfl) (fun hg E hE => .move (l1 rfl) (.gd hg (hE.t 1 rfl))))<| .pure rfl (fun H => .gput2 (b := (decide (y_9.2.2 = (0 : Int)))) (a0 := (((y_10 && y_12) && y_13) && (!(decide (y_9.2.2 = (9 : Int)))))) (want := true) (j := 22) (dj := 98) rfl (l1 rfl) (l1 rfl) (fun E hE => hE.at (k := 0) rfl) (fun hg E hE => .move (l1 rfl) (hE.t 1 rfl)))<| .read rfl (.c (.gput2 (b := (decide (y_9.2.2 = (0 : Int)))) (a0 := (((y_10 && y_12) && y_13) && (!(decide (y_9.2.2 = (9 : Int)))))) (want := true) (j := 22) (dj := 98) rfl (l1 rfl) (l1 rfl) (fun E hE => hE.at (k := 0) rfl) (fun hg E hE => .fieldP (l1 rfl) (hE.t 1 rfl) fld45_1)) .n)<| .read rfl (.c (.gput2 (b := (decide (y_9.2.2 = (0 : Int)))) (a0 := (((y_10 && y_12) && y_13) && (!(decide (y_9.2.2 = (9 : Int)))))) (want := true) (j := 22) (dj := 98) rfl (l1 rfl) (l1 rfl) (fun E hE => hE.at (k := 0) rfl) (fun hg E hE => .loadP (l1 rfl) (.gd hg (hE.t 1 rfl)) one3 rfl rfl rfl)) .n)<| .pure rfl (fun H => .gput2 (b := (decide (y_9.2.2 = (0 : Int)))) (a0 := (((y_10 && y_12) && y_13) && (!(decide (y_9.2.2 = (9 : Int)))))) (want := true) (j := 22) (dj := 98) rfl (l1 rfl) (l1 rfl) (fun E hE => hE.at (k := 0) rfl) (fun hg E hE => .eql (l1 rfl) (.gd hg (hE.t 1 rfl)) (.gd hg (hE.t 2 rfl))))<| .pure rfl (fun H => .gput2 (b := (decide (y_9.2.2 = (9 : Int)))) (a0 := ((y_10 && y_12) && y_13)) (want := false) (j := 19) (dj := 95) rfl (l1 rfl) (l1 rfl) (fun E hE => hE.at (k := 0) rfl) (fun hg E hE => .pickAnd (l1 rfl) (.gd hg (hE.t 1 rfl)) (.gdAnd hg (hE.t 2 rfl)) (.const _ _ _)))<| .gt rfl rfl rfl rfl rfl (fun hg _ q _ => .pickOr (l1 rfl) (.gd hg (q.t 1 rfl)) (.const _ _ _) (.gdAnd hg (q.t 2 rfl)))<| .p rfl (fun _ q _ => .pickAnd (l1 rfl) (q.t 0 rfl) (q.t 1 rfl) (.const _ _ _))<| .p rfl (fun _ q _ => .assign (l1 rfl) (q.t 0 rfl))<| .nil _) rfl rfl ?_
     refine AWP.ret ?_
     obtain rfl := Option.some.inj h
     refine retJ (Res.vc (s' := ⟨[(4,bW (((y_10 && y_12) && y_13) && ((decide (y_9.2.2 = (9 : Int))) || ((decide (y_9.2.2 = (0 : Int))) && (decide (y_9.2.1 = y_5.1.Value))))))],[]⟩) (VC.sub (.of rfl) (.n _)) ?_)
     refine Res.drop (H := []) rfl ?_
     exact Res.of rfl (.cons (.tmp rfl) (.nil)) rfl rfl
end Go.AB

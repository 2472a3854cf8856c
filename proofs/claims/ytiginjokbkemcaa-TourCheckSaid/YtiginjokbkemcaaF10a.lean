import Derived.Test.YtiginjokbkemcaaProg
import Derived.Test.YtiginjokbkemcaaF6a
import Derived.KernelRfl
set_option linter.unusedVariables false
set_option maxRecDepth 20000
namespace Go.AB
open Go Go.Proofs
theorem c38 {β1 : Bool} {β2 : Bool} (n : Nat) (a0 : R24) {r : Bool} (h : m38 n a0 = some r) : Spec Try.prog 38 [] [.agg (pW β1 β2 a0)] [] (bW r) [] := by
 refine Spec.of (fn := Try.f38) Try.func38 Try.ntmps38 rfl rfl (le1 rfl) (fun w0 Zs Zb T0 ι0 => ?_)
 unfold m38 at h
 refine AWP.seq ?_
 refine AWP.rg (.cons (.box (t := 1) (n := 2) (l1 rfl) (nm rfl) (.t rfl) (by first | exact ⟨rfl,rfl⟩ | rfl) rfl)<| .cons (.assign (l1 rfl) (.const _ _ _))<| ARun.nil _ _ _) ?_
 refine AWP.vc (s' := ⟨[(1,.ptr 1 0)],[(1,⟨25,false,(pW β1 β2 a0)⟩)]⟩) (VC.sub (.of rfl) (.of rfl)) ?_
 refine AWP.seq ?_
 refine AWP.rg (.cons (.fieldP (l1 rfl) (.t rfl) fld25_0)<| .cons (.loadP (l1 rfl) (.t rfl) one22 rfl rfl rfl)<| .cons (.lenRd (l1 rfl) (.t rfl) Try.underlying22)<| .cons (.leq (l1 rfl) (.t rfl) (.const _ _ _))<| .cons (.move (l1 rfl) (.t rfl))<| .guard (j := 4) (dj := 7) rfl (l1 rfl) rfl (l1 rfl) (fun hg => .fieldP (l1 rfl) (.t rfl) fld25_1)<| .guard (j := 4) (dj := 7) rfl (l1 rfl) rfl (l1 rfl) (fun hg => .loadP (l1 rfl) (.gd hg (.t rfl)) one23 rfl rfl rfl)<| .guard (j := 4) (dj := 7) rfl (l1 rfl) rfl (l1 rfl) (fun hg => .lenRd (l1 rfl) (.gd hg (.t rfl)) Try.underlying23)<| .guard (j := 4) (dj := 7) rfl (l1 rfl) rfl (l1 rfl) (fun hg => .leq (l1 rfl) (.gd hg (.t rfl)) (.const _ _ _))<| .cons (.pickAnd (l1 rfl) (.t rfl) (.t rfl) (.const _ _ _))<| .cons (.assign (l1 rfl) (.t rfl))<| ARun.nil _ _ _) ?_
 refine AWP.ret ?_
 obtain rfl := Option.some.inj h
 refine retJ (Res.vc (s' := ⟨[(2,bW ((decide ((a0.Pq.length : Int) ≤ (6 : Int))) && (decide ((a0.Bq.length : Int) ≤ (12 : Int)))))],[]⟩) (VC.sub (.of rfl) (.n _)) ?_)
 refine Res.drop (H := []) rfl ?_
 exact Res.of rfl (.cons (.tmp rfl) (.nil)) rfl rfl
theorem c74F (n : Nat) : ∀ (f : Nat) {β1 : Bool} {β2 : Bool} (a0 : R74) {r : Int},m74F n f a0 = some r → Spec Try.prog 74 [] [.agg [iW a0.Split,rW β1 a0.Kd encK74,rW β2 a0.Lf eW]] [] (iW r) [] := by
 intro f
 induction f with
 | zero =>
  intro β1 β2 a0 r h
  cases (show (none : Option Int) = some r from h)
 | succ f ih =>
 intro β1 β2 a0 r h
 replace h : m74B n (m74F n f) a0 = some r := h
 generalize m74F n f = rc_0 at h ih
 refine Spec.of (fn := Try.f74) Try.func74 Try.ntmps74 rfl rfl (le1 rfl) (fun w0 Zs Zb T0 ι0 => ?_)
 unfold m74B at h
 refine AWP.seq ?_
 refine AWP.rg (.cons (.box (t := 1) (n := 3) (l1 rfl) (nm rfl) (.t rfl) (by first | exact ⟨rfl,rfl⟩ | rfl) rfl)<| .cons (.assign (l1 rfl) (.const _ _ _))<| ARun.nil _ _ _) ?_
 refine AWP.vc (s' := ⟨[(1,.ptr 1 0)],[(1,⟨75,false,[iW a0.Split,rW β1 a0.Kd encK74,rW β2 a0.Lf eW]⟩)]⟩) (VC.sub (.of rfl) (.of rfl)) ?_
 refine AWP.seq ?_
 refine AWP.rg (.cons (.assign (l1 rfl) (.const _ _ _))<| ARun.nil _ _ _) ?_
 refine AWP.vc (s' := ⟨[(1,.ptr 1 0),(3,iW (1 : Int))],[(1,⟨75,false,[iW a0.Split,rW β1 a0.Kd encK74,rW β2 a0.Lf eW]⟩)]⟩) (VC.sub (.of rfl) (.of rfl)) ?_
 refine AWP.seq ?_
 refine AWP.seq ?_
 refine AWP.rg (.cons (.assign (l1 rfl) (.const _ _ _))<| ARun.nil _ _ _) ?_
 refine AWP.vc (s' := ⟨[(1,.ptr 1 0),(3,iW (1 : Int)),(4,iW (0 : Int))],[(1,⟨75,false,[iW a0.Split,rW β1 a0.Kd encK74,rW β2 a0.Lf eW]⟩)]⟩) (VC.sub (.of rfl) (.of rfl)) ?_
 refine AWP.joinB' (S := fun p_12 : Int => ⟨[(3,iW p_12)],[]⟩) h (fun p_12 h => ?_) (fun k_13 h => ?_)
 ·refine AWP.seq ?_
  refine AWP.rg (.cons (.move (l1 rfl) (.t rfl))<| .cons (.assign (l1 rfl) (.t rfl))<| ARun.nil _ _ _) ?_
  refine AWP.ret ?_
  obtain rfl := Option.some.inj h
  refine retJ (Res.vc (s' := ⟨[(2,iW p_12)],[]⟩) (VC.sub (.of rfl) (.n _)) ?_)
  refine Res.drop (H := []) rfl ?_
  exact Res.of rfl (.cons (.tmp rfl) (.nil)) rfl rfl
 ·refine AWP.vc (s' := ⟨[(1,.ptr 1 0),(3,iW (1 : Int)),(4,iW (0 : Int))],[(1,⟨75,false,[iW a0.Split,rW β1 a0.Kd encK74,rW β2 a0.Lf eW]⟩)]⟩) (VC.sub (.of rfl) (.of rfl)) ?_
  refine AWP.loopM (S := fun x_6 : Int × Int => ⟨[(1,.ptr 1 0),(3,iW x_6.1),(4,iW x_6.2)],[(1,⟨75,false,[iW a0.Split,rW β1 a0.Kd encK74,rW β2 a0.Lf eW]⟩)]⟩) (x := ((1 : Int),(0 : Int))) (fun nx_7 x_6 h => ?_) h
  unfold m74_L1 at h
  refine AWP.seq ?_
  refine AWP.seq ?_
  refine AWP.rg (.cons (.move (l1 rfl) (.t rfl))<| .cons (.fieldP (l1 rfl) (.t rfl) fld75_1)<| .cons (.loadP (l1 rfl) (.t rfl) one73 rfl rfl rfl)<| .cons (.lenRd (l1 rfl) (.t rfl) Try.underlying73)<| .cons (.lss (l1 rfl) (.t rfl) (.t rfl))<| ARun.nil _ _ _) ?_
  refine AWP.vc (s' := ⟨[(1,.ptr 1 0),(3,iW x_6.1),(4,iW x_6.2),(9,bW (decide (x_6.2 < (a0.Kd.length : Int))))],[(1,⟨75,false,[iW a0.Split,rW β1 a0.Kd encK74,rW β2 a0.Lf eW]⟩)]⟩) (VC.sub (.of rfl) (.of rfl)) ?_
  refine AWP.cond (.t rfl) (fun hc => ?_) (fun hc => ?_)
  ·have h := iteT hc h
   refine AWP.skip ?_
   refine AWP.seq ?_
   refine AWP.block ?_
   obtain ⟨y_8,hy_8,h⟩ := bindS h
   obtain ⟨y_9,hy_9,h⟩ := bindS h
   obtain ⟨t3_10,ht3_10,h⟩ := letS h
   refine AWP.rg (.cons (.move (l1 rfl) (.t rfl))<| .cons (.fieldP (l1 rfl) (.t rfl) fld75_1)<| .cons (.loadP (l1 rfl) (.t rfl) one73 rfl rfl rfl)<| .cons (.move (l1 rfl) (.t rfl))<| .cons (.indexRdC (enc := encK74) (l1 rfl) (.t rfl) (.t rfl) Try.underlying73 sz75 encK74_len rfl hy_8 (encK74_out _))<| .cons (.loadRA (out := [iW y_8.out.Split,rW β1 y_8.out.Kd encK74,rW β1 y_8.out.Lf eW]) (l1 rfl) (.t rfl) agg75 (le1 rfl) rfl)<| .cons (.call0 (bw := false) (l1 rfl) (ih (β1 := β1) (β2 := β1) (R74.mk y_8.out.Split y_8.out.Kd y_8.out.Lf) hy_9) (.cons (.t rfl) (.ren rfl) (.nil)) rfl)<| .cons (.add (l1 rfl) (.t rfl) (.t rfl))<| .cons (.assign (l1 rfl) (.t rfl))<| ARun.nil _ _ _) ?_
   refine AWP.vc (s' := ⟨[(1,.ptr 1 0),(3,iW t3_10),(4,iW x_6.2)],[(1,⟨75,false,[iW a0.Split,rW β1 a0.Kd encK74,rW β2 a0.Lf eW]⟩)]⟩) (by subst ht3_10; exact VC.sub (.of rfl) (.of rfl)) ?_
   obtain ⟨t4_11,ht4_11,h⟩ := letS h
   refine AWP.rg (.cons (.move (l1 rfl) (.t rfl))<| .cons (.add (l1 rfl) (.t rfl) (.const _ _ _))<| .cons (.assign (l1 rfl) (.t rfl))<| ARun.nil _ _ _) ?_
   exact endJ (t3_10,t4_11) h (by subst ht4_11; exact VC.sub (.of rfl) (.of rfl))
  ·have h := iteF hc h
   refine AWP.exit ?_
   exact endJ x_6.1 h (VC.sub (.of rfl) (.n _))
theorem c74 (n : Nat) {β1 : Bool} {β2 : Bool} (a0 : R74) {r : Int} (h : m74 n a0 = some r) : Spec Try.prog 74 [] [.agg [iW a0.Split,rW β1 a0.Kd encK74,rW β2 a0.Lf eW]] [] (iW r) [] := c74F n n a0 h
theorem c39 {β1 : Bool} {β2 : Bool} (n : Nat) (a0 : R74) {r : Bool} (h : m39 n a0 = some r) : Spec Try.prog 39 [] [.agg [iW a0.Split,rW β1 a0.Kd encK74,rW β2 a0.Lf eW]] [] (bW r) [] := by
 refine Spec.of (fn := Try.f39) Try.func39 Try.ntmps39 rfl rfl (le1 rfl) (fun w0 Zs Zb T0 ι0 => ?_)
 unfold m39 at h
 refine AWP.seq ?_
 refine AWP.rg (.cons (.box (t := 1) (n := 3) (l1 rfl) (nm rfl) (.t rfl) (by first | exact ⟨rfl,rfl⟩ | rfl) rfl)<| .cons (.assign (l1 rfl) (.const _ _ _))<| ARun.nil _ _ _) ?_
 refine AWP.vc (s' := ⟨[(1,.ptr 1 0)],[(1,⟨75,false,[iW a0.Split,rW β1 a0.Kd encK74,rW β2 a0.Lf eW]⟩)]⟩) (VC.sub (.of rfl) (.of rfl)) ?_
 refine AWP.seq ?_
 obtain ⟨y_1,hy_1,h⟩ := bindS h
 refine AWP.rg (.cons (.loadPA (l1 rfl) (.t rfl) agg75 rfl rfl rfl rfl)<| .cons (.call0 (bw := false) (l1 rfl) (c74 (β1 := β1) (β2 := β2) n (R74.mk a0.Split a0.Kd a0.Lf) hy_1) (.cons (.t rfl) (.ren rfl) (.nil)) rfl)<| .cons (.leq (l1 rfl) (.t rfl) (.const _ _ _))<| .cons (.assign (l1 rfl) (.t rfl))<| ARun.nil _ _ _) ?_
 refine AWP.ret ?_
 obtain rfl := Option.some.inj h
 refine retJ (Res.vc (s' := ⟨[(2,bW (decide (y_1 ≤ (300 : Int))))],[]⟩) (VC.sub (.of rfl) (.n _)) ?_)
 refine Res.drop (H := []) rfl ?_
 exact Res.of rfl (.cons (.tmp rfl) (.nil)) rfl rfl
theorem c41F (n : Nat) : ∀ (f : Nat) {β2 : Bool} (a0 : R74) {r : R79},m41F n f a0 = some r → Spec Try.prog 41 [] [.agg [iW a0.Split,rW false a0.Kd encK74,rW β2 a0.Lf eW]] [] (.agg [iW r.Split,rW false r.Kd encK79,rW β2 r.Lf eW]) [] := by
 intro f
 induction f with
 | zero =>
  intro β2 a0 r h
  cases (show (none : Option R79) = some r from h)
 | succ f ih =>
 intro β2 a0 r h
 replace h : m41B n (m41F n f) a0 = some r := h
 generalize m41F n f = rc_0 at h ih
 refine Spec.of (fn := Try.f41) Try.func41 Try.ntmps41 rfl rfl (le1 rfl) (fun w0 Zs Zb T0 ι0 => ?_)
 unfold m41B at h
 refine AWP.seq ?_
 refine AWP.rg (.cons (.box (t := 1) (n := 3) (l1 rfl) (nm rfl) (.t rfl) (by first | exact ⟨rfl,rfl⟩ | rfl) rfl)<| .cons (.alloc (t := 2) (k := ⟨80,false,[iW (0 : Int),.sc (.slice none 0 0),.sc (.slice none 0 0)]⟩) (l1 rfl) (nm rfl) zero80 rfl rfl)<| ARun.nil _ _ _) ?_
 refine AWP.vc (s' := ⟨[(1,.ptr 1 0),(2,.ptr 2 0)],[(2,⟨80,false,[iW (0 : Int),.sc (.slice none 0 0),.sc (.slice none 0 0)]⟩),(1,⟨75,false,[iW a0.Split,rW false a0.Kd encK74,rW β2 a0.Lf eW]⟩)]⟩) (VC.sub (.of rfl) (.of rfl)) ?_
 refine AWP.seq ?_
 refine AWP.rg (.cons (.fieldP (l1 rfl) (.t rfl) fld75_0)<| .cons (.loadP (l1 rfl) (.t rfl) one3 rfl rfl rfl)<| .cons (.fieldP (l1 rfl) (.t rfl) fld75_2)<| .cons (.loadP (l1 rfl) (.t rfl) one28 rfl rfl rfl)<| .cons (.buildO (offs := [(0,1),(1,1),(2,1)]) (l1 rfl) (.cons (.t rfl) (by first | exact ⟨rfl,rfl⟩ | rfl) (.cons (.t rfl) (by first | exact ⟨rfl,rfl⟩ | rfl) (.nil))) zero80 offs80 rfl)<| .cons (.alloc (t := 3) (k := ⟨80,false,[iW (0 : Int),.sc (.slice none 0 0),.sc (.slice none 0 0)]⟩) (l1 rfl) (nm rfl) zero80 rfl rfl)<| .cons (.storePA (.t rfl) (.t rfl) sz80 rfl rfl (le1 rfl) (one_lit rfl) (by intro h; cases h) rfl)<| ARun.nil _ _ _) ?_
 refine AWP.vc (s' := ⟨[(1,.ptr 1 0),(2,.ptr 2 0),(3,.ptr 3 0)],[(3,⟨80,false,[iW a0.Split,.sc (.slice none 0 0),rW β2 a0.Lf eW]⟩),(2,⟨80,false,[iW (0 : Int),.sc (.slice none 0 0),.sc (.slice none 0 0)]⟩),(1,⟨75,false,[iW a0.Split,rW false a0.Kd encK74,rW β2 a0.Lf eW]⟩)]⟩) (VC.sub (.of rfl) (.of rfl)) ?_
 refine AWP.seq ?_
 refine AWP.seq ?_
 refine AWP.rg (.cons (.fieldP (l1 rfl) (.t rfl) fld75_1)<| .cons (.loadP (l1 rfl) (.t rfl) one73 rfl rfl rfl)<| .cons (.lenRd (l1 rfl) (.t rfl) Try.underlying73)<| .cons (.move (l1 rfl) (.const _ _ _))<| ARun.nil _ _ _) ?_
 refine AWP.vc (s' := ⟨[(2,.ptr 2 0),(3,.ptr 3 0),(12,rW false a0.Kd encK74),(13,iW (a0.Kd.length : Int)),(14,iW (0 : Int))],[(3,⟨80,false,[iW a0.Split,.sc (.slice none 0 0),rW β2 a0.Lf eW]⟩),(2,⟨80,false,[iW (0 : Int),.sc (.slice none 0 0),.sc (.slice none 0 0)]⟩)]⟩) (VC.sub (.of rfl) (.of rfl)) ?_
 refine AWP.joinB' (S := fun p_17 : (List K79) => ⟨[(2,.ptr 2 0),(3,.ptr 3 0)],[(2,⟨80,false,[iW (0 : Int),.sc (.slice none 0 0),.sc (.slice none 0 0)]⟩),(3,⟨80,false,[iW a0.Split,.own 4 3 0 p_17.length,rW β2 a0.Lf eW]⟩),(4,⟨80,true,p_17.flatMap encK79⟩)]⟩) h (fun p_17 h => ?_) (fun k_18 h => ?_)
 ·refine AWP.seq ?_
  refine AWP.rg (.cons (.loadPA (l1 rfl) (.t rfl) agg80 rfl rfl rfl rfl)<| .cons (.storePA (.t rfl) (.t rfl) sz80 rfl rfl (le1 rfl) (one_lit rfl) (by intro h; cases h) rfl)<| ARun.nil _ _ _) ?_
  refine AWP.ret ?_
  obtain rfl := Option.some.inj h
  refine retJ (Res.vc (s' := ⟨[(2,.ptr 2 0)],[(2,⟨80,false,[iW a0.Split,rW false p_17 encK79,rW β2 a0.Lf eW]⟩)]⟩) (VC.trans (VC.trans (VC.freeze (t := 4) rfl) (VC.cellEq (t := 2) (i := 1) (v' := rW false p_17 encK79) rfl rfl rfl (frz_rd (enc := encK79) encK79_len p_17 false))) (VC.sub (.of rfl) (.of rfl))) ?_)
  refine Res.drop (H := [(2,⟨80,false,[iW a0.Split,rW false p_17 encK79,rW β2 a0.Lf eW]⟩)]) rfl ?_
  exact Res.of rfl (.cons (.cell rfl agg80 rfl rfl rfl rfl) (.nil)) rfl rfl
 ·refine AWP.vc (VC.trans (VC.newTag (t := 4) (E := 80) (nm rfl)) (VC.cell (t := 3) (i := 1) (v' := .own 4 3 0 0) rfl rfl rfl (fun _ _ _ _ h => nil_own h))) ?_
  refine AWP.vc (s' := ⟨[(2,.ptr 2 0),(3,.ptr 3 0),(12,rW false a0.Kd encK74),(13,iW (a0.Kd.length : Int)),(14,iW (0 : Int))],[(2,⟨80,false,[iW (0 : Int),.sc (.slice none 0 0),.sc (.slice none 0 0)]⟩),(3,⟨80,false,[iW a0.Split,.own 4 3 0 ([] : List K79).length,rW β2 a0.Lf eW]⟩),(4,⟨80,true,([] : List K79).flatMap encK79⟩)]⟩) (VC.sub (.of rfl) (.of rfl)) ?_
  refine AWP.loopM (S := fun x_11 : Int × (List K79) => ⟨[(2,.ptr 2 0),(3,.ptr 3 0),(12,rW false a0.Kd encK74),(13,iW (a0.Kd.length : Int)),(14,iW x_11.1)],[(2,⟨80,false,[iW (0 : Int),.sc (.slice none 0 0),.sc (.slice none 0 0)]⟩),(3,⟨80,false,[iW a0.Split,.own 4 3 0 x_11.2.length,rW β2 a0.Lf eW]⟩),(4,⟨80,true,x_11.2.flatMap encK79⟩)]⟩) (x := ((0 : Int),([] : List K79))) (fun nx_12 x_11 h => ?_) h
  unfold m41_L1 at h
  refine AWP.seq ?_
  refine AWP.rg (.cons (.lss (l1 rfl) (.t rfl) (.t rfl))<| ARun.nil _ _ _) ?_
  refine AWP.vc (s' := ⟨[(2,.ptr 2 0),(3,.ptr 3 0),(12,rW false a0.Kd encK74),(13,iW (a0.Kd.length : Int)),(14,iW x_11.1),(15,bW (decide (x_11.1 < (a0.Kd.length : Int))))],[(2,⟨80,false,[iW (0 : Int),.sc (.slice none 0 0),.sc (.slice none 0 0)]⟩),(3,⟨80,false,[iW a0.Split,.own 4 3 0 x_11.2.length,rW β2 a0.Lf eW]⟩),(4,⟨80,true,x_11.2.flatMap encK79⟩)]⟩) (VC.sub (.of rfl) (.of rfl)) ?_
  refine AWP.seq ?_
  refine AWP.cond (.t rfl) (fun hc => ?_) (fun hc => ?_)
  ·have h := iteT hc h
   refine AWP.skip ?_
   refine AWP.seq ?_
   refine AWP.block ?_
   refine AWP.seq ?_
   obtain ⟨y_13,hy_13,h⟩ := bindS h
   refine AWP.rg (.cons (.indexRdC (enc := encK74) (l1 rfl) (.t rfl) (.t rfl) Try.underlying73 sz75 encK74_len rfl hy_13 (encK74_out _))<| .cons (.loadRA (out := [iW y_13.out.Split,rW false y_13.out.Kd encK74,rW false y_13.out.Lf eW]) (l1 rfl) (.t rfl) agg75 (le1 rfl) rfl)<| .cons (.alloc (t := 5) (k := ⟨75,false,[iW (0 : Int),.sc (.slice none 0 0),.sc (.slice none 0 0)]⟩) (l1 rfl) (nm rfl) zero75 rfl rfl)<| .cons (.storePA (.t rfl) (.t rfl) sz75 rfl rfl (le1 rfl) (one_lit rfl) (by intro h; cases h) rfl)<| ARun.nil _ _ _) ?_
   refine AWP.vc (s' := ⟨[(2,.ptr 2 0),(3,.ptr 3 0),(12,rW false a0.Kd encK74),(13,iW (a0.Kd.length : Int)),(14,iW x_11.1),(5,.ptr 5 0)],[(5,⟨75,false,[iW y_13.out.Split,rW false y_13.out.Kd encK74,rW false y_13.out.Lf eW]⟩),(2,⟨80,false,[iW (0 : Int),.sc (.slice none 0 0),.sc (.slice none 0 0)]⟩),(3,⟨80,false,[iW a0.Split,.own 4 3 0 x_11.2.length,rW β2 a0.Lf eW]⟩),(4,⟨80,true,x_11.2.flatMap encK79⟩)]⟩) (VC.sub (.of rfl) (.of rfl)) ?_
   obtain ⟨y_14,hy_14,h⟩ := bindS h
   obtain ⟨l4_15,hl4_15,h⟩ := bindS h
   refine AWP.draw (s' := ⟨[(2,.ptr 2 0),(3,.ptr 3 0),(12,rW false a0.Kd encK74),(13,iW (a0.Kd.length : Int)),(14,iW x_11.1)],[(4,⟨80,true,l4_15.flatMap encK79⟩),(5,⟨75,false,[iW y_13.out.Split,rW false y_13.out.Kd encK74,rW false y_13.out.Lf eW]⟩),(2,⟨80,false,[iW (0 : Int),.sc (.slice none 0 0),.sc (.slice none 0 0)]⟩),(3,⟨80,false,[iW a0.Split,.own 4 3 0 l4_15.length,rW β2 a0.Lf eW]⟩)]⟩) mixed [⟨2,.ptr 2 0,none,[]⟩,⟨3,.ptr 3 0,none,[]⟩,⟨5,.ptr 5 0,none,[]⟩,⟨12,rW false a0.Kd encK74,none,[]⟩,⟨13,iW (a0.Kd.length : Int),none,[]⟩,⟨14,iW x_11.1,none,[]⟩,⟨18,.ptr 3 (0 + 1),some 0,[]⟩,⟨19,.own 4 3 0 x_11.2.length,some 1,[5]⟩,⟨20,.agg [iW y_13.out.Split,rW false y_13.out.Kd encK74,rW false y_13.out.Lf eW],some 2,[]⟩,⟨21,.agg [iW y_14.Split,rW false y_14.Kd encK79,rW false y_14.Lf eW],some 3,[]⟩,⟨22,rW false ([(K79.of y_14)] : List K79) encK79,some 4,[]⟩,⟨23,.own 4 3 0 l4_15.length,some 5,[]⟩,⟨24,.ptr 3 (0 + 1),some 6,[]⟩] [⟨[1],0,0,some (18,.ptr 3 (0 + 1)),[]⟩,⟨[6],0,0,some (19,.own 4 3 0 x_11.2.length),[]⟩,⟨[2],0,0,some (20,.agg [iW y_13.out.Split,rW false y_13.out.Kd encK74,rW false y_13.out.Lf eW]),[]⟩,⟨[8],0,2,some (21,.agg [iW y_14.Split,rW false y_14.Kd encK79,rW false y_14.Lf eW]),[]⟩,⟨[9],0,2,some (22,rW false ([(K79.of y_14)] : List K79) encK79),[]⟩,⟨[7,10],0,0,some (23,.own 4 3 0 l4_15.length),[4]⟩,⟨[1],1,1,some (24,.ptr 3 (0 + 1)),[]⟩,⟨[12,11],1,1,none,[]⟩] [5,7] [[(5,⟨75,false,[iW y_13.out.Split,rW false y_13.out.Kd encK74,rW false y_13.out.Lf eW]⟩),(2,⟨80,false,[iW (0 : Int),.sc (.slice none 0 0),.sc (.slice none 0 0)]⟩),(3,⟨80,false,[iW a0.Split,.own 4 3 0 x_11.2.length,rW β2 a0.Lf eW]⟩),(4,⟨80,true,x_11.2.flatMap encK79⟩)],[(4,⟨80,true,l4_15.flatMap encK79⟩),(5,⟨75,false,[iW y_13.out.Split,rW false y_13.out.Kd encK74,rW false y_13.out.Lf eW]⟩),(2,⟨80,false,[iW (0 : Int),.sc (.slice none 0 0),.sc (.slice none 0 0)]⟩),(3,⟨80,false,[iW a0.Split,.any,rW β2 a0.Lf eW]⟩)],[(4,⟨80,true,l4_15.flatMap encK79⟩),(5,⟨75,false,[iW y_13.out.Split,rW false y_13.out.Kd encK74,rW false y_13.out.Lf eW]⟩),(2,⟨80,false,[iW (0 : Int),.sc (.slice none 0 0),.sc (.slice none 0 0)]⟩),(3,⟨80,false,[iW a0.Split,.own 4 3 0 l4_15.length,rW β2 a0.Lf eW]⟩)]] [[],[0],[],[2],[2,3],[0,1,2,3,4],[0,1,2,3,4,5],[0,1,2,3,4,5,6]] (by kernel_rfl) (by kernel_rfl) (BornL.ok (.o<| .o<| .o<| .o<| .o<| .o<| .b rfl rfl<| .b rfl rfl<| .b rfl rfl<| .b rfl rfl<| .b rfl rfl<| .b rfl rfl<| .b rfl rfl<| .n)) (BaseL.ok (.o rfl<| .o rfl<| .o rfl<| .o rfl<| .o rfl<| .o rfl<| .b<| .b<| .b<| .b<| .b<| .b<| .b<| .n)) rfl (by decide) (allLt rfl) (.read rfl (.c (.put (fun E hE => .fieldP (l1 rfl) (.tmp (hE.at (k := 0) rfl)) fld80_1)) (.n))<| .read rfl (.c (.put (fun E hE => .loadP (l1 rfl) (.tmp (hE.at (k := 0) rfl)) one78 rfl rfl rfl)) (.n))<| .read rfl (.c (.put (fun E hE => .loadPA (l1 rfl) (.tmp (hE.at (k := 0) rfl)) agg75 rfl rfl rfl rfl)) (.n))<| .pure rfl (fun H => .put (fun E hE => .call0 (bw := false) (l1 rfl) (ih (β2 := false) (R74.mk y_13.out.Split y_13.out.Kd y_13.out.Lf) hy_14) (.cons (.tmp (hE.at (k := 0) rfl)) (.ren rfl) (.nil)) rfl))<| .pure rfl (fun H => .put (fun E hE => .frzAny (fun t ht => AStep.buildSlice (t := t) (out := ([(K79.of y_14)] : List K79).flatMap encK79) (l1 rfl) ht (.cons (.tmp (hE.at (k := 0) rfl)) (by first | exact ⟨rfl,rfl⟩ | rfl) (.nil)) Try.underlying78 zero80 el80 (by decide) (by decide) (Eq.trans rfl (congrArg some (encK79_of1 y_14).symm)) (still_all encK79_still _)) rfl encK79_len))<| .turn rfl rfl rfl rfl rfl (.new (fun E hE => .appK (enc := encK79) (l1 rfl) (nm rfl) (.tmp (hE.at (k := 0) rfl)) (Src.rd (.tmp (hE.at (k := 1) rfl)) (flatMap_length encK79_len _) (one_all encK79_one _) (.inl rfl)) Try.underlying78 ⟨_,Try.underlying78,by intro k hk; cases hk⟩ el80 rfl encK79_len rfl rfl (by decide) hl4_15) rfl)<| .read rfl (.c (.put (fun E hE => .fieldP (l1 rfl) (.tmp (hE.at (k := 0) rfl)) fld80_1)) (.n))<| .turn rfl rfl rfl rfl rfl (.store (fun E hE => .storeP (.tmp (hE.at (k := 0) rfl)) (.tmp (hE.at (k := 1) rfl)) sz78 rfl (l1 rfl) rfl (by intro h; cases h) rfl) rfl)<| .nil _) (fun E hE => .c (DInv.at hE (k := 0) rfl rfl rfl)<| .c (DInv.at hE (k := 1) rfl rfl rfl)<| .c (DInv.at hE (k := 3) rfl rfl rfl)<| .c (DInv.at hE (k := 4) rfl rfl rfl)<| .c (DInv.at hE (k := 5) rfl rfl rfl)<| .n _) rfl ?_
   refine AWP.vc (s' := ⟨[(2,.ptr 2 0),(3,.ptr 3 0),(12,rW false a0.Kd encK74),(13,iW (a0.Kd.length : Int)),(14,iW x_11.1)],[(4,⟨80,true,l4_15.flatMap encK79⟩),(2,⟨80,false,[iW (0 : Int),.sc (.slice none 0 0),.sc (.slice none 0 0)]⟩),(3,⟨80,false,[iW a0.Split,.own 4 3 0 l4_15.length,rW β2 a0.Lf eW]⟩)]⟩) (VC.sub (.of rfl) (.of rfl)) ?_
   obtain ⟨t14_16,ht14_16,h⟩ := letS h
   refine AWP.rg (.cons (.add (l1 rfl) (.t rfl) (.const _ _ _))<| .cons (.move (l1 rfl) (.t rfl))<| ARun.nil _ _ _) ?_
   exact endJ (t14_16,l4_15) h (by subst ht14_16; exact VC.sub (.of rfl) (.of rfl))
  ·have h := iteF hc h
   refine AWP.exit ?_
   exact endJ x_11.2 h (VC.sub (.of rfl) (.of rfl))
theorem c41 (n : Nat) {β2 : Bool} (a0 : R74) {r : R79} (h : m41 n a0 = some r) : Spec Try.prog 41 [] [.agg [iW a0.Split,rW false a0.Kd encK74,rW β2 a0.Lf eW]] [] (.agg [iW r.Split,rW false r.Kd encK79,rW β2 r.Lf eW]) [] := c41F n n a0 h
theorem c106F (n : Nat) : ∀ (f : Nat) {β1 : Bool} {β2 : Bool} (a0 : R79) {r : Int},m106F n f a0 = some r → Spec Try.prog 106 [] [.agg [iW a0.Split,rW β1 a0.Kd encK79,rW β2 a0.Lf eW]] [] (iW r) [] := by
 intro f
 induction f with
 | zero =>
  intro β1 β2 a0 r h
  cases (show (none : Option Int) = some r from h)
 | succ f ih =>
 intro β1 β2 a0 r h
 replace h : m106B n (m106F n f) a0 = some r := h
 generalize m106F n f = rc_0 at h ih
 refine Spec.of (fn := Try.f106) Try.func106 Try.ntmps106 rfl rfl (le1 rfl) (fun w0 Zs Zb T0 ι0 => ?_)
 unfold m106B at h
 refine AWP.seq ?_
 refine AWP.rg (.cons (.box (t := 1) (n := 3) (l1 rfl) (nm rfl) (.t rfl) (by first | exact ⟨rfl,rfl⟩ | rfl) rfl)<| .cons (.assign (l1 rfl) (.const _ _ _))<| ARun.nil _ _ _) ?_
 refine AWP.vc (s' := ⟨[(1,.ptr 1 0)],[(1,⟨80,false,[iW a0.Split,rW β1 a0.Kd encK79,rW β2 a0.Lf eW]⟩)]⟩) (VC.sub (.of rfl) (.of rfl)) ?_
 refine AWP.seq ?_
 refine AWP.rg (.cons (.assign (l1 rfl) (.const _ _ _))<| ARun.nil _ _ _) ?_
 refine AWP.vc (s' := ⟨[(1,.ptr 1 0),(3,iW (1 : Int))],[(1,⟨80,false,[iW a0.Split,rW β1 a0.Kd encK79,rW β2 a0.Lf eW]⟩)]⟩) (VC.sub (.of rfl) (.of rfl)) ?_
 refine AWP.seq ?_
 refine AWP.seq ?_
 refine AWP.rg (.cons (.fieldP (l1 rfl) (.t rfl) fld80_1)<| .cons (.loadP (l1 rfl) (.t rfl) one78 rfl rfl rfl)<| .cons (.lenRd (l1 rfl) (.t rfl) Try.underlying78)<| .cons (.move (l1 rfl) (.const _ _ _))<| ARun.nil _ _ _) ?_
 refine AWP.vc (s' := ⟨[(3,iW (1 : Int)),(7,rW β1 a0.Kd encK79),(8,iW (a0.Kd.length : Int)),(9,iW (0 : Int))],[]⟩) (VC.sub (.of rfl) (.n _)) ?_
 refine AWP.joinB' (S := fun p_12 : Int => ⟨[(3,iW p_12)],[]⟩) h (fun p_12 h => ?_) (fun k_13 h => ?_)
 ·refine AWP.seq ?_
  refine AWP.rg (.cons (.move (l1 rfl) (.t rfl))<| .cons (.assign (l1 rfl) (.t rfl))<| ARun.nil _ _ _) ?_
  refine AWP.ret ?_
  obtain rfl := Option.some.inj h
  refine retJ (Res.vc (s' := ⟨[(2,iW p_12)],[]⟩) (VC.sub (.of rfl) (.n _)) ?_)
  refine Res.drop (H := []) rfl ?_
  exact Res.of rfl (.cons (.tmp rfl) (.nil)) rfl rfl
 ·refine AWP.vc (s' := ⟨[(3,iW (1 : Int)),(7,rW β1 a0.Kd encK79),(8,iW (a0.Kd.length : Int)),(9,iW (0 : Int))],[]⟩) (VC.sub (.of rfl) (.n _)) ?_
  refine AWP.loopM (S := fun x_6 : Int × Int => ⟨[(3,iW x_6.1),(7,rW β1 a0.Kd encK79),(8,iW (a0.Kd.length : Int)),(9,iW x_6.2)],[]⟩) (x := ((1 : Int),(0 : Int))) (fun nx_7 x_6 h => ?_) h
  unfold m106_L1 at h
  refine AWP.seq ?_
  refine AWP.rg (.cons (.lss (l1 rfl) (.t rfl) (.t rfl))<| ARun.nil _ _ _) ?_
  refine AWP.vc (s' := ⟨[(3,iW x_6.1),(7,rW β1 a0.Kd encK79),(8,iW (a0.Kd.length : Int)),(9,iW x_6.2),(10,bW (decide (x_6.2 < (a0.Kd.length : Int))))],[]⟩) (VC.sub (.of rfl) (.n _)) ?_
  refine AWP.seq ?_
  refine AWP.cond (.t rfl) (fun hc => ?_) (fun hc => ?_)
  ·have h := iteT hc h
   refine AWP.skip ?_
   refine AWP.seq ?_
   refine AWP.block ?_
   refine AWP.seq ?_
   obtain ⟨y_8,hy_8,h⟩ := bindS h
   refine AWP.rg (.cons (.indexRdC (enc := encK79) (l1 rfl) (.t rfl) (.t rfl) Try.underlying78 sz80 encK79_len rfl hy_8 (encK79_out _))<| .cons (.loadRA (out := [iW y_8.out.Split,rW β1 y_8.out.Kd encK79,rW β1 y_8.out.Lf eW]) (l1 rfl) (.t rfl) agg80 (le1 rfl) rfl)<| .cons (.alloc (t := 2) (k := ⟨80,false,[iW (0 : Int),.sc (.slice none 0 0),.sc (.slice none 0 0)]⟩) (l1 rfl) (nm rfl) zero80 rfl rfl)<| .cons (.storePA (.t rfl) (.t rfl) sz80 rfl rfl (le1 rfl) (one_lit rfl) (by intro h; cases h) rfl)<| ARun.nil _ _ _) ?_
   refine AWP.vc (s' := ⟨[(3,iW x_6.1),(7,rW β1 a0.Kd encK79),(8,iW (a0.Kd.length : Int)),(9,iW x_6.2),(5,.ptr 2 0)],[(2,⟨80,false,[iW y_8.out.Split,rW β1 y_8.out.Kd encK79,rW β1 y_8.out.Lf eW]⟩)]⟩) (VC.sub (.of rfl) (.of rfl)) ?_
   obtain ⟨y_9,hy_9,h⟩ := bindS h
   obtain ⟨t3_10,ht3_10,h⟩ := letS h
   refine AWP.rg (.cons (.move (l1 rfl) (.t rfl))<| .cons (.loadPA (l1 rfl) (.t rfl) agg80 rfl rfl rfl rfl)<| .cons (.call0 (bw := false) (l1 rfl) (ih (β1 := β1) (β2 := β1) (R79.mk y_8.out.Split y_8.out.Kd y_8.out.Lf) hy_9) (.cons (.t rfl) (.ren rfl) (.nil)) rfl)<| .cons (.add (l1 rfl) (.t rfl) (.t rfl))<| .cons (.assign (l1 rfl) (.t rfl))<| ARun.nil _ _ _) ?_
   refine AWP.vc (s' := ⟨[(3,iW t3_10),(7,rW β1 a0.Kd encK79),(8,iW (a0.Kd.length : Int)),(9,iW x_6.2)],[]⟩) (by subst ht3_10; exact VC.sub (.of rfl) (.n _)) ?_
   obtain ⟨t9_11,ht9_11,h⟩ := letS h
   refine AWP.rg (.cons (.add (l1 rfl) (.t rfl) (.const _ _ _))<| .cons (.move (l1 rfl) (.t rfl))<| ARun.nil _ _ _) ?_
   exact endJ (t3_10,t9_11) h (by subst ht9_11; exact VC.sub (.of rfl) (.n _))
  ·have h := iteF hc h
   refine AWP.exit ?_
   exact endJ x_6.1 h (VC.sub (.of rfl) (.n _))
theorem c106 (n : Nat) {β1 : Bool} {β2 : Bool} (a0 : R79) {r : Int} (h : m106 n a0 = some r) : Spec Try.prog 106 [] [.agg [iW a0.Split,rW β1 a0.Kd encK79,rW β2 a0.Lf eW]] [] (iW r) [] := c106F n n a0 h
theorem c107F (n : Nat) : ∀ (f : Nat) {β1 : Bool} {β2 : Bool} (a0 : R79) {r : Int},m107F n f a0 = some r → Spec Try.prog 107 [] [.agg [iW a0.Split,rW β1 a0.Kd encK79,rW β2 a0.Lf eW]] [] (iW r) [] := by
 intro f
 induction f with
 | zero =>
  intro β1 β2 a0 r h
  cases (show (none : Option Int) = some r from h)
 | succ f ih =>
 intro β1 β2 a0 r h
 replace h : m107B n (m107F n f) a0 = some r := h
 generalize m107F n f = rc_0 at h ih
 refine Spec.of (fn := Try.f107) Try.func107 Try.ntmps107 rfl rfl (le1 rfl) (fun w0 Zs Zb T0 ι0 => ?_)
 unfold m107B at h
 refine AWP.seq ?_
 refine AWP.rg (.cons (.box (t := 1) (n := 3) (l1 rfl) (nm rfl) (.t rfl) (by first | exact ⟨rfl,rfl⟩ | rfl) rfl)<| .cons (.assign (l1 rfl) (.const _ _ _))<| ARun.nil _ _ _) ?_
 refine AWP.vc (s' := ⟨[(1,.ptr 1 0)],[(1,⟨80,false,[iW a0.Split,rW β1 a0.Kd encK79,rW β2 a0.Lf eW]⟩)]⟩) (VC.sub (.of rfl) (.of rfl)) ?_
 refine AWP.seq ?_
 refine AWP.rg (.cons (.assign (l1 rfl) (.const _ _ _))<| ARun.nil _ _ _) ?_
 refine AWP.vc (s' := ⟨[(1,.ptr 1 0),(3,iW (0 : Int))],[(1,⟨80,false,[iW a0.Split,rW β1 a0.Kd encK79,rW β2 a0.Lf eW]⟩)]⟩) (VC.sub (.of rfl) (.of rfl)) ?_
 refine AWP.seq ?_
 refine AWP.seq ?_
 refine AWP.rg (.cons (.fieldP (l1 rfl) (.t rfl) fld80_1)<| .cons (.loadP (l1 rfl) (.t rfl) one78 rfl rfl rfl)<| .cons (.lenRd (l1 rfl) (.t rfl) Try.underlying78)<| .cons (.move (l1 rfl) (.const _ _ _))<| ARun.nil _ _ _) ?_
 refine AWP.vc (s' := ⟨[(3,iW (0 : Int)),(7,rW β1 a0.Kd encK79),(8,iW (a0.Kd.length : Int)),(9,iW (0 : Int))],[]⟩) (VC.sub (.of rfl) (.n _)) ?_
 refine AWP.joinB' (S := fun p_12 : Int => ⟨[(3,iW p_12)],[]⟩) h (fun p_12 h => ?_) (fun k_13 h => ?_)
 ·refine AWP.seq ?_
  obtain ⟨t2_14,ht2_14,h⟩ := letS h
  refine AWP.rg (.cons (.move (l1 rfl) (.t rfl))<| .cons (.add (l1 rfl) (.t rfl) (.const _ _ _))<| .cons (.assign (l1 rfl) (.t rfl))<| ARun.nil _ _ _) ?_
  refine AWP.ret ?_
  obtain rfl := Option.some.inj h
  refine retJ (Res.vc (s' := ⟨[(2,iW t2_14)],[]⟩) (by subst ht2_14; exact VC.sub (.of rfl) (.n _)) ?_)
  refine Res.drop (H := []) rfl ?_
  exact Res.of rfl (.cons (.tmp rfl) (.nil)) rfl rfl
 ·refine AWP.vc (s' := ⟨[(3,iW (0 : Int)),(7,rW β1 a0.Kd encK79),(8,iW (a0.Kd.length : Int)),(9,iW (0 : Int))],[]⟩) (VC.sub (.of rfl) (.n _)) ?_
  refine AWP.loopM (S := fun x_6 : Int × Int => ⟨[(3,iW x_6.1),(7,rW β1 a0.Kd encK79),(8,iW (a0.Kd.length : Int)),(9,iW x_6.2)],[]⟩) (x := ((0 : Int),(0 : Int))) (fun nx_7 x_6 h => ?_) h
  unfold m107_L1 at h
  refine AWP.seq ?_
  refine AWP.rg (.cons (.lss (l1 rfl) (.t rfl) (.t rfl))<| ARun.nil _ _ _) ?_
  refine AWP.vc (s' := ⟨[(3,iW x_6.1),(7,rW β1 a0.Kd encK79),(8,iW (a0.Kd.length : Int)),(9,iW x_6.2),(10,bW (decide (x_6.2 < (a0.Kd.length : Int))))],[]⟩) (VC.sub (.of rfl) (.n _)) ?_
  refine AWP.seq ?_
  refine AWP.cond (.t rfl) (fun hc => ?_) (fun hc => ?_)
  ·have h := iteT hc h
   refine AWP.skip ?_
   refine AWP.seq ?_
   refine AWP.block ?_
   refine AWP.seq ?_
   obtain ⟨y_8,hy_8,h⟩ := bindS h
   refine AWP.rg (.cons (.indexRdC (enc := encK79) (l1 rfl) (.t rfl) (.t rfl) Try.underlying78 sz80 encK79_len rfl hy_8 (encK79_out _))<| .cons (.loadRA (out := [iW y_8.out.Split,rW β1 y_8.out.Kd encK79,rW β1 y_8.out.Lf eW]) (l1 rfl) (.t rfl) agg80 (le1 rfl) rfl)<| .cons (.alloc (t := 2) (k := ⟨80,false,[iW (0 : Int),.sc (.slice none 0 0),.sc (.slice none 0 0)]⟩) (l1 rfl) (nm rfl) zero80 rfl rfl)<| .cons (.storePA (.t rfl) (.t rfl) sz80 rfl rfl (le1 rfl) (one_lit rfl) (by intro h; cases h) rfl)<| ARun.nil _ _ _) ?_
   refine AWP.vc (s' := ⟨[(3,iW x_6.1),(7,rW β1 a0.Kd encK79),(8,iW (a0.Kd.length : Int)),(9,iW x_6.2),(5,.ptr 2 0)],[(2,⟨80,false,[iW y_8.out.Split,rW β1 y_8.out.Kd encK79,rW β1 y_8.out.Lf eW]⟩)]⟩) (VC.sub (.of rfl) (.of rfl)) ?_
   obtain ⟨y_9,hy_9,h⟩ := bindS h
   obtain ⟨t3_10,ht3_10,h⟩ := letS h
   refine AWP.rg (.cons (.move (l1 rfl) (.t rfl))<| .cons (.loadPA (l1 rfl) (.t rfl) agg80 rfl rfl rfl rfl)<| .cons (.call0 (bw := false) (l1 rfl) (ih (β1 := β1) (β2 := β1) (R79.mk y_8.out.Split y_8.out.Kd y_8.out.Lf) hy_9) (.cons (.t rfl) (.ren rfl) (.nil)) rfl)<| .cons (.max2 (l1 rfl) (.t rfl) (.t rfl))<| .cons (.assign (l1 rfl) (.t rfl))<| ARun.nil _ _ _) ?_
   refine AWP.vc (s' := ⟨[(3,iW t3_10),(7,rW β1 a0.Kd encK79),(8,iW (a0.Kd.length : Int)),(9,iW x_6.2)],[]⟩) (by subst ht3_10; exact VC.sub (.of rfl) (.n _)) ?_
   obtain ⟨t9_11,ht9_11,h⟩ := letS h
   refine AWP.rg (.cons (.add (l1 rfl) (.t rfl) (.const _ _ _))<| .cons (.move (l1 rfl) (.t rfl))<| ARun.nil _ _ _) ?_
   exact endJ (t3_10,t9_11) h (by subst ht9_11; exact VC.sub (.of rfl) (.n _))
  ·have h := iteF hc h
   refine AWP.exit ?_
   exact endJ x_6.1 h (VC.sub (.of rfl) (.n _))
theorem c107 (n : Nat) {β1 : Bool} {β2 : Bool} (a0 : R79) {r : Int} (h : m107 n a0 = some r) : Spec Try.prog 107 [] [.agg [iW a0.Split,rW β1 a0.Kd encK79,rW β2 a0.Lf eW]] [] (iW r) [] := c107F n n a0 h
theorem c119 (n : Nat) (a0 : Int) {r : Bool} (h : m119 n a0 = some r) : Spec Try.prog 119 [] [iW a0] [] (bW r) [] := by
 refine Spec.of (fn := Try.f119) Try.func119 Try.ntmps119 rfl rfl (le1 rfl) (fun w0 Zs Zb T0 ι0 => ?_)
 unfold m119 at h
 refine AWP.seq ?_
 refine AWP.rg (.cons (.assign (l1 rfl) (.const _ _ _))<| ARun.nil _ _ _) ?_
 refine AWP.vc (s' := ⟨[(0,iW a0)],[]⟩) (VC.sub (.of rfl) (.n _)) ?_
 refine AWP.seq ?_
 refine AWP.rg (.cons (.move (l1 rfl) (.t rfl))<| .cons (.geq (l1 rfl) (.t rfl) (.const _ _ _))<| .cons (.move (l1 rfl) (.t rfl))<| .guard (j := 2) (dj := 5) rfl (l1 rfl) rfl (l1 rfl) (fun hg => .move (l1 rfl) (.t rfl))<| .guard (j := 2) (dj := 5) rfl (l1 rfl) rfl (l1 rfl) (fun hg => .leq (l1 rfl) (.gd hg (.t rfl)) (.const _ _ _))<| .cons (.pickAnd (l1 rfl) (.t rfl) (.t rfl) (.const _ _ _))<| .cons (.assign (l1 rfl) (.t rfl))<| ARun.nil _ _ _) ?_
 refine AWP.ret ?_
 obtain rfl := Option.some.inj h
 refine retJ (Res.vc (s' := ⟨[(2,bW ((decide ((-1073741824 : Int) ≤ a0)) && (decide (a0 ≤ (1073741824 : Int)))))],[]⟩) (VC.sub (.of rfl) (.n _)) ?_)
 refine Res.drop (H := []) rfl ?_
 exact Res.of rfl (.cons (.tmp rfl) (.nil)) rfl rfl
theorem c120 (n : Nat) (a0 : Int) {r : Bool} (h : m120 n a0 = some r) : Spec Try.prog 120 [] [iW a0] [] (bW r) [] := by
 refine Spec.of (fn := Try.f120) Try.func120 Try.ntmps120 rfl rfl (le1 rfl) (fun w0 Zs Zb T0 ι0 => ?_)
 unfold m120 at h
 refine AWP.seq ?_
 refine AWP.rg (.cons (.assign (l1 rfl) (.const _ _ _))<| ARun.nil _ _ _) ?_
 refine AWP.vc (s' := ⟨[(0,iW a0)],[]⟩) (VC.sub (.of rfl) (.n _)) ?_
 refine AWP.seq ?_
 obtain ⟨y_1,hy_1,h⟩ := bindS h
 refine AWP.rg (.cons (.move (l1 rfl) (.t rfl))<| .cons (.call0 (bw := false) (l1 rfl) (c119 n a0 hy_1) (.cons (.t rfl) (.ren rfl) (.nil)) rfl)<| .cons (.not (l1 rfl) (.t rfl))<| .cons (.assign (l1 rfl) (.t rfl))<| ARun.nil _ _ _) ?_
 refine AWP.ret ?_
 obtain rfl := Option.some.inj h
 refine retJ (Res.vc (s' := ⟨[(2,bW (!y_1))],[]⟩) (VC.sub (.of rfl) (.n _)) ?_)
 refine Res.drop (H := []) rfl ?_
 exact Res.of rfl (.cons (.tmp rfl) (.nil)) rfl rfl
theorem c101x1 {β1 : Bool} (n : Nat) (a0 : (List Int)) {r : Int} (h : m101x1 n a0 = some r) : Spec Try.prog 101 [] [rW β1 a0 eW,.clo (.func 120) [] []] [] (iW r) [] := by
 refine Spec.of (fn := Try.f101) Try.func101 Try.ntmps101 rfl rfl (le1 rfl) (fun w0 Zs Zb T0 ι0 => ?_)
 unfold m101x1 at h
 refine AWP.seq ?_
 refine AWP.rg (.cons (.assign (l1 rfl) (.const _ _ _))<| ARun.nil _ _ _) ?_
 refine AWP.vc (s' := ⟨[(0,rW β1 a0 eW),(1,.clo (.func 120) [] [])],[]⟩) (VC.sub (.of rfl) (.n _)) ?_
 refine AWP.seq ?_
 refine AWP.seq ?_
 refine AWP.rg (.cons (.move (l1 rfl) (.t rfl))<| .cons (.lenRd (l1 rfl) (.t rfl) Try.underlying28)<| .cons (.move (l1 rfl) (.const _ _ _))<| ARun.nil _ _ _) ?_
 refine AWP.vc (s' := ⟨[(0,rW β1 a0 eW),(1,.clo (.func 120) [] []),(7,iW (a0.length : Int)),(8,iW (0 : Int))],[]⟩) (VC.sub (.of rfl) (.n _)) ?_
 refine AWP.joinB' (S := fun p_10 : Unit => ⟨[],[]⟩) h (fun p_10 h => ?_) (fun k_11 h => ?_)
 ·refine AWP.seq ?_
  refine AWP.rg (.cons (.assign (l1 rfl) (.const _ _ _))<| ARun.nil _ _ _) ?_
  refine AWP.ret ?_
  obtain rfl := Option.some.inj h
  refine retJ (Res.vc (s' := ⟨[(4,iW (-1 : Int))],[]⟩) (VC.sub (.of rfl) (.n _)) ?_)
  refine Res.drop (H := []) rfl ?_
  exact Res.of rfl (.cons (.tmp rfl) (.nil)) rfl rfl
 ·refine AWP.vc (s' := ⟨[(0,rW β1 a0 eW),(1,.clo (.func 120) [] []),(7,iW (a0.length : Int)),(8,iW (0 : Int))],[]⟩) (VC.sub (.of rfl) (.n _)) ?_
  refine AWP.loopM (S := fun x_5 : Int => ⟨[(0,rW β1 a0 eW),(1,.clo (.func 120) [] []),(7,iW (a0.length : Int)),(8,iW x_5)],[]⟩) (x := (0 : Int)) (fun nx_6 x_5 h => ?_) h
  unfold m101x1_L1 at h
  refine AWP.seq ?_
  refine AWP.rg (.cons (.lss (l1 rfl) (.t rfl) (.t rfl))<| ARun.nil _ _ _) ?_
  refine AWP.vc (s' := ⟨[(0,rW β1 a0 eW),(1,.clo (.func 120) [] []),(7,iW (a0.length : Int)),(8,iW x_5),(9,bW (decide (x_5 < (a0.length : Int))))],[]⟩) (VC.sub (.of rfl) (.n _)) ?_
  refine AWP.seq ?_
  refine AWP.cond (.t rfl) (fun hc => ?_) (fun hc => ?_)
  ·have h := iteT hc h
   refine AWP.skip ?_
   refine AWP.seq ?_
   refine AWP.block ?_
   refine AWP.seq ?_
   refine AWP.rg (.cons (.move (l1 rfl) (.t rfl))<| .cons (.assign (l1 rfl) (.t rfl))<| ARun.nil _ _ _) ?_
   refine AWP.vc (s' := ⟨[(0,rW β1 a0 eW),(1,.clo (.func 120) [] []),(7,iW (a0.length : Int)),(8,iW x_5),(5,iW x_5)],[]⟩) (VC.sub (.of rfl) (.n _)) ?_
   refine AWP.seq ?_
   obtain ⟨y_7,hy_7,h⟩ := bindS h
   obtain ⟨y_8,hy_8,h⟩ := bindS h
   refine AWP.rg (.cons (.move (l1 rfl) (.t rfl))<| .cons (.move (l1 rfl) (.t rfl))<| .cons (.move (l1 rfl) (.t rfl))<| .cons (.indexRd (enc := eW) (l1 rfl) (.t rfl) (.t rfl) Try.underlying28 sz3 (encI_len .i64) rfl hy_7)<| .cons (.loadR (v := iW y_7) (l1 rfl) (.t rfl) one3 rfl)<| .cons (.keep (bw := false) (AStep.callV (us' := []) (avs := [iW y_7]) (cs' := []) (σ := sgT []) (bw := false) (l1 rfl) (.t rfl) (c120 n y_7 hy_8) (.nil) (.cons (.t rfl) (.ren rfl) (.nil)) (.nil) (CallOk.mk' (.n) rfl) (fun _ h => by cases h)) (CallOk.mk' (.n) rfl) rfl rfl)<| ARun.nil _ _ _) ?_
   refine AWP.vc (s' := ⟨[(0,rW β1 a0 eW),(1,.clo (.func 120) [] []),(7,iW (a0.length : Int)),(8,iW x_5),(5,iW x_5),(16,bW y_8)],[]⟩) (VC.sub (.of rfl) (.n _)) ?_
   refine AWP.cond (.t rfl) (fun hc => ?_) (fun hc => ?_)
   ·have h := iteT hc h
    refine AWP.seq ?_
    refine AWP.rg (.cons (.move (l1 rfl) (.t rfl))<| .cons (.assign (l1 rfl) (.t rfl))<| ARun.nil _ _ _) ?_
    refine AWP.ret ?_
    obtain rfl := Option.some.inj h
    refine retJ (Res.vc (s' := ⟨[(4,iW x_5)],[]⟩) (VC.sub (.of rfl) (.n _)) ?_)
    refine Res.drop (H := []) rfl ?_
    exact Res.of rfl (.cons (.tmp rfl) (.nil)) rfl rfl
   ·have h := iteF hc h
    refine AWP.skip ?_
    obtain ⟨t8_9,ht8_9,h⟩ := letS h
    refine AWP.rg (.cons (.add (l1 rfl) (.t rfl) (.const _ _ _))<| .cons (.move (l1 rfl) (.t rfl))<| ARun.nil _ _ _) ?_
    exact endJ t8_9 h (by subst ht8_9; exact VC.sub (.of rfl) (.n _))
  ·have h := iteF hc h
   refine AWP.exit ?_
   exact endJ () h (VC.sub (.n _) (.n _))
theorem c80x1 {β1 : Bool} (n : Nat) (a0 : (List Int)) {r : Bool} (h : m80x1 n a0 = some r) : Spec Try.prog 80 [] [rW β1 a0 eW,.clo (.func 120) [] []] [] (bW r) [] := by
 refine Spec.of (fn := Try.f80) Try.func80 Try.ntmps80 rfl rfl (le1 rfl) (fun w0 Zs Zb T0 ι0 => ?_)
 unfold m80x1 at h
 refine AWP.seq ?_
 refine AWP.rg (.cons (.assign (l1 rfl) (.const _ _ _))<| ARun.nil _ _ _) ?_
 refine AWP.vc (s' := ⟨[(0,rW β1 a0 eW),(1,.clo (.func 120) [] [])],[]⟩) (VC.sub (.of rfl) (.n _)) ?_
 refine AWP.seq ?_
 obtain ⟨y_1,hy_1,h⟩ := bindS h
 refine AWP.rg (.cons (.move (l1 rfl) (.t rfl))<| .cons (.move (l1 rfl) (.t rfl))<| .cons (.call0 (bw := false) (l1 rfl) (c101x1 (β1 := β1) n a0 hy_1) (.cons (.t rfl) (.ren rfl) (.cons (.t rfl) (.ren rfl) (.nil))) rfl)<| .cons (.geq (l1 rfl) (.t rfl) (.const _ _ _))<| .cons (.assign (l1 rfl) (.t rfl))<| ARun.nil _ _ _) ?_
 refine AWP.ret ?_
 obtain rfl := Option.some.inj h
 refine retJ (Res.vc (s' := ⟨[(4,bW (decide ((0 : Int) ≤ y_1)))],[]⟩) (VC.sub (.of rfl) (.n _)) ?_)
 refine Res.drop (H := []) rfl ?_
 exact Res.of rfl (.cons (.tmp rfl) (.nil)) rfl rfl
theorem c113 {β1 : Bool} {β2 : Bool} (n : Nat) (a0 : R79) {r : Bool} (h : m113 n a0 = some r) : Spec Try.prog 113 [] [.agg [iW a0.Split,rW β1 a0.Kd encK79,rW β2 a0.Lf eW]] [] (bW r) [] := by
 refine Spec.of (fn := Try.f113) Try.func113 Try.ntmps113 rfl rfl (le1 rfl) (fun w0 Zs Zb T0 ι0 => ?_)
 unfold m113 at h
 refine AWP.seq ?_
 refine AWP.rg (.cons (.box (t := 1) (n := 3) (l1 rfl) (nm rfl) (.t rfl) (by first | exact ⟨rfl,rfl⟩ | rfl) rfl)<| .cons (.assign (l1 rfl) (.const _ _ _))<| ARun.nil _ _ _) ?_
 refine AWP.vc (s' := ⟨[(1,.ptr 1 0)],[(1,⟨80,false,[iW a0.Split,rW β1 a0.Kd encK79,rW β2 a0.Lf eW]⟩)]⟩) (VC.sub (.of rfl) (.of rfl)) ?_
 refine AWP.seq ?_
 refine AWP.seq ?_
 refine AWP.rg (.cons (.fieldP (l1 rfl) (.t rfl) fld80_1)<| .cons (.loadP (l1 rfl) (.t rfl) one78 rfl rfl rfl)<| .cons (.lenRd (l1 rfl) (.t rfl) Try.underlying78)<| .cons (.gtr (l1 rfl) (.t rfl) (.const _ _ _))<| ARun.nil _ _ _) ?_
 refine AWP.vc (s' := ⟨[(1,.ptr 1 0),(6,bW (decide ((0 : Int) < (a0.Kd.length : Int))))],[(1,⟨80,false,[iW a0.Split,rW β1 a0.Kd encK79,rW β2 a0.Lf eW]⟩)]⟩) (VC.sub (.of rfl) (.of rfl)) ?_
 refine AWP.cond (.t rfl) (fun hc => ?_) (fun hc => ?_)
 ·have h := iteT hc h
  refine AWP.seq ?_
  obtain ⟨y_1,hy_1,h⟩ := bindS h
  refine AWP.rg (.cons (.fieldP (l1 rfl) (.t rfl) fld80_2)<| .cons (.loadP (l1 rfl) (.t rfl) one28 rfl rfl rfl)<| .cons (.lenRd (l1 rfl) (.t rfl) Try.underlying28)<| .cons (.eql (l1 rfl) (.t rfl) (.const _ _ _))<| .cons (.move (l1 rfl) (.t rfl))<| .guard (j := 4) (dj := 11) rfl (l1 rfl) rfl (l1 rfl) (fun hg => .fieldP (l1 rfl) (.t rfl) fld80_1)<| .guard (j := 4) (dj := 11) rfl (l1 rfl) rfl (l1 rfl) (fun hg => .loadP (l1 rfl) (.gd hg (.t rfl)) one78 rfl rfl rfl)<| .guard (j := 4) (dj := 11) rfl (l1 rfl) rfl (l1 rfl) (fun hg => .lenRd (l1 rfl) (.gd hg (.t rfl)) Try.underlying78)<| .guard (j := 4) (dj := 11) rfl (l1 rfl) rfl (l1 rfl) (fun hg => .leq (l1 rfl) (.gd hg (.t rfl)) (.const _ _ _))<| .cons (.pickAnd (l1 rfl) (.t rfl) (.t rfl) (.const _ _ _))<| .cons (.move (l1 rfl) (.t rfl))<| .guard (j := 10) (dj := 17) rfl (l1 rfl) rfl (l1 rfl) (fun hg => .fieldP (l1 rfl) (.t rfl) fld80_0)<| .guard (j := 10) (dj := 17) rfl (l1 rfl) rfl (l1 rfl) (fun hg => .loadP (l1 rfl) (.gd hg (.t rfl)) one3 rfl rfl rfl)<| .guard (j := 10) (dj := 17) rfl (l1 rfl) rfl (l1 rfl) (fun hg => .call0 (bw := false) (l1 rfl) (c119 n a0.Split (gdB hy_1 hg)) (.cons (.gd hg (.t rfl)) (.ren rfl) (.nil)) rfl)<| .cons (.pickAnd (l1 rfl) (.t rfl) (.t rfl) (.const _ _ _))<| .cons (.assign (l1 rfl) (.t rfl))<| ARun.nil _ _ _) ?_
  refine AWP.ret ?_
  obtain rfl := Option.some.inj h
  refine retJ (Res.vc (s' := ⟨[(2,bW (((decide ((a0.Lf.length : Int) = (0 : Int))) && (decide ((a0.Kd.length : Int) ≤ (100 : Int)))) && y_1))],[]⟩) (VC.sub (.of rfl) (.n _)) ?_)
  refine Res.drop (H := []) rfl ?_
  exact Res.of rfl (.cons (.tmp rfl) (.nil)) rfl rfl
 ·have h := iteF hc h
  refine AWP.skip ?_
  refine AWP.seq ?_
  obtain ⟨y_2,hy_2,h⟩ := bindS h
  refine AWP.rg (.cons (.fieldP (l1 rfl) (.t rfl) fld80_0)<| .cons (.loadP (l1 rfl) (.t rfl) one3 rfl rfl rfl)<| .cons (.eql (l1 rfl) (.t rfl) (.const _ _ _))<| .cons (.move (l1 rfl) (.t rfl))<| .guard (j := 3) (dj := 25) rfl (l1 rfl) rfl (l1 rfl) (fun hg => .fieldP (l1 rfl) (.t rfl) fld80_2)<| .guard (j := 3) (dj := 25) rfl (l1 rfl) rfl (l1 rfl) (fun hg => .loadP (l1 rfl) (.gd hg (.t rfl)) one28 rfl rfl rfl)<| .guard (j := 3) (dj := 25) rfl (l1 rfl) rfl (l1 rfl) (fun hg => .lenRd (l1 rfl) (.gd hg (.t rfl)) Try.underlying28)<| .guard (j := 3) (dj := 25) rfl (l1 rfl) rfl (l1 rfl) (fun hg => .leq (l1 rfl) (.gd hg (.t rfl)) (.const _ _ _))<| .cons (.pickAnd (l1 rfl) (.t rfl) (.t rfl) (.const _ _ _))<| .cons (.move (l1 rfl) (.t rfl))<| .guard (j := 9) (dj := 31) rfl (l1 rfl) rfl (l1 rfl) (fun hg => .fieldP (l1 rfl) (.t rfl) fld80_2)<| .guard (j := 9) (dj := 31) rfl (l1 rfl) rfl (l1 rfl) (fun hg => .loadP (l1 rfl) (.gd hg (.t rfl)) one28 rfl rfl rfl)<| .guard (j := 9) (dj := 31) rfl (l1 rfl) rfl (l1 rfl) (fun hg => .call0 (bw := false) (l1 rfl) (c80x1 (β1 := β2) n a0.Lf (gdB hy_2 hg)) (.cons (.gd hg (.t rfl)) (.ren rfl) (.cons (.func _ _ _) (.ren rfl) (.nil))) rfl)<| .guard (j := 9) (dj := 31) rfl (l1 rfl) rfl (l1 rfl) (fun hg => .not (l1 rfl) (.gd hg (.t rfl)))<| .cons (.pickAnd (l1 rfl) (.t rfl) (.t rfl) (.const _ _ _))<| .cons (.assign (l1 rfl) (.t rfl))<| ARun.nil _ _ _) ?_
  refine AWP.ret ?_
  obtain rfl := Option.some.inj h
  refine retJ (Res.vc (s' := ⟨[(2,bW (((decide (a0.Split = (0 : Int))) && (decide ((a0.Lf.length : Int) ≤ (40 : Int)))) && (!y_2)))],[]⟩) (VC.sub (.of rfl) (.n _)) ?_)
  refine Res.drop (H := []) rfl ?_
  exact Res.of rfl (.cons (.tmp rfl) (.nil)) rfl rfl
theorem c115 {β1 : Bool} {β2 : Bool} {rc_0 : R79 → Option Bool} (ih : ∀ {β1 : Bool} {β2 : Bool} (a0 : R79) {r : Bool},rc_0 a0 = some r → Spec Try.prog 108 [] [.agg [iW a0.Split,rW β1 a0.Kd encK79,rW β2 a0.Lf eW]] [] (bW r) []) (n : Nat) (a0 : R79) {r : Bool} (h : m115 n rc_0 a0 = some r) : Spec Try.prog 115 [] [.agg [iW a0.Split,rW β1 a0.Kd encK79,rW β2 a0.Lf eW]] [] (bW r) [] := by
 refine Spec.of (fn := Try.f115) Try.func115 Try.ntmps115 rfl rfl (le1 rfl) (fun w0 Zs Zb T0 ι0 => ?_)
 unfold m115 at h
 refine AWP.seq ?_
 refine AWP.rg (.cons (.box (t := 1) (n := 3) (l1 rfl) (nm rfl) (.t rfl) (by first | exact ⟨rfl,rfl⟩ | rfl) rfl)<| .cons (.assign (l1 rfl) (.const _ _ _))<| ARun.nil _ _ _) ?_
 refine AWP.vc (s' := ⟨[(1,.ptr 1 0)],[(1,⟨80,false,[iW a0.Split,rW β1 a0.Kd encK79,rW β2 a0.Lf eW]⟩)]⟩) (VC.sub (.of rfl) (.of rfl)) ?_
 refine AWP.seq ?_
 obtain ⟨y_1,hy_1,h⟩ := bindS h
 refine AWP.rg (.cons (.loadPA (l1 rfl) (.t rfl) agg80 rfl rfl rfl rfl)<| .cons (.call0 (bw := false) (l1 rfl) (ih (β1 := β1) (β2 := β2) (R79.mk a0.Split a0.Kd a0.Lf) hy_1) (.cons (.t rfl) (.ren rfl) (.nil)) rfl)<| .cons (.not (l1 rfl) (.t rfl))<| .cons (.assign (l1 rfl) (.t rfl))<| ARun.nil _ _ _) ?_
 refine AWP.ret ?_
 obtain rfl := Option.some.inj h
 refine retJ (Res.vc (s' := ⟨[(2,bW (!y_1))],[]⟩) (VC.sub (.of rfl) (.n _)) ?_)
 refine Res.drop (H := []) rfl ?_
 exact Res.of rfl (.cons (.tmp rfl) (.nil)) rfl rfl
theorem c121x1 {β1 : Bool} {rc_0 : R79 → Option Bool} (ih : ∀ {β1 : Bool} {β2 : Bool} (a0 : R79) {r : Bool},rc_0 a0 = some r → Spec Try.prog 108 [] [.agg [iW a0.Split,rW β1 a0.Kd encK79,rW β2 a0.Lf eW]] [] (bW r) []) (n : Nat) (a0 : (List K79)) {r : Int} (h : m121x1 n rc_0 a0 = some r) : Spec Try.prog 121 [] [rW β1 a0 encK79,.clo (.func 115) [] []] [] (iW r) [] := by
 refine Spec.of (fn := Try.f121) Try.func121 Try.ntmps121 rfl rfl (le1 rfl) (fun w0 Zs Zb T0 ι0 => ?_)
 unfold m121x1 at h
 refine AWP.seq ?_
 refine AWP.rg (.cons (.assign (l1 rfl) (.const _ _ _))<| ARun.nil _ _ _) ?_
 refine AWP.vc (s' := ⟨[(0,rW β1 a0 encK79),(1,.clo (.func 115) [] [])],[]⟩) (VC.sub (.of rfl) (.n _)) ?_
 refine AWP.seq ?_
 refine AWP.seq ?_
 refine AWP.rg (.cons (.move (l1 rfl) (.t rfl))<| .cons (.lenRd (l1 rfl) (.t rfl) Try.underlying78)<| .cons (.move (l1 rfl) (.const _ _ _))<| ARun.nil _ _ _) ?_
 refine AWP.vc (s' := ⟨[(0,rW β1 a0 encK79),(1,.clo (.func 115) [] []),(7,iW (a0.length : Int)),(8,iW (0 : Int))],[]⟩) (VC.sub (.of rfl) (.n _)) ?_
 refine AWP.joinB' (S := fun p_10 : Unit => ⟨[],[]⟩) h (fun p_10 h => ?_) (fun k_11 h => ?_)
 ·refine AWP.seq ?_
  refine AWP.rg (.cons (.assign (l1 rfl) (.const _ _ _))<| ARun.nil _ _ _) ?_
  refine AWP.ret ?_
  obtain rfl := Option.some.inj h
  refine retJ (Res.vc (s' := ⟨[(4,iW (-1 : Int))],[]⟩) (VC.sub (.of rfl) (.n _)) ?_)
  refine Res.drop (H := []) rfl ?_
  exact Res.of rfl (.cons (.tmp rfl) (.nil)) rfl rfl
 ·refine AWP.vc (s' := ⟨[(0,rW β1 a0 encK79),(1,.clo (.func 115) [] []),(7,iW (a0.length : Int)),(8,iW (0 : Int))],[]⟩) (VC.sub (.of rfl) (.n _)) ?_
  refine AWP.loopM (S := fun x_5 : Int => ⟨[(0,rW β1 a0 encK79),(1,.clo (.func 115) [] []),(7,iW (a0.length : Int)),(8,iW x_5)],[]⟩) (x := (0 : Int)) (fun nx_6 x_5 h => ?_) h
  unfold m121x1_L1 at h
  refine AWP.seq ?_
  refine AWP.rg (.cons (.lss (l1 rfl) (.t rfl) (.t rfl))<| ARun.nil _ _ _) ?_
  refine AWP.vc (s' := ⟨[(0,rW β1 a0 encK79),(1,.clo (.func 115) [] []),(7,iW (a0.length : Int)),(8,iW x_5),(9,bW (decide (x_5 < (a0.length : Int))))],[]⟩) (VC.sub (.of rfl) (.n _)) ?_
  refine AWP.seq ?_
  refine AWP.cond (.t rfl) (fun hc => ?_) (fun hc => ?_)
  ·have h := iteT hc h
   refine AWP.skip ?_
   refine AWP.seq ?_
   refine AWP.block ?_
   refine AWP.seq ?_
   refine AWP.rg (.cons (.move (l1 rfl) (.t rfl))<| .cons (.assign (l1 rfl) (.t rfl))<| ARun.nil _ _ _) ?_
   refine AWP.vc (s' := ⟨[(0,rW β1 a0 encK79),(1,.clo (.func 115) [] []),(7,iW (a0.length : Int)),(8,iW x_5),(5,iW x_5)],[]⟩) (VC.sub (.of rfl) (.n _)) ?_
   refine AWP.seq ?_
   obtain ⟨y_7,hy_7,h⟩ := bindS h
   obtain ⟨y_8,hy_8,h⟩ := bindS h
   refine AWP.rg (.cons (.move (l1 rfl) (.t rfl))<| .cons (.move (l1 rfl) (.t rfl))<| .cons (.move (l1 rfl) (.t rfl))<| .cons (.indexRdC (enc := encK79) (l1 rfl) (.t rfl) (.t rfl) Try.underlying78 sz80 encK79_len rfl hy_7 (encK79_out _))<| .cons (.loadRA (out := [iW y_7.out.Split,rW β1 y_7.out.Kd encK79,rW β1 y_7.out.Lf eW]) (l1 rfl) (.t rfl) agg80 (le1 rfl) rfl)<| .cons (.keep (bw := false) (AStep.callV (us' := []) (avs := [.agg [iW ((R79.mk y_7.out.Split y_7.out.Kd y_7.out.Lf).Split),rW β1 ((R79.mk y_7.out.Split y_7.out.Kd y_7.out.Lf).Kd) encK79,rW β1 ((R79.mk y_7.out.Split y_7.out.Kd y_7.out.Lf).Lf) eW]]) (cs' := []) (σ := sgT []) (bw := false) (l1 rfl) (.t rfl) (c115 (β1 := β1) (β2 := β1) ih n (R79.mk y_7.out.Split y_7.out.Kd y_7.out.Lf) hy_8) (.nil) (.cons (.t rfl) (.ren rfl) (.nil)) (.nil) (CallOk.mk' (.n) rfl) (fun _ h => by cases h)) (CallOk.mk' (.n) rfl) rfl rfl)<| ARun.nil _ _ _) ?_
   refine AWP.vc (s' := ⟨[(0,rW β1 a0 encK79),(1,.clo (.func 115) [] []),(7,iW (a0.length : Int)),(8,iW x_5),(5,iW x_5),(16,bW y_8)],[]⟩) (VC.sub (.of rfl) (.n _)) ?_
   refine AWP.cond (.t rfl) (fun hc => ?_) (fun hc => ?_)
   ·have h := iteT hc h
    refine AWP.seq ?_
    refine AWP.rg (.cons (.move (l1 rfl) (.t rfl))<| .cons (.assign (l1 rfl) (.t rfl))<| ARun.nil _ _ _) ?_
    refine AWP.ret ?_
    obtain rfl := Option.some.inj h
    refine retJ (Res.vc (s' := ⟨[(4,iW x_5)],[]⟩) (VC.sub (.of rfl) (.n _)) ?_)
    refine Res.drop (H := []) rfl ?_
    exact Res.of rfl (.cons (.tmp rfl) (.nil)) rfl rfl
   ·have h := iteF hc h
    refine AWP.skip ?_
    obtain ⟨t8_9,ht8_9,h⟩ := letS h
    refine AWP.rg (.cons (.add (l1 rfl) (.t rfl) (.const _ _ _))<| .cons (.move (l1 rfl) (.t rfl))<| ARun.nil _ _ _) ?_
    exact endJ t8_9 h (by subst ht8_9; exact VC.sub (.of rfl) (.n _))
  ·have h := iteF hc h
   refine AWP.exit ?_
   exact endJ () h (VC.sub (.n _) (.n _))
theorem c114x1 {β1 : Bool} {rc_0 : R79 → Option Bool} (ih : ∀ {β1 : Bool} {β2 : Bool} (a0 : R79) {r : Bool},rc_0 a0 = some r → Spec Try.prog 108 [] [.agg [iW a0.Split,rW β1 a0.Kd encK79,rW β2 a0.Lf eW]] [] (bW r) []) (n : Nat) (a0 : (List K79)) {r : Bool} (h : m114x1 n rc_0 a0 = some r) : Spec Try.prog 114 [] [rW β1 a0 encK79,.clo (.func 115) [] []] [] (bW r) [] := by
 refine Spec.of (fn := Try.f114) Try.func114 Try.ntmps114 rfl rfl (le1 rfl) (fun w0 Zs Zb T0 ι0 => ?_)
 unfold m114x1 at h
 refine AWP.seq ?_
 refine AWP.rg (.cons (.assign (l1 rfl) (.const _ _ _))<| ARun.nil _ _ _) ?_
 refine AWP.vc (s' := ⟨[(0,rW β1 a0 encK79),(1,.clo (.func 115) [] [])],[]⟩) (VC.sub (.of rfl) (.n _)) ?_
 refine AWP.seq ?_
 obtain ⟨y_1,hy_1,h⟩ := bindS h
 refine AWP.rg (.cons (.move (l1 rfl) (.t rfl))<| .cons (.move (l1 rfl) (.t rfl))<| .cons (.call0 (bw := false) (l1 rfl) (c121x1 (β1 := β1) ih n a0 hy_1) (.cons (.t rfl) (.ren rfl) (.cons (.t rfl) (.ren rfl) (.nil))) rfl)<| .cons (.geq (l1 rfl) (.t rfl) (.const _ _ _))<| .cons (.assign (l1 rfl) (.t rfl))<| ARun.nil _ _ _) ?_
 refine AWP.ret ?_
 obtain rfl := Option.some.inj h
 refine retJ (Res.vc (s' := ⟨[(4,bW (decide ((0 : Int) ≤ y_1)))],[]⟩) (VC.sub (.of rfl) (.n _)) ?_)
 refine Res.drop (H := []) rfl ?_
 exact Res.of rfl (.cons (.tmp rfl) (.nil)) rfl rfl
theorem c108F (n : Nat) : ∀ (f : Nat) {β1 : Bool} {β2 : Bool} (a0 : R79) {r : Bool},m108F n f a0 = some r → Spec Try.prog 108 [] [.agg [iW a0.Split,rW β1 a0.Kd encK79,rW β2 a0.Lf eW]] [] (bW r) [] := by
 intro f
 induction f with
 | zero =>
  intro β1 β2 a0 r h
  cases (show (none : Option Bool) = some r from h)
 | succ f ih =>
 intro β1 β2 a0 r h
 replace h : m108B n (m108F n f) a0 = some r := h
 generalize m108F n f = rc_0 at h ih
 refine Spec.of (fn := Try.f108) Try.func108 Try.ntmps108 rfl rfl (le1 rfl) (fun w0 Zs Zb T0 ι0 => ?_)
 unfold m108B at h
 refine AWP.seq ?_
 refine AWP.rg (.cons (.box (t := 1) (n := 3) (l1 rfl) (nm rfl) (.t rfl) (by first | exact ⟨rfl,rfl⟩ | rfl) rfl)<| .cons (.assign (l1 rfl) (.const _ _ _))<| ARun.nil _ _ _) ?_
 refine AWP.vc (s' := ⟨[(1,.ptr 1 0)],[(1,⟨80,false,[iW a0.Split,rW β1 a0.Kd encK79,rW β2 a0.Lf eW]⟩)]⟩) (VC.sub (.of rfl) (.of rfl)) ?_
 refine AWP.seq ?_
 obtain ⟨y_1,hy_1,h⟩ := bindS h
 obtain ⟨y_2,hy_2,h⟩ := bindS h
 refine AWP.rg (.cons (.loadPA (l1 rfl) (.t rfl) agg80 rfl rfl rfl rfl)<| .cons (.call0 (bw := false) (l1 rfl) (c113 (β1 := β1) (β2 := β2) n (R79.mk a0.Split a0.Kd a0.Lf) hy_1) (.cons (.t rfl) (.ren rfl) (.nil)) rfl)<| .cons (.move (l1 rfl) (.t rfl))<| .guard (j := 2) (dj := 5) rfl (l1 rfl) rfl (l1 rfl) (fun hg => .fieldP (l1 rfl) (.t rfl) fld80_1)<| .guard (j := 2) (dj := 5) rfl (l1 rfl) rfl (l1 rfl) (fun hg => .loadP (l1 rfl) (.gd hg (.t rfl)) one78 rfl rfl rfl)<| .guard (j := 2) (dj := 5) rfl (l1 rfl) rfl (l1 rfl) (fun hg => .call0 (bw := false) (l1 rfl) (c114x1 (β1 := β1) ih n a0.Kd (gdB hy_2 hg)) (.cons (.gd hg (.t rfl)) (.ren rfl) (.cons (.func _ _ _) (.ren rfl) (.nil))) rfl)<| .guard (j := 2) (dj := 5) rfl (l1 rfl) rfl (l1 rfl) (fun hg => .not (l1 rfl) (.gd hg (.t rfl)))<| .cons (.pickAnd (l1 rfl) (.t rfl) (.t rfl) (.const _ _ _))<| .cons (.assign (l1 rfl) (.t rfl))<| ARun.nil _ _ _) ?_
 refine AWP.ret ?_
 obtain rfl := Option.some.inj h
 refine retJ (Res.vc (s' := ⟨[(2,bW (y_1 && (!y_2)))],[]⟩) (VC.sub (.of rfl) (.n _)) ?_)
 refine Res.drop (H := []) rfl ?_
 exact Res.of rfl (.cons (.tmp rfl) (.nil)) rfl rfl
theorem c108 (n : Nat) {β1 : Bool} {β2 : Bool} (a0 : R79) {r : Bool} (h : m108 n a0 = some r) : Spec Try.prog 108 [] [.agg [iW a0.Split,rW β1 a0.Kd encK79,rW β2 a0.Lf eW]] [] (bW r) [] := c108F n n a0 h
theorem c97 {β1 : Bool} {β2 : Bool} (n : Nat) (a0 : R79) {r : Bool} (h : m97 n a0 = some r) : Spec Try.prog 97 [] [.agg [iW a0.Split,rW β1 a0.Kd encK79,rW β2 a0.Lf eW]] [] (bW r) [] := by
 refine Spec.of (fn := Try.f97) Try.func97 Try.ntmps97 rfl rfl (le1 rfl) (fun w0 Zs Zb T0 ι0 => ?_)
 unfold m97 at h
 refine AWP.seq ?_
 refine AWP.rg (.cons (.box (t := 1) (n := 3) (l1 rfl) (nm rfl) (.t rfl) (by first | exact ⟨rfl,rfl⟩ | rfl) rfl)<| .cons (.assign (l1 rfl) (.const _ _ _))<| ARun.nil _ _ _) ?_
 refine AWP.vc (s' := ⟨[(1,.ptr 1 0)],[(1,⟨80,false,[iW a0.Split,rW β1 a0.Kd encK79,rW β2 a0.Lf eW]⟩)]⟩) (VC.sub (.of rfl) (.of rfl)) ?_
 refine AWP.seq ?_
 obtain ⟨y_1,hy_1,h⟩ := bindS h
 obtain ⟨y_2,hy_2,h⟩ := bindS h
 obtain ⟨y_3,hy_3,h⟩ := bindS h
 refine AWP.rg (.cons (.loadPA (l1 rfl) (.t rfl) agg80 rfl rfl rfl rfl)<| .cons (.call0 (bw := false) (l1 rfl) (c106 (β1 := β1) (β2 := β2) n (R79.mk a0.Split a0.Kd a0.Lf) hy_1) (.cons (.t rfl) (.ren rfl) (.nil)) rfl)<| .cons (.leq (l1 rfl) (.t rfl) (.const _ _ _))<| .cons (.move (l1 rfl) (.t rfl))<| .guard (j := 3) (dj := 6) rfl (l1 rfl) rfl (l1 rfl) (fun hg => .loadPA (l1 rfl) (.t rfl) agg80 rfl rfl rfl rfl)<| .guard (j := 3) (dj := 6) rfl (l1 rfl) rfl (l1 rfl) (fun hg => .call0 (bw := false) (l1 rfl) (c107 (β1 := β1) (β2 := β2) n (R79.mk a0.Split a0.Kd a0.Lf) (gdB hy_2 hg)) (.cons (.gd hg (.t rfl)) (.ren rfl) (.nil)) rfl)<| .guard (j := 3) (dj := 6) rfl (l1 rfl) rfl (l1 rfl) (fun hg => .leq (l1 rfl) (.gd hg (.t rfl)) (.const _ _ _))<| .cons (.pickAnd (l1 rfl) (.t rfl) (.t rfl) (.const _ _ _))<| .cons (.move (l1 rfl) (.t rfl))<| .guard (j := 8) (dj := 11) rfl (l1 rfl) rfl (l1 rfl) (fun hg => .loadPA (l1 rfl) (.t rfl) agg80 rfl rfl rfl rfl)<| .guard (j := 8) (dj := 11) rfl (l1 rfl) rfl (l1 rfl) (fun hg => .call0 (bw := false) (l1 rfl) (c108 (β1 := β1) (β2 := β2) n (R79.mk a0.Split a0.Kd a0.Lf) (gdB hy_3 hg)) (.cons (.gd hg (.t rfl)) (.ren rfl) (.nil)) rfl)<| .cons (.pickAnd (l1 rfl) (.t rfl) (.t rfl) (.const _ _ _))<| .cons (.assign (l1 rfl) (.t rfl))<| ARun.nil _ _ _) ?_
 refine AWP.ret ?_
 obtain rfl := Option.some.inj h
 refine retJ (Res.vc (s' := ⟨[(2,bW (((decide (y_1 ≤ (2000 : Int))) && (decide (y_2 ≤ (40 : Int)))) && y_3))],[]⟩) (VC.sub (.of rfl) (.n _)) ?_)
 refine Res.drop (H := []) rfl ?_
 exact Res.of rfl (.cons (.tmp rfl) (.nil)) rfl rfl
theorem c98F (n : Nat) : ∀ (f : Nat) {β3 : Bool} {β4 : Bool} {β5 : Bool} (a0 : R57) (a1 : R79) (a4_b0_b : (List Int)) {r : (Bool × (List Int))},m98F n f a0 a1 a4_b0_b = some r → Spec Try.prog 98 [1,2,3,5] [.agg (gW false false β3 a0.Gq a0.Path a0.Ln),.agg [iW a1.Split,rW β4 a1.Kd encK79,rW β5 a1.Lf eW],.ptr 1 0,.ptr 2 0,.ptr 3 0,.ptr 5 0] [(1,⟨63,false,[.clo (.func 27) [] []]⟩),(2,⟨56,false,[.clo (.func 24) [] []]⟩),(3,⟨28,false,[.own 4 1 0 a4_b0_b.length]⟩),(4,⟨3,true,a4_b0_b.flatMap eW⟩),(5,⟨136,false,[.clo (.func 98) [] [.ptr 1 0,.ptr 2 0,.ptr 3 0,.ptr 5 0]]⟩)] (bW r.1) [(1,⟨63,false,[.clo (.func 27) [] []]⟩),(2,⟨56,false,[.clo (.func 24) [] []]⟩),(3,⟨28,false,[.own 4 1 0 r.2.length]⟩),(4,⟨3,true,r.2.flatMap eW⟩),(5,⟨136,false,[.clo (.func 98) [] [.ptr 1 0,.ptr 2 0,.ptr 3 0,.ptr 5 0]]⟩)] := by
 intro f
 induction f with
 | zero =>
  intro β3 β4 β5 a0 a1 a4_b0_b r h
  cases (show (none : Option (Bool × (List Int))) = some r from h)
 | succ f ih =>
 intro β3 β4 β5 a0 a1 a4_b0_b r h
 replace h : m98B n (m98F n f) a0 a1 a4_b0_b = some r := h
 generalize m98F n f = rc_0 at h ih
 refine Spec.of (fn := Try.f98) Try.func98 Try.ntmps98 rfl rfl (le1 rfl) (fun w0 Zs Zb T0 ι0 => ?_)
 unfold m98B at h
 refine AWP.seq ?_
 refine AWP.rg (.cons (.box (t := 6) (n := 4) (l1 rfl) (nm rfl) (.t rfl) (by first | exact ⟨rfl,rfl⟩ | rfl) rfl)<| .cons (.box (t := 7) (n := 3) (l1 rfl) (nm rfl) (.t rfl) (by first | exact ⟨rfl,rfl⟩ | rfl) rfl)<| .cons (.assign (l1 rfl) (.const _ _ _))<| ARun.nil _ _ _) ?_
 refine AWP.vc (s' := ⟨[(2,.ptr 1 0),(3,.ptr 2 0),(4,.ptr 3 0),(5,.ptr 5 0),(6,.ptr 6 0),(7,.ptr 7 0)],[(7,⟨80,false,[iW a1.Split,rW β4 a1.Kd encK79,rW β5 a1.Lf eW]⟩),(6,⟨58,false,(gW false false β3 a0.Gq a0.Path a0.Ln)⟩),(1,⟨63,false,[.clo (.func 27) [] []]⟩),(2,⟨56,false,[.clo (.func 24) [] []]⟩),(3,⟨28,false,[.own 4 1 0 a4_b0_b.length]⟩),(4,⟨3,true,a4_b0_b.flatMap eW⟩),(5,⟨136,false,[.clo (.func 98) [] [.ptr 1 0,.ptr 2 0,.ptr 3 0,.ptr 5 0]]⟩)]⟩) (VC.sub (.of rfl) (.of rfl)) ?_
 refine AWP.seq ?_
 refine AWP.seq ?_
 refine AWP.rg (.cons (.fieldP (l1 rfl) (.t rfl) fld80_1)<| .cons (.loadP (l1 rfl) (.t rfl) one78 rfl rfl rfl)<| .cons (.lenRd (l1 rfl) (.t rfl) Try.underlying78)<| .cons (.eql (l1 rfl) (.t rfl) (.const _ _ _))<| ARun.nil _ _ _) ?_
 refine AWP.vc (s' := ⟨[(2,.ptr 1 0),(3,.ptr 2 0),(4,.ptr 3 0),(5,.ptr 5 0),(6,.ptr 6 0),(7,.ptr 7 0),(16,bW (decide ((a1.Kd.length : Int) = (0 : Int))))],[(7,⟨80,false,[iW a1.Split,rW β4 a1.Kd encK79,rW β5 a1.Lf eW]⟩),(6,⟨58,false,(gW false false β3 a0.Gq a0.Path a0.Ln)⟩),(1,⟨63,false,[.clo (.func 27) [] []]⟩),(2,⟨56,false,[.clo (.func 24) [] []]⟩),(3,⟨28,false,[.own 4 1 0 a4_b0_b.length]⟩),(4,⟨3,true,a4_b0_b.flatMap eW⟩),(5,⟨136,false,[.clo (.func 98) [] [.ptr 1 0,.ptr 2 0,.ptr 3 0,.ptr 5 0]]⟩)]⟩) (VC.sub (.of rfl) (.of rfl)) ?_
 refine AWP.cond (.t rfl) (fun hc => ?_) (fun hc => ?_)
 ·have h := iteT hc h
  refine AWP.seq ?_
  obtain ⟨y_1,hy_1,h⟩ := bindS h
  refine AWP.rg (.cons (.loadP (l1 rfl) (.t rfl) one63 rfl rfl rfl)<| .cons (.loadPA (l1 rfl) (.t rfl) agg58 rfl rfl rfl rfl)<| .cons (.fieldP (l1 rfl) (.t rfl) fld80_2)<| .cons (.loadP (l1 rfl) (.t rfl) one28 rfl rfl rfl)<| .cons (.keep (bw := false) (AStep.callV (us' := []) (avs := [.agg [rW false ((R57.mk (R24.mk a0.Gq.Pq a0.Gq.Bq) a0.Path a0.Ln).Gq.Pq) e45,rW false ((R57.mk (R24.mk a0.Gq.Pq a0.Gq.Bq) a0.Path a0.Ln).Gq.Bq) e93,rW β3 ((R57.mk (R24.mk a0.Gq.Pq a0.Gq.Bq) a0.Path a0.Ln).Path) eW,iW ((R57.mk (R24.mk a0.Gq.Pq a0.Gq.Bq) a0.Path a0.Ln).Ln)],rW β5 a1.Lf eW]) (cs' := []) (σ := sgT []) (bw := false) (l1 rfl) (.t rfl) (c27 (β1 := false) (β2 := false) (β3 := β3) (β4 := β5) n (R57.mk (R24.mk a0.Gq.Pq a0.Gq.Bq) a0.Path a0.Ln) a1.Lf hy_1) (.nil) (.cons (.t rfl) (.ren rfl) (.cons (.t rfl) (.ren rfl) (.nil))) (.nil) (CallOk.mk' (.n) rfl) (fun _ h => by cases h)) (CallOk.mk' (.n) rfl) rfl rfl)<| .cons (.not (l1 rfl) (.t rfl))<| .cons (.assign (l1 rfl) (.t rfl))<| ARun.nil _ _ _) ?_
  refine AWP.ret ?_
  obtain rfl := Option.some.inj h
  refine retJ (Res.vc (s' := ⟨[(8,bW (!y_1))],[(1,⟨63,false,[.clo (.func 27) [] []]⟩),(2,⟨56,false,[.clo (.func 24) [] []]⟩),(3,⟨28,false,[.own 4 1 0 a4_b0_b.length]⟩),(4,⟨3,true,a4_b0_b.flatMap eW⟩),(5,⟨136,false,[.clo (.func 98) [] [.ptr 1 0,.ptr 2 0,.ptr 3 0,.ptr 5 0]]⟩)]⟩) (VC.sub (.of rfl) (.of rfl)) ?_)
  refine Res.sub (H := [(1,⟨63,false,[.clo (.func 27) [] []]⟩),(2,⟨56,false,[.clo (.func 24) [] []]⟩),(3,⟨28,false,[.own 4 1 0 a4_b0_b.length]⟩),(4,⟨3,true,a4_b0_b.flatMap eW⟩),(5,⟨136,false,[.clo (.func 98) [] [.ptr 1 0,.ptr 2 0,.ptr 3 0,.ptr 5 0]]⟩)]) (.of rfl) ?_
  exact Res.of rfl (.cons (.tmp rfl) (.nil)) rfl rfl
 ·have h := iteF hc h
  refine AWP.skip ?_
  refine AWP.seq ?_
  obtain ⟨y_2,hy_2,h⟩ := bindS h
  refine AWP.rg (.cons (.loadP (l1 rfl) (.t rfl) one56 rfl rfl rfl)<| .cons (.loadPA (l1 rfl) (.t rfl) agg58 rfl rfl rfl rfl)<| .cons (.fieldP (l1 rfl) (.t rfl) fld80_0)<| .cons (.loadP (l1 rfl) (.t rfl) one3 rfl rfl rfl)<| .cons (.keep (bw := false) (AStep.callV (us' := []) (avs := [.agg [rW false ((R57.mk (R24.mk a0.Gq.Pq a0.Gq.Bq) a0.Path a0.Ln).Gq.Pq) e45,rW false ((R57.mk (R24.mk a0.Gq.Pq a0.Gq.Bq) a0.Path a0.Ln).Gq.Bq) e93,rW β3 ((R57.mk (R24.mk a0.Gq.Pq a0.Gq.Bq) a0.Path a0.Ln).Path) eW,iW ((R57.mk (R24.mk a0.Gq.Pq a0.Gq.Bq) a0.Path a0.Ln).Ln)],iW a1.Split]) (cs' := []) (σ := sgT []) (bw := false) (l1 rfl) (.t rfl) (c24 (β3 := β3) n (R57.mk (R24.mk a0.Gq.Pq a0.Gq.Bq) a0.Path a0.Ln) a1.Split hy_2) (.nil) (.cons (.t rfl) (.ren rfl) (.cons (.t rfl) (.ren rfl) (.nil))) (.nil) (CallOk.mk' (.n) rfl) (fun _ h => by cases h)) (CallOk.mk' (.n) rfl) rfl rfl)<| .cons (.move (l1 rfl) (.t rfl))<| .cons (.extract (l1 rfl) (.t rfl) rfl)<| .cons (.extract (l1 rfl) (.t rfl) rfl)<| .cons (.assign (l1 rfl) (.t rfl))<| .cons (.assign (l1 rfl) (.t rfl))<| ARun.nil _ _ _) ?_
  refine AWP.vc (s' := ⟨[(4,.ptr 3 0),(5,.ptr 5 0),(7,.ptr 7 0),(9,rW false y_2.1 encR57),(10,bW y_2.2)],[(7,⟨80,false,[iW a1.Split,rW β4 a1.Kd encK79,rW β5 a1.Lf eW]⟩),(1,⟨63,false,[.clo (.func 27) [] []]⟩),(2,⟨56,false,[.clo (.func 24) [] []]⟩),(3,⟨28,false,[.own 4 1 0 a4_b0_b.length]⟩),(4,⟨3,true,a4_b0_b.flatMap eW⟩),(5,⟨136,false,[.clo (.func 98) [] [.ptr 1 0,.ptr 2 0,.ptr 3 0,.ptr 5 0]]⟩)]⟩) (VC.sub (.of rfl) (.of rfl)) ?_
  refine AWP.seq ?_
  refine AWP.seq ?_
  refine AWP.rg (.cons (.move (l1 rfl) (.t rfl))<| .cons (.not (l1 rfl) (.t rfl))<| .cons (.move (l1 rfl) (.t rfl))<| .guard (j := 2) (dj := 33) rfl (l1 rfl) rfl (l1 rfl) (fun hg => .move (l1 rfl) (.t rfl))<| .guard (j := 2) (dj := 33) rfl (l1 rfl) rfl (l1 rfl) (fun hg => .lenRd (l1 rfl) (.gd hg (.t rfl)) Try.underlying54)<| .guard (j := 2) (dj := 33) rfl (l1 rfl) rfl (l1 rfl) (fun hg => .fieldP (l1 rfl) (.t rfl) fld80_1)<| .guard (j := 2) (dj := 33) rfl (l1 rfl) rfl (l1 rfl) (fun hg => .loadP (l1 rfl) (.gd hg (.t rfl)) one78 rfl rfl rfl)<| .guard (j := 2) (dj := 33) rfl (l1 rfl) rfl (l1 rfl) (fun hg => .lenRd (l1 rfl) (.gd hg (.t rfl)) Try.underlying78)<| .guard (j := 2) (dj := 33) rfl (l1 rfl) rfl (l1 rfl) (fun hg => .neq (l1 rfl) (.gd hg (.t rfl)) (.gd hg (.t rfl)))<| .cons (.pickOr (l1 rfl) (.t rfl) (.const _ _ _) (.t rfl))<| ARun.nil _ _ _) ?_
  refine AWP.vc (s' := ⟨[(4,.ptr 3 0),(5,.ptr 5 0),(7,.ptr 7 0),(9,rW false y_2.1 encR57),(40,bW ((!y_2.2) || (!decide ((y_2.1.length : Int) = (a1.Kd.length : Int)))))],[(7,⟨80,false,[iW a1.Split,rW β4 a1.Kd encK79,rW β5 a1.Lf eW]⟩),(1,⟨63,false,[.clo (.func 27) [] []]⟩),(2,⟨56,false,[.clo (.func 24) [] []]⟩),(3,⟨28,false,[.own 4 1 0 a4_b0_b.length]⟩),(4,⟨3,true,a4_b0_b.flatMap eW⟩),(5,⟨136,false,[.clo (.func 98) [] [.ptr 1 0,.ptr 2 0,.ptr 3 0,.ptr 5 0]]⟩)]⟩) (VC.sub (.of rfl) (.of rfl)) ?_
  refine AWP.cond (.t rfl) (fun hc => ?_) (fun hc => ?_)
  ·have h := iteT hc h
   refine AWP.seq ?_
   refine AWP.rg (.cons (.assign (l1 rfl) (.const _ _ _))<| ARun.nil _ _ _) ?_
   refine AWP.ret ?_
   obtain rfl := Option.some.inj h
   refine retJ (Res.vc (s' := ⟨[(8,bW true)],[(1,⟨63,false,[.clo (.func 27) [] []]⟩),(2,⟨56,false,[.clo (.func 24) [] []]⟩),(3,⟨28,false,[.own 4 1 0 a4_b0_b.length]⟩),(4,⟨3,true,a4_b0_b.flatMap eW⟩),(5,⟨136,false,[.clo (.func 98) [] [.ptr 1 0,.ptr 2 0,.ptr 3 0,.ptr 5 0]]⟩)]⟩) (VC.sub (.of rfl) (.of rfl)) ?_)
   refine Res.sub (H := [(1,⟨63,false,[.clo (.func 27) [] []]⟩),(2,⟨56,false,[.clo (.func 24) [] []]⟩),(3,⟨28,false,[.own 4 1 0 a4_b0_b.length]⟩),(4,⟨3,true,a4_b0_b.flatMap eW⟩),(5,⟨136,false,[.clo (.func 98) [] [.ptr 1 0,.ptr 2 0,.ptr 3 0,.ptr 5 0]]⟩)]) (.of rfl) ?_
   exact Res.of rfl (.cons (.tmp rfl) (.nil)) rfl rfl
  ·have h := iteF hc h
   refine AWP.skip ?_
   refine AWP.seq ?_
   refine AWP.seq ?_
   refine AWP.rg (.cons (.fieldP (l1 rfl) (.t rfl) fld80_1)<| .cons (.loadP (l1 rfl) (.t rfl) one78 rfl rfl rfl)<| .cons (.lenRd (l1 rfl) (.t rfl) Try.underlying78)<| .cons (.move (l1 rfl) (.const _ _ _))<| ARun.nil _ _ _) ?_
   refine AWP.vc (s' := ⟨[(4,.ptr 3 0),(5,.ptr 5 0),(9,rW false y_2.1 encR57),(42,rW β4 a1.Kd encK79),(43,iW (a1.Kd.length : Int)),(44,iW (0 : Int))],[(1,⟨63,false,[.clo (.func 27) [] []]⟩),(2,⟨56,false,[.clo (.func 24) [] []]⟩),(3,⟨28,false,[.own 4 1 0 a4_b0_b.length]⟩),(4,⟨3,true,a4_b0_b.flatMap eW⟩),(5,⟨136,false,[.clo (.func 98) [] [.ptr 1 0,.ptr 2 0,.ptr 3 0,.ptr 5 0]]⟩)]⟩) (VC.sub (.of rfl) (.of rfl)) ?_
   refine AWP.joinB' (S := fun p_25 : (List Int) => ⟨[],[(1,⟨63,false,[.clo (.func 27) [] []]⟩),(2,⟨56,false,[.clo (.func 24) [] []]⟩),(3,⟨28,false,[.own 4 1 0 p_25.length]⟩),(4,⟨3,true,p_25.flatMap eW⟩),(5,⟨136,false,[.clo (.func 98) [] [.ptr 1 0,.ptr 2 0,.ptr 3 0,.ptr 5 0]]⟩)]⟩) h (fun p_25 h => ?_) (fun k_26 h => ?_)
   ·refine AWP.seq ?_
    refine AWP.rg (.cons (.assign (l1 rfl) (.const _ _ _))<| ARun.nil _ _ _) ?_
    refine AWP.ret ?_
    obtain rfl := Option.some.inj h
    refine retJ (Res.vc (s' := ⟨[(8,bW false)],[(1,⟨63,false,[.clo (.func 27) [] []]⟩),(2,⟨56,false,[.clo (.func 24) [] []]⟩),(3,⟨28,false,[.own 4 1 0 p_25.length]⟩),(4,⟨3,true,p_25.flatMap eW⟩),(5,⟨136,false,[.clo (.func 98) [] [.ptr 1 0,.ptr 2 0,.ptr 3 0,.ptr 5 0]]⟩)]⟩) (VC.sub (.of rfl) (.of rfl)) ?_)
    refine Res.sub (H := [(1,⟨63,false,[.clo (.func 27) [] []]⟩),(2,⟨56,false,[.clo (.func 24) [] []]⟩),(3,⟨28,false,[.own 4 1 0 p_25.length]⟩),(4,⟨3,true,p_25.flatMap eW⟩),(5,⟨136,false,[.clo (.func 98) [] [.ptr 1 0,.ptr 2 0,.ptr 3 0,.ptr 5 0]]⟩)]) (.of rfl) ?_
    exact Res.of rfl (.cons (.tmp rfl) (.nil)) rfl rfl
   ·refine AWP.vc (s' := ⟨[(4,.ptr 3 0),(5,.ptr 5 0),(9,rW false y_2.1 encR57),(42,rW β4 a1.Kd encK79),(43,iW (a1.Kd.length : Int)),(44,iW (0 : Int))],[(1,⟨63,false,[.clo (.func 27) [] []]⟩),(2,⟨56,false,[.clo (.func 24) [] []]⟩),(3,⟨28,false,[.own 4 1 0 a4_b0_b.length]⟩),(4,⟨3,true,a4_b0_b.flatMap eW⟩),(5,⟨136,false,[.clo (.func 98) [] [.ptr 1 0,.ptr 2 0,.ptr 3 0,.ptr 5 0]]⟩)]⟩) (VC.sub (.of rfl) (.of rfl)) ?_
    refine AWP.loopM (S := fun x_17 : Int × (List Int) => ⟨[(4,.ptr 3 0),(5,.ptr 5 0),(9,rW false y_2.1 encR57),(42,rW β4 a1.Kd encK79),(43,iW (a1.Kd.length : Int)),(44,iW x_17.1)],[(1,⟨63,false,[.clo (.func 27) [] []]⟩),(2,⟨56,false,[.clo (.func 24) [] []]⟩),(3,⟨28,false,[.own 4 1 0 x_17.2.length]⟩),(4,⟨3,true,x_17.2.flatMap eW⟩),(5,⟨136,false,[.clo (.func 98) [] [.ptr 1 0,.ptr 2 0,.ptr 3 0,.ptr 5 0]]⟩)]⟩) (x := ((0 : Int),a4_b0_b)) (fun nx_18 x_17 h => ?_) h
    unfold m98_L1 at h
    refine AWP.seq ?_
    refine AWP.rg (.cons (.lss (l1 rfl) (.t rfl) (.t rfl))<| ARun.nil _ _ _) ?_
    refine AWP.vc (s' := ⟨[(4,.ptr 3 0),(5,.ptr 5 0),(9,rW false y_2.1 encR57),(42,rW β4 a1.Kd encK79),(43,iW (a1.Kd.length : Int)),(44,iW x_17.1),(45,bW (decide (x_17.1 < (a1.Kd.length : Int))))],[(1,⟨63,false,[.clo (.func 27) [] []]⟩),(2,⟨56,false,[.clo (.func 24) [] []]⟩),(3,⟨28,false,[.own 4 1 0 x_17.2.length]⟩),(4,⟨3,true,x_17.2.flatMap eW⟩),(5,⟨136,false,[.clo (.func 98) [] [.ptr 1 0,.ptr 2 0,.ptr 3 0,.ptr 5 0]]⟩)]⟩) (VC.sub (.of rfl) (.of rfl)) ?_
    refine AWP.seq ?_
    refine AWP.cond (.t rfl) (fun hc => ?_) (fun hc => ?_)
    ·have h := iteT hc h
     refine AWP.skip ?_
     refine AWP.seq ?_
     refine AWP.block ?_
     refine AWP.seq ?_
     obtain ⟨y_19,hy_19,h⟩ := bindS h
     refine AWP.rg (.cons (.move (l1 rfl) (.t rfl))<| .cons (.indexRdC (enc := encK79) (l1 rfl) (.t rfl) (.t rfl) Try.underlying78 sz80 encK79_len rfl hy_19 (encK79_out _))<| .cons (.loadRA (out := [iW y_19.out.Split,rW β4 y_19.out.Kd encK79,rW β4 y_19.out.Lf eW]) (l1 rfl) (.t rfl) agg80 (le1 rfl) rfl)<| .cons (.alloc (t := 8) (k := ⟨80,false,[iW (0 : Int),.sc (.slice none 0 0),.sc (.slice none 0 0)]⟩) (l1 rfl) (nm rfl) zero80 rfl rfl)<| .cons (.assign (l1 rfl) (.t rfl))<| .cons (.storePA (.t rfl) (.t rfl) sz80 rfl rfl (le1 rfl) (one_lit rfl) (by intro h; cases h) rfl)<| ARun.nil _ _ _) ?_
     refine AWP.vc (s' := ⟨[(4,.ptr 3 0),(5,.ptr 5 0),(9,rW false y_2.1 encR57),(42,rW β4 a1.Kd encK79),(43,iW (a1.Kd.length : Int)),(44,iW x_17.1),(12,.ptr 8 0),(11,iW x_17.1)],[(8,⟨80,false,[iW y_19.out.Split,rW β4 y_19.out.Kd encK79,rW β4 y_19.out.Lf eW]⟩),(1,⟨63,false,[.clo (.func 27) [] []]⟩),(2,⟨56,false,[.clo (.func 24) [] []]⟩),(3,⟨28,false,[.own 4 1 0 x_17.2.length]⟩),(4,⟨3,true,x_17.2.flatMap eW⟩),(5,⟨136,false,[.clo (.func 98) [] [.ptr 1 0,.ptr 2 0,.ptr 3 0,.ptr 5 0]]⟩)]⟩) (VC.sub (.of rfl) (.of rfl)) ?_
     refine AWP.seq ?_
     obtain ⟨l4_20,hl4_20,h⟩ := bindS h
     refine AWP.rg (.cons (.loadP (l1 rfl) (.t rfl) one28 rfl rfl rfl)<| .cons (.move (l1 rfl) (.t rfl))<| .cons (.buildSlice (t := 9) (out := ([x_17.1] : List Int).flatMap eW) (l1 rfl) (nm rfl) (.cons (.t rfl) (by first | exact ⟨rfl,rfl⟩ | rfl) (.nil)) Try.underlying28 zero3 el3 (by decide) (by decide) rfl (still_all (encI_still .i64) _))<| .cons (.app (enc := eW) (l1 rfl) (nm rfl) (.t rfl) (Src.own (.t rfl) rfl (lendAll (encI_len .i64) _) (flatMap_length (encI_len .i64) _) (one_all (encI_one .i64) _) (.inl rfl)) Try.underlying28 ⟨_,Try.underlying28,by intro k hk; cases hk⟩ el3 rfl (encI_len .i64) rfl rfl (by decide) hl4_20)<| .cons (.storeP (.t rfl) (.t rfl) sz28 rfl (l1 rfl) rfl (by intro h; cases h) rfl)<| ARun.nil _ _ _) ?_
     refine AWP.vc (s' := ⟨[(4,.ptr 3 0),(5,.ptr 5 0),(9,rW false y_2.1 encR57),(42,rW β4 a1.Kd encK79),(43,iW (a1.Kd.length : Int)),(44,iW x_17.1),(12,.ptr 8 0),(11,iW x_17.1)],[(4,⟨3,true,l4_20.flatMap eW⟩),(8,⟨80,false,[iW y_19.out.Split,rW β4 y_19.out.Kd encK79,rW β4 y_19.out.Lf eW]⟩),(1,⟨63,false,[.clo (.func 27) [] []]⟩),(2,⟨56,false,[.clo (.func 24) [] []]⟩),(3,⟨28,false,[.own 4 1 0 l4_20.length]⟩),(5,⟨136,false,[.clo (.func 98) [] [.ptr 1 0,.ptr 2 0,.ptr 3 0,.ptr 5 0]]⟩)]⟩) (VC.sub (.of rfl) (.of rfl)) ?_
     refine AWP.seq ?_
     refine AWP.seq ?_
     obtain ⟨y_21,hy_21,h⟩ := bindS h
     obtain ⟨y_22,hy_22,h⟩ := bindS h
     refine AWP.draw (s' := ⟨[(4,.ptr 3 0),(5,.ptr 5 0),(9,rW false y_2.1 encR57),(42,rW β4 a1.Kd encK79),(43,iW (a1.Kd.length : Int)),(44,iW x_17.1),(59,bW y_22.1)],[(1,⟨63,false,[.clo (.func 27) [] []]⟩),(2,⟨56,false,[.clo (.func 24) [] []]⟩),(3,⟨28,false,[.own 4 1 0 y_22.2.length]⟩),(4,⟨3,true,y_22.2.flatMap eW⟩),(5,⟨136,false,[.clo (.func 98) [] [.ptr 1 0,.ptr 2 0,.ptr 3 0,.ptr 5 0]]⟩),(8,⟨80,false,[iW y_19.out.Split,rW β4 y_19.out.Kd encK79,rW β4 y_19.out.Lf eW]⟩)]⟩) mixed [⟨4,.ptr 3 0,none,[]⟩,⟨5,.ptr 5 0,none,[]⟩,⟨9,rW false y_2.1 encR57,none,[]⟩,⟨11,iW x_17.1,none,[]⟩,⟨12,.ptr 8 0,none,[]⟩,⟨42,rW β4 a1.Kd encK79,none,[]⟩,⟨43,iW (a1.Kd.length : Int),none,[]⟩,⟨44,iW x_17.1,none,[]⟩,⟨53,.clo (.func 98) [] [.ptr 1 0,.ptr 2 0,.ptr 3 0,.ptr 5 0],some 0,[]⟩,⟨54,rW false y_2.1 encR57,some 1,[]⟩,⟨55,iW x_17.1,some 2,[]⟩,⟨56,.rptr false (gW false false false y_21.Gq y_21.Path y_21.Ln),some 3,[]⟩,⟨57,.agg (gW false false false y_21.Gq y_21.Path y_21.Ln),some 4,[]⟩,⟨58,.agg [iW y_19.out.Split,rW β4 y_19.out.Kd encK79,rW β4 y_19.out.Lf eW],some 5,[]⟩,⟨59,bW y_22.1,some 6,[]⟩] [⟨[1],0,0,some (53,.clo (.func 98) [] [.ptr 1 0,.ptr 2 0,.ptr 3 0,.ptr 5 0]),[]⟩,⟨[2],0,1,some (54,rW false y_2.1 encR57),[]⟩,⟨[3],0,1,some (55,iW x_17.1),[]⟩,⟨[9,10],0,1,some (56,.rptr false (gW false false false y_21.Gq y_21.Path y_21.Ln)),[]⟩,⟨[11],0,1,some (57,.agg (gW false false false y_21.Gq y_21.Path y_21.Ln)),[]⟩,⟨[4],0,0,some (58,.agg [iW y_19.out.Split,rW β4 y_19.out.Kd encK79,rW β4 y_19.out.Lf eW]),[]⟩,⟨[8,12,13],0,0,some (59,bW y_22.1),[4,4]⟩] [6] [[(4,⟨3,true,l4_20.flatMap eW⟩),(8,⟨80,false,[iW y_19.out.Split,rW β4 y_19.out.Kd encK79,rW β4 y_19.out.Lf eW]⟩),(1,⟨63,false,[.clo (.func 27) [] []]⟩),(2,⟨56,false,[.clo (.func 24) [] []]⟩),(3,⟨28,false,[.own 4 1 0 l4_20.length]⟩),(5,⟨136,false,[.clo (.func 98) [] [.ptr 1 0,.ptr 2 0,.ptr 3 0,.ptr 5 0]]⟩)],[(1,⟨63,false,[.clo (.func 27) [] []]⟩),(2,⟨56,false,[.clo (.func 24) [] []]⟩),(3,⟨28,false,[.own 4 1 0 y_22.2.length]⟩),(4,⟨3,true,y_22.2.flatMap eW⟩),(5,⟨136,false,[.clo (.func 98) [] [.ptr 1 0,.ptr 2 0,.ptr 3 0,.ptr 5 0]]⟩),(8,⟨80,false,[iW y_19.out.Split,rW β4 y_19.out.Kd encK79,rW β4 y_19.out.Lf eW]⟩)]] [[],[],[],[1,2],[1,2,3],[],[0,1,2,3,4,5]] (by kernel_rfl) (by kernel_rfl) (BornL.ok (.o<| .o<| .o<| .o<| .o<| .o<| .o<| .o<| .b rfl rfl<| .b rfl rfl<| .b rfl rfl<| .b rfl rfl<| .b rfl rfl<| .b rfl rfl<| .b rfl rfl<| .n)) (BaseL.ok (.o rfl<| .o rfl<| .o rfl<| .o rfl<| .o rfl<| .o rfl<| .o rfl<| .o rfl<| .b<| .b<| .b<| .b<| .b<| .b<| .b<| .n)) rfl (by decide) (allLt rfl) (.read rfl (.c (.put (fun E hE => .loadP (l1 rfl) (.tmp (hE.at (k := 0) rfl)) one136 rfl rfl rfl)) (.n))<| .pure rfl (fun H => .put (fun E hE => .move (l1 rfl) (.tmp (hE.at (k := 0) rfl))))<| .pure rfl (fun H => .put (fun E hE => .move (l1 rfl) (.tmp (hE.at (k := 0) rfl))))<| .pure rfl (fun H => .put (fun E hE => .indexRd (enc := encR57) (l1 rfl) (.tmp (hE.at (k := 0) rfl)) (.tmp (hE.at (k := 1) rfl)) Try.underlying54 sz58 encR57_len rfl hy_21))<| .pure rfl (fun H => .put (fun E hE => .loadRA (out := (gW false false false y_21.Gq y_21.Path y_21.Ln)) (l1 rfl) (.tmp (hE.at (k := 0) rfl)) agg58 (Nat.le_of_eq (Eq.symm (encR57_len _))) rfl))<| .read rfl (.c (.put (fun E hE => .loadPA (l1 rfl) (.tmp (hE.at (k := 0) rfl)) agg80 rfl rfl rfl rfl)) (.n))<| .turn rfl rfl rfl rfl rfl (.called (fun E hE => AStep.callV (us' := []) (avs := [.agg [rW false ((R57.mk (R24.mk y_21.Gq.Pq y_21.Gq.Bq) y_21.Path y_21.Ln).Gq.Pq) e45,rW false ((R57.mk (R24.mk y_21.Gq.Pq y_21.Gq.Bq) y_21.Path y_21.Ln).Gq.Bq) e93,rW false ((R57.mk (R24.mk y_21.Gq.Pq y_21.Gq.Bq) y_21.Path y_21.Ln).Path) eW,iW ((R57.mk (R24.mk y_21.Gq.Pq y_21.Gq.Bq) y_21.Path y_21.Ln).Ln)],.agg [iW ((R79.mk y_19.out.Split y_19.out.Kd y_19.out.Lf).Split),rW β4 ((R79.mk y_19.out.Split y_19.out.Kd y_19.out.Lf).Kd) encK79,rW β4 ((R79.mk y_19.out.Split y_19.out.Kd y_19.out.Lf).Lf) eW]]) (cs' := [.ptr 1 0,.ptr 2 0,.ptr 3 0,.ptr 5 0]) (σ := sgT [(1,1),(2,2),(3,3),(4,4),(5,5)]) (bw := false) (l1 rfl) (.tmp (hE.at (k := 0) rfl)) (ih (β3 := false) (β4 := β4) (β5 := β4) (R57.mk (R24.mk y_21.Gq.Pq y_21.Gq.Bq) y_21.Path y_21.Ln) (R79.mk y_19.out.Split y_19.out.Kd y_19.out.Lf) l4_20 hy_22) (.nil) (.cons (.tmp (hE.at (k := 1) rfl)) (.ren rfl) (.cons (.tmp (hE.at (k := 2) rfl)) (.ren rfl) (.nil))) (.cons (.ren rfl) (.cons (.ren rfl) (.cons (.ren rfl) (.cons (.ren rfl) (.nil))))) (CallOk.mk' (.c rfl (.c rfl (.c rfl (.c rfl (.c rfl (.n)))))) rfl) (fun _ h => by cases h)) rfl rfl rfl)<| .nil _) (fun E hE => .c (DInv.at hE (k := 0) rfl rfl rfl)<| .c (DInv.at hE (k := 1) rfl rfl rfl)<| .c (DInv.at hE (k := 2) rfl rfl rfl)<| .c (DInv.at hE (k := 5) rfl rfl rfl)<| .c (DInv.at hE (k := 6) rfl rfl rfl)<| .c (DInv.at hE (k := 7) rfl rfl rfl)<| .c (DInv.at hE (k := 14) rfl rfl rfl)<| .n _) rfl ?_
     refine AWP.vc (s' := ⟨[(4,.ptr 3 0),(5,.ptr 5 0),(9,rW false y_2.1 encR57),(42,rW β4 a1.Kd encK79),(43,iW (a1.Kd.length : Int)),(44,iW x_17.1),(59,bW y_22.1)],[(1,⟨63,false,[.clo (.func 27) [] []]⟩),(2,⟨56,false,[.clo (.func 24) [] []]⟩),(3,⟨28,false,[.own 4 1 0 y_22.2.length]⟩),(4,⟨3,true,y_22.2.flatMap eW⟩),(5,⟨136,false,[.clo (.func 98) [] [.ptr 1 0,.ptr 2 0,.ptr 3 0,.ptr 5 0]]⟩)]⟩) (VC.sub (.of rfl) (.of rfl)) ?_
     refine AWP.cond (.t rfl) (fun hc => ?_) (fun hc => ?_)
     ·have h := iteT hc h
      refine AWP.seq ?_
      refine AWP.rg (.cons (.assign (l1 rfl) (.const _ _ _))<| ARun.nil _ _ _) ?_
      refine AWP.ret ?_
      obtain rfl := Option.some.inj h
      refine retJ (Res.vc (s' := ⟨[(8,bW true)],[(1,⟨63,false,[.clo (.func 27) [] []]⟩),(2,⟨56,false,[.clo (.func 24) [] []]⟩),(3,⟨28,false,[.own 4 1 0 y_22.2.length]⟩),(4,⟨3,true,y_22.2.flatMap eW⟩),(5,⟨136,false,[.clo (.func 98) [] [.ptr 1 0,.ptr 2 0,.ptr 3 0,.ptr 5 0]]⟩)]⟩) (VC.sub (.of rfl) (.of rfl)) ?_)
      refine Res.sub (H := [(1,⟨63,false,[.clo (.func 27) [] []]⟩),(2,⟨56,false,[.clo (.func 24) [] []]⟩),(3,⟨28,false,[.own 4 1 0 y_22.2.length]⟩),(4,⟨3,true,y_22.2.flatMap eW⟩),(5,⟨136,false,[.clo (.func 98) [] [.ptr 1 0,.ptr 2 0,.ptr 3 0,.ptr 5 0]]⟩)]) (.of rfl) ?_
      exact Res.of rfl (.cons (.tmp rfl) (.nil)) rfl rfl
     ·have h := iteF hc h
      refine AWP.skip ?_
      obtain ⟨l4_23,hl4_23,h⟩ := bindS h
      refine AWP.rg (.cons (.loadP (l1 rfl) (.t rfl) one28 rfl rfl rfl)<| .cons (.loadP (l1 rfl) (.t rfl) one28 rfl rfl rfl)<| .cons (.lenOwn (l1 rfl) (.t rfl) Try.underlying28)<| .cons (.sub (l1 rfl) (.t rfl) (.const _ _ _))<| .cons (.slOwn (enc := eW) (gh := 0) (gh' := 0) (l1 rfl) (.t rfl) rfl Try.underlying28 sz3 (encI_len .i64) rfl (.none _ _ _) (.some (.t rfl)) hl4_23 rfl)<| .cons (.storeP (.t rfl) (.t rfl) sz28 rfl (l1 rfl) rfl (by intro h; cases h) rfl)<| ARun.nil _ _ _) ?_
      refine AWP.vc (s' := ⟨[(4,.ptr 3 0),(5,.ptr 5 0),(9,rW false y_2.1 encR57),(42,rW β4 a1.Kd encK79),(43,iW (a1.Kd.length : Int)),(44,iW x_17.1)],[(1,⟨63,false,[.clo (.func 27) [] []]⟩),(2,⟨56,false,[.clo (.func 24) [] []]⟩),(3,⟨28,false,[.own 4 1 0 l4_23.length]⟩),(4,⟨3,true,l4_23.flatMap eW⟩),(5,⟨136,false,[.clo (.func 98) [] [.ptr 1 0,.ptr 2 0,.ptr 3 0,.ptr 5 0]]⟩)]⟩) (VC.sub (.of rfl) (.of rfl)) ?_
      obtain ⟨t44_24,ht44_24,h⟩ := letS h
      refine AWP.rg (.cons (.add (l1 rfl) (.t rfl) (.const _ _ _))<| .cons (.move (l1 rfl) (.t rfl))<| ARun.nil _ _ _) ?_
      exact endJ (t44_24,l4_23) h (by subst ht44_24; exact VC.sub (.of rfl) (.of rfl))
    ·have h := iteF hc h
     refine AWP.exit ?_
     exact endJ x_17.2 h (VC.sub (.n _) (.of rfl))
theorem c98 (n : Nat) {β3 : Bool} {β4 : Bool} {β5 : Bool} (a0 : R57) (a1 : R79) (a4_b0_b : (List Int)) {r : (Bool × (List Int))} (h : m98 n a0 a1 a4_b0_b = some r) : Spec Try.prog 98 [1,2,3,5] [.agg (gW false false β3 a0.Gq a0.Path a0.Ln),.agg [iW a1.Split,rW β4 a1.Kd encK79,rW β5 a1.Lf eW],.ptr 1 0,.ptr 2 0,.ptr 3 0,.ptr 5 0] [(1,⟨63,false,[.clo (.func 27) [] []]⟩),(2,⟨56,false,[.clo (.func 24) [] []]⟩),(3,⟨28,false,[.own 4 1 0 a4_b0_b.length]⟩),(4,⟨3,true,a4_b0_b.flatMap eW⟩),(5,⟨136,false,[.clo (.func 98) [] [.ptr 1 0,.ptr 2 0,.ptr 3 0,.ptr 5 0]]⟩)] (bW r.1) [(1,⟨63,false,[.clo (.func 27) [] []]⟩),(2,⟨56,false,[.clo (.func 24) [] []]⟩),(3,⟨28,false,[.own 4 1 0 r.2.length]⟩),(4,⟨3,true,r.2.flatMap eW⟩),(5,⟨136,false,[.clo (.func 98) [] [.ptr 1 0,.ptr 2 0,.ptr 3 0,.ptr 5 0]]⟩)] := c98F n n a0 a1 a4_b0_b h
theorem c75 {β3 : Bool} {β4 : Bool} {β5 : Bool} (n : Nat) (a0 : R57) (a1 : R79) {r : ((List Int) × Int)} (h : m75 n a0 a1 = some r) : Spec Try.prog 75 [] [.agg (gW false false β3 a0.Gq a0.Path a0.Ln),.agg [iW a1.Split,rW β4 a1.Kd encK79,rW β5 a1.Lf eW],.clo (.func 24) [] [],.clo (.func 27) [] []] [] (.tup [rW false r.1 eW,iW r.2]) [] := by
 refine Spec.of (fn := Try.f75) Try.func75 Try.ntmps75 rfl rfl (le1 rfl) (fun w0 Zs Zb T0 ι0 => ?_)
 unfold m75 at h
 refine AWP.seq ?_
 refine AWP.rg (.cons (.box (t := 1) (n := 4) (l1 rfl) (nm rfl) (.t rfl) (by first | exact ⟨rfl,rfl⟩ | rfl) rfl)<| .cons (.box (t := 2) (n := 3) (l1 rfl) (nm rfl) (.t rfl) (by first | exact ⟨rfl,rfl⟩ | rfl) rfl)<| .cons (.box (t := 3) (n := 1) (l1 rfl) (nm rfl) (.t rfl) (by first | exact ⟨rfl,rfl⟩ | rfl) rfl)<| .cons (.box (t := 4) (n := 1) (l1 rfl) (nm rfl) (.t rfl) (by first | exact ⟨rfl,rfl⟩ | rfl) rfl)<| .cons (.alloc (t := 5) (k := ⟨28,false,[.sc (.slice none 0 0)]⟩) (l1 rfl) (nm rfl) zero28 rfl rfl)<| .cons (.assign (l1 rfl) (.const _ _ _))<| ARun.nil _ _ _) ?_
 refine AWP.vc (s' := ⟨[(4,.ptr 1 0),(5,.ptr 2 0),(6,.ptr 3 0),(7,.ptr 4 0),(8,.ptr 5 0)],[(5,⟨28,false,[.sc (.slice none 0 0)]⟩),(4,⟨63,false,[.clo (.func 27) [] []]⟩),(3,⟨56,false,[.clo (.func 24) [] []]⟩),(2,⟨80,false,[iW a1.Split,rW β4 a1.Kd encK79,rW β5 a1.Lf eW]⟩),(1,⟨58,false,(gW false false β3 a0.Gq a0.Path a0.Ln)⟩)]⟩) (VC.sub (.of rfl) (.of rfl)) ?_
 refine AWP.seq ?_
 refine AWP.seq ?_
 obtain ⟨y_1,hy_1,h⟩ := bindS h
 refine AWP.rg (.cons (.loadPA (l1 rfl) (.t rfl) agg80 rfl rfl rfl rfl)<| .cons (.call0 (bw := false) (l1 rfl) (c97 (β1 := β4) (β2 := β5) n (R79.mk a1.Split a1.Kd a1.Lf) hy_1) (.cons (.t rfl) (.ren rfl) (.nil)) rfl)<| .cons (.not (l1 rfl) (.t rfl))<| ARun.nil _ _ _) ?_
 refine AWP.vc (s' := ⟨[(4,.ptr 1 0),(5,.ptr 2 0),(6,.ptr 3 0),(7,.ptr 4 0),(8,.ptr 5 0),(13,bW (!y_1))],[(5,⟨28,false,[.sc (.slice none 0 0)]⟩),(4,⟨63,false,[.clo (.func 27) [] []]⟩),(3,⟨56,false,[.clo (.func 24) [] []]⟩),(2,⟨80,false,[iW a1.Split,rW β4 a1.Kd encK79,rW β5 a1.Lf eW]⟩),(1,⟨58,false,(gW false false β3 a0.Gq a0.Path a0.Ln)⟩)]⟩) (VC.sub (.of rfl) (.of rfl)) ?_
 refine AWP.cond (.t rfl) (fun hc => ?_) (fun hc => ?_)
 ·have h := iteT hc h
  refine AWP.seq ?_
  refine AWP.rg (.cons (.storeP (.t rfl) (.const _ _ _) sz28 rfl (l1 rfl) rfl (by intro h; cases h) rfl)<| .cons (.assign (l1 rfl) (.const _ _ _))<| ARun.nil _ _ _) ?_
  refine AWP.ret ?_
  obtain rfl := Option.some.inj h
  refine retJ (Res.vc (s' := ⟨[(8,.ptr 5 0),(9,iW (1 : Int))],[(5,⟨28,false,[rW false ([] : List Int) eW]⟩)]⟩) (VC.trans (VC.cell (t := 5) (i := 0) (v' := rW false ([] : List Int) eW) rfl rfl rfl (fun _ _ _ _ h => nil_rd h)) (VC.sub (.of rfl) (.of rfl))) ?_)
  refine Res.drop (H := [(5,⟨28,false,[rW false ([] : List Int) eW]⟩)]) rfl ?_
  exact Res.of rfl (.cons (.cell1 rfl one28 rfl rfl rfl) (.cons (.tmp rfl) (.nil))) rfl rfl
 ·have h := iteF hc h
  refine AWP.skip ?_
  refine AWP.seq ?_
  refine AWP.rg (.cons (.alloc (t := 6) (k := ⟨136,false,[.sc (.nilFunc)]⟩) (l1 rfl) (nm rfl) zero136 rfl rfl)<| ARun.nil _ _ _) ?_
  refine AWP.vc (s' := ⟨[(4,.ptr 1 0),(5,.ptr 2 0),(6,.ptr 3 0),(7,.ptr 4 0),(8,.ptr 5 0),(10,.ptr 6 0)],[(6,⟨136,false,[.sc (.nilFunc)]⟩),(5,⟨28,false,[.sc (.slice none 0 0)]⟩),(4,⟨63,false,[.clo (.func 27) [] []]⟩),(3,⟨56,false,[.clo (.func 24) [] []]⟩),(2,⟨80,false,[iW a1.Split,rW β4 a1.Kd encK79,rW β5 a1.Lf eW]⟩),(1,⟨58,false,(gW false false β3 a0.Gq a0.Path a0.Ln)⟩)]⟩) (VC.sub (.of rfl) (.of rfl)) ?_
  refine AWP.seq ?_
  refine AWP.rg (.cons (.makeFunc (l1 rfl) (.nil) (.cons (.t rfl) (.cons (.t rfl) (.cons (.t rfl) (.cons (.t rfl) (.nil))))))<| .cons (.storeP (.t rfl) (.t rfl) sz136 rfl (l1 rfl) rfl (by intro h; cases h) rfl)<| ARun.nil _ _ _) ?_
  refine AWP.vc (s' := ⟨[(4,.ptr 1 0),(5,.ptr 2 0),(8,.ptr 5 0),(10,.ptr 6 0)],[(6,⟨136,false,[.clo (.func 98) [] [.ptr 4 0,.ptr 3 0,.ptr 5 0,.ptr 6 0]]⟩),(5,⟨28,false,[.sc (.slice none 0 0)]⟩),(4,⟨63,false,[.clo (.func 27) [] []]⟩),(3,⟨56,false,[.clo (.func 24) [] []]⟩),(2,⟨80,false,[iW a1.Split,rW β4 a1.Kd encK79,rW β5 a1.Lf eW]⟩),(1,⟨58,false,(gW false false β3 a0.Gq a0.Path a0.Ln)⟩)]⟩) (VC.sub (.of rfl) (.of rfl)) ?_
  refine AWP.seq ?_
  refine AWP.seq ?_
  obtain ⟨y_2,hy_2,h⟩ := bindS h
  refine AWP.rg (.cons (.loadP (l1 rfl) (.t rfl) one136 rfl rfl rfl)<| .cons (.loadPA (l1 rfl) (.t rfl) agg58 rfl rfl rfl rfl)<| .cons (.loadPA (l1 rfl) (.t rfl) agg80 rfl rfl rfl rfl)<| .vc (VC.trans (VC.newTag (t := 7) (E := 3) (nm rfl)) (VC.cell (t := 5) (i := 0) (v' := .own 7 1 0 0) rfl rfl rfl (fun _ _ _ _ h => nil_own h)))<| .cons (.callV (us' := []) (avs := [.agg [rW false ((R57.mk (R24.mk a0.Gq.Pq a0.Gq.Bq) a0.Path a0.Ln).Gq.Pq) e45,rW false ((R57.mk (R24.mk a0.Gq.Pq a0.Gq.Bq) a0.Path a0.Ln).Gq.Bq) e93,rW β3 ((R57.mk (R24.mk a0.Gq.Pq a0.Gq.Bq) a0.Path a0.Ln).Path) eW,iW ((R57.mk (R24.mk a0.Gq.Pq a0.Gq.Bq) a0.Path a0.Ln).Ln)],.agg [iW ((R79.mk a1.Split a1.Kd a1.Lf).Split),rW β4 ((R79.mk a1.Split a1.Kd a1.Lf).Kd) encK79,rW β5 ((R79.mk a1.Split a1.Kd a1.Lf).Lf) eW]]) (cs' := [.ptr 1 0,.ptr 2 0,.ptr 3 0,.ptr 5 0]) (σ := sgT [(1,4),(2,3),(3,5),(4,7),(5,6)]) (bw := false) (l1 rfl) (.t rfl) (c98 (β3 := β3) (β4 := β4) (β5 := β5) n (R57.mk (R24.mk a0.Gq.Pq a0.Gq.Bq) a0.Path a0.Ln) (R79.mk a1.Split a1.Kd a1.Lf) ([] : List Int) hy_2) (.nil) (.cons (.t rfl) (.ren rfl) (.cons (.t rfl) (.ren rfl) (.nil))) (.cons (.ren rfl) (.cons (.ren rfl) (.cons (.ren rfl) (.cons (.ren rfl) (.nil))))) (CallOk.mk' (.c rfl (.c rfl (.c rfl (.c rfl (.c rfl (.n)))))) rfl) (fun _ h => by cases h))<| ARun.nil _ _ _) ?_
  refine AWP.vc (s' := ⟨[(8,.ptr 5 0),(18,bW y_2.1)],[(5,⟨28,false,[.own 7 1 0 y_2.2.length]⟩),(7,⟨3,true,y_2.2.flatMap eW⟩)]⟩) (VC.sub (.of rfl) (.of rfl)) ?_
  refine AWP.cond (.t rfl) (fun hc => ?_) (fun hc => ?_)
  ·have h := iteT hc h
   refine AWP.seq ?_
   refine AWP.rg (.cons (.loadP (l1 rfl) (.t rfl) one28 rfl rfl rfl)<| .cons (.storeP (.t rfl) (.t rfl) sz28 rfl (l1 rfl) rfl (by intro h; cases h) rfl)<| .cons (.assign (l1 rfl) (.const _ _ _))<| ARun.nil _ _ _) ?_
   refine AWP.ret ?_
   obtain rfl := Option.some.inj h
   refine retJ (Res.vc (s' := ⟨[(8,.ptr 5 0),(9,iW (21 : Int))],[(5,⟨28,false,[rW false y_2.2 eW]⟩)]⟩) (VC.trans (VC.trans (VC.freeze (t := 7) rfl) (VC.cellEq (t := 5) (i := 0) (v' := rW false y_2.2 eW) rfl rfl rfl (frz_rd (enc := eW) (encI_len .i64) y_2.2 false))) (VC.sub (.of rfl) (.of rfl))) ?_)
   refine Res.drop (H := [(5,⟨28,false,[rW false y_2.2 eW]⟩)]) rfl ?_
   exact Res.of rfl (.cons (.cell1 rfl one28 rfl rfl rfl) (.cons (.tmp rfl) (.nil))) rfl rfl
  ·have h := iteF hc h
   refine AWP.skip ?_
   refine AWP.seq ?_
   refine AWP.rg (.cons (.storeP (.t rfl) (.const _ _ _) sz28 rfl (l1 rfl) rfl (by intro h; cases h) rfl)<| .cons (.assign (l1 rfl) (.const _ _ _))<| ARun.nil _ _ _) ?_
   refine AWP.ret ?_
   obtain rfl := Option.some.inj h
   refine retJ (Res.vc (s' := ⟨[(8,.ptr 5 0),(9,iW (0 : Int))],[(5,⟨28,false,[rW false ([] : List Int) eW]⟩)]⟩) (VC.trans (VC.cell (t := 5) (i := 0) (v' := rW false ([] : List Int) eW) rfl rfl rfl (fun _ _ _ _ h => nil_rd h)) (VC.sub (.of rfl) (.of rfl))) ?_)
   refine Res.drop (H := [(5,⟨28,false,[rW false ([] : List Int) eW]⟩)]) rfl ?_
   exact Res.of rfl (.cons (.cell1 rfl one28 rfl rfl rfl) (.cons (.tmp rfl) (.nil))) rfl rfl
theorem c40 {β3 : Bool} {β4 : Bool} {β5 : Bool} (n : Nat) (a0 : R57) (a1 : R79) {r : ((List Int) × Int)} (h : m40 n a0 a1 = some r) : Spec Try.prog 40 [] [.agg (gW false false β3 a0.Gq a0.Path a0.Ln),.agg [iW a1.Split,rW β4 a1.Kd encK79,rW β5 a1.Lf eW]] [] (.tup [rW false r.1 eW,iW r.2]) [] := by
 refine Spec.of (fn := Try.f40) Try.func40 Try.ntmps40 rfl rfl (le1 rfl) (fun w0 Zs Zb T0 ι0 => ?_)
 unfold m40 at h
 refine AWP.seq ?_
 refine AWP.rg (.cons (.box (t := 1) (n := 4) (l1 rfl) (nm rfl) (.t rfl) (by first | exact ⟨rfl,rfl⟩ | rfl) rfl)<| .cons (.box (t := 2) (n := 3) (l1 rfl) (nm rfl) (.t rfl) (by first | exact ⟨rfl,rfl⟩ | rfl) rfl)<| .cons (.assign (l1 rfl) (.const _ _ _))<| .cons (.assign (l1 rfl) (.const _ _ _))<| ARun.nil _ _ _) ?_
 refine AWP.vc (s' := ⟨[(2,.ptr 1 0),(3,.ptr 2 0)],[(2,⟨80,false,[iW a1.Split,rW β4 a1.Kd encK79,rW β5 a1.Lf eW]⟩),(1,⟨58,false,(gW false false β3 a0.Gq a0.Path a0.Ln)⟩)]⟩) (VC.sub (.of rfl) (.of rfl)) ?_
 refine AWP.seq ?_
 refine AWP.seq ?_
 obtain ⟨y_1,hy_1,h⟩ := bindS h
 refine AWP.rg (.cons (.loadPA (l1 rfl) (.t rfl) agg58 rfl rfl rfl rfl)<| .cons (.call0 (bw := false) (l1 rfl) (c61 (β1 := false) (β2 := false) (β3 := β3) n (R57.mk (R24.mk a0.Gq.Pq a0.Gq.Bq) a0.Path a0.Ln) hy_1) (.cons (.t rfl) (.ren rfl) (.nil)) rfl)<| .cons (.not (l1 rfl) (.t rfl))<| ARun.nil _ _ _) ?_
 refine AWP.vc (s' := ⟨[(2,.ptr 1 0),(3,.ptr 2 0),(8,bW (!y_1))],[(2,⟨80,false,[iW a1.Split,rW β4 a1.Kd encK79,rW β5 a1.Lf eW]⟩),(1,⟨58,false,(gW false false β3 a0.Gq a0.Path a0.Ln)⟩)]⟩) (VC.sub (.of rfl) (.of rfl)) ?_
 refine AWP.cond (.t rfl) (fun hc => ?_) (fun hc => ?_)
 ·have h := iteT hc h
  refine AWP.seq ?_
  refine AWP.rg (.cons (.assign (l1 rfl) (.const _ _ _))<| .cons (.assign (l1 rfl) (.const _ _ _))<| ARun.nil _ _ _) ?_
  refine AWP.ret ?_
  obtain rfl := Option.some.inj h
  refine retJ (Res.vc (s' := ⟨[(4,rW false ([] : List Int) eW),(5,iW (1 : Int))],[]⟩) (VC.trans (VC.nilRd (d := 4) false rfl) (VC.sub (.of rfl) (.n _))) ?_)
  refine Res.drop (H := []) rfl ?_
  exact Res.of rfl (.cons (.tmp rfl) (.cons (.tmp rfl) (.nil))) rfl rfl
 ·have h := iteF hc h
  refine AWP.skip ?_
  refine AWP.seq ?_
  obtain ⟨y_2,hy_2,h⟩ := bindS h
  refine AWP.rg (.cons (.loadPA (l1 rfl) (.t rfl) agg58 rfl rfl rfl rfl)<| .cons (.loadPA (l1 rfl) (.t rfl) agg80 rfl rfl rfl rfl)<| .cons (.call0 (bw := false) (l1 rfl) (c75 (β3 := β3) (β4 := β4) (β5 := β5) n (R57.mk (R24.mk a0.Gq.Pq a0.Gq.Bq) a0.Path a0.Ln) (R79.mk a1.Split a1.Kd a1.Lf) hy_2) (.cons (.t rfl) (.ren rfl) (.cons (.t rfl) (.ren rfl) (.cons (.func _ _ _) (.ren rfl) (.cons (.func _ _ _) (.ren rfl) (.nil))))) rfl)<| .cons (.extract (l1 rfl) (.t rfl) rfl)<| .cons (.extract (l1 rfl) (.t rfl) rfl)<| .cons (.assign (l1 rfl) (.t rfl))<| .cons (.assign (l1 rfl) (.t rfl))<| ARun.nil _ _ _) ?_
  refine AWP.ret ?_
  obtain rfl := Option.some.inj h
  refine retJ (Res.vc (s' := ⟨[(4,rW false y_2.1 eW),(5,iW y_2.2)],[]⟩) (VC.sub (.of rfl) (.n _)) ?_)
  refine Res.drop (H := []) rfl ?_
  exact Res.of rfl (.cons (.tmp rfl) (.cons (.tmp rfl) (.nil))) rfl rfl
theorem c109 (n : Nat) (a0 : Int) {r : Bool} (h : m109 n a0 = some r) : Spec Try.prog 109 [] [iW a0] [] (bW r) [] := by
 refine Spec.of (fn := Try.f109) Try.func109 Try.ntmps109 rfl rfl (le1 rfl) (fun w0 Zs Zb T0 ι0 => ?_)
 unfold m109 at h
 refine AWP.seq ?_
 refine AWP.rg (.cons (.assign (l1 rfl) (.const _ _ _))<| ARun.nil _ _ _) ?_
 refine AWP.vc (s' := ⟨[(0,iW a0)],[]⟩) (VC.sub (.of rfl) (.n _)) ?_
 refine AWP.seq ?_
 refine AWP.rg (.cons (.move (l1 rfl) (.t rfl))<| .cons (.geq (l1 rfl) (.t rfl) (.const _ _ _))<| .cons (.move (l1 rfl) (.t rfl))<| .guard (j := 2) (dj := 5) rfl (l1 rfl) rfl (l1 rfl) (fun hg => .move (l1 rfl) (.t rfl))<| .guard (j := 2) (dj := 5) rfl (l1 rfl) rfl (l1 rfl) (fun hg => .leq (l1 rfl) (.gd hg (.t rfl)) (.const _ _ _))<| .cons (.pickAnd (l1 rfl) (.t rfl) (.t rfl) (.const _ _ _))<| .cons (.assign (l1 rfl) (.t rfl))<| ARun.nil _ _ _) ?_
 refine AWP.ret ?_
 obtain rfl := Option.some.inj h
 refine retJ (Res.vc (s' := ⟨[(2,bW ((decide ((-1073741824 : Int) ≤ a0)) && (decide (a0 ≤ (1073741824 : Int)))))],[]⟩) (VC.sub (.of rfl) (.n _)) ?_)
 refine Res.drop (H := []) rfl ?_
 exact Res.of rfl (.cons (.tmp rfl) (.nil)) rfl rfl
theorem c99F (n : Nat) : ∀ (f : Nat) {β1 : Bool} {β2 : Bool} (a0 : R74) {r : Bool},m99F n f a0 = some r → Spec Try.prog 99 [] [.agg [iW a0.Split,rW β1 a0.Kd encK74,rW β2 a0.Lf eW]] [] (bW r) [] := by
 intro f
 induction f with
 | zero =>
  intro β1 β2 a0 r h
  cases (show (none : Option Bool) = some r from h)
 | succ f ih =>
 intro β1 β2 a0 r h
 replace h : m99B n (m99F n f) a0 = some r := h
 generalize m99F n f = rc_0 at h ih
 refine Spec.of (fn := Try.f99) Try.func99 Try.ntmps99 rfl rfl (le1 rfl) (fun w0 Zs Zb T0 ι0 => ?_)
 unfold m99B at h
 refine AWP.seq ?_
 refine AWP.rg (.cons (.box (t := 1) (n := 3) (l1 rfl) (nm rfl) (.t rfl) (by first | exact ⟨rfl,rfl⟩ | rfl) rfl)<| .cons (.assign (l1 rfl) (.const _ _ _))<| ARun.nil _ _ _) ?_
 refine AWP.vc (s' := ⟨[(1,.ptr 1 0)],[(1,⟨75,false,[iW a0.Split,rW β1 a0.Kd encK74,rW β2 a0.Lf eW]⟩)]⟩) (VC.sub (.of rfl) (.of rfl)) ?_
 refine AWP.seq ?_
 refine AWP.seq ?_
 obtain ⟨y_1,hy_1,h⟩ := bindS h
 obtain ⟨t43_2,ht43_2,h⟩ := letS h
 refine AWP.rg (.cons (.fieldP (l1 rfl) (.t rfl) fld75_0)<| .cons (.loadP (l1 rfl) (.t rfl) one3 rfl rfl rfl)<| .cons (.call0 (bw := false) (l1 rfl) (c109 n a0.Split hy_1) (.cons (.t rfl) (.ren rfl) (.nil)) rfl)<| .cons (.not (l1 rfl) (.t rfl))<| .cons (.move (l1 rfl) (.t rfl))<| .guard (j := 4) (dj := 9) rfl (l1 rfl) rfl (l1 rfl) (fun hg => .fieldP (l1 rfl) (.t rfl) fld75_1)<| .guard (j := 4) (dj := 9) rfl (l1 rfl) rfl (l1 rfl) (fun hg => .loadP (l1 rfl) (.gd hg (.t rfl)) one73 rfl rfl rfl)<| .guard (j := 4) (dj := 9) rfl (l1 rfl) rfl (l1 rfl) (fun hg => .lenRd (l1 rfl) (.gd hg (.t rfl)) Try.underlying73)<| .guard (j := 4) (dj := 9) rfl (l1 rfl) rfl (l1 rfl) (fun hg => .gtr (l1 rfl) (.gd hg (.t rfl)) (.const _ _ _))<| .cons (.pickOr (l1 rfl) (.t rfl) (.const _ _ _) (.t rfl))<| .cons (.move (l1 rfl) (.t rfl))<| .guard (j := 10) (dj := 15) rfl (l1 rfl) rfl (l1 rfl) (fun hg => .fieldP (l1 rfl) (.t rfl) fld75_2)<| .guard (j := 10) (dj := 15) rfl (l1 rfl) rfl (l1 rfl) (fun hg => .loadP (l1 rfl) (.gd hg (.t rfl)) one28 rfl rfl rfl)<| .guard (j := 10) (dj := 15) rfl (l1 rfl) rfl (l1 rfl) (fun hg => .lenRd (l1 rfl) (.gd hg (.t rfl)) Try.underlying28)<| .guard (j := 10) (dj := 15) rfl (l1 rfl) rfl (l1 rfl) (fun hg => .gtr (l1 rfl) (.gd hg (.t rfl)) (.const _ _ _))<| .cons (.pickOr (l1 rfl) (.t rfl) (.const _ _ _) (.t rfl))<| .cons (.move (l1 rfl) (.t rfl))<| .guard (j := 16) (dj := 21) rfl (l1 rfl) rfl (l1 rfl) (fun hg => .fieldP (l1 rfl) (.t rfl) fld75_1)<| .guard (j := 16) (dj := 21) rfl (l1 rfl) rfl (l1 rfl) (fun hg => .loadP (l1 rfl) (.gd hg (.t rfl)) one73 rfl rfl rfl)<| .guard (j := 16) (dj := 21) rfl (l1 rfl) rfl (l1 rfl) (fun hg => .lenRd (l1 rfl) (.gd hg (.t rfl)) Try.underlying73)<| .guard (j := 16) (dj := 21) rfl (l1 rfl) rfl (l1 rfl) (fun hg => .gtr (l1 rfl) (.gd hg (.t rfl)) (.const _ _ _))<| .guard (j := 16) (dj := 21) rfl (l1 rfl) rfl (l1 rfl) (fun hg => .move (l1 rfl) (.gd hg (.t rfl)))<| .guard2 (j := 21) (dj := 26) rfl (l1 rfl) rfl (l1 rfl) (fun hg => .fieldP (l1 rfl) (.t rfl) fld75_2)<| .guard2 (j := 21) (dj := 26) rfl (l1 rfl) rfl (l1 rfl) (fun hg => .loadP (l1 rfl) (.gd hg (.t rfl)) one28 rfl rfl rfl)<| .guard2 (j := 21) (dj := 26) rfl (l1 rfl) rfl (l1 rfl) (fun hg => .lenRd (l1 rfl) (.gd hg (.t rfl)) Try.underlying28)<| .guard2 (j := 21) (dj := 26) rfl (l1 rfl) rfl (l1 rfl) (fun hg => .gtr (l1 rfl) (.gd hg (.t rfl)) (.const _ _ _))<| .guard (j := 16) (dj := 21) rfl (l1 rfl) rfl (l1 rfl) (fun hg => .pickAnd (l1 rfl) (.gd hg (.t rfl)) (.gdAnd hg (.t rfl)) (.const _ _ _))<| .cons (.pickOr (l1 rfl) (.t rfl) (.const _ _ _) (.t rfl))<| .cons (.move (l1 rfl) (.t rfl))<| .guard (j := 28) (dj := 33) rfl (l1 rfl) rfl (l1 rfl) (fun hg => .fieldP (l1 rfl) (.t rfl) fld75_1)<| .guard (j := 28) (dj := 33) rfl (l1 rfl) rfl (l1 rfl) (fun hg => .loadP (l1 rfl) (.gd hg (.t rfl)) one73 rfl rfl rfl)<| .guard (j := 28) (dj := 33) rfl (l1 rfl) rfl (l1 rfl) (fun hg => .lenRd (l1 rfl) (.gd hg (.t rfl)) Try.underlying73)<| .guard (j := 28) (dj := 33) rfl (l1 rfl) rfl (l1 rfl) (fun hg => .eql (l1 rfl) (.gd hg (.t rfl)) (.const _ _ _))<| .guard (j := 28) (dj := 33) rfl (l1 rfl) rfl (l1 rfl) (fun hg => .move (l1 rfl) (.gd hg (.t rfl)))<| .guard2 (j := 33) (dj := 38) rfl (l1 rfl) rfl (l1 rfl) (fun hg => .fieldP (l1 rfl) (.t rfl) fld75_0)<| .guard2 (j := 33) (dj := 38) rfl (l1 rfl) rfl (l1 rfl) (fun hg => .loadP (l1 rfl) (.gd hg (.t rfl)) one3 rfl rfl rfl)<| .guard2 (j := 33) (dj := 38) rfl (l1 rfl) rfl (l1 rfl) (fun hg => .neq (l1 rfl) (.gd hg (.t rfl)) (.const _ _ _))<| .guard (j := 28) (dj := 33) rfl (l1 rfl) rfl (l1 rfl) (fun hg => .pickAnd (l1 rfl) (.gd hg (.t rfl)) (.gdAnd hg (.t rfl)) (.const _ _ _))<| .cons (.pickOr (l1 rfl) (.t rfl) (.const _ _ _) (.t rfl))<| ARun.nil _ _ _) ?_
 refine AWP.vc (s' := ⟨[(1,.ptr 1 0),(43,bW t43_2)],[(1,⟨75,false,[iW a0.Split,rW β1 a0.Kd encK74,rW β2 a0.Lf eW]⟩)]⟩) (by subst ht43_2; exact VC.sub (.of rfl) (.of rfl)) ?_
 refine AWP.cond (.t rfl) (fun hc => ?_) (fun hc => ?_)
 ·have h := iteT hc h
  refine AWP.seq ?_
  refine AWP.rg (.cons (.assign (l1 rfl) (.const _ _ _))<| ARun.nil _ _ _) ?_
  refine AWP.ret ?_
  obtain rfl := Option.some.inj h
  refine retJ (Res.vc (s' := ⟨[(2,bW false)],[]⟩) (VC.sub (.of rfl) (.n _)) ?_)
  refine Res.drop (H := []) rfl ?_
  exact Res.of rfl (.cons (.tmp rfl) (.nil)) rfl rfl
 ·have h := iteF hc h
  refine AWP.skip ?_
  refine AWP.seq ?_
  refine AWP.seq ?_
  refine AWP.rg (.cons (.assign (l1 rfl) (.const _ _ _))<| ARun.nil _ _ _) ?_
  refine AWP.vc (s' := ⟨[(1,.ptr 1 0),(3,iW (0 : Int))],[(1,⟨75,false,[iW a0.Split,rW β1 a0.Kd encK74,rW β2 a0.Lf eW]⟩)]⟩) (VC.sub (.of rfl) (.of rfl)) ?_
  refine AWP.joinB' (S := fun p_12 : Unit => ⟨[(1,.ptr 1 0)],[(1,⟨75,false,[iW a0.Split,rW β1 a0.Kd encK74,rW β2 a0.Lf eW]⟩)]⟩) h (fun p_12 h => ?_) (fun k_13 h => ?_)
  ·refine AWP.seq ?_
   refine AWP.seq ?_
   refine AWP.rg (.cons (.assign (l1 rfl) (.const _ _ _))<| ARun.nil _ _ _) ?_
   refine AWP.vc (s' := ⟨[(1,.ptr 1 0),(4,iW (0 : Int))],[(1,⟨75,false,[iW a0.Split,rW β1 a0.Kd encK74,rW β2 a0.Lf eW]⟩)]⟩) (VC.sub (.of rfl) (.of rfl)) ?_
   refine AWP.joinB' (S := fun p_23 : Unit => ⟨[],[]⟩) h (fun p_23 h => ?_) (fun k_24 h => ?_)
   ·refine AWP.seq ?_
    refine AWP.rg (.cons (.assign (l1 rfl) (.const _ _ _))<| ARun.nil _ _ _) ?_
    refine AWP.ret ?_
    obtain rfl := Option.some.inj h
    refine retJ (Res.vc (s' := ⟨[(2,bW true)],[]⟩) (VC.sub (.of rfl) (.n _)) ?_)
    refine Res.drop (H := []) rfl ?_
    exact Res.of rfl (.cons (.tmp rfl) (.nil)) rfl rfl
   ·refine AWP.vc (s' := ⟨[(1,.ptr 1 0),(4,iW (0 : Int))],[(1,⟨75,false,[iW a0.Split,rW β1 a0.Kd encK74,rW β2 a0.Lf eW]⟩)]⟩) (VC.sub (.of rfl) (.of rfl)) ?_
    refine AWP.loopM (S := fun x_18 : Int => ⟨[(1,.ptr 1 0),(4,iW x_18)],[(1,⟨75,false,[iW a0.Split,rW β1 a0.Kd encK74,rW β2 a0.Lf eW]⟩)]⟩) (x := (0 : Int)) (fun nx_19 x_18 h => ?_) h
    unfold m99_L2 at h
    refine AWP.seq ?_
    refine AWP.seq ?_
    refine AWP.rg (.cons (.move (l1 rfl) (.t rfl))<| .cons (.fieldP (l1 rfl) (.t rfl) fld75_1)<| .cons (.loadP (l1 rfl) (.t rfl) one73 rfl rfl rfl)<| .cons (.lenRd (l1 rfl) (.t rfl) Try.underlying73)<| .cons (.lss (l1 rfl) (.t rfl) (.t rfl))<| ARun.nil _ _ _) ?_
    refine AWP.vc (s' := ⟨[(1,.ptr 1 0),(4,iW x_18),(62,bW (decide (x_18 < (a0.Kd.length : Int))))],[(1,⟨75,false,[iW a0.Split,rW β1 a0.Kd encK74,rW β2 a0.Lf eW]⟩)]⟩) (VC.sub (.of rfl) (.of rfl)) ?_
    refine AWP.cond (.t rfl) (fun hc => ?_) (fun hc => ?_)
    ·have h := iteT hc h
     refine AWP.skip ?_
     refine AWP.seq ?_
     refine AWP.block ?_
     refine AWP.seq ?_
     obtain ⟨y_20,hy_20,h⟩ := bindS h
     obtain ⟨y_21,hy_21,h⟩ := bindS h
     refine AWP.rg (.cons (.fieldP (l1 rfl) (.t rfl) fld75_1)<| .cons (.loadP (l1 rfl) (.t rfl) one73 rfl rfl rfl)<| .cons (.move (l1 rfl) (.t rfl))<| .cons (.indexRdC (enc := encK74) (l1 rfl) (.t rfl) (.t rfl) Try.underlying73 sz75 encK74_len rfl hy_20 (encK74_out _))<| .cons (.loadRA (out := [iW y_20.out.Split,rW β1 y_20.out.Kd encK74,rW β1 y_20.out.Lf eW]) (l1 rfl) (.t rfl) agg75 (le1 rfl) rfl)<| .cons (.call0 (bw := false) (l1 rfl) (ih (β1 := β1) (β2 := β1) (R74.mk y_20.out.Split y_20.out.Kd y_20.out.Lf) hy_21) (.cons (.t rfl) (.ren rfl) (.nil)) rfl)<| .cons (.not (l1 rfl) (.t rfl))<| ARun.nil _ _ _) ?_
     refine AWP.vc (s' := ⟨[(1,.ptr 1 0),(4,iW x_18),(71,bW (!y_21))],[(1,⟨75,false,[iW a0.Split,rW β1 a0.Kd encK74,rW β2 a0.Lf eW]⟩)]⟩) (VC.sub (.of rfl) (.of rfl)) ?_
     refine AWP.cond (.t rfl) (fun hc => ?_) (fun hc => ?_)
     ·have h := iteT hc h
      refine AWP.seq ?_
      refine AWP.rg (.cons (.assign (l1 rfl) (.const _ _ _))<| ARun.nil _ _ _) ?_
      refine AWP.ret ?_
      obtain rfl := Option.some.inj h
      refine retJ (Res.vc (s' := ⟨[(2,bW false)],[]⟩) (VC.sub (.of rfl) (.n _)) ?_)
      refine Res.drop (H := []) rfl ?_
      exact Res.of rfl (.cons (.tmp rfl) (.nil)) rfl rfl
     ·have h := iteF hc h
      refine AWP.skip ?_
      obtain ⟨t4_22,ht4_22,h⟩ := letS h
      refine AWP.rg (.cons (.move (l1 rfl) (.t rfl))<| .cons (.add (l1 rfl) (.t rfl) (.const _ _ _))<| .cons (.assign (l1 rfl) (.t rfl))<| ARun.nil _ _ _) ?_
      exact endJ t4_22 h (by subst ht4_22; exact VC.sub (.of rfl) (.of rfl))
    ·have h := iteF hc h
     refine AWP.exit ?_
     exact endJ () h (VC.sub (.n _) (.n _))
  ·refine AWP.vc (s' := ⟨[(1,.ptr 1 0),(3,iW (0 : Int))],[(1,⟨75,false,[iW a0.Split,rW β1 a0.Kd encK74,rW β2 a0.Lf eW]⟩)]⟩) (VC.sub (.of rfl) (.of rfl)) ?_
   refine AWP.loopM (S := fun x_7 : Int => ⟨[(1,.ptr 1 0),(3,iW x_7)],[(1,⟨75,false,[iW a0.Split,rW β1 a0.Kd encK74,rW β2 a0.Lf eW]⟩)]⟩) (x := (0 : Int)) (fun nx_8 x_7 h => ?_) h
   unfold m99_L1 at h
   refine AWP.seq ?_
   refine AWP.seq ?_
   refine AWP.rg (.cons (.move (l1 rfl) (.t rfl))<| .cons (.fieldP (l1 rfl) (.t rfl) fld75_2)<| .cons (.loadP (l1 rfl) (.t rfl) one28 rfl rfl rfl)<| .cons (.lenRd (l1 rfl) (.t rfl) Try.underlying28)<| .cons (.lss (l1 rfl) (.t rfl) (.t rfl))<| ARun.nil _ _ _) ?_
   refine AWP.vc (s' := ⟨[(1,.ptr 1 0),(3,iW x_7),(48,bW (decide (x_7 < (a0.Lf.length : Int))))],[(1,⟨75,false,[iW a0.Split,rW β1 a0.Kd encK74,rW β2 a0.Lf eW]⟩)]⟩) (VC.sub (.of rfl) (.of rfl)) ?_
   refine AWP.cond (.t rfl) (fun hc => ?_) (fun hc => ?_)
   ·have h := iteT hc h
    refine AWP.skip ?_
    refine AWP.seq ?_
    refine AWP.block ?_
    refine AWP.seq ?_
    obtain ⟨y_9,hy_9,h⟩ := bindS h
    obtain ⟨y_10,hy_10,h⟩ := bindS h
    refine AWP.rg (.cons (.fieldP (l1 rfl) (.t rfl) fld75_2)<| .cons (.loadP (l1 rfl) (.t rfl) one28 rfl rfl rfl)<| .cons (.move (l1 rfl) (.t rfl))<| .cons (.indexRd (enc := eW) (l1 rfl) (.t rfl) (.t rfl) Try.underlying28 sz3 (encI_len .i64) rfl hy_9)<| .cons (.loadR (v := iW y_9) (l1 rfl) (.t rfl) one3 rfl)<| .cons (.call0 (bw := false) (l1 rfl) (c109 n y_9 hy_10) (.cons (.t rfl) (.ren rfl) (.nil)) rfl)<| .cons (.not (l1 rfl) (.t rfl))<| ARun.nil _ _ _) ?_
    refine AWP.vc (s' := ⟨[(1,.ptr 1 0),(3,iW x_7),(57,bW (!y_10))],[(1,⟨75,false,[iW a0.Split,rW β1 a0.Kd encK74,rW β2 a0.Lf eW]⟩)]⟩) (VC.sub (.of rfl) (.of rfl)) ?_
    refine AWP.cond (.t rfl) (fun hc => ?_) (fun hc => ?_)
    ·have h := iteT hc h
     refine AWP.seq ?_
     refine AWP.rg (.cons (.assign (l1 rfl) (.const _ _ _))<| ARun.nil _ _ _) ?_
     refine AWP.ret ?_
     obtain rfl := Option.some.inj h
     refine retJ (Res.vc (s' := ⟨[(2,bW false)],[]⟩) (VC.sub (.of rfl) (.n _)) ?_)
     refine Res.drop (H := []) rfl ?_
     exact Res.of rfl (.cons (.tmp rfl) (.nil)) rfl rfl
    ·have h := iteF hc h
     refine AWP.skip ?_
     obtain ⟨t3_11,ht3_11,h⟩ := letS h
     refine AWP.rg (.cons (.move (l1 rfl) (.t rfl))<| .cons (.add (l1 rfl) (.t rfl) (.const _ _ _))<| .cons (.assign (l1 rfl) (.t rfl))<| ARun.nil _ _ _) ?_
     exact endJ t3_11 h (by subst ht3_11; exact VC.sub (.of rfl) (.of rfl))
   ·have h := iteF hc h
    refine AWP.exit ?_
    exact endJ () h (VC.sub (.of rfl) (.of rfl))
theorem c99 (n : Nat) {β1 : Bool} {β2 : Bool} (a0 : R74) {r : Bool} (h : m99 n a0 = some r) : Spec Try.prog 99 [] [.agg [iW a0.Split,rW β1 a0.Kd encK74,rW β2 a0.Lf eW]] [] (bW r) [] := c99F n n a0 h
theorem c100F (n : Nat) : ∀ (f : Nat) {β1 : Bool} {β2 : Bool} (a0 : R74) {r : Int},m100F n f a0 = some r → Spec Try.prog 100 [] [.agg [iW a0.Split,rW β1 a0.Kd encK74,rW β2 a0.Lf eW]] [] (iW r) [] := by
 intro f
 induction f with
 | zero =>
  intro β1 β2 a0 r h
  cases (show (none : Option Int) = some r from h)
 | succ f ih =>
 intro β1 β2 a0 r h
 replace h : m100B n (m100F n f) a0 = some r := h
 generalize m100F n f = rc_0 at h ih
 refine Spec.of (fn := Try.f100) Try.func100 Try.ntmps100 rfl rfl (le1 rfl) (fun w0 Zs Zb T0 ι0 => ?_)
 unfold m100B at h
 refine AWP.seq ?_
 refine AWP.rg (.cons (.box (t := 1) (n := 3) (l1 rfl) (nm rfl) (.t rfl) (by first | exact ⟨rfl,rfl⟩ | rfl) rfl)<| .cons (.assign (l1 rfl) (.const _ _ _))<| ARun.nil _ _ _) ?_
 refine AWP.vc (s' := ⟨[(1,.ptr 1 0)],[(1,⟨75,false,[iW a0.Split,rW β1 a0.Kd encK74,rW β2 a0.Lf eW]⟩)]⟩) (VC.sub (.of rfl) (.of rfl)) ?_
 refine AWP.seq ?_
 refine AWP.rg (.cons (.assign (l1 rfl) (.const _ _ _))<| ARun.nil _ _ _) ?_
 refine AWP.vc (s' := ⟨[(1,.ptr 1 0),(3,iW (0 : Int))],[(1,⟨75,false,[iW a0.Split,rW β1 a0.Kd encK74,rW β2 a0.Lf eW]⟩)]⟩) (VC.sub (.of rfl) (.of rfl)) ?_
 refine AWP.seq ?_
 refine AWP.seq ?_
 refine AWP.rg (.cons (.assign (l1 rfl) (.const _ _ _))<| ARun.nil _ _ _) ?_
 refine AWP.vc (s' := ⟨[(1,.ptr 1 0),(3,iW (0 : Int)),(4,iW (0 : Int))],[(1,⟨75,false,[iW a0.Split,rW β1 a0.Kd encK74,rW β2 a0.Lf eW]⟩)]⟩) (VC.sub (.of rfl) (.of rfl)) ?_
 refine AWP.joinB' (S := fun p_12 : Int => ⟨[(3,iW p_12)],[]⟩) h (fun p_12 h => ?_) (fun k_13 h => ?_)
 ·refine AWP.seq ?_
  obtain ⟨t2_14,ht2_14,h⟩ := letS h
  refine AWP.rg (.cons (.move (l1 rfl) (.t rfl))<| .cons (.add (l1 rfl) (.t rfl) (.const _ _ _))<| .cons (.assign (l1 rfl) (.t rfl))<| ARun.nil _ _ _) ?_
  refine AWP.ret ?_
  obtain rfl := Option.some.inj h
  refine retJ (Res.vc (s' := ⟨[(2,iW t2_14)],[]⟩) (by subst ht2_14; exact VC.sub (.of rfl) (.n _)) ?_)
  refine Res.drop (H := []) rfl ?_
  exact Res.of rfl (.cons (.tmp rfl) (.nil)) rfl rfl
 ·refine AWP.vc (s' := ⟨[(1,.ptr 1 0),(3,iW (0 : Int)),(4,iW (0 : Int))],[(1,⟨75,false,[iW a0.Split,rW β1 a0.Kd encK74,rW β2 a0.Lf eW]⟩)]⟩) (VC.sub (.of rfl) (.of rfl)) ?_
  refine AWP.loopM (S := fun x_6 : Int × Int => ⟨[(1,.ptr 1 0),(3,iW x_6.1),(4,iW x_6.2)],[(1,⟨75,false,[iW a0.Split,rW β1 a0.Kd encK74,rW β2 a0.Lf eW]⟩)]⟩) (x := ((0 : Int),(0 : Int))) (fun nx_7 x_6 h => ?_) h
  unfold m100_L1 at h
  refine AWP.seq ?_
  refine AWP.seq ?_
  refine AWP.rg (.cons (.move (l1 rfl) (.t rfl))<| .cons (.fieldP (l1 rfl) (.t rfl) fld75_1)<| .cons (.loadP (l1 rfl) (.t rfl) one73 rfl rfl rfl)<| .cons (.lenRd (l1 rfl) (.t rfl) Try.underlying73)<| .cons (.lss (l1 rfl) (.t rfl) (.t rfl))<| ARun.nil _ _ _) ?_
  refine AWP.vc (s' := ⟨[(1,.ptr 1 0),(3,iW x_6.1),(4,iW x_6.2),(9,bW (decide (x_6.2 < (a0.Kd.length : Int))))],[(1,⟨75,false,[iW a0.Split,rW β1 a0.Kd encK74,rW β2 a0.Lf eW]⟩)]⟩) (VC.sub (.of rfl) (.of rfl)) ?_
  refine AWP.cond (.t rfl) (fun hc => ?_) (fun hc => ?_)
  ·have h := iteT hc h
   refine AWP.skip ?_
   refine AWP.seq ?_
   refine AWP.block ?_
   obtain ⟨y_8,hy_8,h⟩ := bindS h
   obtain ⟨y_9,hy_9,h⟩ := bindS h
   obtain ⟨t3_10,ht3_10,h⟩ := letS h
   refine AWP.rg (.cons (.move (l1 rfl) (.t rfl))<| .cons (.fieldP (l1 rfl) (.t rfl) fld75_1)<| .cons (.loadP (l1 rfl) (.t rfl) one73 rfl rfl rfl)<| .cons (.move (l1 rfl) (.t rfl))<| .cons (.indexRdC (enc := encK74) (l1 rfl) (.t rfl) (.t rfl) Try.underlying73 sz75 encK74_len rfl hy_8 (encK74_out _))<| .cons (.loadRA (out := [iW y_8.out.Split,rW β1 y_8.out.Kd encK74,rW β1 y_8.out.Lf eW]) (l1 rfl) (.t rfl) agg75 (le1 rfl) rfl)<| .cons (.call0 (bw := false) (l1 rfl) (ih (β1 := β1) (β2 := β1) (R74.mk y_8.out.Split y_8.out.Kd y_8.out.Lf) hy_9) (.cons (.t rfl) (.ren rfl) (.nil)) rfl)<| .cons (.max2 (l1 rfl) (.t rfl) (.t rfl))<| .cons (.assign (l1 rfl) (.t rfl))<| ARun.nil _ _ _) ?_
   refine AWP.vc (s' := ⟨[(1,.ptr 1 0),(3,iW t3_10),(4,iW x_6.2)],[(1,⟨75,false,[iW a0.Split,rW β1 a0.Kd encK74,rW β2 a0.Lf eW]⟩)]⟩) (by subst ht3_10; exact VC.sub (.of rfl) (.of rfl)) ?_
   obtain ⟨t4_11,ht4_11,h⟩ := letS h
   refine AWP.rg (.cons (.move (l1 rfl) (.t rfl))<| .cons (.add (l1 rfl) (.t rfl) (.const _ _ _))<| .cons (.assign (l1 rfl) (.t rfl))<| ARun.nil _ _ _) ?_
   exact endJ (t3_10,t4_11) h (by subst ht4_11; exact VC.sub (.of rfl) (.of rfl))
  ·have h := iteF hc h
   refine AWP.exit ?_
   exact endJ x_6.1 h (VC.sub (.of rfl) (.n _))
theorem c100 (n : Nat) {β1 : Bool} {β2 : Bool} (a0 : R74) {r : Int} (h : m100 n a0 = some r) : Spec Try.prog 100 [] [.agg [iW a0.Split,rW β1 a0.Kd encK74,rW β2 a0.Lf eW]] [] (iW r) [] := c100F n n a0 h
theorem c76 {β1 : Bool} {β2 : Bool} (n : Nat) (a0 : R74) {r : Bool} (h : m76 n a0 = some r) : Spec Try.prog 76 [] [.agg [iW a0.Split,rW β1 a0.Kd encK74,rW β2 a0.Lf eW]] [] (bW r) [] := by
 refine Spec.of (fn := Try.f76) Try.func76 Try.ntmps76 rfl rfl (le1 rfl) (fun w0 Zs Zb T0 ι0 => ?_)
 unfold m76 at h
 refine AWP.seq ?_
 refine AWP.rg (.cons (.box (t := 1) (n := 3) (l1 rfl) (nm rfl) (.t rfl) (by first | exact ⟨rfl,rfl⟩ | rfl) rfl)<| .cons (.assign (l1 rfl) (.const _ _ _))<| ARun.nil _ _ _) ?_
 refine AWP.vc (s' := ⟨[(1,.ptr 1 0)],[(1,⟨75,false,[iW a0.Split,rW β1 a0.Kd encK74,rW β2 a0.Lf eW]⟩)]⟩) (VC.sub (.of rfl) (.of rfl)) ?_
 refine AWP.seq ?_
 obtain ⟨y_1,hy_1,h⟩ := bindS h
 obtain ⟨y_2,hy_2,h⟩ := bindS h
 obtain ⟨y_3,hy_3,h⟩ := bindS h
 refine AWP.rg (.cons (.loadPA (l1 rfl) (.t rfl) agg75 rfl rfl rfl rfl)<| .cons (.call0 (bw := false) (l1 rfl) (c99 (β1 := β1) (β2 := β2) n (R74.mk a0.Split a0.Kd a0.Lf) hy_1) (.cons (.t rfl) (.ren rfl) (.nil)) rfl)<| .cons (.move (l1 rfl) (.t rfl))<| .guard (j := 2) (dj := 5) rfl (l1 rfl) rfl (l1 rfl) (fun hg => .loadPA (l1 rfl) (.t rfl) agg75 rfl rfl rfl rfl)<| .guard (j := 2) (dj := 5) rfl (l1 rfl) rfl (l1 rfl) (fun hg => .call0 (bw := false) (l1 rfl) (c74 (β1 := β1) (β2 := β2) n (R74.mk a0.Split a0.Kd a0.Lf) (gdB hy_2 hg)) (.cons (.gd hg (.t rfl)) (.ren rfl) (.nil)) rfl)<| .guard (j := 2) (dj := 5) rfl (l1 rfl) rfl (l1 rfl) (fun hg => .leq (l1 rfl) (.gd hg (.t rfl)) (.const _ _ _))<| .cons (.pickAnd (l1 rfl) (.t rfl) (.t rfl) (.const _ _ _))<| .cons (.move (l1 rfl) (.t rfl))<| .guard (j := 7) (dj := 10) rfl (l1 rfl) rfl (l1 rfl) (fun hg => .loadPA (l1 rfl) (.t rfl) agg75 rfl rfl rfl rfl)<| .guard (j := 7) (dj := 10) rfl (l1 rfl) rfl (l1 rfl) (fun hg => .call0 (bw := false) (l1 rfl) (c100 (β1 := β1) (β2 := β2) n (R74.mk a0.Split a0.Kd a0.Lf) (gdB hy_3 hg)) (.cons (.gd hg (.t rfl)) (.ren rfl) (.nil)) rfl)<| .guard (j := 7) (dj := 10) rfl (l1 rfl) rfl (l1 rfl) (fun hg => .leq (l1 rfl) (.gd hg (.t rfl)) (.const _ _ _))<| .cons (.pickAnd (l1 rfl) (.t rfl) (.t rfl) (.const _ _ _))<| .cons (.assign (l1 rfl) (.t rfl))<| ARun.nil _ _ _) ?_
 refine AWP.ret ?_
 obtain rfl := Option.some.inj h
 refine retJ (Res.vc (s' := ⟨[(2,bW ((y_1 && (decide (y_2 ≤ (2000 : Int)))) && (decide (y_3 ≤ (40 : Int)))))],[]⟩) (VC.sub (.of rfl) (.n _)) ?_)
 refine Res.drop (H := []) rfl ?_
 exact Res.of rfl (.cons (.tmp rfl) (.nil)) rfl rfl
theorem c77F (n : Nat) : ∀ (f : Nat) {β3 : Bool} {β4 : Bool} {β5 : Bool} (a0 : R52) (a1 : R74) {r : ((List Int) × Bool)},m77F n f a0 a1 = some r → Spec Try.prog 77 [] [.agg (gW false false β3 a0.Gq a0.Path a0.Ln),.agg [iW a1.Split,rW β4 a1.Kd encK74,rW β5 a1.Lf eW]] [] (.tup [rW false r.1 eW,bW r.2]) [] := by
 intro f
 induction f with
 | zero =>
  intro β3 β4 β5 a0 a1 r h
  cases (show (none : Option ((List Int) × Bool)) = some r from h)
 | succ f ih =>
 intro β3 β4 β5 a0 a1 r h
 replace h : m77B n (m77F n f) a0 a1 = some r := h
 generalize m77F n f = rc_0 at h ih
 refine Spec.of (fn := Try.f77) Try.func77 Try.ntmps77 rfl rfl (le1 rfl) (fun w0 Zs Zb T0 ι0 => ?_)
 unfold m77B at h
 refine AWP.seq ?_
 refine AWP.rg (.cons (.box (t := 1) (n := 4) (l1 rfl) (nm rfl) (.t rfl) (by first | exact ⟨rfl,rfl⟩ | rfl) rfl)<| .cons (.box (t := 2) (n := 3) (l1 rfl) (nm rfl) (.t rfl) (by first | exact ⟨rfl,rfl⟩ | rfl) rfl)<| .cons (.assign (l1 rfl) (.const _ _ _))<| .cons (.assign (l1 rfl) (.const _ _ _))<| ARun.nil _ _ _) ?_
 refine AWP.vc (s' := ⟨[(2,.ptr 1 0),(3,.ptr 2 0)],[(2,⟨75,false,[iW a1.Split,rW β4 a1.Kd encK74,rW β5 a1.Lf eW]⟩),(1,⟨53,false,(gW false false β3 a0.Gq a0.Path a0.Ln)⟩)]⟩) (VC.sub (.of rfl) (.of rfl)) ?_
 refine AWP.seq ?_
 refine AWP.seq ?_
 refine AWP.rg (.cons (.fieldP (l1 rfl) (.t rfl) fld75_1)<| .cons (.loadP (l1 rfl) (.t rfl) one73 rfl rfl rfl)<| .cons (.lenRd (l1 rfl) (.t rfl) Try.underlying73)<| .cons (.eql (l1 rfl) (.t rfl) (.const _ _ _))<| ARun.nil _ _ _) ?_
 refine AWP.vc (s' := ⟨[(2,.ptr 1 0),(3,.ptr 2 0),(14,bW (decide ((a1.Kd.length : Int) = (0 : Int))))],[(2,⟨75,false,[iW a1.Split,rW β4 a1.Kd encK74,rW β5 a1.Lf eW]⟩),(1,⟨53,false,(gW false false β3 a0.Gq a0.Path a0.Ln)⟩)]⟩) (VC.sub (.of rfl) (.of rfl)) ?_
 refine AWP.cond (.t rfl) (fun hc => ?_) (fun hc => ?_)
 ·have h := iteT hc h
  refine AWP.seq ?_
  obtain ⟨y_1,hy_1,h⟩ := bindS h
  refine AWP.rg (.cons (.loadPA (l1 rfl) (.t rfl) agg53 rfl rfl rfl rfl)<| .cons (.fieldP (l1 rfl) (.t rfl) fld75_2)<| .cons (.loadP (l1 rfl) (.t rfl) one28 rfl rfl rfl)<| .cons (.call0 (bw := false) (l1 rfl) (c28 (β1 := false) (β2 := false) (β3 := β3) (β4 := β5) n (R52.mk (R24.mk a0.Gq.Pq a0.Gq.Bq) a0.Path a0.Ln) a1.Lf hy_1) (.cons (.t rfl) (.ren rfl) (.cons (.t rfl) (.ren rfl) (.nil))) rfl)<| .cons (.not (l1 rfl) (.t rfl))<| .cons (.assign (l1 rfl) (.const _ _ _))<| .cons (.assign (l1 rfl) (.t rfl))<| ARun.nil _ _ _) ?_
  refine AWP.ret ?_
  obtain rfl := Option.some.inj h
  refine retJ (Res.vc (s' := ⟨[(4,rW false ([] : List Int) eW),(5,bW (!y_1))],[]⟩) (VC.trans (VC.nilRd (d := 4) false rfl) (VC.sub (.of rfl) (.n _))) ?_)
  refine Res.drop (H := []) rfl ?_
  exact Res.of rfl (.cons (.tmp rfl) (.cons (.tmp rfl) (.nil))) rfl rfl
 ·have h := iteF hc h
  refine AWP.skip ?_
  refine AWP.seq ?_
  obtain ⟨y_2,hy_2,h⟩ := bindS h
  refine AWP.rg (.cons (.loadPA (l1 rfl) (.t rfl) agg53 rfl rfl rfl rfl)<| .cons (.fieldP (l1 rfl) (.t rfl) fld75_0)<| .cons (.loadP (l1 rfl) (.t rfl) one3 rfl rfl rfl)<| .cons (.call0 (bw := false) (l1 rfl) (c26 (β3 := β3) n (R52.mk (R24.mk a0.Gq.Pq a0.Gq.Bq) a0.Path a0.Ln) a1.Split hy_2) (.cons (.t rfl) (.ren rfl) (.cons (.t rfl) (.ren rfl) (.nil))) rfl)<| .cons (.move (l1 rfl) (.t rfl))<| .cons (.extract (l1 rfl) (.t rfl) rfl)<| .cons (.extract (l1 rfl) (.t rfl) rfl)<| .cons (.assign (l1 rfl) (.t rfl))<| .cons (.assign (l1 rfl) (.t rfl))<| ARun.nil _ _ _) ?_
  refine AWP.vc (s' := ⟨[(3,.ptr 2 0),(6,rW false y_2.1 encR52),(7,bW y_2.2)],[(2,⟨75,false,[iW a1.Split,rW β4 a1.Kd encK74,rW β5 a1.Lf eW]⟩)]⟩) (VC.sub (.of rfl) (.of rfl)) ?_
  refine AWP.seq ?_
  refine AWP.seq ?_
  refine AWP.rg (.cons (.move (l1 rfl) (.t rfl))<| .cons (.not (l1 rfl) (.t rfl))<| .cons (.move (l1 rfl) (.t rfl))<| .guard (j := 2) (dj := 29) rfl (l1 rfl) rfl (l1 rfl) (fun hg => .move (l1 rfl) (.t rfl))<| .guard (j := 2) (dj := 29) rfl (l1 rfl) rfl (l1 rfl) (fun hg => .lenRd (l1 rfl) (.gd hg (.t rfl)) Try.underlying60)<| .guard (j := 2) (dj := 29) rfl (l1 rfl) rfl (l1 rfl) (fun hg => .fieldP (l1 rfl) (.t rfl) fld75_1)<| .guard (j := 2) (dj := 29) rfl (l1 rfl) rfl (l1 rfl) (fun hg => .loadP (l1 rfl) (.gd hg (.t rfl)) one73 rfl rfl rfl)<| .guard (j := 2) (dj := 29) rfl (l1 rfl) rfl (l1 rfl) (fun hg => .lenRd (l1 rfl) (.gd hg (.t rfl)) Try.underlying73)<| .guard (j := 2) (dj := 29) rfl (l1 rfl) rfl (l1 rfl) (fun hg => .neq (l1 rfl) (.gd hg (.t rfl)) (.gd hg (.t rfl)))<| .cons (.pickOr (l1 rfl) (.t rfl) (.const _ _ _) (.t rfl))<| ARun.nil _ _ _) ?_
  refine AWP.vc (s' := ⟨[(3,.ptr 2 0),(6,rW false y_2.1 encR52),(36,bW ((!y_2.2) || (!decide ((y_2.1.length : Int) = (a1.Kd.length : Int)))))],[(2,⟨75,false,[iW a1.Split,rW β4 a1.Kd encK74,rW β5 a1.Lf eW]⟩)]⟩) (VC.sub (.of rfl) (.of rfl)) ?_
  refine AWP.cond (.t rfl) (fun hc => ?_) (fun hc => ?_)
  ·have h := iteT hc h
   refine AWP.seq ?_
   refine AWP.rg (.cons (.assign (l1 rfl) (.const _ _ _))<| .cons (.assign (l1 rfl) (.const _ _ _))<| ARun.nil _ _ _) ?_
   refine AWP.ret ?_
   obtain rfl := Option.some.inj h
   refine retJ (Res.vc (s' := ⟨[(4,rW false ([] : List Int) eW),(5,bW true)],[]⟩) (VC.trans (VC.nilRd (d := 4) false rfl) (VC.sub (.of rfl) (.n _))) ?_)
   refine Res.drop (H := []) rfl ?_
   exact Res.of rfl (.cons (.tmp rfl) (.cons (.tmp rfl) (.nil))) rfl rfl
  ·have h := iteF hc h
   refine AWP.skip ?_
   refine AWP.seq ?_
   refine AWP.seq ?_
   refine AWP.rg (.cons (.assign (l1 rfl) (.const _ _ _))<| ARun.nil _ _ _) ?_
   refine AWP.vc (s' := ⟨[(3,.ptr 2 0),(6,rW false y_2.1 encR52),(8,iW (0 : Int))],[(2,⟨75,false,[iW a1.Split,rW β4 a1.Kd encK74,rW β5 a1.Lf eW]⟩)]⟩) (VC.sub (.of rfl) (.of rfl)) ?_
   refine AWP.joinB' (S := fun p_16 : Unit => ⟨[],[]⟩) h (fun p_16 h => ?_) (fun k_17 h => ?_)
   ·refine AWP.seq ?_
    refine AWP.rg (.cons (.assign (l1 rfl) (.const _ _ _))<| .cons (.assign (l1 rfl) (.const _ _ _))<| ARun.nil _ _ _) ?_
    refine AWP.ret ?_
    obtain rfl := Option.some.inj h
    refine retJ (Res.vc (s' := ⟨[(4,rW false ([] : List Int) eW),(5,bW false)],[]⟩) (VC.trans (VC.nilRd (d := 4) false rfl) (VC.sub (.of rfl) (.n _))) ?_)
    refine Res.drop (H := []) rfl ?_
    exact Res.of rfl (.cons (.tmp rfl) (.cons (.tmp rfl) (.nil))) rfl rfl
   ·refine AWP.vc (s' := ⟨[(3,.ptr 2 0),(6,rW false y_2.1 encR52),(8,iW (0 : Int))],[(2,⟨75,false,[iW a1.Split,rW β4 a1.Kd encK74,rW β5 a1.Lf eW]⟩)]⟩) (VC.sub (.of rfl) (.of rfl)) ?_
    refine AWP.loopM (S := fun x_9 : Int => ⟨[(3,.ptr 2 0),(6,rW false y_2.1 encR52),(8,iW x_9)],[(2,⟨75,false,[iW a1.Split,rW β4 a1.Kd encK74,rW β5 a1.Lf eW]⟩)]⟩) (x := (0 : Int)) (fun nx_10 x_9 h => ?_) h
    unfold m77_L1 at h
    refine AWP.seq ?_
    refine AWP.seq ?_
    refine AWP.rg (.cons (.move (l1 rfl) (.t rfl))<| .cons (.move (l1 rfl) (.t rfl))<| .cons (.lenRd (l1 rfl) (.t rfl) Try.underlying60)<| .cons (.lss (l1 rfl) (.t rfl) (.t rfl))<| ARun.nil _ _ _) ?_
    refine AWP.vc (s' := ⟨[(3,.ptr 2 0),(6,rW false y_2.1 encR52),(8,iW x_9),(40,bW (decide (x_9 < (y_2.1.length : Int))))],[(2,⟨75,false,[iW a1.Split,rW β4 a1.Kd encK74,rW β5 a1.Lf eW]⟩)]⟩) (VC.sub (.of rfl) (.of rfl)) ?_
    refine AWP.cond (.t rfl) (fun hc => ?_) (fun hc => ?_)
    ·have h := iteT hc h
     refine AWP.skip ?_
     refine AWP.seq ?_
     refine AWP.block ?_
     refine AWP.seq ?_
     obtain ⟨y_11,hy_11,h⟩ := bindS h
     obtain ⟨y_12,hy_12,h⟩ := bindS h
     obtain ⟨y_13,hy_13,h⟩ := bindS h
     refine AWP.draw (s' := ⟨[(3,.ptr 2 0),(6,rW false y_2.1 encR52),(8,iW x_9),(9,rW false y_13.1 eW),(10,bW y_13.2)],[(2,⟨75,false,[iW a1.Split,rW β4 a1.Kd encK74,rW β5 a1.Lf eW]⟩)]⟩) mixed [⟨3,.ptr 2 0,none,[]⟩,⟨6,rW false y_2.1 encR52,none,[]⟩,⟨8,iW x_9,none,[]⟩,⟨40,bW (decide (x_9 < (y_2.1.length : Int))),none,[]⟩,⟨44,rW false y_2.1 encR52,some 0,[]⟩,⟨45,iW x_9,some 1,[]⟩,⟨46,.rptr false (gW false false false y_11.Gq y_11.Path y_11.Ln),some 2,[]⟩,⟨47,.agg (gW false false false y_11.Gq y_11.Path y_11.Ln),some 3,[]⟩,⟨48,.ptr 2 (0 + 1),some 4,[]⟩,⟨49,rW β4 a1.Kd encK74,some 5,[]⟩,⟨50,iW x_9,some 6,[]⟩,⟨51,.rptr β4 [iW y_12.out.Split,rW false y_12.out.Kd encK74,rW false y_12.out.Lf eW],some 7,[]⟩,⟨52,.agg [iW y_12.out.Split,rW β4 y_12.out.Kd encK74,rW β4 y_12.out.Lf eW],some 8,[]⟩,⟨53,.tup [rW false y_13.1 eW,bW y_13.2],some 9,[]⟩,⟨43,.tup [rW false y_13.1 eW,bW y_13.2],some 10,[]⟩,⟨54,rW false y_13.1 eW,some 11,[]⟩,⟨55,bW y_13.2,some 12,[]⟩,⟨9,rW false y_13.1 eW,some 13,[]⟩,⟨10,bW y_13.2,some 14,[]⟩] [⟨[1],0,0,some (44,rW false y_2.1 encR52),[]⟩,⟨[2],0,0,some (45,iW x_9),[]⟩,⟨[4,5],0,0,some (46,.rptr false (gW false false false y_11.Gq y_11.Path y_11.Ln)),[]⟩,⟨[6],0,0,some (47,.agg (gW false false false y_11.Gq y_11.Path y_11.Ln)),[]⟩,⟨[0],0,0,some (48,.ptr 2 (0 + 1)),[]⟩,⟨[8],0,0,some (49,rW β4 a1.Kd encK74),[]⟩,⟨[2],0,0,some (50,iW x_9),[]⟩,⟨[9,10],0,0,some (51,.rptr β4 [iW y_12.out.Split,rW false y_12.out.Kd encK74,rW false y_12.out.Lf eW]),[]⟩,⟨[11],0,0,some (52,.agg [iW y_12.out.Split,rW β4 y_12.out.Kd encK74,rW β4 y_12.out.Lf eW]),[]⟩,⟨[7,12],0,0,some (53,.tup [rW false y_13.1 eW,bW y_13.2]),[]⟩,⟨[13],0,0,some (43,.tup [rW false y_13.1 eW,bW y_13.2]),[]⟩,⟨[14],0,0,some (54,rW false y_13.1 eW),[]⟩,⟨[14],0,0,some (55,bW y_13.2),[]⟩,⟨[15],0,0,some (9,rW false y_13.1 eW),[]⟩,⟨[16],0,0,some (10,bW y_13.2),[]⟩] [] [[(2,⟨75,false,[iW a1.Split,rW β4 a1.Kd encK74,rW β5 a1.Lf eW]⟩)]] [[],[],[0,1],[0,1,2],[],[4],[],[4,5,6],[4,5,6,7],[0,1,2,3,4,5,6,7,8],[0,1,2,3,4,5,6,7,8,9],[0,1,2,3,4,5,6,7,8,9,10],[0,1,2,3,4,5,6,7,8,9,10],[0,1,2,3,4,5,6,7,8,9,10,11],[0,1,2,3,4,5,6,7,8,9,10,11,12,13]] (by kernel_rfl) (by kernel_rfl) (BornL.ok (.o<| .o<| .o<| .o<| .b rfl rfl<| .b rfl rfl<| .b rfl rfl<| .b rfl rfl<| .b rfl rfl<| .b rfl rfl<| .b rfl rfl<| .b rfl rfl<| .b rfl rfl<| .b rfl rfl<| .b rfl rfl<| .b rfl rfl<| .b rfl rfl<| .b rfl rfl<| .b rfl rfl<| .n)) (BaseL.ok (.o rfl<| .o rfl<| .o rfl<| .o rfl<| .b<| .b<| .b<| .b<| .b<| .b<| .b<| .b<| .b<| .b<| .b<| .b<| .b<| .b<| .b<| .n)) rfl (by decide) (allLt rfl) (.pure rfl (fun H => .put (fun E hE => .move (l1 rfl) (.tmp (hE.at (k := 0) rfl))))<| .pure rfl (fun H => .put (fun E hE => .move (l1 rfl) (.tmp (hE.at (k := 0) rfl))))<| .pure rfl (fun H => .put (fun E hE => .indexRd (enc := encR52) (l1 rfl) (.tmp (hE.at (k := 0) rfl)) (.tmp (hE.at (k := 1) rfl)) Try.underlying60 sz53 encR52_len rfl hy_11))<| .pure rfl (fun H => .put (fun E hE => .loadRA (out := (gW false false false y_11.Gq y_11.Path y_11.Ln)) (l1 rfl) (.tmp (hE.at (k := 0) rfl)) agg53 (Nat.le_of_eq (Eq.symm (encR52_len _))) rfl))<| .read rfl (.c (.put (fun E hE => .fieldP (l1 rfl) (.tmp (hE.at (k := 0) rfl)) fld75_1)) .n)<| .read rfl (.c (.put (fun E hE => .loadP (l1 rfl) (.tmp (hE.at (k := 0) rfl)) one73 rfl rfl rfl)) .n)<| .pure rfl (fun H => .put (fun E hE => .move (l1 rfl) (.tmp (hE.at (k := 0) rfl))))<| .pure rfl (fun H => .put (fun E hE => .indexRdC (enc := encK74) (l1 rfl) (.tmp (hE.at (k := 0) rfl)) (.tmp (hE.at (k := 1) rfl)) Try.underlying73 sz75 encK74_len rfl hy_12 (encK74_out _)))<| .pure rfl (fun H => .put (fun E hE => .loadRA (out := [iW y_12.out.Split,rW β4 y_12.out.Kd encK74,rW β4 y_12.out.Lf eW]) (l1 rfl) (.tmp (hE.at (k := 0) rfl)) agg75 (le1 rfl) rfl))<| .pure rfl (fun H => .put (fun E hE => .call0 (bw := false) (l1 rfl) (ih (β3 := false) (β4 := β4) (β5 := β4) (R52.mk (R24.mk y_11.Gq.Pq y_11.Gq.Bq) y_11.Path y_11.Ln) (R74.mk y_12.out.Split y_12.out.Kd y_12.out.Lf) hy_13) (.cons (.tmp (hE.at (k := 0) rfl)) (.ren rfl) (.cons (.tmp (hE.at (k := 1) rfl)) (.ren rfl) (.nil))) rfl))<| .pure rfl (fun H => .put (fun E hE => .move (l1 rfl) (.tmp (hE.at (k := 0) rfl))))<| .pure rfl (fun H => .put (fun E hE => .extract (l1 rfl) (.tmp (hE.at (k := 0) rfl)) rfl))<| .pure rfl (fun H => .put (fun E hE => .extract (l1 rfl) (.tmp (hE.at (k := 0) rfl)) rfl))<| .pure rfl (fun H => .put (fun E hE => .assign (l1 rfl) (.tmp (hE.at (k := 0) rfl))))<| .pure rfl (fun H => .put (fun E hE => .assign (l1 rfl) (.tmp (hE.at (k := 0) rfl))))<| .nil _) (fun E hE => .c (DInv.at hE (k := 0) rfl rfl rfl)<| .c (DInv.at hE (k := 1) rfl rfl rfl)<| .c (DInv.at hE (k := 2) rfl rfl rfl)<| .c (DInv.at hE (k := 17) rfl rfl rfl)<| .c (DInv.at hE (k := 18) rfl rfl rfl)<| .n _) rfl ?_
     refine AWP.vc (s' := ⟨[(3,.ptr 2 0),(6,rW false y_2.1 encR52),(8,iW x_9),(9,rW false y_13.1 eW),(10,bW y_13.2)],[(2,⟨75,false,[iW a1.Split,rW β4 a1.Kd encK74,rW β5 a1.Lf eW]⟩)]⟩) (VC.sub (.of rfl) (.of rfl)) ?_
     refine AWP.seq ?_
     refine AWP.rg (.cons (.move (l1 rfl) (.t rfl))<| ARun.nil _ _ _) ?_
     refine AWP.vc (s' := ⟨[(3,.ptr 2 0),(6,rW false y_2.1 encR52),(8,iW x_9),(9,rW false y_13.1 eW),(56,bW y_13.2)],[(2,⟨75,false,[iW a1.Split,rW β4 a1.Kd encK74,rW β5 a1.Lf eW]⟩)]⟩) (VC.sub (.of rfl) (.of rfl)) ?_
     refine AWP.cond (.t rfl) (fun hc => ?_) (fun hc => ?_)
     ·have h := iteT hc h
      refine AWP.seq ?_
      obtain ⟨l3_14,hl3_14,h⟩ := bindS h
      refine AWP.rg (.cons (.move (l1 rfl) (.t rfl))<| .cons (.buildSlice (t := 3) (out := ([x_9] : List Int).flatMap eW) (l1 rfl) (nm rfl) (.cons (.t rfl) (by first | exact ⟨rfl,rfl⟩ | rfl) (.nil)) Try.underlying28 zero3 el3 (by decide) (by decide) rfl (still_all (encI_still .i64) _))<| .cons (.move (l1 rfl) (.t rfl))<| .cons (.app (enc := eW) (l1 rfl) (nm rfl) (.t rfl) (Src.rd (.t rfl) (flatMap_length (encI_len .i64) _) (one_all (encI_one .i64) _) (.inl rfl)) Try.underlying28 ⟨_,Try.underlying28,by intro k hk; cases hk⟩ el3 rfl (encI_len .i64) rfl rfl (by decide) hl3_14)<| .cons (.assign (l1 rfl) (.t rfl))<| .cons (.assign (l1 rfl) (.const _ _ _))<| ARun.nil _ _ _) ?_
      refine AWP.ret ?_
      obtain rfl := Option.some.inj h
      refine retJ (Res.vc (s' := ⟨[(4,rW false l3_14 eW),(5,bW true)],[]⟩) (VC.trans (VC.frz (d := 4) (t := 3) rfl rfl (encI_len .i64)) (VC.sub (.of rfl) (.n _))) ?_)
      refine Res.drop (H := []) rfl ?_
      exact Res.of rfl (.cons (.tmp rfl) (.cons (.tmp rfl) (.nil))) rfl rfl
     ·have h := iteF hc h
      refine AWP.skip ?_
      obtain ⟨t8_15,ht8_15,h⟩ := letS h
      refine AWP.rg (.cons (.move (l1 rfl) (.t rfl))<| .cons (.add (l1 rfl) (.t rfl) (.const _ _ _))<| .cons (.assign (l1 rfl) (.t rfl))<| ARun.nil _ _ _) ?_
      exact endJ t8_15 h (by subst ht8_15; exact VC.sub (.of rfl) (.of rfl))
    ·have h := iteF hc h
     refine AWP.exit ?_
     exact endJ () h (VC.sub (.n _) (.n _))
theorem c77 (n : Nat) {β3 : Bool} {β4 : Bool} {β5 : Bool} (a0 : R52) (a1 : R74) {r : ((List Int) × Bool)} (h : m77 n a0 a1 = some r) : Spec Try.prog 77 [] [.agg (gW false false β3 a0.Gq a0.Path a0.Ln),.agg [iW a1.Split,rW β4 a1.Kd encK74,rW β5 a1.Lf eW]] [] (.tup [rW false r.1 eW,bW r.2]) [] := c77F n n a0 a1 h
theorem c42 {β3 : Bool} {β4 : Bool} {β5 : Bool} (n : Nat) (a0 : R52) (a1 : R74) {r : ((List Int) × Int)} (h : m42 n a0 a1 = some r) : Spec Try.prog 42 [] [.agg (gW false false β3 a0.Gq a0.Path a0.Ln),.agg [iW a1.Split,rW β4 a1.Kd encK74,rW β5 a1.Lf eW]] [] (.tup [rW false r.1 eW,iW r.2]) [] := by
 refine Spec.of (fn := Try.f42) Try.func42 Try.ntmps42 rfl rfl (le1 rfl) (fun w0 Zs Zb T0 ι0 => ?_)
 unfold m42 at h
 refine AWP.seq ?_
 refine AWP.rg (.cons (.box (t := 1) (n := 4) (l1 rfl) (nm rfl) (.t rfl) (by first | exact ⟨rfl,rfl⟩ | rfl) rfl)<| .cons (.box (t := 2) (n := 3) (l1 rfl) (nm rfl) (.t rfl) (by first | exact ⟨rfl,rfl⟩ | rfl) rfl)<| .cons (.assign (l1 rfl) (.const _ _ _))<| .cons (.assign (l1 rfl) (.const _ _ _))<| ARun.nil _ _ _) ?_
 refine AWP.vc (s' := ⟨[(2,.ptr 1 0),(3,.ptr 2 0)],[(2,⟨75,false,[iW a1.Split,rW β4 a1.Kd encK74,rW β5 a1.Lf eW]⟩),(1,⟨53,false,(gW false false β3 a0.Gq a0.Path a0.Ln)⟩)]⟩) (VC.sub (.of rfl) (.of rfl)) ?_
 refine AWP.seq ?_
 refine AWP.seq ?_
 obtain ⟨y_1,hy_1,h⟩ := bindS h
 obtain ⟨y_2,hy_2,h⟩ := bindS h
 refine AWP.rg (.cons (.loadPA (l1 rfl) (.t rfl) agg53 rfl rfl rfl rfl)<| .cons (.call0 (bw := false) (l1 rfl) (c64 (β1 := false) (β2 := false) (β3 := β3) n (R52.mk (R24.mk a0.Gq.Pq a0.Gq.Bq) a0.Path a0.Ln) hy_1) (.cons (.t rfl) (.ren rfl) (.nil)) rfl)<| .cons (.not (l1 rfl) (.t rfl))<| .cons (.move (l1 rfl) (.t rfl))<| .guard (j := 3) (dj := 11) rfl (l1 rfl) rfl (l1 rfl) (fun hg => .loadPA (l1 rfl) (.t rfl) agg75 rfl rfl rfl rfl)<| .guard (j := 3) (dj := 11) rfl (l1 rfl) rfl (l1 rfl) (fun hg => .call0 (bw := false) (l1 rfl) (c76 (β1 := β4) (β2 := β5) n (R74.mk a1.Split a1.Kd a1.Lf) (gdB hy_2 hg)) (.cons (.gd hg (.t rfl)) (.ren rfl) (.nil)) rfl)<| .guard (j := 3) (dj := 11) rfl (l1 rfl) rfl (l1 rfl) (fun hg => .not (l1 rfl) (.gd hg (.t rfl)))<| .cons (.pickOr (l1 rfl) (.t rfl) (.const _ _ _) (.t rfl))<| ARun.nil _ _ _) ?_
 refine AWP.vc (s' := ⟨[(2,.ptr 1 0),(3,.ptr 2 0),(15,bW ((!y_1) || (!y_2)))],[(2,⟨75,false,[iW a1.Split,rW β4 a1.Kd encK74,rW β5 a1.Lf eW]⟩),(1,⟨53,false,(gW false false β3 a0.Gq a0.Path a0.Ln)⟩)]⟩) (VC.sub (.of rfl) (.of rfl)) ?_
 refine AWP.cond (.t rfl) (fun hc => ?_) (fun hc => ?_)
 ·have h := iteT hc h
  refine AWP.seq ?_
  refine AWP.rg (.cons (.assign (l1 rfl) (.const _ _ _))<| .cons (.assign (l1 rfl) (.const _ _ _))<| ARun.nil _ _ _) ?_
  refine AWP.ret ?_
  obtain rfl := Option.some.inj h
  refine retJ (Res.vc (s' := ⟨[(4,rW false ([] : List Int) eW),(5,iW (1 : Int))],[]⟩) (VC.trans (VC.nilRd (d := 4) false rfl) (VC.sub (.of rfl) (.n _))) ?_)
  refine Res.drop (H := []) rfl ?_
  exact Res.of rfl (.cons (.tmp rfl) (.cons (.tmp rfl) (.nil))) rfl rfl
 ·have h := iteF hc h
  refine AWP.skip ?_
  refine AWP.seq ?_
  obtain ⟨y_3,hy_3,h⟩ := bindS h
  refine AWP.rg (.cons (.loadPA (l1 rfl) (.t rfl) agg53 rfl rfl rfl rfl)<| .cons (.loadPA (l1 rfl) (.t rfl) agg75 rfl rfl rfl rfl)<| .cons (.call0 (bw := false) (l1 rfl) (c77 (β3 := β3) (β4 := β4) (β5 := β5) n (R52.mk (R24.mk a0.Gq.Pq a0.Gq.Bq) a0.Path a0.Ln) (R74.mk a1.Split a1.Kd a1.Lf) hy_3) (.cons (.t rfl) (.ren rfl) (.cons (.t rfl) (.ren rfl) (.nil))) rfl)<| .cons (.move (l1 rfl) (.t rfl))<| .cons (.extract (l1 rfl) (.t rfl) rfl)<| .cons (.extract (l1 rfl) (.t rfl) rfl)<| .cons (.assign (l1 rfl) (.t rfl))<| .cons (.assign (l1 rfl) (.t rfl))<| ARun.nil _ _ _) ?_
  refine AWP.vc (s' := ⟨[(6,rW false y_3.1 eW),(7,bW y_3.2)],[]⟩) (VC.sub (.of rfl) (.n _)) ?_
  refine AWP.seq ?_
  refine AWP.seq ?_
  refine AWP.rg (.cons (.move (l1 rfl) (.t rfl))<| ARun.nil _ _ _) ?_
  refine AWP.vc (s' := ⟨[(6,rW false y_3.1 eW),(22,bW y_3.2)],[]⟩) (VC.sub (.of rfl) (.n _)) ?_
  refine AWP.cond (.t rfl) (fun hc => ?_) (fun hc => ?_)
  ·have h := iteT hc h
   refine AWP.seq ?_
   refine AWP.rg (.cons (.move (l1 rfl) (.t rfl))<| .cons (.assign (l1 rfl) (.t rfl))<| .cons (.assign (l1 rfl) (.const _ _ _))<| ARun.nil _ _ _) ?_
   refine AWP.ret ?_
   obtain rfl := Option.some.inj h
   refine retJ (Res.vc (s' := ⟨[(4,rW false y_3.1 eW),(5,iW (21 : Int))],[]⟩) (VC.sub (.of rfl) (.n _)) ?_)
   refine Res.drop (H := []) rfl ?_
   exact Res.of rfl (.cons (.tmp rfl) (.cons (.tmp rfl) (.nil))) rfl rfl
  ·have h := iteF hc h
   refine AWP.skip ?_
   refine AWP.seq ?_
   refine AWP.rg (.cons (.assign (l1 rfl) (.const _ _ _))<| .cons (.assign (l1 rfl) (.const _ _ _))<| ARun.nil _ _ _) ?_
   refine AWP.ret ?_
   obtain rfl := Option.some.inj h
   refine retJ (Res.vc (s' := ⟨[(4,rW false ([] : List Int) eW),(5,iW (0 : Int))],[]⟩) (VC.trans (VC.nilRd (d := 4) false rfl) (VC.sub (.of rfl) (.n _))) ?_)
   refine Res.drop (H := []) rfl ?_
   exact Res.of rfl (.cons (.tmp rfl) (.cons (.tmp rfl) (.nil))) rfl rfl
theorem c43 {β3 : Bool} {β4 : Bool} {β5 : Bool} (n : Nat) (a0 : R24) (a1 : R83) {r : Bool} (h : m43 n a0 a1 = some r) : Spec Try.prog 43 [] [.agg (pW false false a0),.agg [rW β3 a1.Order eW,iW a1.Ln,iW a1.Proof.Split,rW β4 a1.Proof.Kd encK79,rW β5 a1.Proof.Lf eW]] [] (bW r) [] := by
 refine Spec.of (fn := Try.f43) Try.func43 Try.ntmps43 rfl rfl (le1 rfl) (fun w0 Zs Zb T0 ι0 => ?_)
 unfold m43 at h
 refine AWP.seq ?_
 refine AWP.rg (.cons (.box (t := 1) (n := 2) (l1 rfl) (nm rfl) (.t rfl) (by first | exact ⟨rfl,rfl⟩ | rfl) rfl)<| .cons (.box (t := 2) (n := 5) (l1 rfl) (nm rfl) (.t rfl) (by first | exact ⟨rfl,rfl⟩ | rfl) rfl)<| .cons (.assign (l1 rfl) (.const _ _ _))<| ARun.nil _ _ _) ?_
 refine AWP.vc (s' := ⟨[(2,.ptr 1 0),(3,.ptr 2 0)],[(2,⟨84,false,[rW β3 a1.Order eW,iW a1.Ln,iW a1.Proof.Split,rW β4 a1.Proof.Kd encK79,rW β5 a1.Proof.Lf eW]⟩),(1,⟨32,false,(pW false false a0)⟩)]⟩) (VC.sub (.of rfl) (.of rfl)) ?_
 refine AWP.seq ?_
 obtain ⟨y_1,hy_1,h⟩ := bindS h
 refine AWP.rg (.cons (.loadPA (l1 rfl) (.t rfl) agg32 rfl rfl rfl rfl)<| .cons (.fieldP (l1 rfl) (.t rfl) fld84_0)<| .cons (.loadP (l1 rfl) (.t rfl) one28 rfl rfl rfl)<| .cons (.call0 (bw := false) (l1 rfl) (c29 (β1 := false) (β2 := false) (β3 := β3) n (R24.mk a0.Pq a0.Bq) a1.Order hy_1) (.cons (.t rfl) (.ren rfl) (.cons (.t rfl) (.ren rfl) (.nil))) rfl)<| .cons (.move (l1 rfl) (.t rfl))<| .cons (.extract (l1 rfl) (.t rfl) rfl)<| .cons (.extract (l1 rfl) (.t rfl) rfl)<| .cons (.assign (l1 rfl) (.t rfl))<| .cons (.assign (l1 rfl) (.t rfl))<| ARun.nil _ _ _) ?_
 refine AWP.vc (s' := ⟨[(2,.ptr 1 0),(3,.ptr 2 0),(5,iW y_1.1),(6,iW y_1.2)],[(2,⟨84,false,[rW β3 a1.Order eW,iW a1.Ln,iW a1.Proof.Split,rW β4 a1.Proof.Kd encK79,rW β5 a1.Proof.Lf eW]⟩),(1,⟨32,false,(pW false false a0)⟩)]⟩) (VC.sub (.of rfl) (.of rfl)) ?_
 refine AWP.seq ?_
 refine AWP.seq ?_
 refine AWP.rg (.cons (.move (l1 rfl) (.t rfl))<| .cons (.neq (l1 rfl) (.t rfl) (.const _ _ _))<| .cons (.move (l1 rfl) (.t rfl))<| .guard (j := 2) (dj := 16) rfl (l1 rfl) rfl (l1 rfl) (fun hg => .move (l1 rfl) (.t rfl))<| .guard (j := 2) (dj := 16) rfl (l1 rfl) rfl (l1 rfl) (fun hg => .fieldP (l1 rfl) (.t rfl) fld84_1)<| .guard (j := 2) (dj := 16) rfl (l1 rfl) rfl (l1 rfl) (fun hg => .loadP (l1 rfl) (.gd hg (.t rfl)) one3 rfl rfl rfl)<| .guard (j := 2) (dj := 16) rfl (l1 rfl) rfl (l1 rfl) (fun hg => .neq (l1 rfl) (.gd hg (.t rfl)) (.gd hg (.t rfl)))<| .cons (.pickOr (l1 rfl) (.t rfl) (.const _ _ _) (.t rfl))<| ARun.nil _ _ _) ?_
 refine AWP.vc (s' := ⟨[(2,.ptr 1 0),(3,.ptr 2 0),(5,iW y_1.1),(21,bW ((!decide (y_1.2 = (0 : Int))) || (!decide (y_1.1 = a1.Ln))))],[(2,⟨84,false,[rW β3 a1.Order eW,iW a1.Ln,iW a1.Proof.Split,rW β4 a1.Proof.Kd encK79,rW β5 a1.Proof.Lf eW]⟩),(1,⟨32,false,(pW false false a0)⟩)]⟩) (VC.sub (.of rfl) (.of rfl)) ?_
 refine AWP.cond (.t rfl) (fun hc => ?_) (fun hc => ?_)
 ·have h := iteT hc h
  refine AWP.seq ?_
  refine AWP.rg (.cons (.assign (l1 rfl) (.const _ _ _))<| ARun.nil _ _ _) ?_
  refine AWP.ret ?_
  obtain rfl := Option.some.inj h
  refine retJ (Res.vc (s' := ⟨[(4,bW false)],[]⟩) (VC.sub (.of rfl) (.n _)) ?_)
  refine Res.drop (H := []) rfl ?_
  exact Res.of rfl (.cons (.tmp rfl) (.nil)) rfl rfl
 ·have h := iteF hc h
  refine AWP.skip ?_
  refine AWP.seq ?_
  obtain ⟨y_2,hy_2,h⟩ := bindS h
  refine AWP.rg (.cons (.loadPA (l1 rfl) (.t rfl) agg32 rfl rfl rfl rfl)<| .cons (.buildSlice (t := 3) (out := ([(0 : Int)] : List Int).flatMap eW) (l1 rfl) (nm rfl) (.cons (.const _ _ _) (by first | exact ⟨rfl,rfl⟩ | rfl) (.nil)) Try.underlying28 zero3 el3 (by decide) (by decide) rfl (still_all (encI_still .i64) _))<| .cons (.move (l1 rfl) (.t rfl))<| .cons (.buildO (offs := [(0,2),(2,1),(3,1)]) (l1 rfl) (.cons (.t rfl) (by first | exact ⟨rfl,rfl⟩ | rfl) (.cons (.t rfl) (by first | exact ⟨rfl,rfl⟩ | rfl) (.cons (.t rfl) (by first | exact ⟨rfl,rfl⟩ | rfl) (.nil)))) zero58 offs58 rfl)<| .cons (.fieldP (l1 rfl) (.t rfl) fld84_2)<| .cons (.loadPA (l1 rfl) (.t rfl) agg80 rfl rfl rfl rfl)<| .cons (.call0 (bw := true) (l1 rfl) (c40 (β3 := true) (β4 := β4) (β5 := β5) n (R57.mk (R24.mk a0.Pq a0.Bq) ([(0 : Int)] : List Int) y_1.1) (R79.mk a1.Proof.Split a1.Proof.Kd a1.Proof.Lf) hy_2) (.cons (.t rfl) (.agg (.cons (.ren rfl) (.cons (.ren rfl) (.cons (.lendRow rfl rfl (encI_len .i64) rfl) (.cons (.ren rfl) (.nil)))))) (.cons (.t rfl) (.ren rfl) (.nil))) rfl)<| .cons (.move (l1 rfl) (.t rfl))<| .cons (.extract (l1 rfl) (.t rfl) rfl)<| .cons (.extract (l1 rfl) (.t rfl) rfl)<| .cons (.assign (l1 rfl) (.t rfl))<| ARun.nil _ _ _) ?_
  refine AWP.vc (s' := ⟨[(6,iW y_2.2)],[]⟩) (VC.sub (.of rfl) (.n _)) ?_
  refine AWP.seq ?_
  refine AWP.rg (.cons (.move (l1 rfl) (.t rfl))<| .cons (.eql (l1 rfl) (.t rfl) (.const _ _ _))<| .cons (.assign (l1 rfl) (.t rfl))<| ARun.nil _ _ _) ?_
  refine AWP.ret ?_
  obtain rfl := Option.some.inj h
  refine retJ (Res.vc (s' := ⟨[(4,bW (decide (y_2.2 = (0 : Int))))],[]⟩) (VC.sub (.of rfl) (.n _)) ?_)
  refine Res.drop (H := []) rfl ?_
  exact Res.of rfl (.cons (.tmp rfl) (.nil)) rfl rfl
theorem c44 {β3 : Bool} {β4 : Bool} {β5 : Bool} (n : Nat) (a0 : R24) (a1 : R85) {r : Bool} (h : m44 n a0 a1 = some r) : Spec Try.prog 44 [] [.agg (pW false false a0),.agg [rW β3 a1.Order eW,iW a1.Ln,iW a1.Proof.Split,rW β4 a1.Proof.Kd encK74,rW β5 a1.Proof.Lf eW]] [] (bW r) [] := by
 refine Spec.of (fn := Try.f44) Try.func44 Try.ntmps44 rfl rfl (le1 rfl) (fun w0 Zs Zb T0 ι0 => ?_)
 unfold m44 at h
 refine AWP.seq ?_
 refine AWP.rg (.cons (.box (t := 1) (n := 2) (l1 rfl) (nm rfl) (.t rfl) (by first | exact ⟨rfl,rfl⟩ | rfl) rfl)<| .cons (.box (t := 2) (n := 5) (l1 rfl) (nm rfl) (.t rfl) (by first | exact ⟨rfl,rfl⟩ | rfl) rfl)<| .cons (.assign (l1 rfl) (.const _ _ _))<| ARun.nil _ _ _) ?_
 refine AWP.vc (s' := ⟨[(2,.ptr 1 0),(3,.ptr 2 0)],[(2,⟨86,false,[rW β3 a1.Order eW,iW a1.Ln,iW a1.Proof.Split,rW β4 a1.Proof.Kd encK74,rW β5 a1.Proof.Lf eW]⟩),(1,⟨25,false,(pW false false a0)⟩)]⟩) (VC.sub (.of rfl) (.of rfl)) ?_
 refine AWP.seq ?_
 obtain ⟨y_1,hy_1,h⟩ := bindS h
 refine AWP.rg (.cons (.loadPA (l1 rfl) (.t rfl) agg25 rfl rfl rfl rfl)<| .cons (.fieldP (l1 rfl) (.t rfl) fld86_0)<| .cons (.loadP (l1 rfl) (.t rfl) one28 rfl rfl rfl)<| .cons (.call0 (bw := false) (l1 rfl) (c30 (β1 := false) (β2 := false) (β3 := β3) n (R24.mk a0.Pq a0.Bq) a1.Order hy_1) (.cons (.t rfl) (.ren rfl) (.cons (.t rfl) (.ren rfl) (.nil))) rfl)<| .cons (.move (l1 rfl) (.t rfl))<| .cons (.extract (l1 rfl) (.t rfl) rfl)<| .cons (.extract (l1 rfl) (.t rfl) rfl)<| .cons (.assign (l1 rfl) (.t rfl))<| .cons (.assign (l1 rfl) (.t rfl))<| ARun.nil _ _ _) ?_
 refine AWP.vc (s' := ⟨[(2,.ptr 1 0),(3,.ptr 2 0),(5,iW y_1.1),(6,iW y_1.2)],[(2,⟨86,false,[rW β3 a1.Order eW,iW a1.Ln,iW a1.Proof.Split,rW β4 a1.Proof.Kd encK74,rW β5 a1.Proof.Lf eW]⟩),(1,⟨25,false,(pW false false a0)⟩)]⟩) (VC.sub (.of rfl) (.of rfl)) ?_
 refine AWP.seq ?_
 refine AWP.seq ?_
 refine AWP.rg (.cons (.move (l1 rfl) (.t rfl))<| .cons (.neq (l1 rfl) (.t rfl) (.const _ _ _))<| .cons (.move (l1 rfl) (.t rfl))<| .guard (j := 2) (dj := 18) rfl (l1 rfl) rfl (l1 rfl) (fun hg => .move (l1 rfl) (.t rfl))<| .guard (j := 2) (dj := 18) rfl (l1 rfl) rfl (l1 rfl) (fun hg => .fieldP (l1 rfl) (.t rfl) fld86_1)<| .guard (j := 2) (dj := 18) rfl (l1 rfl) rfl (l1 rfl) (fun hg => .loadP (l1 rfl) (.gd hg (.t rfl)) one3 rfl rfl rfl)<| .guard (j := 2) (dj := 18) rfl (l1 rfl) rfl (l1 rfl) (fun hg => .neq (l1 rfl) (.gd hg (.t rfl)) (.gd hg (.t rfl)))<| .cons (.pickOr (l1 rfl) (.t rfl) (.const _ _ _) (.t rfl))<| ARun.nil _ _ _) ?_
 refine AWP.vc (s' := ⟨[(2,.ptr 1 0),(3,.ptr 2 0),(5,iW y_1.1),(23,bW ((!decide (y_1.2 = (0 : Int))) || (!decide (y_1.1 = a1.Ln))))],[(2,⟨86,false,[rW β3 a1.Order eW,iW a1.Ln,iW a1.Proof.Split,rW β4 a1.Proof.Kd encK74,rW β5 a1.Proof.Lf eW]⟩),(1,⟨25,false,(pW false false a0)⟩)]⟩) (VC.sub (.of rfl) (.of rfl)) ?_
 refine AWP.cond (.t rfl) (fun hc => ?_) (fun hc => ?_)
 ·have h := iteT hc h
  refine AWP.seq ?_
  refine AWP.rg (.cons (.assign (l1 rfl) (.const _ _ _))<| ARun.nil _ _ _) ?_
  refine AWP.ret ?_
  obtain rfl := Option.some.inj h
  refine retJ (Res.vc (s' := ⟨[(4,bW false)],[]⟩) (VC.sub (.of rfl) (.n _)) ?_)
  refine Res.drop (H := []) rfl ?_
  exact Res.of rfl (.cons (.tmp rfl) (.nil)) rfl rfl
 ·have h := iteF hc h
  refine AWP.skip ?_
  refine AWP.seq ?_
  obtain ⟨y_2,hy_2,h⟩ := bindS h
  refine AWP.rg (.cons (.loadPA (l1 rfl) (.t rfl) agg25 rfl rfl rfl rfl)<| .cons (.buildSlice (t := 3) (out := ([(0 : Int)] : List Int).flatMap eW) (l1 rfl) (nm rfl) (.cons (.const _ _ _) (by first | exact ⟨rfl,rfl⟩ | rfl) (.nil)) Try.underlying28 zero3 el3 (by decide) (by decide) rfl (still_all (encI_still .i64) _))<| .cons (.move (l1 rfl) (.t rfl))<| .cons (.buildO (offs := [(0,2),(2,1),(3,1)]) (l1 rfl) (.cons (.t rfl) (by first | exact ⟨rfl,rfl⟩ | rfl) (.cons (.t rfl) (by first | exact ⟨rfl,rfl⟩ | rfl) (.cons (.t rfl) (by first | exact ⟨rfl,rfl⟩ | rfl) (.nil)))) zero53 offs53 rfl)<| .cons (.fieldP (l1 rfl) (.t rfl) fld86_2)<| .cons (.loadPA (l1 rfl) (.t rfl) agg75 rfl rfl rfl rfl)<| .cons (.call0 (bw := true) (l1 rfl) (c42 (β3 := true) (β4 := β4) (β5 := β5) n (R52.mk (R24.mk a0.Pq a0.Bq) ([(0 : Int)] : List Int) y_1.1) (R74.mk a1.Proof.Split a1.Proof.Kd a1.Proof.Lf) hy_2) (.cons (.t rfl) (.agg (.cons (.ren rfl) (.cons (.ren rfl) (.cons (.lendRow rfl rfl (encI_len .i64) rfl) (.cons (.ren rfl) (.nil)))))) (.cons (.t rfl) (.ren rfl) (.nil))) rfl)<| .cons (.move (l1 rfl) (.t rfl))<| .cons (.extract (l1 rfl) (.t rfl) rfl)<| .cons (.extract (l1 rfl) (.t rfl) rfl)<| .cons (.assign (l1 rfl) (.t rfl))<| .cons (.assign (l1 rfl) (.t rfl))<| ARun.nil _ _ _) ?_
  refine AWP.vc (s' := ⟨[(8,iW y_2.2)],[]⟩) (VC.sub (.of rfl) (.n _)) ?_
  refine AWP.seq ?_
  refine AWP.rg (.cons (.move (l1 rfl) (.t rfl))<| .cons (.eql (l1 rfl) (.t rfl) (.const _ _ _))<| .cons (.assign (l1 rfl) (.t rfl))<| ARun.nil _ _ _) ?_
  refine AWP.ret ?_
  obtain rfl := Option.some.inj h
  refine retJ (Res.vc (s' := ⟨[(4,bW (decide (y_2.2 = (0 : Int))))],[]⟩) (VC.sub (.of rfl) (.n _)) ?_)
  refine Res.drop (H := []) rfl ?_
  exact Res.of rfl (.cons (.tmp rfl) (.nil)) rfl rfl
theorem c10 {β3 : Bool} {β5 : Bool} {β6 : Bool} (n : Nat) (a0 : R52) (a1 : R74) (a2 : (List UInt8)) {r : Bool} (h : m10 n a0 a1 a2 = some r) : Spec Try.prog 10 [] [.agg (gW false false β3 a0.Gq a0.Path a0.Ln),.agg [iW a1.Split,rW false a1.Kd encK74,rW β5 a1.Lf eW],rW β6 a2 enc8] [] (bW r) [] := by
 refine Spec.of (fn := Try.f10) Try.func10 Try.ntmps10 rfl rfl (le1 rfl) (fun w0 Zs Zb T0 ι0 => ?_)
 unfold m10 at h
 refine AWP.seq ?_
 refine AWP.rg (.cons (.box (t := 1) (n := 4) (l1 rfl) (nm rfl) (.t rfl) (by first | exact ⟨rfl,rfl⟩ | rfl) rfl)<| .cons (.box (t := 2) (n := 3) (l1 rfl) (nm rfl) (.t rfl) (by first | exact ⟨rfl,rfl⟩ | rfl) rfl)<| .cons (.assign (l1 rfl) (.const _ _ _))<| ARun.nil _ _ _) ?_
 refine AWP.vc (s' := ⟨[(2,rW β6 a2 enc8),(3,.ptr 1 0),(4,.ptr 2 0)],[(2,⟨75,false,[iW a1.Split,rW false a1.Kd encK74,rW β5 a1.Lf eW]⟩),(1,⟨53,false,(gW false false β3 a0.Gq a0.Path a0.Ln)⟩)]⟩) (VC.sub (.of rfl) (.of rfl)) ?_
 refine AWP.seq ?_
 refine AWP.seq ?_
 obtain ⟨y_1,hy_1,h⟩ := bindS h
 obtain ⟨y_2,hy_2,h⟩ := bindS h
 obtain ⟨y_3,hy_3,h⟩ := bindS h
 refine AWP.rg (.cons (.call0 (bw := false) (l1 rfl) (c11 n hy_1) (.nil) rfl)<| .cons (.not (l1 rfl) (.t rfl))<| .cons (.move (l1 rfl) (.t rfl))<| .guard (j := 2) (dj := 19) rfl (l1 rfl) rfl (l1 rfl) (fun hg => .fieldP (l1 rfl) (.t rfl) fld53_0)<| .guard (j := 2) (dj := 19) rfl (l1 rfl) rfl (l1 rfl) (fun hg => .loadPA (l1 rfl) (.gd hg (.t rfl)) agg25 rfl rfl rfl rfl)<| .guard (j := 2) (dj := 19) rfl (l1 rfl) rfl (l1 rfl) (fun hg => .call0 (bw := false) (l1 rfl) (c38 (β1 := false) (β2 := false) n (R24.mk a0.Gq.Pq a0.Gq.Bq) (gdB hy_2 hg)) (.cons (.gd hg (.t rfl)) (.ren rfl) (.nil)) rfl)<| .guard (j := 2) (dj := 19) rfl (l1 rfl) rfl (l1 rfl) (fun hg => .not (l1 rfl) (.gd hg (.t rfl)))<| .cons (.pickOr (l1 rfl) (.t rfl) (.const _ _ _) (.t rfl))<| .cons (.move (l1 rfl) (.t rfl))<| .guard (j := 8) (dj := 25) rfl (l1 rfl) rfl (l1 rfl) (fun hg => .fieldP (l1 rfl) (.t rfl) fld53_1)<| .guard (j := 8) (dj := 25) rfl (l1 rfl) rfl (l1 rfl) (fun hg => .loadP (l1 rfl) (.gd hg (.t rfl)) one28 rfl rfl rfl)<| .guard (j := 8) (dj := 25) rfl (l1 rfl) rfl (l1 rfl) (fun hg => .lenRd (l1 rfl) (.gd hg (.t rfl)) Try.underlying28)<| .guard (j := 8) (dj := 25) rfl (l1 rfl) rfl (l1 rfl) (fun hg => .gtr (l1 rfl) (.gd hg (.t rfl)) (.const _ _ _))<| .cons (.pickOr (l1 rfl) (.t rfl) (.const _ _ _) (.t rfl))<| .cons (.move (l1 rfl) (.t rfl))<| .guard (j := 14) (dj := 31) rfl (l1 rfl) rfl (l1 rfl) (fun hg => .loadPA (l1 rfl) (.t rfl) agg75 rfl rfl rfl rfl)<| .guard (j := 14) (dj := 31) rfl (l1 rfl) rfl (l1 rfl) (fun hg => .call0 (bw := false) (l1 rfl) (c39 (β1 := false) (β2 := β5) n (R74.mk a1.Split a1.Kd a1.Lf) (gdB hy_3 hg)) (.cons (.gd hg (.t rfl)) (.ren rfl) (.nil)) rfl)<| .guard (j := 14) (dj := 31) rfl (l1 rfl) rfl (l1 rfl) (fun hg => .not (l1 rfl) (.gd hg (.t rfl)))<| .cons (.pickOr (l1 rfl) (.t rfl) (.const _ _ _) (.t rfl))<| ARun.nil _ _ _) ?_
 refine AWP.vc (s' := ⟨[(2,rW β6 a2 enc8),(3,.ptr 1 0),(4,.ptr 2 0),(35,bW ((((!y_1) || (!y_2)) || (decide ((12 : Int) < (a0.Path.length : Int)))) || (!y_3)))],[(2,⟨75,false,[iW a1.Split,rW false a1.Kd encK74,rW β5 a1.Lf eW]⟩),(1,⟨53,false,(gW false false β3 a0.Gq a0.Path a0.Ln)⟩)]⟩) (VC.sub (.of rfl) (.of rfl)) ?_
 refine AWP.cond (.t rfl) (fun hc => ?_) (fun hc => ?_)
 ·have h := iteT hc h
  refine AWP.seq ?_
  obtain ⟨y_4,hy_4,h⟩ := bindS h
  refine AWP.rg (.cons (.call0 (bw := false) (l1 rfl) (c11 n hy_4) (.nil) rfl)<| .cons (.assign (l1 rfl) (.t rfl))<| ARun.nil _ _ _) ?_
  refine AWP.ret ?_
  obtain rfl := Option.some.inj h
  refine retJ (Res.vc (s' := ⟨[(6,bW y_4)],[]⟩) (VC.sub (.of rfl) (.n _)) ?_)
  refine Res.drop (H := []) rfl ?_
  exact Res.of rfl (.cons (.tmp rfl) (.nil)) rfl rfl
 ·have h := iteF hc h
  refine AWP.skip ?_
  refine AWP.seq ?_
  obtain ⟨y_5,hy_5,h⟩ := bindS h
  obtain ⟨y_6,hy_6,h⟩ := bindS h
  obtain ⟨y_7,hy_7,h⟩ := bindS h
  refine AWP.draw (s' := ⟨[(2,rW β6 a2 enc8),(3,.ptr 1 0),(4,.ptr 2 0),(7,rW false y_7.1 eW),(8,iW y_7.2)],[(2,⟨75,false,[iW a1.Split,rW false a1.Kd encK74,rW β5 a1.Lf eW]⟩),(1,⟨53,false,(gW false false β3 a0.Gq a0.Path a0.Ln)⟩)]⟩) mixed [⟨2,rW β6 a2 enc8,none,[]⟩,⟨3,.ptr 1 0,none,[]⟩,⟨4,.ptr 2 0,none,[]⟩,⟨35,bW ((((!y_1) || (!y_2)) || (decide ((12 : Int) < (a0.Path.length : Int)))) || (!y_3)),none,[]⟩,⟨38,.agg (gW false false β3 a0.Gq a0.Path a0.Ln),some 0,[]⟩,⟨39,.agg (gW false false β3 y_5.Gq y_5.Path y_5.Ln),some 1,[]⟩,⟨40,.agg [iW a1.Split,rW false a1.Kd encK74,rW β5 a1.Lf eW],some 2,[]⟩,⟨41,.agg [iW y_6.Split,rW false y_6.Kd encK79,rW β5 y_6.Lf eW],some 3,[]⟩,⟨42,.tup [rW false y_7.1 eW,iW y_7.2],some 4,[]⟩,⟨37,.tup [rW false y_7.1 eW,iW y_7.2],some 5,[]⟩,⟨43,rW false y_7.1 eW,some 6,[]⟩,⟨44,iW y_7.2,some 7,[]⟩,⟨7,rW false y_7.1 eW,some 8,[]⟩,⟨8,iW y_7.2,some 9,[]⟩] [⟨[1],0,0,some (38,.agg (gW false false β3 a0.Gq a0.Path a0.Ln)),[]⟩,⟨[4],0,0,some (39,.agg (gW false false β3 y_5.Gq y_5.Path y_5.Ln)),[]⟩,⟨[2],0,0,some (40,.agg [iW a1.Split,rW false a1.Kd encK74,rW β5 a1.Lf eW]),[]⟩,⟨[6],0,0,some (41,.agg [iW y_6.Split,rW false y_6.Kd encK79,rW β5 y_6.Lf eW]),[]⟩,⟨[5,7],0,0,some (42,.tup [rW false y_7.1 eW,iW y_7.2]),[]⟩,⟨[8],0,0,some (37,.tup [rW false y_7.1 eW,iW y_7.2]),[]⟩,⟨[9],0,0,some (43,rW false y_7.1 eW),[]⟩,⟨[9],0,0,some (44,iW y_7.2),[]⟩,⟨[10],0,0,some (7,rW false y_7.1 eW),[]⟩,⟨[11],0,0,some (8,iW y_7.2),[]⟩] [] [[(2,⟨75,false,[iW a1.Split,rW false a1.Kd encK74,rW β5 a1.Lf eW]⟩),(1,⟨53,false,(gW false false β3 a0.Gq a0.Path a0.Ln)⟩)]] [[],[0],[],[0,1,2],[0,1,2,3],[0,1,2,3,4],[0,1,2,3,4,5],[0,1,2,3,4,5],[0,1,2,3,4,5,6],[0,1,2,3,4,5,6,7,8]] (by kernel_rfl) (by kernel_rfl) (BornL.ok (.o<| .o<| .o<| .o<| .b rfl rfl<| .b rfl rfl<| .b rfl rfl<| .b rfl rfl<| .b rfl rfl<| .b rfl rfl<| .b rfl rfl<| .b rfl rfl<| .b rfl rfl<| .b rfl rfl<| .n)) (BaseL.ok (.o rfl<| .o rfl<| .o rfl<| .o rfl<| .b<| .b<| .b<| .b<| .b<| .b<| .b<| .b<| .b<| .b<| .n)) rfl (by decide) (allLt rfl) (.read rfl (.c (.put (fun E hE => .loadPA (l1 rfl) (.tmp (hE.at (k := 0) rfl)) agg53 rfl rfl rfl rfl)) .n)<| .pure rfl (fun H => .put (fun E hE => .call0 (bw := false) (l1 rfl) (c25 (β1 := false) (β2 := false) (β3 := β3) n (R52.mk (R24.mk a0.Gq.Pq a0.Gq.Bq) a0.Path a0.Ln) hy_5) (.cons (.tmp (hE.at (k := 0) rfl)) (.ren rfl) (.nil)) rfl))<| .read rfl (.c (.put (fun E hE => .loadPA (l1 rfl) (.tmp (hE.at (k := 0) rfl)) agg75 rfl rfl rfl rfl)) .n)<| .pure rfl (fun H => .put (fun E hE => .call0 (bw := false) (l1 rfl) (c41 (β2 := β5) n (R74.mk a1.Split a1.Kd a1.Lf) hy_6) (.cons (.tmp (hE.at (k := 0) rfl)) (.ren rfl) (.nil)) rfl))<| .pure rfl (fun H => .put (fun E hE => .call0 (bw := false) (l1 rfl) (c40 (β3 := β3) (β4 := false) (β5 := β5) n (R57.mk (R24.mk y_5.Gq.Pq y_5.Gq.Bq) y_5.Path y_5.Ln) (R79.mk y_6.Split y_6.Kd y_6.Lf) hy_7) (.cons (.tmp (hE.at (k := 0) rfl)) (.ren rfl) (.cons (.tmp (hE.at (k := 1) rfl)) (.ren rfl) (.nil))) rfl))<| .pure rfl (fun H => .put (fun E hE => .move (l1 rfl) (.tmp (hE.at (k := 0) rfl))))<| .pure rfl (fun H => .put (fun E hE => .extract (l1 rfl) (.tmp (hE.at (k := 0) rfl)) rfl))<| .pure rfl (fun H => .put (fun E hE => .extract (l1 rfl) (.tmp (hE.at (k := 0) rfl)) rfl))<| .pure rfl (fun H => .put (fun E hE => .assign (l1 rfl) (.tmp (hE.at (k := 0) rfl))))<| .pure rfl (fun H => .put (fun E hE => .assign (l1 rfl) (.tmp (hE.at (k := 0) rfl))))<| .nil _) (fun E hE => .c (DInv.at hE (k := 0) rfl rfl rfl)<| .c (DInv.at hE (k := 1) rfl rfl rfl)<| .c (DInv.at hE (k := 2) rfl rfl rfl)<| .c (DInv.at hE (k := 12) rfl rfl rfl)<| .c (DInv.at hE (k := 13) rfl rfl rfl)<| .n _) rfl ?_
  refine AWP.vc (s' := ⟨[(2,rW β6 a2 enc8),(3,.ptr 1 0),(4,.ptr 2 0),(7,rW false y_7.1 eW),(8,iW y_7.2)],[(2,⟨75,false,[iW a1.Split,rW false a1.Kd encK74,rW β5 a1.Lf eW]⟩),(1,⟨53,false,(gW false false β3 a0.Gq a0.Path a0.Ln)⟩)]⟩) (VC.sub (.of rfl) (.of rfl)) ?_
  refine AWP.seq ?_
  obtain ⟨y_8,hy_8,h⟩ := bindS h
  refine AWP.rg (.cons (.loadPA (l1 rfl) (.t rfl) agg53 rfl rfl rfl rfl)<| .cons (.loadPA (l1 rfl) (.t rfl) agg75 rfl rfl rfl rfl)<| .cons (.call0 (bw := false) (l1 rfl) (c42 (β3 := β3) (β4 := false) (β5 := β5) n (R52.mk (R24.mk a0.Gq.Pq a0.Gq.Bq) a0.Path a0.Ln) (R74.mk a1.Split a1.Kd a1.Lf) hy_8) (.cons (.t rfl) (.ren rfl) (.cons (.t rfl) (.ren rfl) (.nil))) rfl)<| .cons (.move (l1 rfl) (.t rfl))<| .cons (.extract (l1 rfl) (.t rfl) rfl)<| .cons (.extract (l1 rfl) (.t rfl) rfl)<| .cons (.assign (l1 rfl) (.t rfl))<| .cons (.assign (l1 rfl) (.t rfl))<| ARun.nil _ _ _) ?_
  refine AWP.vc (s' := ⟨[(2,rW β6 a2 enc8),(3,.ptr 1 0),(4,.ptr 2 0),(7,rW false y_7.1 eW),(8,iW y_7.2),(9,rW false y_8.1 eW),(10,iW y_8.2)],[(2,⟨75,false,[iW a1.Split,rW false a1.Kd encK74,rW β5 a1.Lf eW]⟩),(1,⟨53,false,(gW false false β3 a0.Gq a0.Path a0.Ln)⟩)]⟩) (VC.sub (.of rfl) (.of rfl)) ?_
  refine AWP.seq ?_
  obtain ⟨y_9,hy_9,h⟩ := bindS h
  refine AWP.draw (s' := ⟨[(2,rW β6 a2 enc8),(3,.ptr 1 0),(4,.ptr 2 0),(7,rW false y_7.1 eW),(8,iW y_7.2),(9,rW false y_8.1 eW),(10,iW y_8.2),(11,.ptr 3 0)],[(3,⟨84,false,[rW β3 a0.Path eW,iW a0.Ln,iW y_9.Split,rW false y_9.Kd encK79,rW β5 y_9.Lf eW]⟩),(2,⟨75,false,[iW a1.Split,rW false a1.Kd encK74,rW β5 a1.Lf eW]⟩),(1,⟨53,false,(gW false false β3 a0.Gq a0.Path a0.Ln)⟩)]⟩) mixed [⟨2,rW β6 a2 enc8,none,[]⟩,⟨3,.ptr 1 0,none,[]⟩,⟨4,.ptr 2 0,none,[]⟩,⟨7,rW false y_7.1 eW,none,[]⟩,⟨8,iW y_7.2,none,[]⟩,⟨9,rW false y_8.1 eW,none,[]⟩,⟨10,iW y_8.2,none,[]⟩,⟨51,.ptr 1 (0 + 2),some 0,[]⟩,⟨52,rW β3 a0.Path eW,some 1,[]⟩,⟨53,.ptr 1 (0 + 3),some 2,[]⟩,⟨54,iW a0.Ln,some 3,[]⟩,⟨55,.agg [iW a1.Split,rW false a1.Kd encK74,rW β5 a1.Lf eW],some 4,[]⟩,⟨56,.agg [iW y_9.Split,rW false y_9.Kd encK79,rW β5 y_9.Lf eW],some 5,[]⟩,⟨57,.agg [rW β3 a0.Path eW,iW a0.Ln,iW y_9.Split,rW false y_9.Kd encK79,rW β5 y_9.Lf eW],some 6,[]⟩,⟨11,.ptr 3 0,some 7,[]⟩] [⟨[1],0,1,some (51,.ptr 1 (0 + 2)),[]⟩,⟨[7],0,1,some (52,rW β3 a0.Path eW),[]⟩,⟨[1],0,1,some (53,.ptr 1 (0 + 3)),[]⟩,⟨[9],0,1,some (54,iW a0.Ln),[]⟩,⟨[2],0,1,some (55,.agg [iW a1.Split,rW false a1.Kd encK74,rW β5 a1.Lf eW]),[]⟩,⟨[11],0,2,some (56,.agg [iW y_9.Split,rW false y_9.Kd encK79,rW β5 y_9.Lf eW]),[]⟩,⟨[8,10,12],0,2,some (57,.agg [rW β3 a0.Path eW,iW a0.Ln,iW y_9.Split,rW false y_9.Kd encK79,rW β5 y_9.Lf eW]),[]⟩,⟨[],0,0,some (11,.ptr 3 0),[3]⟩,⟨[14,13],1,1,none,[]⟩] [7,8] [[(2,⟨75,false,[iW a1.Split,rW false a1.Kd encK74,rW β5 a1.Lf eW]⟩),(1,⟨53,false,(gW false false β3 a0.Gq a0.Path a0.Ln)⟩)],[(3,⟨84,false,[.sc (.slice none 0 0),iW (0 : Int),iW (0 : Int),.sc (.slice none 0 0),.sc (.slice none 0 0)]⟩),(2,⟨75,false,[iW a1.Split,rW false a1.Kd encK74,rW β5 a1.Lf eW]⟩),(1,⟨53,false,(gW false false β3 a0.Gq a0.Path a0.Ln)⟩)],[(3,⟨84,false,[rW β3 a0.Path eW,iW a0.Ln,iW y_9.Split,rW false y_9.Kd encK79,rW β5 y_9.Lf eW]⟩),(2,⟨75,false,[iW a1.Split,rW false a1.Kd encK74,rW β5 a1.Lf eW]⟩),(1,⟨53,false,(gW false false β3 a0.Gq a0.Path a0.Ln)⟩)]] [[],[0],[],[2],[],[4],[0,1,2,3,4,5],[],[0,1,2,3,4,5,6,7]] (by kernel_rfl) (by kernel_rfl) (BornL.ok (.o<| .o<| .o<| .o<| .o<| .o<| .o<| .b rfl rfl<| .b rfl rfl<| .b rfl rfl<| .b rfl rfl<| .b rfl rfl<| .b rfl rfl<| .b rfl rfl<| .b rfl rfl<| .n)) (BaseL.ok (.o rfl<| .o rfl<| .o rfl<| .o rfl<| .o rfl<| .o rfl<| .o rfl<| .b<| .b<| .b<| .b<| .b<| .b<| .b<| .b<| .n)) rfl (by decide) (allLt rfl) (.read rfl (.c (.put (fun E hE => .fieldP (l1 rfl) (.tmp (hE.at (k := 0) rfl)) fld53_1)) (.c (.put (fun E hE => .fieldP (l1 rfl) (.tmp (hE.at (k := 0) rfl)) fld53_1)) (.n)))<| .read rfl (.c (.put (fun E hE => .loadP (l1 rfl) (.tmp (hE.at (k := 0) rfl)) one28 rfl rfl rfl)) (.c (.put (fun E hE => .loadP (l1 rfl) (.tmp (hE.at (k := 0) rfl)) one28 rfl rfl rfl)) (.n)))<| .read rfl (.c (.put (fun E hE => .fieldP (l1 rfl) (.tmp (hE.at (k := 0) rfl)) fld53_2)) (.c (.put (fun E hE => .fieldP (l1 rfl) (.tmp (hE.at (k := 0) rfl)) fld53_2)) (.n)))<| .read rfl (.c (.put (fun E hE => .loadP (l1 rfl) (.tmp (hE.at (k := 0) rfl)) one3 rfl rfl rfl)) (.c (.put (fun E hE => .loadP (l1 rfl) (.tmp (hE.at (k := 0) rfl)) one3 rfl rfl rfl)) (.n)))<| .read rfl (.c (.put (fun E hE => .loadPA (l1 rfl) (.tmp (hE.at (k := 0) rfl)) agg75 rfl rfl rfl rfl)) (.c (.put (fun E hE => .loadPA (l1 rfl) (.tmp (hE.at (k := 0) rfl)) agg75 rfl rfl rfl rfl)) (.n)))<| .pure rfl (fun H => .put (fun E hE => .call0 (bw := false) (l1 rfl) (c41 (β2 := β5) n (R74.mk a1.Split a1.Kd a1.Lf) hy_9) (.cons (.tmp (hE.at (k := 0) rfl)) (.ren rfl) (.nil)) rfl))<| .pure rfl (fun H => .put (fun E hE => .buildO (offs := [(0,1),(1,1),(2,3)]) (l1 rfl) (.cons (.tmp (hE.at (k := 0) rfl)) (by first | exact ⟨rfl,rfl⟩ | rfl) (.cons (.tmp (hE.at (k := 1) rfl)) (by first | exact ⟨rfl,rfl⟩ | rfl) (.cons (.tmp (hE.at (k := 2) rfl)) (by first | exact ⟨rfl,rfl⟩ | rfl) (.nil)))) zero84 offs84 rfl))<| .turn rfl rfl rfl rfl rfl (.new (fun E hE => .alloc (t := 3) (k := ⟨84,false,[.sc (.slice none 0 0),iW (0 : Int),iW (0 : Int),.sc (.slice none 0 0),.sc (.slice none 0 0)]⟩) (l1 rfl) (nm rfl) zero84 rfl rfl) rfl)<| .turn rfl rfl rfl rfl rfl (.store (fun E hE => .storePA (.tmp (hE.at (k := 0) rfl)) (.tmp (hE.at (k := 1) rfl)) sz84 rfl rfl (le1 rfl) (one_lit rfl) (by intro h; cases h) rfl) rfl)<| .nil _) (fun E hE => .c (DInv.at hE (k := 0) rfl rfl rfl)<| .c (DInv.at hE (k := 1) rfl rfl rfl)<| .c (DInv.at hE (k := 2) rfl rfl rfl)<| .c (DInv.at hE (k := 3) rfl rfl rfl)<| .c (DInv.at hE (k := 4) rfl rfl rfl)<| .c (DInv.at hE (k := 5) rfl rfl rfl)<| .c (DInv.at hE (k := 6) rfl rfl rfl)<| .c (DInv.at hE (k := 14) rfl rfl rfl)<| .n _) rfl ?_
  refine AWP.vc (s' := ⟨[(2,rW β6 a2 enc8),(3,.ptr 1 0),(4,.ptr 2 0),(7,rW false y_7.1 eW),(8,iW y_7.2),(9,rW false y_8.1 eW),(10,iW y_8.2),(11,.ptr 3 0)],[(3,⟨84,false,[rW β3 a0.Path eW,iW a0.Ln,iW y_9.Split,rW false y_9.Kd encK79,rW β5 y_9.Lf eW]⟩),(2,⟨75,false,[iW a1.Split,rW false a1.Kd encK74,rW β5 a1.Lf eW]⟩),(1,⟨53,false,(gW false false β3 a0.Gq a0.Path a0.Ln)⟩)]⟩) (VC.sub (.of rfl) (.of rfl)) ?_
  refine AWP.seq ?_
  refine AWP.rg (.cons (.fieldP (l1 rfl) (.t rfl) fld53_1)<| .cons (.loadP (l1 rfl) (.t rfl) one28 rfl rfl rfl)<| .cons (.fieldP (l1 rfl) (.t rfl) fld53_2)<| .cons (.loadP (l1 rfl) (.t rfl) one3 rfl rfl rfl)<| .cons (.loadPA (l1 rfl) (.t rfl) agg75 rfl rfl rfl rfl)<| .cons (.buildO (offs := [(0,1),(1,1),(2,3)]) (l1 rfl) (.cons (.t rfl) (by first | exact ⟨rfl,rfl⟩ | rfl) (.cons (.t rfl) (by first | exact ⟨rfl,rfl⟩ | rfl) (.cons (.t rfl) (by first | exact ⟨rfl,rfl⟩ | rfl) (.nil)))) zero86 offs86 rfl)<| .cons (.alloc (t := 4) (k := ⟨86,false,[.sc (.slice none 0 0),iW (0 : Int),iW (0 : Int),.sc (.slice none 0 0),.sc (.slice none 0 0)]⟩) (l1 rfl) (nm rfl) zero86 rfl rfl)<| .cons (.storePA (.t rfl) (.t rfl) sz86 rfl rfl (le1 rfl) (one_lit rfl) (by intro h; cases h) rfl)<| ARun.nil _ _ _) ?_
  refine AWP.vc (s' := ⟨[(2,rW β6 a2 enc8),(3,.ptr 1 0),(7,rW false y_7.1 eW),(8,iW y_7.2),(9,rW false y_8.1 eW),(10,iW y_8.2),(11,.ptr 3 0),(12,.ptr 4 0)],[(4,⟨86,false,[rW β3 a0.Path eW,iW a0.Ln,iW a1.Split,rW false a1.Kd encK74,rW β5 a1.Lf eW]⟩),(3,⟨84,false,[rW β3 a0.Path eW,iW a0.Ln,iW y_9.Split,rW false y_9.Kd encK79,rW β5 y_9.Lf eW]⟩),(1,⟨53,false,(gW false false β3 a0.Gq a0.Path a0.Ln)⟩)]⟩) (VC.sub (.of rfl) (.of rfl)) ?_
  refine AWP.seq ?_
  refine AWP.seq ?_
  obtain ⟨y_10,hy_10,h⟩ := bindS h
  obtain ⟨y_11,hy_11,h⟩ := bindS h
  obtain ⟨y_12,hy_12,h⟩ := bindS h
  obtain ⟨y_13,hy_13,h⟩ := bindS h
  refine AWP.draw (s' := ⟨[(2,rW β6 a2 enc8),(3,.ptr 1 0),(8,iW y_7.2),(84,bW (((!y_10) || (!decide (y_7.2 = y_8.2))) || (y_12 != y_13)))],[(4,⟨86,false,[rW β3 a0.Path eW,iW a0.Ln,iW a1.Split,rW false a1.Kd encK74,rW β5 a1.Lf eW]⟩),(3,⟨84,false,[rW β3 a0.Path eW,iW a0.Ln,iW y_9.Split,rW false y_9.Kd encK79,rW β5 y_9.Lf eW]⟩),(1,⟨53,false,(gW false false β3 a0.Gq a0.Path a0.Ln)⟩)]⟩) mixed [⟨2,rW β6 a2 enc8,none,[]⟩,⟨3,.ptr 1 0,none,[]⟩,⟨7,rW false y_7.1 eW,none,[]⟩,⟨8,iW y_7.2,none,[]⟩,⟨9,rW false y_8.1 eW,none,[]⟩,⟨10,iW y_8.2,none,[]⟩,⟨11,.ptr 3 0,none,[]⟩,⟨12,.ptr 4 0,none,[]⟩,⟨64,rW false y_7.1 eW,some 0,[]⟩,⟨65,rW false y_8.1 eW,some 1,[]⟩,⟨66,bW y_10,some 2,[]⟩,⟨67,bW (!y_10),some 3,[]⟩,⟨68,bW (!y_10),some 4,[]⟩,⟨69,.gd (!(!y_10)) (iW y_7.2),some 5,[]⟩,⟨70,.gd (!(!y_10)) (iW y_8.2),some 6,[]⟩,⟨71,.gd (!(!y_10)) (bW (!decide (y_7.2 = y_8.2))),some 7,[]⟩,⟨72,bW ((!y_10) || (!decide (y_7.2 = y_8.2))),some 8,[]⟩,⟨73,bW ((!y_10) || (!decide (y_7.2 = y_8.2))),some 9,[]⟩,⟨74,.gd (!((!y_10) || (!decide (y_7.2 = y_8.2)))) (.ptr 1 (0 + 0)),some 10,[]⟩,⟨75,.gd (!((!y_10) || (!decide (y_7.2 = y_8.2)))) (.agg (pW false false a0.Gq)),some 11,[]⟩,⟨76,.gd (!((!y_10) || (!decide (y_7.2 = y_8.2)))) (.agg (pW false false y_11)),some 12,[]⟩,⟨77,.gd (!((!y_10) || (!decide (y_7.2 = y_8.2)))) (.agg [rW β3 a0.Path eW,iW a0.Ln,iW y_9.Split,rW false y_9.Kd encK79,rW β5 y_9.Lf eW]),some 13,[]⟩,⟨78,.gd (!((!y_10) || (!decide (y_7.2 = y_8.2)))) (bW y_12),some 14,[]⟩,⟨79,.gd (!((!y_10) || (!decide (y_7.2 = y_8.2)))) (.ptr 1 (0 + 0)),some 15,[]⟩,⟨80,.gd (!((!y_10) || (!decide (y_7.2 = y_8.2)))) (.agg (pW false false a0.Gq)),some 16,[]⟩,⟨81,.gd (!((!y_10) || (!decide (y_7.2 = y_8.2)))) (.agg [rW β3 a0.Path eW,iW a0.Ln,iW a1.Split,rW false a1.Kd encK74,rW β5 a1.Lf eW]),some 17,[]⟩,⟨82,.gd (!((!y_10) || (!decide (y_7.2 = y_8.2)))) (bW y_13),some 18,[]⟩,⟨83,.gd (!((!y_10) || (!decide (y_7.2 = y_8.2)))) (bW (y_12 != y_13)),some 19,[]⟩,⟨84,bW (((!y_10) || (!decide (y_7.2 = y_8.2))) || (y_12 != y_13)),some 20,[]⟩] [⟨[2],0,0,some (64,rW false y_7.1 eW),[]⟩,⟨[4],0,0,some (65,rW false y_8.1 eW),[]⟩,⟨[8,9],0,0,some (66,bW y_10),[]⟩,⟨[10],0,0,some (67,bW (!y_10)),[]⟩,⟨[11],0,0,some (68,bW (!y_10)),[]⟩,⟨[12,3],0,0,some (69,.gd (!(!y_10)) (iW y_7.2)),[]⟩,⟨[12,5],0,0,some (70,.gd (!(!y_10)) (iW y_8.2)),[]⟩,⟨[12,13,14],0,0,some (71,.gd (!(!y_10)) (bW (!decide (y_7.2 = y_8.2)))),[]⟩,⟨[12,15],0,0,some (72,bW ((!y_10) || (!decide (y_7.2 = y_8.2)))),[]⟩,⟨[16],0,0,some (73,bW ((!y_10) || (!decide (y_7.2 = y_8.2)))),[]⟩,⟨[17,1],0,0,some (74,.gd (!((!y_10) || (!decide (y_7.2 = y_8.2)))) (.ptr 1 (0 + 0))),[]⟩,⟨[17,18],0,0,some (75,.gd (!((!y_10) || (!decide (y_7.2 = y_8.2)))) (.agg (pW false false a0.Gq))),[]⟩,⟨[17,19],0,0,some (76,.gd (!((!y_10) || (!decide (y_7.2 = y_8.2)))) (.agg (pW false false y_11))),[]⟩,⟨[17,6],0,0,some (77,.gd (!((!y_10) || (!decide (y_7.2 = y_8.2)))) (.agg [rW β3 a0.Path eW,iW a0.Ln,iW y_9.Split,rW false y_9.Kd encK79,rW β5 y_9.Lf eW])),[]⟩,⟨[17,20,21],0,0,some (78,.gd (!((!y_10) || (!decide (y_7.2 = y_8.2)))) (bW y_12)),[]⟩,⟨[17,1],0,0,some (79,.gd (!((!y_10) || (!decide (y_7.2 = y_8.2)))) (.ptr 1 (0 + 0))),[]⟩,⟨[17,23],0,0,some (80,.gd (!((!y_10) || (!decide (y_7.2 = y_8.2)))) (.agg (pW false false a0.Gq))),[]⟩,⟨[17,7],0,0,some (81,.gd (!((!y_10) || (!decide (y_7.2 = y_8.2)))) (.agg [rW β3 a0.Path eW,iW a0.Ln,iW a1.Split,rW false a1.Kd encK74,rW β5 a1.Lf eW])),[]⟩,⟨[17,24,25],0,0,some (82,.gd (!((!y_10) || (!decide (y_7.2 = y_8.2)))) (bW y_13)),[]⟩,⟨[17,22,26],0,0,some (83,.gd (!((!y_10) || (!decide (y_7.2 = y_8.2)))) (bW (y_12 != y_13))),[]⟩,⟨[17,27],0,0,some (84,bW (((!y_10) || (!decide (y_7.2 = y_8.2))) || (y_12 != y_13))),[]⟩] [] [[(4,⟨86,false,[rW β3 a0.Path eW,iW a0.Ln,iW a1.Split,rW false a1.Kd encK74,rW β5 a1.Lf eW]⟩),(3,⟨84,false,[rW β3 a0.Path eW,iW a0.Ln,iW y_9.Split,rW false y_9.Kd encK79,rW β5 y_9.Lf eW]⟩),(1,⟨53,false,(gW false false β3 a0.Gq a0.Path a0.Ln)⟩)]] [[],[],[0,1],[0,1,2],[0,1,2,3],[0,1,2,3,4],[0,1,2,3,4],[0,1,2,3,4,5,6],[0,1,2,3,4,5,6,7],[0,1,2,3,4,5,6,7,8],[0,1,2,3,4,5,6,7,8,9],[0,1,2,3,4,5,6,7,8,9,10],[0,1,2,3,4,5,6,7,8,9,10,11],[0,1,2,3,4,5,6,7,8,9],[0,1,2,3,4,5,6,7,8,9,10,11,12,13],[0,1,2,3,4,5,6,7,8,9],[0,1,2,3,4,5,6,7,8,9,15],[0,1,2,3,4,5,6,7,8,9],[0,1,2,3,4,5,6,7,8,9,10,11,12,13,14,15,16,17],[0,1,2,3,4,5,6,7,8,9,10,11,12,13,14,15,16,17,18],[0,1,2,3,4,5,6,7,8,9,10,11,12,13,14,15,16,17,18,19]] (by kernel_rfl) (by kernel_rfl) (BornL.ok (.o<| .o<| .o<| .o<| .o<| .o<| .o<| .o<| .b rfl rfl<| .b rfl rfl<| .b rfl rfl<| .b rfl rfl<| .b rfl rfl<| .b rfl rfl<| .b rfl rfl<| .b rfl rfl<| .b rfl rfl<| .b rfl rfl<| .b rfl rfl<| .b rfl rfl<| .b rfl rfl<| .b rfl rfl<| .b rfl rfl<| .b rfl rfl<| .b rfl rfl<| .b rfl rfl<| .b rfl rfl<| .b rfl rfl<| .b rfl rfl<| .n)) (BaseL.ok (.o rfl<| .o rfl<| .o rfl<| .o rfl<| .o rfl<| .o rfl<| .o rfl<| .o rfl<| .b<| .b<| .b<| .b<| .b<| .b<| .b<| .b<| .b<| .b<| .b<| .b<| .b<| .b<| .b<| .b<| .b<| .b<| .b<| .b<| .b<| .n)) rfl (by decide) (allLt rfl) (.pure rfl (fun H => .put (fun E hE => .move (l1 rfl) (.tmp (hE.at (k := 0) rfl))))<| .pure rfl (fun H => .put (fun E hE => .move (l1 rfl) (.tmp (hE.at (k := 0) rfl))))<| .pure rfl (fun H => .put (fun E hE => .call0 (bw := false) (l1 rfl) (c17 (β1 := false) (β2 := false) n y_7.1 y_8.1 hy_10) (.cons (.tmp (hE.at (k := 0) rfl)) (.ren rfl) (.cons (.tmp (hE.at (k := 1) rfl)) (.ren rfl) (.nil))) rfl))<| .pure rfl (fun H => .put (fun E hE => .not (l1 rfl) (.tmp (hE.at (k := 0) rfl))))<| .pure rfl (fun H => .put (fun E hE => .move (l1 rfl) (.tmp (hE.at (k := 0) rfl))))<| .pure rfl (fun H => .gput (b := (!y_10)) (want := false) (j := 4) (dj := 68) rfl (l1 rfl) (l1 rfl) (fun E hE => hE.at (k := 0) rfl) (fun hg E hE => .move (l1 rfl) (.tmp (hE.at (k := 1) rfl))))<| .pure rfl (fun H => .gput (b := (!y_10)) (want := false) (j := 4) (dj := 68) rfl (l1 rfl) (l1 rfl) (fun E hE => hE.at (k := 0) rfl) (fun hg E hE => .move (l1 rfl) (.tmp (hE.at (k := 1) rfl))))<| .pure rfl (fun H => .gput (b := (!y_10)) (want := false) (j := 4) (dj := 68) rfl (l1 rfl) (l1 rfl) (fun E hE => hE.at (k := 0) rfl) (fun hg E hE => .neq (l1 rfl) (.gd hg (.tmp (hE.at (k := 1) rfl))) (.gd hg (.tmp (hE.at (k := 2) rfl)))))<| .pure rfl (fun H => .put (fun E hE => .pickOr (l1 rfl) (.tmp (hE.at (k := 0) rfl)) (.const _ _ _) (.tmp (hE.at (k := 1) rfl))))<| .pure rfl (fun H => .put (fun E hE => .move (l1 rfl) (.tmp (hE.at (k := 0) rfl))))<| .read rfl (.c (.gput (b := ((!y_10) || (!decide (y_7.2 = y_8.2)))) (want := false) (j := 9) (dj := 73) rfl (l1 rfl) (l1 rfl) (fun E hE => hE.at (k := 0) rfl) (fun hg E hE => .fieldP (l1 rfl) (.tmp (hE.at (k := 1) rfl)) fld53_0)) .n)<| .read rfl (.c (.gput (b := ((!y_10) || (!decide (y_7.2 = y_8.2)))) (want := false) (j := 9) (dj := 73) rfl (l1 rfl) (l1 rfl) (fun E hE => hE.at (k := 0) rfl) (fun hg E hE => .loadPA (l1 rfl) (.gd hg (.tmp (hE.at (k := 1) rfl))) agg25 rfl rfl rfl rfl)) .n)<| .pure rfl (fun H => .gput (b := ((!y_10) || (!decide (y_7.2 = y_8.2)))) (want := false) (j := 9) (dj := 73) rfl (l1 rfl) (l1 rfl) (fun E hE => hE.at (k := 0) rfl) (fun hg E hE => .call0 (bw := false) (l1 rfl) (c14 (β1 := false) (β2 := false) n (R24.mk a0.Gq.Pq a0.Gq.Bq) (gdB hy_11 hg)) (.cons (.gd hg (.tmp (hE.at (k := 1) rfl))) (.ren rfl) (.nil)) rfl))<| .read rfl (.c (.gput (b := ((!y_10) || (!decide (y_7.2 = y_8.2)))) (want := false) (j := 9) (dj := 73) rfl (l1 rfl) (l1 rfl) (fun E hE => hE.at (k := 0) rfl) (fun hg E hE => .loadPA (l1 rfl) (.tmp (hE.at (k := 1) rfl)) agg84 rfl rfl rfl rfl)) .n)<| .pure rfl (fun H => .gput (b := ((!y_10) || (!decide (y_7.2 = y_8.2)))) (want := false) (j := 9) (dj := 73) rfl (l1 rfl) (l1 rfl) (fun E hE => hE.at (k := 0) rfl) (fun hg E hE => .call0 (bw := false) (l1 rfl) (c43 (β3 := β3) (β4 := false) (β5 := β5) n y_11 (R83.mk a0.Path a0.Ln (R79.mk y_9.Split y_9.Kd y_9.Lf)) (gdB hy_12 hg)) (.cons (.gd hg (.tmp (hE.at (k := 1) rfl))) (.ren rfl) (.cons (.gd hg (.tmp (hE.at (k := 2) rfl))) (.ren rfl) (.nil))) rfl))<| .read rfl (.c (.gput (b := ((!y_10) || (!decide (y_7.2 = y_8.2)))) (want := false) (j := 9) (dj := 73) rfl (l1 rfl) (l1 rfl) (fun E hE => hE.at (k := 0) rfl) (fun hg E hE => .fieldP (l1 rfl) (.tmp (hE.at (k := 1) rfl)) fld53_0)) .n)<| .read rfl (.c (.gput (b := ((!y_10) || (!decide (y_7.2 = y_8.2)))) (want := false) (j := 9) (dj := 73) rfl (l1 rfl) (l1 rfl) (fun E hE => hE.at (k := 0) rfl) (fun hg E hE => .loadPA (l1 rfl) (.gd hg (.tmp (hE.at (k := 1) rfl))) agg25 rfl rfl rfl rfl)) .n)<| .read rfl (.c (.gput (b := ((!y_10) || (!decide (y_7.2 = y_8.2)))) (want := false) (j := 9) (dj := 73) rfl (l1 rfl) (l1 rfl) (fun E hE => hE.at (k := 0) rfl) (fun hg E hE => .loadPA (l1 rfl) (.tmp (hE.at (k := 1) rfl)) agg86 rfl rfl rfl rfl)) .n)<| .pure rfl (fun H => .gput (b := ((!y_10) || (!decide (y_7.2 = y_8.2)))) (want := false) (j := 9) (dj := 73) rfl (l1 rfl) (l1 rfl) (fun E hE => hE.at (k := 0) rfl) (fun hg E hE => .call0 (bw := false) (l1 rfl) (c44 (β3 := β3) (β4 := false) (β5 := β5) n (R24.mk a0.Gq.Pq a0.Gq.Bq) (R85.mk a0.Path a0.Ln (R74.mk a1.Split a1.Kd a1.Lf)) (gdB hy_13 hg)) (.cons (.gd hg (.tmp (hE.at (k := 1) rfl))) (.ren rfl) (.cons (.gd hg (.tmp (hE.at (k := 2) rfl))) (.ren rfl) (.nil))) rfl))<| .pure rfl (fun H => .gput (b := ((!y_10) || (!decide (y_7.2 = y_8.2)))) (want := false) (j := 9) (dj := 73) rfl (l1 rfl) (l1 rfl) (fun E hE => hE.at (k := 0) rfl) (fun hg E hE => .neqB (l1 rfl) (.gd hg (.tmp (hE.at (k := 1) rfl))) (.gd hg (.tmp (hE.at (k := 2) rfl))) Try.underlying4))<| .pure rfl (fun H => .put (fun E hE => .pickOr (l1 rfl) (.tmp (hE.at (k := 0) rfl)) (.const _ _ _) (.tmp (hE.at (k := 1) rfl))))<| .nil _) (fun E hE => .c (DInv.at hE (k := 0) rfl rfl rfl)<| .c (DInv.at hE (k := 1) rfl rfl rfl)<| .c (DInv.at hE (k := 3) rfl rfl rfl)<| .c (DInv.at hE (k := 28) rfl rfl rfl)<| .n _) rfl ?_
  refine AWP.vc (s' := ⟨[(2,rW β6 a2 enc8),(3,.ptr 1 0),(8,iW y_7.2),(84,bW (((!y_10) || (!decide (y_7.2 = y_8.2))) || (y_12 != y_13)))],[(1,⟨53,false,(gW false false β3 a0.Gq a0.Path a0.Ln)⟩)]⟩) (VC.sub (.of rfl) (.of rfl)) ?_
  refine AWP.cond (.t rfl) (fun hc => ?_) (fun hc => ?_)
  ·have h := iteT hc h
   refine AWP.seq ?_
   refine AWP.rg (.cons (.assign (l1 rfl) (.const _ _ _))<| ARun.nil _ _ _) ?_
   refine AWP.ret ?_
   obtain rfl := Option.some.inj h
   refine retJ (Res.vc (s' := ⟨[(6,bW false)],[]⟩) (VC.sub (.of rfl) (.n _)) ?_)
   refine Res.drop (H := []) rfl ?_
   exact Res.of rfl (.cons (.tmp rfl) (.nil)) rfl rfl
  ·have h := iteF hc h
   refine AWP.skip ?_
   refine AWP.seq ?_
   refine AWP.seq ?_
   refine AWP.rg (.cons (.move (l1 rfl) (.t rfl))<| .cons (.neq (l1 rfl) (.t rfl) (.const _ _ _))<| ARun.nil _ _ _) ?_
   refine AWP.vc (s' := ⟨[(2,rW β6 a2 enc8),(3,.ptr 1 0),(86,bW (!decide (y_7.2 = (0 : Int))))],[(1,⟨53,false,(gW false false β3 a0.Gq a0.Path a0.Ln)⟩)]⟩) (VC.sub (.of rfl) (.of rfl)) ?_
   refine AWP.cond (.t rfl) (fun hc => ?_) (fun hc => ?_)
   ·have h := iteT hc h
    refine AWP.seq ?_
    refine AWP.rg (.cons (.assign (l1 rfl) (.const _ _ _))<| ARun.nil _ _ _) ?_
    refine AWP.ret ?_
    obtain rfl := Option.some.inj h
    refine retJ (Res.vc (s' := ⟨[(6,bW true)],[]⟩) (VC.sub (.of rfl) (.n _)) ?_)
    refine Res.drop (H := []) rfl ?_
    exact Res.of rfl (.cons (.tmp rfl) (.nil)) rfl rfl
   ·have h := iteF hc h
    refine AWP.skip ?_
    refine AWP.seq ?_
    obtain ⟨l5_14,hl5_14,h⟩ := bindS h
    refine AWP.rg (.cons (.buildSlice (t := 5) (out := ([] : List Int).flatMap eW) (l1 rfl) (nm rfl) (.nil) Try.underlying28 zero3 el3 (by decide) (by decide) rfl (still_all (encI_still .i64) _))<| .cons (.fieldP (l1 rfl) (.t rfl) fld53_1)<| .cons (.loadP (l1 rfl) (.t rfl) one28 rfl rfl rfl)<| .cons (.app (enc := eW) (l1 rfl) (nm rfl) (.t rfl) (Src.rd (.t rfl) (flatMap_length (encI_len .i64) _) (one_all (encI_one .i64) _) (.inr (scal_all (encI_scal .i64) _))) Try.underlying28 ⟨_,Try.underlying28,by intro k hk; cases hk⟩ el3 rfl (encI_len .i64) rfl rfl (by decide) hl5_14)<| .cons (.assign (l1 rfl) (.t rfl))<| ARun.nil _ _ _) ?_
    refine AWP.vc (s' := ⟨[(2,rW β6 a2 enc8),(3,.ptr 1 0),(13,.own 5 1 0 l5_14.length)],[(5,⟨3,true,l5_14.flatMap eW⟩),(1,⟨53,false,(gW false false β3 a0.Gq a0.Path a0.Ln)⟩)]⟩) (VC.sub (.of rfl) (.of rfl)) ?_
    refine AWP.seq ?_
    refine AWP.seq ?_
    refine AWP.rg (.cons (.assign (l1 rfl) (.const _ _ _))<| ARun.nil _ _ _) ?_
    refine AWP.vc (s' := ⟨[(2,rW β6 a2 enc8),(3,.ptr 1 0),(13,.own 5 1 0 l5_14.length),(14,iW (0 : Int))],[(5,⟨3,true,l5_14.flatMap eW⟩),(1,⟨53,false,(gW false false β3 a0.Gq a0.Path a0.Ln)⟩)]⟩) (VC.sub (.of rfl) (.of rfl)) ?_
    refine AWP.joinB' (S := fun p_46 : (List Int) => ⟨[(3,.ptr 1 0),(13,.own 5 1 0 p_46.length)],[(1,⟨53,false,(gW false false β3 a0.Gq a0.Path a0.Ln)⟩),(5,⟨3,true,p_46.flatMap eW⟩)]⟩) h (fun p_46 h => ?_) (fun k_47 h => ?_)
    ·refine AWP.seq ?_
     obtain ⟨y_48,hy_48,h⟩ := bindS h
     refine AWP.draw (s' := ⟨[(6,bW (decide (a0.Ln ≤ y_48)))],[(1,⟨53,false,(gW false false β3 a0.Gq a0.Path a0.Ln)⟩),(5,⟨3,true,p_46.flatMap eW⟩)]⟩) mixed [⟨3,.ptr 1 0,none,[]⟩,⟨13,.own 5 1 0 p_46.length,none,[]⟩,⟨123,.ptr 1 (0 + 0),some 0,[]⟩,⟨124,.agg (pW false false a0.Gq),some 1,[]⟩,⟨125,.own 5 1 0 p_46.length,some 2,[]⟩,⟨126,iW y_48,some 3,[]⟩,⟨127,.ptr 1 (0 + 3),some 4,[]⟩,⟨128,iW a0.Ln,some 5,[]⟩,⟨129,bW (decide (a0.Ln ≤ y_48)),some 6,[]⟩,⟨6,bW (decide (a0.Ln ≤ y_48)),some 7,[]⟩] [⟨[0],0,0,some (123,.ptr 1 (0 + 0)),[]⟩,⟨[2],0,0,some (124,.agg (pW false false a0.Gq)),[]⟩,⟨[1],0,0,some (125,.own 5 1 0 p_46.length),[]⟩,⟨[3,4],0,0,some (126,iW y_48),[]⟩,⟨[0],0,0,some (127,.ptr 1 (0 + 3)),[]⟩,⟨[6],0,0,some (128,iW a0.Ln),[]⟩,⟨[5,7],0,0,some (129,bW (decide (a0.Ln ≤ y_48))),[]⟩,⟨[8],0,0,some (6,bW (decide (a0.Ln ≤ y_48))),[]⟩] [] [[(1,⟨53,false,(gW false false β3 a0.Gq a0.Path a0.Ln)⟩),(5,⟨3,true,p_46.flatMap eW⟩)]] [[],[0],[],[0,1,2],[],[4],[0,1,2,3,4,5],[0,1,2,3,4,5,6]] (by kernel_rfl) (by kernel_rfl) (BornL.ok (.o<| .o<| .b rfl rfl<| .b rfl rfl<| .b rfl rfl<| .b rfl rfl<| .b rfl rfl<| .b rfl rfl<| .b rfl rfl<| .b rfl rfl<| .n)) (BaseL.ok (.o rfl<| .o rfl<| .b<| .b<| .b<| .b<| .b<| .b<| .b<| .b<| .n)) rfl (by decide) (allLt rfl) (.read rfl (.c (.put (fun E hE => .fieldP (l1 rfl) (.tmp (hE.at (k := 0) rfl)) fld53_0)) .n)<| .read rfl (.c (.put (fun E hE => .loadPA (l1 rfl) (.tmp (hE.at (k := 0) rfl)) agg25 rfl rfl rfl rfl)) .n)<| .read rfl (.c (.put (fun E hE => .move (l1 rfl) (.tmp (hE.at (k := 0) rfl)))) .n)<| .read rfl (.c (.put (fun E hE => .call0 (bw := true) (l1 rfl) (c20 (β1 := false) (β2 := false) (β3 := true) n (R24.mk a0.Gq.Pq a0.Gq.Bq) p_46 hy_48) (.cons (.tmp (hE.at (k := 0) rfl)) (.ren rfl) (.cons (.tmp (hE.at (k := 1) rfl)) (.lendRow rfl rfl (encI_len .i64) rfl) (.nil))) rfl)) .n)<| .read rfl (.c (.put (fun E hE => .fieldP (l1 rfl) (.tmp (hE.at (k := 0) rfl)) fld53_2)) .n)<| .read rfl (.c (.put (fun E hE => .loadP (l1 rfl) (.tmp (hE.at (k := 0) rfl)) one3 rfl rfl rfl)) .n)<| .pure rfl (fun H => .put (fun E hE => .geq (l1 rfl) (.tmp (hE.at (k := 0) rfl)) (.tmp (hE.at (k := 1) rfl))))<| .pure rfl (fun H => .put (fun E hE => .assign (l1 rfl) (.tmp (hE.at (k := 0) rfl))))<| .nil _) (fun E hE => .c (DInv.at hE (k := 9) rfl rfl rfl)<| .n _) rfl ?_
     refine AWP.ret ?_
     obtain rfl := Option.some.inj h
     refine retJ (Res.vc (s' := ⟨[(6,bW (decide (a0.Ln ≤ y_48)))],[]⟩) (VC.sub (.of rfl) (.n _)) ?_)
     refine Res.drop (H := []) rfl ?_
     exact Res.of rfl (.cons (.tmp rfl) (.nil)) rfl rfl
    ·refine AWP.vc (s' := ⟨[(2,rW β6 a2 enc8),(3,.ptr 1 0),(13,.own 5 1 0 l5_14.length),(14,iW (0 : Int))],[(1,⟨53,false,(gW false false β3 a0.Gq a0.Path a0.Ln)⟩),(5,⟨3,true,l5_14.flatMap eW⟩)]⟩) (VC.sub (.of rfl) (.of rfl)) ?_
     refine AWP.loopM (S := fun x_35 : Int × (List Int) => ⟨[(2,rW β6 a2 enc8),(3,.ptr 1 0),(13,.own 5 1 0 x_35.2.length),(14,iW x_35.1)],[(1,⟨53,false,(gW false false β3 a0.Gq a0.Path a0.Ln)⟩),(5,⟨3,true,x_35.2.flatMap eW⟩)]⟩) (x := ((0 : Int),l5_14)) (fun nx_36 x_35 h => ?_) h
     unfold m10_L1 at h
     refine AWP.seq ?_
     refine AWP.seq ?_
     refine AWP.rg (.cons (.move (l1 rfl) (.t rfl))<| .cons (.lenOwn (l1 rfl) (.t rfl) Try.underlying28)<| .cons (.fieldP (l1 rfl) (.t rfl) fld53_0)<| .cons (.fieldP (l1 rfl) (.t rfl) fld25_0)<| .cons (.loadP (l1 rfl) (.t rfl) one22 rfl rfl rfl)<| .cons (.lenRd (l1 rfl) (.t rfl) Try.underlying22)<| .cons (.lss (l1 rfl) (.t rfl) (.t rfl))<| ARun.nil _ _ _) ?_
     refine AWP.vc (s' := ⟨[(2,rW β6 a2 enc8),(3,.ptr 1 0),(13,.own 5 1 0 x_35.2.length),(14,iW x_35.1),(97,bW (decide ((x_35.2.length : Int) < (a0.Gq.Pq.length : Int))))],[(1,⟨53,false,(gW false false β3 a0.Gq a0.Path a0.Ln)⟩),(5,⟨3,true,x_35.2.flatMap eW⟩)]⟩) (VC.sub (.of rfl) (.of rfl)) ?_
     refine AWP.cond (.t rfl) (fun hc => ?_) (fun hc => ?_)
     ·have h := iteT hc h
      refine AWP.skip ?_
      refine AWP.seq ?_
      refine AWP.block ?_
      refine AWP.seq ?_
      obtain ⟨y_37,hy_37,h⟩ := bindS h
      refine AWP.rg (.cons (.fieldP (l1 rfl) (.t rfl) fld53_0)<| .cons (.loadPA (l1 rfl) (.t rfl) agg25 rfl rfl rfl rfl)<| .cons (.move (l1 rfl) (.t rfl))<| .cons (.call0 (bw := true) (l1 rfl) (c45 (β1 := false) (β2 := false) (β3 := true) n (R24.mk a0.Gq.Pq a0.Gq.Bq) x_35.2 hy_37) (.cons (.t rfl) (.ren rfl) (.cons (.t rfl) (.lendRow rfl rfl (encI_len .i64) rfl) (.nil))) rfl)<| .cons (.assign (l1 rfl) (.t rfl))<| ARun.nil _ _ _) ?_
      refine AWP.vc (s' := ⟨[(2,rW β6 a2 enc8),(3,.ptr 1 0),(13,.own 5 1 0 x_35.2.length),(14,iW x_35.1),(15,rW false y_37 eW)],[(1,⟨53,false,(gW false false β3 a0.Gq a0.Path a0.Ln)⟩),(5,⟨3,true,x_35.2.flatMap eW⟩)]⟩) (VC.sub (.of rfl) (.of rfl)) ?_
      refine AWP.seq ?_
      refine AWP.rg (.cons (.assign (l1 rfl) (.const _ _ _))<| ARun.nil _ _ _) ?_
      refine AWP.vc (s' := ⟨[(2,rW β6 a2 enc8),(3,.ptr 1 0),(13,.own 5 1 0 x_35.2.length),(14,iW x_35.1),(15,rW false y_37 eW),(16,iW (0 : Int))],[(1,⟨53,false,(gW false false β3 a0.Gq a0.Path a0.Ln)⟩),(5,⟨3,true,x_35.2.flatMap eW⟩)]⟩) (VC.sub (.of rfl) (.of rfl)) ?_
      refine AWP.seq ?_
      refine AWP.seq ?_
      refine AWP.rg (.cons (.move (l1 rfl) (.t rfl))<| .cons (.move (l1 rfl) (.t rfl))<| .cons (.lenRd (l1 rfl) (.t rfl) Try.underlying36)<| .cons (.lss (l1 rfl) (.t rfl) (.t rfl))<| ARun.nil _ _ _) ?_
      refine AWP.vc (s' := ⟨[(2,rW β6 a2 enc8),(3,.ptr 1 0),(13,.own 5 1 0 x_35.2.length),(14,iW x_35.1),(15,rW false y_37 eW),(16,iW (0 : Int)),(107,bW (decide (x_35.1 < (a2.length : Int))))],[(1,⟨53,false,(gW false false β3 a0.Gq a0.Path a0.Ln)⟩),(5,⟨3,true,x_35.2.flatMap eW⟩)]⟩) (VC.sub (.of rfl) (.of rfl)) ?_
      refine AWP.join' (S := fun p_41 : Int => ⟨[(2,rW β6 a2 enc8),(3,.ptr 1 0),(13,.own 5 1 0 x_35.2.length),(14,iW x_35.1),(15,rW false y_37 eW),(16,iW p_41)],[(1,⟨53,false,(gW false false β3 a0.Gq a0.Path a0.Ln)⟩),(5,⟨3,true,x_35.2.flatMap eW⟩)]⟩) h (fun p_41 h => ?_) (fun k_42 h => ?_)
      ·obtain ⟨y_43,hy_43,h⟩ := bindS h
       obtain ⟨l5_44,hl5_44,h⟩ := bindS h
       refine AWP.rg (.cons (.move (l1 rfl) (.t rfl))<| .cons (.move (l1 rfl) (.t rfl))<| .cons (.move (l1 rfl) (.t rfl))<| .cons (.indexRd (enc := eW) (l1 rfl) (.t rfl) (.t rfl) Try.underlying28 sz3 (encI_len .i64) rfl hy_43)<| .cons (.loadR (v := iW y_43) (l1 rfl) (.t rfl) one3 rfl)<| .cons (.buildSlice (t := 6) (out := ([y_43] : List Int).flatMap eW) (l1 rfl) (nm rfl) (.cons (.t rfl) (by first | exact ⟨rfl,rfl⟩ | rfl) (.nil)) Try.underlying28 zero3 el3 (by decide) (by decide) rfl (still_all (encI_still .i64) _))<| .cons (.app (enc := eW) (l1 rfl) (nm rfl) (.t rfl) (Src.own (.t rfl) rfl (lendAll (encI_len .i64) _) (flatMap_length (encI_len .i64) _) (one_all (encI_one .i64) _) (.inl rfl)) Try.underlying28 ⟨_,Try.underlying28,by intro k hk; cases hk⟩ el3 rfl (encI_len .i64) rfl rfl (by decide) hl5_44)<| .cons (.assign (l1 rfl) (.t rfl))<| ARun.nil _ _ _) ?_
       refine AWP.vc (s' := ⟨[(2,rW β6 a2 enc8),(3,.ptr 1 0),(13,.own 5 1 0 l5_44.length),(14,iW x_35.1)],[(5,⟨3,true,l5_44.flatMap eW⟩),(1,⟨53,false,(gW false false β3 a0.Gq a0.Path a0.Ln)⟩)]⟩) (VC.sub (.of rfl) (.of rfl)) ?_
       obtain ⟨t14_45,ht14_45,h⟩ := letS h
       refine AWP.rg (.cons (.move (l1 rfl) (.t rfl))<| .cons (.add (l1 rfl) (.t rfl) (.const _ _ _))<| .cons (.assign (l1 rfl) (.t rfl))<| ARun.nil _ _ _) ?_
       exact endJ (t14_45,l5_44) h (by subst ht14_45; exact VC.sub (.of rfl) (.of rfl))
      ·refine AWP.cond (.t rfl) (fun hc => ?_) (fun hc => ?_)
       ·have h := iteT hc h
        obtain ⟨y_38,hy_38,h⟩ := bindS h
        obtain ⟨ha_39,h⟩ := asrtS h
        obtain ⟨t16_40,ht16_40,h⟩ := letS h
        refine AWP.rg (.cons (.move (l1 rfl) (.t rfl))<| .cons (.move (l1 rfl) (.t rfl))<| .cons (.indexRd (enc := enc8) (l1 rfl) (.t rfl) (.t rfl) Try.underlying36 sz5 enc8_len rfl hy_38)<| .cons (.loadR (v := .sc (.int .u8 (y_38.toNat : Int))) (l1 rfl) (.t rfl) one5 rfl)<| .cons (.conv (l1 rfl) (.t rfl) Try.underlying5 Try.underlying3)<| .cons (.move (l1 rfl) (.t rfl))<| .cons (.lenRd (l1 rfl) (.t rfl) Try.underlying28)<| .cons (.rem (l1 rfl) (.t rfl) (.t rfl) ha_39)<| .cons (.assign (l1 rfl) (.t rfl))<| ARun.nil _ _ _) ?_
        exact endJ t16_40 h (by subst ht16_40; exact VC.sub (.of rfl) (.of rfl))
       ·have h := iteF hc h
        refine AWP.skip ?_
        exact endJ (0 : Int) h (VC.sub (.of rfl) (.of rfl))
     ·have h := iteF hc h
      refine AWP.exit ?_
      exact endJ x_35.2 h (VC.sub (.of rfl) (.of rfl))
end Go.AB

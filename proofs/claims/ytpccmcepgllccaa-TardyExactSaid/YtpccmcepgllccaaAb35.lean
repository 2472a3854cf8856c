/-
  AB, part 35: one cell of a box in another form.
-/
import Derived.Test.YtpccmcepgllccaaAb34
namespace Go.AB
open Go

section
variable {C : Ctx} {s : St}
theorem VC.cell {t i : Nat} {k : Blk} {v v' : AV} (hk : look t s.heap = some k) (hl : k.lst = false) (hc : k.cells[i]? = some v) (h : ∀ w Z ι u, VR w Z ι v u → VR w Z ι v' u) :
    VC C s ⟨s.env, updH t ⟨k.ty, k.lst, k.cells.set i v'⟩ s.heap⟩ := by
  have hi := (List.getElem?_eq_some_iff.1 hc).1
  refine VC.cellsW hk rfl (by simp) (.inr fun hn => by rw [hn] at hi; cases hi) (fun hn => by rw [hn] at hi; cases hi) fun j hj hj' w Z ι u hZ hv => ?_
  simp only [hl, cond_false] at hv ⊢
  by_cases e : j = i
  · subst e
    have : k.cells[j] = v := by rw [List.getElem?_eq_getElem hj] at hc; exact Option.some.inj hc
    rw [this] at hv
    simp only [List.getElem_set_self]
    exact h _ _ _ _ hv
  · rw [List.getElem_set_ne (fun h => e h.symm)]
    exact hv
theorem VC.cellEq {t i : Nat} {k : Blk} {v v' : AV} (hk : look t s.heap = some k) (hl : k.lst = false) (hc : k.cells[i]? = some v) (h : v = v') :
    VC C s ⟨s.env, updH t ⟨k.ty, k.lst, k.cells.set i v'⟩ s.heap⟩ := VC.cell hk hl hc fun _ _ _ _ hv => h ▸ hv
end
end Go.AB
namespace Go.AB
/-- a row of bytes as it is built -/
inductive row8 : List AV → List UInt8 → Prop
  | n : row8 [] []
  | c {a : AV} {c : UInt8} {l : List AV} {l' : List UInt8} (h : a = .sc (.int .u8 (c.toNat : Int))) (t : row8 l l') : row8 (a :: l) (c :: l')
theorem row8w (n : Int) : AV.sc (.int .u8 (IntKind.wrap .u8 n)) = .sc (.int .u8 ((b8 (IntKind.wrap .u8 n)).toNat : Int)) := by rw [b8_wrap]
theorem row8.eq {l : List AV} {l' : List UInt8} (h : row8 l l') : l = l'.flatMap enc8 := by
  induction h with
  | n => rfl
  | c h t ih => rw [List.flatMap_cons, ← ih, h]; rfl
theorem fill8 {o : Option (List AV)} {l : List AV} {l' : List UInt8} (h : o = some l) (e : row8 l l') : o = some (l'.flatMap enc8) := by rw [h, e.eq]
end Go.AB
namespace Go.AB
open Go
/-- a result that lies in a box, of one cell -/
theorem RV.cell1 {C : Ctx} {s : St} {x T t off : Nat} {k : Blk} {c v : AV} (hx : look x s.env = some (.ptr t off)) (hT : oneT C.P T) (hk : look t s.heap = some k)
    (hc : k.cells[off]? = some c) (hv : v = k.out c) : RV C s (.cell x T) v := fun ι a w r => by
  subst hv
  obtain ⟨b, hu, ht⟩ := ptr_inv (r.env x _ hx)
  obtain ⟨cur, hb, hl, h⟩ := blk_inv r.core hk ht
  have hlt := (List.getElem?_eq_some_iff.1 hc).1
  obtain ⟨u, hu', hvr⟩ := h off hlt
  have he : k.cells[off] = c := by rw [List.getElem?_eq_getElem hlt] at hc; exact Option.some.inj hc
  rw [he] at hvr
  refine ⟨u, ?_, out_VR hvr⟩
  have hcell : w.cell? ⟨b, off, none⟩ = some u := by rw [cell_of_row w b off cur k.ty (0, 0) hb]; exact hu'
  simp [resVar, hu, asAddr, loadVar, hT.run, hcell]

mutual
theorem frzA_free {t : Nat} {F : List AV} : ∀ {v : AV}, AV.free t v = true → frzA t F v = v
  | .own t' sz off n, h => by
    have : Nat.beq t' t = false := by
      simp only [AV.free, bne_iff_ne, ne_eq] at h
      exact beq_ne h
    simp [frzA, this]
  | .ptr t' off, h => by
    have : Nat.beq t' t = false := by
      simp only [AV.free, bne_iff_ne, ne_eq] at h
      exact beq_ne h
    simp [frzA, this]
  | .agg cs, h => by simp only [frzA]; rw [frzL_free (by simpa [AV.free] using h)]
  | .tup cs, h => by simp only [frzA]; rw [frzL_free (by simpa [AV.free] using h)]
  | .clo f a b, h => by
    simp only [AV.free, Bool.and_eq_true] at h
    simp only [frzA]; rw [frzL_free h.1, frzL_free h.2]
  | .gd c v, h => by simp only [frzA]; rw [frzA_free (by simpa [AV.free] using h)]
  | .sc _, _ => by simp [frzA]
  | .rd _ _ _, _ => by simp [frzA]
  | .rdx _ _ _, _ => by simp [frzA]
  | .rptr _ _, _ => by simp [frzA]
  | .any, _ => by simp [frzA]
theorem frzL_free {t : Nat} {F : List AV} : ∀ {l : List AV}, AV.freeL t l = true → frzL t F l = l
  | [], _ => rfl
  | a :: l, h => by
    simp only [AV.freeL, Bool.and_eq_true] at h
    simp only [frzL]; rw [frzA_free h.1, frzL_free h.2]
end

/-- what an append gives is at once only read -/
theorem DStep.appFrz {C : Ctx} {A : Array Oper} {op : Op} {ty : TypeId} {p : String} {e : Array Edge} {need : List (Nat × AV)} {H H' : List (Nat × Blk)} {α : Type} {enc : α → List AV} {xs : List α} {d t sz : Nat} {E0 : TypeId}
    (h : ∀ E, Need need E → AStep C ⟨some d, op, ty, p, e, none⟩ ⟨E, H⟩ (St.newP ⟨E, H⟩ d t ⟨E0, true, xs.flatMap enc⟩ (.own t sz 0 xs.length)))
    (hH : H' = frzH t (xs.flatMap enc) ((t, ⟨E0, true, xs.flatMap enc⟩) :: purgeH t H)) (henc : ∀ y, (enc y).length = sz) :
    DStep C A ⟨some d, op, ty, p, e, none⟩ need H (some (d, .rd false xs.length (xs.flatMap enc))) [t] H' := fun E hE => by
  subst hH
  have hv := VC.frz (C := C) (s := St.newP ⟨E, H⟩ d t ⟨E0, true, xs.flatMap enc⟩ (.own t sz 0 xs.length)) (enc := enc) (d := d) (t := t) (sz := sz) (E := E0) (xs := xs) (look_cons_self _ _ _) (look_cons_self _ _ _) henc
  refine ⟨(d, .rd false xs.length (xs.flatMap enc)) :: frzE t (xs.flatMap enc) ((d, .own t sz 0 xs.length) :: purgeE t E), OStep.plain (fun ι a w K Q r hk => h E hE ι a w K Q r fun ι' a' w' r' => ?_), ?_, ?_⟩
  · obtain ⟨ι2, r2⟩ := hv ι' a' w' r'
    exact hk ι2 a' w' r2
  · intro d' v' hd; cases hd; simp [look_cons_self]
  · intro x v' hx hl hf
    have hxd : x ≠ d := hx d _ rfl
    have hf' : AV.free t v' = true := by simpa [freeOf] using hf
    rw [look_cons_ne hxd, look_frzE, look_cons_ne hxd, look_purgeE, hl]
    simp [purgeA, hf', frzA_free hf']
end Go.AB
namespace Go.AB
inductive BornL (D : List DOp) : List DFact → Prop
  | n : BornL D []
  | o {slot : Nat} {v : AV} {dies : List Nat} {F : List DFact} (t : BornL D F) : BornL D (⟨slot, v, none, dies⟩ :: F)
  | b {slot j : Nat} {v : AV} {dies : List Nat} {x : DOp} {F : List DFact} (h : D[j]? = some x) (hv : x.dv = some (slot, v)) (t : BornL D F) : BornL D (⟨slot, v, some j, dies⟩ :: F)
theorem BornL.ok {D : List DOp} {F : List DFact} (h : BornL D F) : BornOk D F := by
  induction h with
  | n => trivial
  | o t ih => exact ⟨trivial, ih⟩
  | b h hv t ih => exact ⟨⟨_, h, hv⟩, ih⟩
inductive BaseL (E : List (Nat × AV)) : List DFact → Prop
  | n : BaseL E []
  | o {slot : Nat} {v : AV} {dies : List Nat} {F : List DFact} (h : look slot E = some v) (t : BaseL E F) : BaseL E (⟨slot, v, none, dies⟩ :: F)
  | b {slot j : Nat} {v : AV} {dies : List Nat} {F : List DFact} (t : BaseL E F) : BaseL E (⟨slot, v, some j, dies⟩ :: F)
theorem BaseL.ok {E : List (Nat × AV)} {F : List DFact} (h : BaseL E F) : BaseOk E F := by
  induction h with
  | n => trivial
  | o h t ih => exact ⟨h, ih⟩
  | b t ih => exact ⟨trivial, ih⟩
end Go.AB
namespace Go.AB
open Go
theorem CvL.at {C : Ctx} {s : St} {σ : Nat → Nat} {H : List (Nat × Blk)} {bw : Bool} {vs vs' : List AV} (h : CvL C s σ H bw vs vs') : vs.length = vs'.length ∧ ∀ i (hi : i < vs.length) (hi' : i < vs'.length), Cv C s σ H bw vs[i] vs'[i] := by
  induction h with
  | nil => exact ⟨rfl, fun i hi => absurd hi (by simp)⟩
  | cons h t ih =>
    refine ⟨by simp [ih.1], fun i hi hi' => ?_⟩
    cases i with
    | zero => exact h
    | succ i => exact ih.2 i (by simpa using hi) (by simpa using hi')
/-- a struct as an argument, its fields one by one -/
theorem Cv.agg {C : Ctx} {s : St} {σ : Nat → Nat} {H : List (Nat × Blk)} {bw : Bool} {cs cs' : List AV} (h : CvL C s σ H bw cs cs') : Cv C s σ H bw (.agg cs) (.agg cs') := by
  intro K ι a w u r hH hv
  obtain ⟨h1, h2⟩ := h.at
  cases hv with
  | agg _ _ _ vs hl hv =>
    exact .agg _ _ _ vs (by omega) fun i hi => h2 i (by omega) hi K ι a w _ r hH (hv i (by omega))
end Go.AB
namespace Go.AB
open Go
theorem boolTF (b : Bool) : b = true ∨ b = false := by cases b <;> simp
section
variable {C : Ctx} {A : Array Oper} {op : Op} {ty : TypeId} {p : String} {e : Array Edge} {j dj : Nat} {b want a0 : Bool} {l : List Oper} {s s1 s2 : St}
theorem ARun.knownT {d : Option Nat} {c : Bool} (hw : ∀ ι a w, Rel C s ι a w → (yielded A a.tmps j == some want) = c) (hc : c = true) (h : AStep C ⟨d, op, ty, p, e, some (j, want)⟩ s s1)
    (t : ARun C A l s1 s2) : ARun C A (⟨d, op, ty, p, e, some (j, want)⟩ :: l) s s2 := fun ι a w Q r hq => by
  refine wpListIn_step fun K hK => ?_
  have hw : Region.wanted ⟨d, op, ty, p, e, some (j, want)⟩ (yielded A a.tmps) = c := hw ι a w r
  rw [hw, if_pos hc]
  exact h ι a w K Q r fun ι' a' w' r' => hK _ _ (t ι' a' w' Q r' hq)
theorem ARun.knownF {d : Nat} {c : Bool} (hw : ∀ ι a w, Rel C s ι a w → (yielded A a.tmps j == some want) = c) (hc : c = false) (hd : d < C.N)
    (t : ARun C A l (s.put d .any) s2) : ARun C A (⟨some d, op, ty, p, e, some (j, want)⟩ :: l) s s2 := fun ι a w Q r hq => by
  refine wpListIn_step fun K hK => ?_
  have hw : Region.wanted ⟨some d, op, ty, p, e, some (j, want)⟩ (yielded A a.tmps) = c := hw ι a w r
  rw [hw, if_neg (by simp [hc])]
  exact ⟨fun _ _ => trivial, hK _ _ (t ι _ w Q (r.putAny hd) hq)⟩
theorem ARun.guardT {d : Option Nat} (hj : (A[j]?).bind (·.dst) = some dj) (hdj : dj < C.N) (hb : look dj s.env = some (.sc (.bool b))) (hc : (bif want then b else !b) = true)
    (h : AStep C ⟨d, op, ty, p, e, some (j, want)⟩ s s1) (t : ARun C A l s1 s2) : ARun C A (⟨d, op, ty, p, e, some (j, want)⟩ :: l) s s2 :=
  .knownT (fun _ _ _ r => wanted1 r hj hdj hb) hc h t
theorem ARun.guardT2 {d : Option Nat} (hj : (A[j]?).bind (·.dst) = some dj) (hdj : dj < C.N) (hb : look dj s.env = some (.gd a0 (.sc (.bool b)))) (hc : (a0 && (bif want then b else !b)) = true)
    (h : AStep C ⟨d, op, ty, p, e, some (j, want)⟩ s s1) (t : ARun C A l s1 s2) : ARun C A (⟨d, op, ty, p, e, some (j, want)⟩ :: l) s s2 :=
  .knownT (fun _ _ _ r => wanted2 r hj hdj hb) hc h t
theorem ARun.guardF {d : Nat} (hj : (A[j]?).bind (·.dst) = some dj) (hdj : dj < C.N) (hb : look dj s.env = some (.sc (.bool b))) (hd : d < C.N) (hc : (bif want then b else !b) = false)
    (t : ARun C A l (s.put d .any) s2) : ARun C A (⟨some d, op, ty, p, e, some (j, want)⟩ :: l) s s2 :=
  .knownF (fun _ _ _ r => wanted1 r hj hdj hb) hc hd t
theorem ARun.guardF2 {d : Nat} (hj : (A[j]?).bind (·.dst) = some dj) (hdj : dj < C.N) (hb : look dj s.env = some (.gd a0 (.sc (.bool b)))) (hd : d < C.N) (hc : (a0 && (bif want then b else !b)) = false)
    (t : ARun C A l (s.put d .any) s2) : ARun C A (⟨some d, op, ty, p, e, some (j, want)⟩ :: l) s s2 :=
  .knownF (fun _ _ _ r => wanted2 r hj hdj hb) hc hd t
end
section
variable {C : Ctx} {d : Nat} {ty : TypeId} {p : String} {e : Array Edge} {g : Option (Nat × Bool)} {s : St}
theorem AStep.pickT {c x y : Operand} {b : Bool} {v : AV} (hd : d < C.N) (hc : Ev C s c (.sc (.bool b))) (hb : b = true) (hx : Ev C s x v) : AStep C ⟨some d, .pick c x y, ty, p, e, g⟩ s (s.put d v) :=
  .val hd (fun _ h => by cases h) fun ι a w r => ⟨a.eval x, by subst hb; simp [execOp, hc.sc r, asBool], hx ι a w r⟩
theorem AStep.pickF {c x y : Operand} {b : Bool} {v : AV} (hd : d < C.N) (hc : Ev C s c (.sc (.bool b))) (hb : b = false) (hy : Ev C s y v) : AStep C ⟨some d, .pick c x y, ty, p, e, g⟩ s (s.put d v) :=
  .val hd (fun _ h => by cases h) fun ι a w r => ⟨a.eval y, by subst hb; simp [execOp, hc.sc r, asBool], hy ι a w r⟩
end
theorem notT' {b : Bool} (h : (!b) = true) : b = false := by cases b <;> simp_all
theorem notF' {b : Bool} (h : (!b) = false) : b = true := by cases b <;> simp_all
end Go.AB

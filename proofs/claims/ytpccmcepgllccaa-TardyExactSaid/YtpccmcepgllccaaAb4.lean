/-
  AB, part 4: operations that read memory: addresses, fields, elements, loads, slices of slices.
-/
import Derived.Test.YtpccmcepgllccaaAb3
namespace Go.AB
open Go

section lists
variable {α : Type} {enc : α → List AV} {sz : Nat}
theorem flatMap_length (henc : ∀ y, (enc y).length = sz) (xs : List α) : (xs.flatMap enc).length = xs.length * sz := by
  induction xs with
  | nil => simp
  | cons x xs ih => simp [List.flatMap_cons, ih, henc, Nat.add_mul, Nat.add_comm]
theorem flatMap_at (henc : ∀ y, (enc y).length = sz) {y : α} : ∀ (xs : List α) (i : Nat), xs[i]? = some y → ∀ j, j < sz → (xs.flatMap enc)[i * sz + j]? = (enc y)[j]? := by
  intro xs
  induction xs with
  | nil => intro i h; simp at h
  | cons x xs ih =>
    intro i h j hj
    cases i with
    | zero =>
      simp only [List.getElem?_cons_zero, Option.some.injEq] at h
      subst h
      rw [List.flatMap_cons, Nat.zero_mul, Nat.zero_add, List.getElem?_append_left (by rw [henc]; exact hj)]
    | succ i =>
      simp only [List.getElem?_cons_succ] at h
      rw [List.flatMap_cons, List.getElem?_append_right (by rw [henc, Nat.add_mul]; omega), henc, Nat.add_mul]
      rw [show i * sz + 1 * sz + j - sz = i * sz + j from by omega]
      exact ih i h j hj
theorem flatMap_drop (henc : ∀ y, (enc y).length = sz) (xs : List α) (k : Nat) : (xs.flatMap enc).drop (k * sz) = (xs.drop k).flatMap enc := by
  induction xs generalizing k with
  | nil => simp
  | cons x xs ih =>
    cases k with
    | zero => simp
    | succ k =>
      rw [List.flatMap_cons, List.drop_succ_cons, ← ih k, Nat.add_mul, Nat.one_mul, Nat.add_comm, ← List.drop_drop]
      rw [List.drop_left' (henc x)]
theorem flatMap_take (henc : ∀ y, (enc y).length = sz) (xs : List α) (k : Nat) : (xs.flatMap enc).take (k * sz) = (xs.take k).flatMap enc := by
  induction xs generalizing k with
  | nil => simp
  | cons x xs ih =>
    cases k with
    | zero => simp
    | succ k =>
      rw [List.flatMap_cons, List.take_succ_cons, List.flatMap_cons, ← ih k, Nat.add_mul, Nat.one_mul, Nat.add_comm, ← henc x, List.take_length_add_append]
theorem flatMap_set (henc : ∀ y, (enc y).length = sz) (y' : α) : ∀ (xs : List α) (i : Nat) (y : α), xs[i]? = some y → ∀ j v, enc y' = (enc y).set j v → j < sz →
    (xs.flatMap enc).set (i * sz + j) v = (xs.set i y').flatMap enc := by
  intro xs
  induction xs with
  | nil => intro i y h; simp at h
  | cons x xs ih =>
    intro i y h j v he hj
    cases i with
    | zero =>
      simp only [List.getElem?_cons_zero, Option.some.injEq] at h
      subst h
      rw [List.flatMap_cons, Nat.zero_mul, Nat.zero_add, List.set_cons_zero, List.flatMap_cons, he, List.set_append_left _ _ (by rw [henc]; exact hj)]
    | succ i =>
      simp only [List.getElem?_cons_succ] at h
      rw [List.flatMap_cons, List.set_cons_succ, List.flatMap_cons, List.set_append_right _ _ (by rw [henc, Nat.add_mul]; omega), henc, Nat.add_mul]
      rw [show i * sz + 1 * sz + j - sz = i * sz + j from by omega, ih i y h j v he hj]
end lists

theorem Addr.add_plain (b o n : Nat) : (⟨b, o, none⟩ : Addr).add n = ⟨b, o + n, none⟩ := by
  unfold Addr.add
  split
  · rename_i h; subst h; rfl
  · rfl

section
variable {C : Ctx} {d : Nat} {ty : TypeId} {p : String} {e : Array Edge} {g : Option (Nat × Bool)} {s : St}

/-- A type's size in cells. -/
def szOf (P : Program) (T : TypeId) (n : Nat) : Prop := ∃ i, P.info? T = some i ∧ i.size = n
theorem szOf.run {P : Program} {T : TypeId} {n : Nat} (h : szOf P T n) (w : World) : (sizeOf T).run P w = .ok n w := by
  obtain ⟨i, hi, rfl⟩ := h
  simp [sizeOf, typeInfo, hi]
theorem szOf.mk {P : Program} {T : TypeId} {n : Nat} (h : (P.info? T).map (·.size) = some n) : szOf P T n := by
  cases hi : P.info? T with
  | none => rw [hi] at h; cases h
  | some i => rw [hi] at h; exact ⟨i, hi, by simpa using h⟩
/-- A type of one cell that is no struct and no array. -/
def oneT (P : Program) (T : TypeId) : Prop := ∃ D, P.underlying T = some D ∧ (match D with | .struct _ | .array _ _ => False | _ => True)
def aggT (P : Program) (T : TypeId) (n : Nat) : Prop := szOf P T n ∧ ∃ D, P.underlying T = some D ∧ (match D with | .struct _ | .array _ _ => True | _ => False)
theorem oneT.run {P : Program} {T : TypeId} (h : oneT P T) (w : World) : (isAgg T).run P w = .ok false w := by
  obtain ⟨D, hD, h⟩ := h
  cases D <;> simp_all [isAgg, run_underlying hD]
theorem aggT.run {P : Program} {T : TypeId} {n : Nat} (h : aggT P T n) (w : World) : (isAgg T).run P w = .ok true w := by
  obtain ⟨_, D, hD, h⟩ := h
  cases D <;> simp_all [isAgg, run_underlying hD]

/-- The values of what a reading reads. -/
theorem rd_inv {w : World} {Z : Zone} {ι : Tags} {β : Bool} {n : Nat} {cells : List AV} {u : Value} (h : VR w Z ι (.rd β n cells) u) :
    ((∃ a, u = .slice a 0 0) ∧ n = 0 ∧ cells = []) ∨ ∃ b off cap, ∃ vs : Nat → Value, u = .slice (some ⟨b, off, none⟩) n cap ∧ n ≤ cap ∧ cap ≤ maxLen ∧ (cells ≠ [] → Z β b) ∧
      (∀ i, i < cells.length → w.cell? ⟨b, off + i, none⟩ = some (vs i)) ∧ ∀ i (hi : i < cells.length), VR w (fun _ => Z β) (fun _ => none) (cells[i]'hi) (vs i) := by
  cases h with
  | rdnil _ _ _ a => exact .inl ⟨⟨a, rfl⟩, rfl, rfl⟩
  | rd _ _ _ _ _ b off cap vs hz hn hc hv h => exact .inr ⟨b, off, cap, vs, rfl, hn, hc, hz, hv, h⟩
theorem rptr_inv {w : World} {Z : Zone} {ι : Tags} {β : Bool} {cells : List AV} {u : Value} (h : VR w Z ι (.rptr β cells) u) :
    ∃ b off, ∃ vs : Nat → Value, u = .pointer (some ⟨b, off, none⟩) ∧ (cells ≠ [] → Z β b) ∧
      (∀ i, i < cells.length → w.cell? ⟨b, off + i, none⟩ = some (vs i)) ∧ ∀ i (hi : i < cells.length), VR w (fun _ => Z β) (fun _ => none) (cells[i]'hi) (vs i) := by
  cases h with
  | rptr _ _ _ _ b off vs hz hv h => exact ⟨b, off, vs, rfl, hz, hv, h⟩
theorem ptr_inv {w : World} {Z : Zone} {ι : Tags} {t off : Nat} {u : Value} (h : VR w Z ι (.ptr t off) u) : ∃ b, u = .pointer (some ⟨b, off, none⟩) ∧ ι t = some b := by
  cases h with
  | ptr _ _ _ _ b ht => exact ⟨b, rfl, ht⟩
theorem own_inv {w : World} {Z : Zone} {ι : Tags} {t sz off n : Nat} {u : Value} (h : VR w Z ι (.own t sz off n) u) :
    (n = 0 ∧ (u = .slice none 0 0 ∨ ∃ b o, u = .slice (some ⟨b, o, none⟩) 0 0)) ∨
      ∃ b cap s, u = .slice (some ⟨b, off, none⟩) n cap ∧ ι t = some b ∧ n ≤ cap ∧ cap ≤ maxLen ∧ bsz w b = some s ∧ off + cap * sz ≤ s := by
  cases h with
  | ownnil => exact .inl ⟨rfl, .inl rfl⟩
  | ownz _ _ _ _ _ b o => exact .inl ⟨rfl, .inr ⟨b, o, rfl⟩⟩
  | own _ _ _ _ _ _ b cap s ht hn hc hs ho => exact .inr ⟨b, cap, s, rfl, ht, hn, hc, hs, ho⟩

/-- part of a reading -/
theorem VR.part {w : World} {Z : Zone} {cells sub : List AV} {b off o : Nat} {vs : Nat → Value}
    (hv : ∀ i, i < cells.length → w.cell? ⟨b, off + i, none⟩ = some (vs i)) (h : ∀ i (hi : i < cells.length), VR w Z (fun _ => none) (cells[i]'hi) (vs i))
    (hs : ∀ i, i < sub.length → sub[i]? = cells[o + i]?) :
    (∀ i, i < sub.length → w.cell? ⟨b, off + o + i, none⟩ = some (vs (o + i))) ∧ ∀ i (hi : i < sub.length), VR w Z (fun _ => none) (sub[i]'hi) (vs (o + i)) := by
  have key : ∀ i, i < sub.length → o + i < cells.length := by
    intro i hi
    have := hs i hi
    rw [List.getElem?_eq_getElem hi] at this
    exact (List.getElem?_eq_some_iff.1 this.symm).1
  refine ⟨fun i hi => ?_, fun i hi => ?_⟩
  · have := hv (o + i) (key i hi)
    rw [← Nat.add_assoc] at this
    exact this
  · have := h (o + i) (key i hi)
    have e : sub[i] = cells[o + i]'(key i hi) := by
      have := hs i hi
      rw [List.getElem?_eq_getElem hi, List.getElem?_eq_getElem (key i hi)] at this
      exact Option.some.inj this
    rw [e]; exact this

theorem AStep.indexRd {α : Type} {enc : α → List AV} {sz : Nat} {x i : Operand} {T E : TypeId} {β : Bool} {xs : List α} {n : Nat} {k : IntKind} {j : Int} {y : α} (hd : d < C.N)
    (hx : Ev C s x (.rd β n (xs.flatMap enc))) (hi : Ev C s i (.sc (.int k j))) (hT : C.P.underlying T = some (.slice E)) (hE : szOf C.P E sz) (henc : ∀ y, (enc y).length = sz)
    (hn : n = xs.length) (hy : getIdx xs j = some y) : AStep C ⟨some d, .indexAddr T x i, ty, p, e, g⟩ s (s.put d (.rptr β (enc y))) :=
  .val hd (fun _ h => by cases h) fun ι a w r => by
    subst hn
    obtain ⟨h0, h1, h2⟩ := getIdx_some hy
    have hlt : j.toNat < xs.length := by omega
    rcases rd_inv (hx ι a w r) with ⟨_, hn, _⟩ | ⟨b, off, cap, vs, hu, hn, hc, hz, hv, h⟩
    · omega
    · have hsub : ∀ i, i < (enc y).length → (enc y)[i]? = (xs.flatMap enc)[j.toNat * sz + i]? := fun i hi => (flatMap_at henc xs _ h2 i (by rw [← henc y]; exact hi)).symm
      obtain ⟨q1, q2⟩ := VR.part (Z := fun _ => zone C s.heap ι w β) hv h hsub
      refine ⟨.pointer (some ⟨b, off + j.toNat * sz, none⟩), ?_, .rptr _ _ _ _ _ _ _ (fun hne => hz ?_) q1 q2⟩
      · simp [execOp, hu, hi.sc r, Instr.indexAt, asIntOf, run_underlying hT, h0, h1, hE.run, Addr.add_plain]
      · intro hnil
        have hl := flatMap_length henc xs
        rw [hnil] at hl
        have hl' : (enc y).length = 0 := by
          rw [henc]
          have : 0 < xs.length := by omega
          rcases Nat.eq_zero_or_pos sz with h | h
          · exact h
          · have := Nat.mul_pos this h; simp at hl; omega
        exact hne (List.eq_nil_of_length_eq_zero hl')

/-- An element of an owned row. -/
theorem AStep.indexOwn {x i : Operand} {T E : TypeId} {t sz off n : Nat} {k : IntKind} {j : Int} (hd : d < C.N)
    (hx : Ev C s x (.own t sz off n)) (hi : Ev C s i (.sc (.int k j))) (hT : C.P.underlying T = some (.slice E)) (hE : szOf C.P E sz)
    (hj : 0 ≤ j ∧ j < n) : AStep C ⟨some d, .indexAddr T x i, ty, p, e, g⟩ s (s.put d (.ptr t (off + j.toNat * sz))) :=
  .val hd (fun _ h => by cases h) fun ι a w r => by
    rcases own_inv (hx ι a w r) with ⟨hn, _⟩ | ⟨b, cap, q, hu, ht, _⟩
    · omega
    · refine ⟨.pointer (some ⟨b, off + j.toNat * sz, none⟩), ?_, .ptr _ _ _ _ _ ht⟩
      simp [execOp, hu, hi.sc r, Instr.indexAt, asIntOf, run_underlying hT, hj.1, hj.2, hE.run, Addr.add_plain]
/-- An element of an array in an owned block. -/
theorem AStep.indexArr {x i : Operand} {T E : TypeId} {t sz off n : Nat} {k : IntKind} {j : Int} (hd : d < C.N)
    (hx : Ev C s x (.ptr t off)) (hi : Ev C s i (.sc (.int k j))) (hT : C.P.underlying T = some (.array n E)) (hE : szOf C.P E sz)
    (hj : 0 ≤ j ∧ j < n) : AStep C ⟨some d, .indexAddr T x i, ty, p, e, g⟩ s (s.put d (.ptr t (off + j.toNat * sz))) :=
  .val hd (fun _ h => by cases h) fun ι a w r => by
    obtain ⟨b, hu, ht⟩ := ptr_inv (hx ι a w r)
    refine ⟨.pointer (some ⟨b, off + j.toNat * sz, none⟩), ?_, .ptr _ _ _ _ _ ht⟩
    simp [execOp, hu, hi.sc r, Instr.indexAt, asIntOf, run_underlying hT, hj.1, hj.2, hE.run, Instr.sureAddr, Addr.add_plain]
/-- An element of an array that is only read. -/
theorem AStep.indexRArr {α : Type} {enc : α → List AV} {sz : Nat} {x i : Operand} {T E : TypeId} {β : Bool} {xs : List α} {n : Nat} {k : IntKind} {j : Int} {y : α} (hd : d < C.N)
    (hx : Ev C s x (.rptr β (xs.flatMap enc))) (hi : Ev C s i (.sc (.int k j))) (hT : C.P.underlying T = some (.array n E)) (hE : szOf C.P E sz) (henc : ∀ y, (enc y).length = sz)
    (hn : n = xs.length) (hy : getIdx xs j = some y) (hsz : 0 < sz) : AStep C ⟨some d, .indexAddr T x i, ty, p, e, g⟩ s (s.put d (.rptr β (enc y))) :=
  .val hd (fun _ h => by cases h) fun ι a w r => by
    subst hn
    obtain ⟨h0, h1, h2⟩ := getIdx_some hy
    obtain ⟨b, off, vs, hu, hz, hv, h⟩ := rptr_inv (hx ι a w r)
    have hsub : ∀ i, i < (enc y).length → (enc y)[i]? = (xs.flatMap enc)[j.toNat * sz + i]? := fun i hi => (flatMap_at henc xs _ h2 i (by rw [← henc y]; exact hi)).symm
    obtain ⟨q1, q2⟩ := VR.part (Z := fun _ => zone C s.heap ι w β) hv h hsub
    refine ⟨.pointer (some ⟨b, off + j.toNat * sz, none⟩), ?_, .rptr _ _ _ _ _ _ _ (fun _ => hz ?_) q1 q2⟩
    · simp [execOp, hu, hi.sc r, Instr.indexAt, asIntOf, run_underlying hT, h0, h1, hE.run, Instr.sureAddr, Addr.add_plain]
    · intro hnil
      have hl := flatMap_length henc xs
      rw [hnil] at hl
      have : 0 < xs.length := by omega
      have := Nat.mul_pos this hsz; simp at hl; omega

/-- A field's place. -/
def fldOf (P : Program) (T : TypeId) (k o : Nat) : Prop := ∃ fs f, P.underlying T = some (.struct fs) ∧ fs[k]? = some f ∧ f.offset = o ∧ ∃ n, szOf P f.type (n + 1)
theorem fldOf.run {P : Program} {T : TypeId} {k o : Nat} (h : fldOf P T k o) (b off : Nat) (w : World) : (Instr.fieldAt T (.pointer (some ⟨b, off, none⟩)) k).run P w = .ok (.pointer (some ⟨b, off + o, none⟩)) w := by
  obtain ⟨fs, f, hT, hf, rfl, n, hn⟩ := h
  simp [Instr.fieldAt, run_underlying hT, hf, Instr.sureAddr, fieldPlace, hn.run, Addr.add_plain]
theorem AStep.fieldP {x : Operand} {T : TypeId} {t off k o : Nat} (hd : d < C.N) (hx : Ev C s x (.ptr t off)) (hf : fldOf C.P T k o) :
    AStep C ⟨some d, .fieldAddr T x k, ty, p, e, g⟩ s (s.put d (.ptr t (off + o))) :=
  .val hd (fun _ h => by cases h) fun ι a w r => by
    obtain ⟨b, hu, ht⟩ := ptr_inv (hx ι a w r)
    exact ⟨_, by simp [execOp, hu, hf.run], .ptr _ _ _ _ _ ht⟩
theorem AStep.fieldR {x : Operand} {T : TypeId} {β : Bool} {cells sub : List AV} {k o : Nat} (hd : d < C.N) (hx : Ev C s x (.rptr β cells)) (hf : fldOf C.P T k o) (hs : sub = cells.drop o) :
    AStep C ⟨some d, .fieldAddr T x k, ty, p, e, g⟩ s (s.put d (.rptr β sub)) :=
  .val hd (fun _ h => by cases h) fun ι a w r => by
    subst hs
    obtain ⟨b, off, vs, hu, hz, hv, h⟩ := rptr_inv (hx ι a w r)
    obtain ⟨q1, q2⟩ := VR.part (Z := fun _ => zone C s.heap ι w β) (sub := cells.drop o) (o := o) hv h (fun i hi => by simp)
    refine ⟨_, by simp [execOp, hu, hf.run], .rptr _ _ _ _ _ _ _ (fun hne => hz (fun hnil => hne (by simp [hnil]))) q1 q2⟩

/-- A load of one cell that is only read. -/
theorem AStep.loadR {x : Operand} {T : TypeId} {β : Bool} {c v : AV} {cells : List AV} (hd : d < C.N) (hx : Ev C s x (.rptr β (c :: cells))) (hT : oneT C.P T) (hv : v = c.flag β) :
    AStep C ⟨some d, .load T x, ty, p, e, g⟩ s (s.put d v) :=
  .val hd (fun _ h => by cases h) fun ι a w r => by
    subst hv
    obtain ⟨b, off, vs, hu, hz, hv, h⟩ := rptr_inv (hx ι a w r)
    have h0 := hv 0 (by simp)
    have h1 := h 0 (by simp)
    simp only [Nat.add_zero] at h0
    refine ⟨vs 0, ?_, h1.flagged _ _ β (fun _ _ h => h) (fun _ _ _ h => by cases h)⟩
    simp [execOp, hu, Instr.loadAt, Instr.sureAddr, loadVar, hT.run, h0]

/-- Cells that are read, in a row. -/
theorem cells_list {w : World} {Z : Zone} {ι : Tags} {cells : List AV} {b off : Nat} {vs : Nat → Value}
    (hv : ∀ i, i < cells.length → w.cell? ⟨b, off + i, none⟩ = some (vs i)) (h : ∀ i (hi : i < cells.length), VR w Z ι (cells[i]'hi) (vs i)) (n : Nat) (hn : n ≤ cells.length) (P : Program) :
    (loadCells ⟨b, off, none⟩ n).run P w = .ok ((List.range n).map vs).toArray w ∧ ∀ i (hi : i < (cells.take n).length), VR w Z ι ((cells.take n)[i]'hi) (((List.range n).map vs)[i]'(by simp at hi ⊢; omega)) := by
  constructor
  · have := run_loadCells (P := P) w ⟨b, off, none⟩ n vs (fun j hj => by rw [Addr.add_plain]; exact hv j (by omega))
    rw [this]
  · intro i hi
    simp at hi
    have := h i (by omega)
    simpa using this

theorem AStep.loadRA {x : Operand} {T : TypeId} {β : Bool} {n : Nat} {cells out : List AV} (hd : d < C.N) (hx : Ev C s x (.rptr β cells)) (hT : aggT C.P T n) (hn : n ≤ cells.length)
    (ho : out = AV.flagL β (cells.take n)) : AStep C ⟨some d, .load T x, ty, p, e, g⟩ s (s.put d (.agg out)) :=
  .val hd (fun _ h => by cases h) fun ι a w r => by
    subst ho
    obtain ⟨b, off, vs, hu, hz, hv, h⟩ := rptr_inv (hx ι a w r)
    obtain ⟨q1, q2⟩ := cells_list (Z := fun _ => zone C s.heap ι w β) hv h n hn C.P
    refine ⟨.agg ((List.range n).map vs).toArray, ?_, .agg _ _ _ _ (by rw [AV.flagL_eq]; simp; omega) fun i hi => ?_⟩
    · simp [execOp, hu, Instr.loadAt, Instr.sureAddr, loadVar, hT.run, hT.1.run, q1]
    · have hi' : i < (cells.take n).length := by rw [AV.flagL_eq] at hi; simpa using hi
      have e : (AV.flagL β (cells.take n))[i]'hi = AV.flag β ((cells.take n)[i]'hi') := by simp [AV.flagL_eq]
      rw [e]
      exact (q2 i hi').flagged _ _ β (fun _ _ h => h) (fun _ _ _ h => by cases h)

/-- A block's cells. -/
theorem blk_inv {H : List (Nat × Blk)} {ι : Tags} {w : World} (hc : Core C H ι w) {t b : Nat} {k : Blk} (hk : look t H = some k) (hb : ι t = some b) :
    ∃ cur, w.heap[b]? = some (.cells cur k.ty (0, 0)) ∧ k.cells.length ≤ cur.size ∧
      ∀ i (hi : i < k.cells.length), ∃ u, cur[i]? = some u ∧ VR w (bif k.lst then fun _ => zone C H ι w false else zone C H ι w) (bif k.lst then fun _ => none else ι) (k.cells[i]'hi) u := by
  have h := hc.blk t k hk
  simp only [BlkR, hb] at h
  exact h
/-- what a cell of a block stands for, taken out of it -/
def Blk.out (k : Blk) (v : AV) : AV := bif k.lst then v.flag false else v
theorem out_VR {H : List (Nat × Blk)} {ι : Tags} {w : World} {k : Blk} {v : AV} {u : Value}
    (h : VR w (bif k.lst then fun _ => zone C H ι w false else zone C H ι w) (bif k.lst then fun _ => none else ι) v u) : VR w (zone C H ι w) ι (k.out v) u := by
  unfold Blk.out
  cases hl : k.lst with
  | false => simp only [hl, cond_false] at h ⊢; exact h
  | true => simp only [hl, cond_true] at h ⊢; exact h.flagged _ _ false (fun _ _ h => h) (fun _ _ _ h => by cases h)

theorem AStep.loadP {x : Operand} {T : TypeId} {t off : Nat} {k : Blk} {c v : AV} (hd : d < C.N) (hx : Ev C s x (.ptr t off)) (hT : oneT C.P T) (hk : look t s.heap = some k)
    (hc : k.cells[off]? = some c) (hv : v = k.out c) : AStep C ⟨some d, .load T x, ty, p, e, g⟩ s (s.put d v) :=
  .val hd (fun _ h => by cases h) fun ι a w r => by
    subst hv
    obtain ⟨b, hu, ht⟩ := ptr_inv (hx ι a w r)
    obtain ⟨cur, hb, hl, h⟩ := blk_inv r.core hk ht
    have hlt := (List.getElem?_eq_some_iff.1 hc).1
    obtain ⟨u, hu', hvr⟩ := h off hlt
    have he : k.cells[off] = c := by rw [List.getElem?_eq_getElem hlt] at hc; exact Option.some.inj hc
    rw [he] at hvr
    refine ⟨u, ?_, out_VR hvr⟩
    have hcell : w.cell? ⟨b, off, none⟩ = some u := by rw [cell_of_row w b off cur k.ty (0, 0) hb]; exact hu'
    simp [execOp, hu, Instr.loadAt, Instr.sureAddr, loadVar, hT.run, hcell]

/-- A load of a row of cells of an owned block. -/
theorem AStep.loadPA {x : Operand} {T : TypeId} {t off n : Nat} {k : Blk} {cells out : List AV} (hd : d < C.N) (hx : Ev C s x (.ptr t off)) (hT : aggT C.P T n) (hk : look t s.heap = some k)
    (hc : (k.cells.drop off).take n = cells) (hn : cells.length = n) (ho : out = cells.map k.out) : AStep C ⟨some d, .load T x, ty, p, e, g⟩ s (s.put d (.agg out)) :=
  .val hd (fun _ h => by cases h) fun ι a w r => by
    subst ho
    obtain ⟨b, hu, ht⟩ := ptr_inv (hx ι a w r)
    obtain ⟨cur, hb, hl, h⟩ := blk_inv r.core hk ht
    have hlen : off + n ≤ k.cells.length ∨ n = 0 := by
      rw [← hc] at hn
      simp at hn
      omega
    have hcell : ∀ j, j < n → w.cell? ((⟨b, off, none⟩ : Addr).add j) = some ((cur.toList.drop off).getD j undef) := by
      intro j hj
      rw [Addr.add_plain, cell_of_row w b (off + j) cur k.ty (0, 0) hb]
      have : off + j < cur.size := by omega
      rw [Array.getElem?_eq_getElem this]
      simp [List.getD_eq_getElem?_getD, this]
    have hrun := run_loadCells (P := C.P) w ⟨b, off, none⟩ n _ hcell
    refine ⟨.agg ((List.range n).map fun j => (cur.toList.drop off).getD j undef).toArray, ?_, .agg _ _ _ _ (by simp [hn]) fun i hi => ?_⟩
    · have e : (Array.range n).map (fun j => (cur.toList.drop off).getD j undef) = ((List.range n).map fun j => (cur.toList.drop off).getD j undef).toArray := by
        apply Array.ext'; simp
      simp [execOp, hu, Instr.loadAt, Instr.sureAddr, loadVar, hT.run, hT.1.run, hrun]
    · have hi' : i < cells.length := by simpa using hi
      have hi2 : off + i < k.cells.length := by omega
      obtain ⟨u, hu', hvr⟩ := h (off + i) hi2
      have e : cells[i] = k.cells[off + i] := by
        have : cells[i]? = k.cells[off + i]? := by rw [← hc, List.getElem?_take, if_pos (by omega), List.getElem?_drop]
        rw [List.getElem?_eq_getElem hi', List.getElem?_eq_getElem hi2] at this
        exact Option.some.inj this
      have hlt : off + i < cur.size := by omega
      have e2 : (cur.toList.drop off).getD i undef = u := by
        rw [Array.getElem?_eq_getElem hlt] at hu'
        simp [List.getD_eq_getElem?_getD, hlt]
        exact Option.some.inj hu'
      simp only [List.getElem_map, List.getElem_range, e2, e]
      exact out_VR hvr

/-- A slice of what is only read: from lo to hi. -/
theorem sliceAt_slice {P : Program} {w : World} {T E : TypeId} (hT : P.underlying T = some (.slice E)) {sz : Nat} (hE : szOf P E sz) (a : Option Addr) (n c : Nat) (lo hi : Option Value) (l h : Nat)
    (hlo : (lo = none ∧ l = 0) ∨ ∃ k, lo = some (.int k l)) (hhi : (hi = none ∧ h = n) ∨ ∃ k, hi = some (.int k h)) (h1 : l ≤ h) (h2 : h ≤ c) :
    (Instr.sliceAt T (.slice a n c) lo hi none).run P w = .ok (.slice (if c = l then a else a.map (·.add (l * sz))) (h - l) (c - l)) w := by
  have e1 : ∀ k code y, l ≤ y → (Instr.sliceBound (.int k l) y code).run P w = .ok l w := fun k code y hy => by
    have := run_sliceBound (P := P) w k (l : Int) y code (by omega) (by omega); simpa using this
  have e2 : ∀ k code y, h ≤ y → (Instr.sliceBound (.int k h) y code).run P w = .ok h w := fun k code y hy => by
    have := run_sliceBound (P := P) w k (h : Int) y code (by omega) (by omega); simpa using this
  rcases hlo with ⟨rfl, rfl⟩ | ⟨k1, rfl⟩ <;> rcases hhi with ⟨rfl, rfl⟩ | ⟨k2, rfl⟩ <;>
    simp [Instr.sliceAt, Instr.slice, run_underlying hT, Instr.sliceBounds, hE.run, e1, e2, h1, h2]

/-- a bound of a slice expression, in the state -/
def Bd (C : Ctx) (s : St) (x : Option Operand) (dflt n : Nat) : Prop := (x = none ∧ n = dflt) ∨ ∃ y k, x = some y ∧ Ev C s y (.sc (.int k n))
theorem Bd.none (C : Ctx) (s : St) (n : Nat) : Bd C s .none n n := .inl ⟨rfl, rfl⟩
theorem Bd.some {y : Operand} {k : IntKind} {j : Int} {dflt : Nat} (h : Ev C s y (.sc (.int k j))) (h0 : 0 ≤ j) : Bd C s (.some y) dflt j.toNat :=
  .inr ⟨y, k, rfl, by rw [Int.toNat_of_nonneg h0]; exact h⟩
theorem Bd.val {x : Option Operand} {dflt n : Nat} (h : Bd C s x dflt n) {ι : Tags} {a : Act} {w : World} (r : Rel C s ι a w) : (x.map a.eval = .none ∧ n = dflt) ∨ ∃ k, x.map a.eval = .some (.int k n) := by
  rcases h with ⟨rfl, rfl⟩ | ⟨y, k, rfl, hy⟩
  · exact .inl ⟨rfl, rfl⟩
  · exact .inr ⟨k, by simp [hy.sc r]⟩

theorem AStep.sliceRd {α : Type} {enc : α → List AV} {sz : Nat} {x : Operand} {lo hi : Option Operand} {T E : TypeId} {β : Bool} {xs : List α} {n l h : Nat} (hd : d < C.N)
    (hx : Ev C s x (.rd β n (xs.flatMap enc))) (hT : C.P.underlying T = some (.slice E)) (hE : szOf C.P E sz) (henc : ∀ y, (enc y).length = sz) (hn : n = xs.length)
    (hl : Bd C s lo 0 l) (hh : Bd C s hi n h) (h1 : l ≤ h) (h2 : h ≤ xs.length) :
    AStep C ⟨some d, .slice T x lo hi none, ty, p, e, g⟩ s (s.put d (.rd β (h - l) (((xs.drop l).take (h - l)).flatMap enc))) :=
  .val hd (fun _ h => by cases h) fun ι a w r => by
    subst hn
    have hlv := hl.val r
    have hhv := hh.val r
    rcases rd_inv (hx ι a w r) with ⟨⟨a0, hu⟩, hn, hcs⟩ | ⟨b, off, cap, vs, hu, hn, hc, hz, hv, hvr⟩
    · have hrun := sliceAt_slice (P := C.P) (w := w) hT hE a0 0 0 (lo.map a.eval) (hi.map a.eval) l h hlv (by rw [hn] at hhv; exact hhv) h1 (by omega)
      refine ⟨.slice a0 0 0, ?_, ?_⟩
      · simp [execOp, hu]
        rw [hrun]
        simp
        omega
      · have : xs = [] := List.eq_nil_of_length_eq_zero hn
        subst this
        have hl0 : h - l = 0 := by simp at h2; omega
        rw [hl0]
        simp
        exact .rdnil _ _ _ _
    · have hrun := sliceAt_slice (P := C.P) (w := w) hT hE (Option.some ⟨b, off, Option.none⟩) xs.length cap (lo.map a.eval) (hi.map a.eval) l h hlv hhv h1 (by omega)
      have hsub : ∀ i, i < (((xs.drop l).take (h - l)).flatMap enc).length → (((xs.drop l).take (h - l)).flatMap enc)[i]? = (xs.flatMap enc)[l * sz + i]? := fun i hi => by
        rw [← flatMap_take henc, ← flatMap_drop henc] at hi ⊢
        rw [List.length_take] at hi
        rw [List.getElem?_take, if_pos (by omega), List.getElem?_drop]
      obtain ⟨q1, q2⟩ := VR.part (Z := fun _ => zone C s.heap ι w β) hv hvr hsub
      by_cases hcl : cap = l
      · have hl0 : h - l = 0 := by omega
        refine ⟨.slice (Option.some ⟨b, off, Option.none⟩) (h - l) (cap - l), ?_, ?_⟩
        · simp [execOp, hu]
          rw [hrun]
          simp [hcl]
        · rw [hl0]
          simp
          exact .rd _ _ _ _ _ _ _ _ (fun _ => undef) (fun h => absurd rfl h) (by omega) (by omega) (fun i hi => absurd hi (by simp)) (fun i hi => absurd hi (by simp))
      · refine ⟨.slice (Option.some ⟨b, off + l * sz, Option.none⟩) (h - l) (cap - l), ?_, ?_⟩
        · simp [execOp, hu]
          rw [hrun]
          simp [hcl, Addr.add_plain]
        · refine .rd _ _ _ _ _ _ _ _ _ (fun hne => hz fun hnil => hne ?_) (by omega) (by omega) q1 q2
          have hlen := flatMap_length henc ((xs.drop l).take (h - l))
          have hlen2 := flatMap_length henc xs
          rw [hnil] at hlen2
          rw [List.length_take, List.length_drop] at hlen
          apply List.eq_nil_of_length_eq_zero
          rw [hlen]
          rcases Nat.eq_zero_or_pos sz with h | hpos
          · simp [h]
          · have : xs.length = 0 := by
              rcases Nat.eq_zero_or_pos xs.length with h | h
              · exact h
              · have := Nat.mul_pos h hpos
                rw [← hlen2] at this
                exact absurd this (by simp)
            simp [this]

/-- A slice of an owned row. -/
theorem AStep.sliceOwn {sz : Nat} {x : Operand} {lo hi : Option Operand} {T E : TypeId} {t off n l h : Nat} (hd : d < C.N)
    (hx : Ev C s x (.own t sz off n)) (hT : C.P.underlying T = some (.slice E)) (hE : szOf C.P E sz)
    (hl : Bd C s lo 0 l) (hh : Bd C s hi n h) (h1 : l ≤ h) (h2 : h ≤ n) :
    AStep C ⟨some d, .slice T x lo hi none, ty, p, e, g⟩ s (s.put d (.own t sz (off + l * sz) (h - l))) :=
  .val hd (fun _ h => by cases h) fun ι a w r => by
    have hlv := hl.val r
    have hhv := hh.val r
    rcases own_inv (hx ι a w r) with ⟨rfl, hu⟩ | ⟨b, cap, q, hu, ht, hn, hc, hs, ho⟩
    · have hh0 : h = 0 := by omega
      have hl0 : l = 0 := by omega
      subst hh0 hl0
      rcases hu with hu | ⟨b, o, hu⟩
      · have hrun := sliceAt_slice (P := C.P) (w := w) hT hE Option.none 0 0 (lo.map a.eval) (hi.map a.eval) 0 0 hlv hhv (by omega) (by omega)
        exact ⟨.slice Option.none 0 0, by simp [execOp, hu]; rw [hrun]; simp, by simpa using VR.ownnil _ _ t sz _⟩
      · have hrun := sliceAt_slice (P := C.P) (w := w) hT hE (Option.some ⟨b, o, Option.none⟩) 0 0 (lo.map a.eval) (hi.map a.eval) 0 0 hlv hhv (by omega) (by omega)
        exact ⟨.slice (Option.some ⟨b, o, Option.none⟩) 0 0, by simp [execOp, hu]; rw [hrun]; simp, by simpa using VR.ownz _ _ t sz _ b o⟩
    · have hrun := sliceAt_slice (P := C.P) (w := w) hT hE (Option.some ⟨b, off, Option.none⟩) n cap (lo.map a.eval) (hi.map a.eval) l h hlv hhv h1 (by omega)
      by_cases hcl : cap = l
      · have hl0 : h - l = 0 := by omega
        refine ⟨.slice (Option.some ⟨b, off, Option.none⟩) (h - l) (cap - l), by simp [execOp, hu]; rw [hrun]; simp [hcl], ?_⟩
        rw [hl0, hcl, Nat.sub_self]
        exact .ownz _ _ _ _ _ _ _
      · refine ⟨.slice (Option.some ⟨b, off + l * sz, Option.none⟩) (h - l) (cap - l), by simp [execOp, hu]; rw [hrun]; simp [hcl, Addr.add_plain], ?_⟩
        refine .own _ _ _ _ _ _ b _ q ht (by omega) (by omega) hs ?_
        have : cap * sz = l * sz + (cap - l) * sz := by rw [← Nat.add_mul]; congr 1; omega
        omega
end
end Go.AB

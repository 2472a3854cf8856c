/-
  AB, part 8: make, slices and structs written out, conversions, one state for another.
-/
import Derived.Test.YtpccmcepgllccaaAb7
namespace Go.AB
open Go

section
variable {C : Ctx} {d : Nat} {ty : TypeId} {p : String} {e : Array Edge} {g : Option (Nat × Bool)} {s : St}

theorem AStep.make {α : Type} {enc : α → List AV} {y0 : α} {x y : Operand} {T E : TypeId} {t sz by_ : Nat} {z : List Value} {k k' : IntKind} {l c : Int} (hd : d < C.N) (hK : t ∉ C.K)
    (hx : Ev C s x (.sc (.int k l))) (hy : Ev C s y (.sc (.int k' c))) (hT : C.P.underlying T = some (.slice E)) (hz : zeroT C.P E z) (hE : elT C.P E sz by_) (h0 : enc y0 = z.map .sc)
    (henc : ∀ y, (enc y).length = sz) (h1 : 0 ≤ l) (h2 : l ≤ c) (h3 : (by_ : Int) * c ≤ 281474976710656) (h4 : c ≤ 9223372036854775807) :
    AStep C ⟨some d, .makeSlice T x y, ty, p, e, g⟩ s (s.newP d t ⟨E, true, (List.replicate l.toNat y0).flatMap enc⟩ (.own t sz 0 l.toNat)) :=
  .run (fun _ h => by cases h) fun ι a w r => by
    obtain ⟨i, v, hi, hv, hvz, hsz⟩ := hz
    obtain ⟨i', v', hi', hv', hsz', hby, _⟩ := hE
    rw [hi] at hi'
    cases hi'
    rw [hv] at hv'
    cases hv'
    have hrun := run_make (P := C.P) w T E i v hT hi hv k k' l c h1 h2 (by rw [hby]; exact h3) h4
    refine ⟨_, _, setT ι t w.heap.size, by simp only [execOp, hx.sc r, hy.sc r, Sem.run_bind, hrun]; rfl, ?_⟩
    have hle : l.toNat ≤ c.toNat := by omega
    have hcs : (madeCells v.cells (c.toNat * i.size)).size = c.toNat * i.size := size_madeCells _ _
    have hlen : ((List.replicate l.toNat y0).flatMap enc).length = l.toNat * sz := by rw [flatMap_length henc]; simp
    refine r.newL hd hK rfl rfl rfl rfl ?_ ?_ ?_
    · rw [hcs, hlen, hsz']; exact Nat.mul_le_mul_right _ hle
    · intro j hj
      rw [hlen] at hj
      have hpos : 0 < sz := by
        rcases Nat.eq_zero_or_pos sz with h | h
        · rw [h] at hj; omega
        · exact h
      have hq : j / sz < l.toNat := (Nat.div_lt_iff_lt_mul hpos).2 hj
      have hr : j % sz < sz := Nat.mod_lt _ hpos
      have hz1 : z.length = sz := by have := henc y0; rw [h0] at this; simpa using this
      have e1 := flatMap_at henc (List.replicate l.toNat y0) (j / sz) (y := y0) (by rw [List.getElem?_replicate, if_pos hq]) (j % sz) hr
      have e2 : j / sz * sz + j % sz = j := by rw [Nat.mul_comm]; exact Nat.div_add_mod j sz
      rw [e2, h0] at e1
      have hzl : j % sz < z.length := by omega
      have e3 : ((List.replicate l.toNat y0).flatMap enc)[j]'(by rw [hlen]; exact hj) = .sc z[j % sz] := by
        rw [List.getElem?_eq_getElem (by rw [hlen]; exact hj)] at e1
        simp [hzl] at e1
        exact e1
      refine ⟨z[j % sz], ?_, by rw [e3]; exact .sc _ _ _⟩
      have hlt : j < c.toNat * i.size := by rw [hsz']; exact Nat.lt_of_lt_of_le hj (Nat.mul_le_mul_right _ hle)
      have hvs : v.cells.size = sz := by rw [← Array.length_toList, hvz, hz1]
      simp only [madeCells, Array.getElem?_map]
      rw [Array.getElem?_eq_getElem (by simpa using hlt)]
      simp only [Array.getElem_range, Option.map_some, hvs]
      have : v.cells[j % sz]! = z[j % sz] := by
        have hb : j % sz < v.cells.size := by omega
        rw [getElem!_pos v.cells _ hb]
        have : v.cells[j % sz] = v.cells.toList[j % sz]'(by simpa using hb) := by simp
        rw [this]
        simp only [hvz]
      rw [this]
    · intro hb
      exact .own _ _ _ _ _ _ w.heap.size c.toNat _ (by simp [setT]) hle (by simp only [maxLen]; omega) hb (by rw [hcs, hsz']; omega)

/-- what an AV is, cell by cell -/
def AV.cellsOf : AV → List AV
  | .agg cs => cs
  | v => [v]
/-- n cells, for sure -/
def AV.wide (n : Nat) : AV → Prop
  | .agg cs => cs.length = n
  | v => v.one = true ∧ n = 1
theorem VR.wide {w : World} {Z : Zone} {ι : Tags} {v : AV} {u : Value} {n : Nat} (h : VR w Z ι v u) (hw : v.wide n) : u.cells.size = n ∧ v.cellsOf.length = n ∧
    ∀ i (hi : i < v.cellsOf.length), ∃ y, u.cells[i]? = some y ∧ VR w Z ι (v.cellsOf[i]'hi) y := by
  have one : v.one = true → n = 1 → v.cellsOf = [v] → u.cells.size = n ∧ v.cellsOf.length = n ∧ ∀ i (hi : i < v.cellsOf.length), ∃ y, u.cells[i]? = some y ∧ VR w Z ι (v.cellsOf[i]'hi) y := by
    intro h1 h2 h3
    have h4 := (h.one h1).2
    subst h2
    refine ⟨by rw [h4]; rfl, by rw [h3]; rfl, fun i hi => ?_⟩
    have hi0 : i = 0 := by rw [h3] at hi; simp at hi; exact hi
    subst hi0
    refine ⟨u, by rw [h4]; rfl, ?_⟩
    simp only [h3, List.getElem_cons_zero]; exact h
  cases h with
  | agg _ _ cells vs hl hv =>
    simp only [AV.wide] at hw
    refine ⟨by simp [Value.cells, hl, hw], hw, fun i hi => ?_⟩
    simp only [AV.cellsOf] at hi ⊢
    exact ⟨vs[i], by simp [Value.cells, hl ▸ hi], hv i hi⟩
  | _ => first | exact one hw.1 hw.2 rfl | (exact absurd hw.1 (by simp [AV.one]))

def splL {β : Type} (cells : List β) (off : Nat) (new : List β) : List β := cells.take off ++ new ++ cells.drop (off + new.length)

theorem fold_splice (us : List Value) : ∀ (cur : Array Value) (off k : Nat), off + k + us.length ≤ cur.size →
    (us.zipIdx k).foldl (fun cs (x : Value × Nat) => cs.setIfInBounds (off + x.2) x.1) cur = (splL cur.toList (off + k) us).toArray := by
  induction us with
  | nil => intro cur off k h; simp [splL]
  | cons u us ih =>
    intro cur off k h
    simp only [List.length_cons] at h
    rw [List.zipIdx_cons, List.foldl_cons, ih _ _ _ (by simp; omega)]
    congr 1
    simp only [splL, Array.toList_setIfInBounds, List.length_cons]
    rw [show off + (k + 1) = off + k + 1 from by omega, List.drop_set_of_lt (by omega), List.take_set, List.take_add_one, List.set_append_right _ _ (by simp; omega)]
    have hlt : off + k < cur.toList.length := by simp; omega
    rw [List.getElem?_eq_getElem hlt]
    simp
    rw [show min (off + k) cur.size = off + k from by omega]
    simp
    congr 1
    omega

/-- The parts of a literal, laid into its cells one behind the other. -/
def fillA (place : Nat → Option (Nat × Nat)) : List AV → List (Nat × AV) → Option (List AV)
  | cells, [] => some cells
  | cells, (i, v) :: rest => match place i with
    | none => none
    | some (off, size) => if v.cellsOf.length = size ∧ off + size ≤ cells.length then fillA place (splL cells off v.cellsOf) rest else none

/-- Operands and what they stand for, in a row. -/
inductive EvL (C : Ctx) (s : St) : List (Nat × Operand) → List (Nat × AV) → Prop
  | nil : EvL C s [] []
  | cons {i : Nat} {x : Operand} {v : AV} {xs : List (Nat × Operand)} {vs : List (Nat × AV)} (h : Ev C s x v) (hw : v.wide v.cellsOf.length) (t : EvL C s xs vs) : EvL C s ((i, x) :: xs) ((i, v) :: vs)

theorem splL_row {w : World} {Z : Zone} {ι : Tags} {xs ys : List AV} {us vs : List Value} {off : Nat} (hl : xs.length = us.length) (hl' : ys.length = vs.length) (ho : off + ys.length ≤ xs.length)
    (hx : ∀ i (hi : i < xs.length), ∃ u, us[i]? = some u ∧ VR w Z ι (xs[i]'hi) u) (hy : ∀ i (hi : i < ys.length), ∃ u, vs[i]? = some u ∧ VR w Z ι (ys[i]'hi) u) :
    (splL xs off ys).length = (splL us off vs).length ∧ ∀ i (hi : i < (splL xs off ys).length), ∃ u, (splL us off vs)[i]? = some u ∧ VR w Z ι ((splL xs off ys)[i]'hi) u := by
  constructor
  · simp [splL, hl, hl']
  · unfold splL
    refine row_of (by simp [hl, hl']) (row_of (by simp [hl]) ?_ hy) ?_
    · intro i hi
      have hi' : i < xs.length := by simp at hi; omega
      obtain ⟨u, hu, hv⟩ := hx i hi'
      exact ⟨u, by rw [List.getElem?_take, if_pos (by simp at hi; omega)]; exact hu, by simpa using hv⟩
    · intro i hi
      have hi' : off + ys.length + i < xs.length := by simp at hi; omega
      obtain ⟨u, hu, hv⟩ := hx _ hi'
      exact ⟨u, by rw [List.getElem?_drop, ← hl']; exact hu, by simpa using hv⟩

theorem fill_run {C : Ctx} {s : St} {ι : Tags} {a : Act} {w : World} (r : Rel C s ι a w) {place : Nat → Option (Nat × Nat)} :
    ∀ {xs : List (Nat × Operand)} {vs : List (Nat × AV)}, EvL C s xs vs → ∀ (cells out : List AV) (us : List Value), cells.length = us.length →
      (∀ i (hi : i < cells.length), ∃ u, us[i]? = some u ∧ VR w (zone C s.heap ι w) ι (cells[i]'hi) u) → fillA place cells vs = some out →
      ∃ us' : List Value, Instr.fill place us.toArray (xs.map fun x => (x.1, a.eval x.2)) = some us'.toArray ∧ out.length = us'.length ∧
        ∀ i (hi : i < out.length), ∃ u, us'[i]? = some u ∧ VR w (zone C s.heap ι w) ι (out[i]'hi) u := by
  intro xs vs hev
  induction hev with
  | nil =>
    intro cells out us hl hv hf
    simp only [fillA, Option.some.injEq] at hf
    subst hf
    exact ⟨us, by simp [Instr.fill], hl, hv⟩
  | cons h hw t ih =>
    rename_i i x v xs vs
    intro cells out us hl hv hf
    simp only [fillA] at hf
    cases hp : place i with
    | none => rw [hp] at hf; cases hf
    | some q =>
      obtain ⟨off, size⟩ := q
      rw [hp] at hf
      simp only [] at hf
      split at hf
      · rename_i hc
        obtain ⟨hc1, hc2⟩ := hc
        obtain ⟨q1, q2, q3⟩ := (h ι a w r).wide hw
        have hcl : (a.eval x).cells.toList.length = v.cellsOf.length := by simpa using q1
        obtain ⟨s1, s2⟩ := splL_row (us := us) (vs := (a.eval x).cells.toList) (off := off) hl hcl.symm (by omega) hv (fun j hj => by
          obtain ⟨y, hy, hvr⟩ := q3 j hj
          exact ⟨y, by simpa using hy, hvr⟩)
        obtain ⟨us', f1, f2, f3⟩ := ih _ _ _ s1 s2 hf
        refine ⟨us', ?_, f2, f3⟩
        rw [← f1]
        simp only [List.map_cons, Instr.fill, hp]
        rw [if_neg]
        · have hfs := fold_splice (a.eval x).cells.toList us.toArray off 0 (by simp; omega)
          simp only [Nat.add_zero] at hfs
          congr 1
          rw [← hfs, ← Array.foldl_toList, Array.toList_zipIdx]
        · simp only [Bool.or_eq_true, decide_eq_true_eq, not_or]
          constructor
          · simp [q1, hc1]
          · simp; omega
      · cases hf

/-- A struct written out. -/
theorem AStep.build {T : TypeId} {parts : Array (Nat × Operand)} {vs : List (Nat × AV)} {z : List Value} {fs : Array Field} {offs : List (Nat × Nat)} {out : List AV} (hd : d < C.N)
    (hev : EvL C s parts.toList vs) (hT : C.P.underlying T = some (.struct fs)) (hz : zeroT C.P T z) (hoffs : ∀ w, (fs.mapM fun f => do pure (f.offset, ← sizeOf f.type) : Sem (Array (Nat × Nat))).run C.P w = .ok offs.toArray w)
    (hout : fillA (fun i => offs[i]?) (z.map .sc) vs = some out) : AStep C ⟨some d, .build T parts, ty, p, e, g⟩ s (s.put d (.agg out)) :=
  .val hd (fun _ h => by cases h) fun ι a w r => by
    obtain ⟨i, v, hi, hv, hvz, hsz⟩ := hz
    obtain ⟨us', f1, f2, f3⟩ := fill_run r hev (z.map .sc) out z (by simp) (fun j hj => by
      have hj' : j < z.length := by simpa using hj
      exact ⟨z[j], by simp [hj'], by simpa using VR.sc _ _ _⟩) hout
    refine ⟨.agg us'.toArray, ?_, .agg _ _ _ _ f2.symm fun j hj => ?_⟩
    · have hvc : v.cells = z.toArray := by rw [← hvz]
      have hpt : (parts.map fun x => (x.1, a.eval x.2)).toList = parts.toList.map fun x => (x.1, a.eval x.2) := by simp
      simp only [execOp, Instr.build, Sem.run_bind, zeroValue, typeInfo, run_program, hi, hv, Sem.run_pure, Result.andThen_ok, run_underlying hT]
      rw [hoffs w]
      simp only [Result.andThen_ok, hpt, hvc]
      have : (fun x : Nat => offs.toArray[x]?) = fun i : Nat => offs[i]? := by funext x; simp
      rw [this, f1]
      rfl
    · obtain ⟨u, hu, hvr⟩ := f3 j hj
      have : us'[j]'(by omega) = u := by
        rw [List.getElem?_eq_getElem (by omega)] at hu; exact Option.some.inj hu
      rw [this]; exact hvr

/-- A slice written out: still values. -/
theorem AStep.buildSlice {T E : TypeId} {t sz by_ n : Nat} {parts : Array (Nat × Operand)} {vs : List (Nat × AV)} {z : List Value} {out : List AV} (hd : d < C.N) (hK : t ∉ C.K)
    (hev : EvL C s parts.toList vs) (hT : C.P.underlying T = some (.slice E)) (hz : zeroT C.P E z) (hE : elT C.P E sz by_) (hpos : 0 < sz) (hn : n * sz ≤ 16777216)
    (hout : fillA (fun i => some (i * sz, sz)) ((List.range (n * sz)).map fun i => .sc (z.getD (i % sz) undef)) vs = some out) (hst : ∀ c ∈ out, c.still = true) :
    AStep C ⟨some d, .buildSlice T n parts, ty, p, e, g⟩ s (s.newP d t ⟨E, true, out⟩ (.own t sz 0 n)) :=
  .run (fun _ h => by cases h) fun ι a w r => by
    obtain ⟨i, v, hi, hv, hvz, hsz⟩ := hz
    obtain ⟨i', v', hi', hv', hsz', hby, hzs⟩ := hE
    rw [hi] at hi'
    cases hi'
    rw [hv] at hv'
    cases hv'
    obtain ⟨us', f1, f2, f3⟩ := fill_run r hev _ out ((List.range (n * sz)).map fun i => z.getD (i % sz) undef) (by simp) (fun j hj => by
      have hj' : j < n * sz := by simpa using hj
      exact ⟨z.getD (j % sz) undef, by simp [hj'], by simpa using VR.sc _ _ _⟩) hout
    have hlen : ∀ (xs : List (Nat × AV)) (cs out : List AV), fillA (fun i => some (i * sz, sz)) cs xs = some out → out.length = cs.length := by
      intro xs
      induction xs with
      | nil => intro cs out h; simp only [fillA, Option.some.injEq] at h; rw [h]
      | cons x xs ih =>
        intro cs out h
        obtain ⟨i, v⟩ := x
        simp only [fillA] at h
        split at h
        · rename_i hc
          rw [ih _ _ h]
          simp [splL]
          omega
        · cases h
    have hol : out.length = n * sz := by rw [hlen _ _ _ hout]; simp
    refine ⟨.slice (some ⟨w.heap.size, 0, none⟩) n n, w.alloc (.cells us'.toArray E), setT ι t w.heap.size, ?_, ?_⟩
    · have hpt : (parts.map fun x => (x.1, a.eval x.2)).toList = parts.toList.map fun x => (x.1, a.eval x.2) := by simp
      have hcells : ((Array.range (n * sz)).map fun x => v.cells[x % sz]!) = ((List.range (n * sz)).map fun i => z.getD (i % sz) undef).toArray := by
        apply Array.ext'
        simp only [Array.toList_map, Array.toList_range]
        refine List.map_congr_left fun j hj => ?_
        have hj' : j < n * sz := by simpa using hj
        have hr : j % sz < sz := Nat.mod_lt _ hpos
        have hzl : z.length = sz := by rw [← hsz, hsz']
        rw [getElem!_pos v.cells _ (by rw [hzs]; exact hr)]
        have e1 : v.cells[j % sz]'(by rw [hzs]; exact hr) = v.cells.toList[j % sz]'(by simp [hzs]; exact hr) := by simp
        rw [e1]
        simp only [hvz]
        simp [List.getD_eq_getElem?_getD, List.getElem?_eq_getElem (show j % sz < z.length by omega)]
      have hnb : ¬ (n * sz > 2 ^ 24) := by omega
      simp only [execOp, Instr.buildSlice, Sem.run_bind, run_underlying hT, Result.andThen_ok, sizeOf, typeInfo, run_program, hi, Sem.run_pure, hsz']
      rw [if_neg (by omega)]
      by_cases h0 : n * sz = 0
      · rw [if_pos h0]
        simp only [Sem.run_pure, Sem.run_bind, Result.andThen_ok, hpt]
        have : ((Array.range (n * sz)).map fun x => (#[] : Array Value)[x % (#[] : Array Value).size]!) = ((List.range (n * sz)).map fun i => z.getD (i % sz) undef).toArray := by rw [h0]; simp
        rw [this, f1]
        simp [newRow]
      · rw [if_neg h0]
        simp only [zeroValue, typeInfo, Sem.run_bind, run_program, hi, hv, Sem.run_pure, Result.andThen_ok, hpt, hzs]
        rw [hcells, f1]
        simp [newRow]
    · refine r.newL hd hK rfl rfl rfl rfl (by simp [f2]) (fun j hj => ?_) (fun hb => ?_)
      · obtain ⟨u, hu, hvr⟩ := f3 j hj
        exact ⟨u, by simpa using hu, hvr.still (hst _ (List.getElem_mem hj))⟩
      · exact .own _ _ _ _ _ _ w.heap.size n _ (by simp [setT]) (Nat.le_refl _) (by
          simp only [maxLen]
          have := Nat.le_mul_of_pos_right n hpos; omega) hb (by simp [← f2, hol])
end
end Go.AB

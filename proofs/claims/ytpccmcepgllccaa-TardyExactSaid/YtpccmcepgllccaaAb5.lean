/-
  AB, part 5: what changes a state: new blocks, stores; one state for another.
-/
import Derived.Test.YtpccmcepgllccaaAb4
namespace Go.AB
open Go

def purgeA (t : Nat) (v : AV) : AV := bif AV.free t v then v else .any
def purgeE (t : Nat) : List (Nat × AV) → List (Nat × AV)
  | [] => []
  | (d, v) :: l => (d, purgeA t v) :: purgeE t l
def purgeB (t : Nat) (k : Blk) : Blk := bif k.lst then k else { k with cells := k.cells.map (purgeA t) }
def purgeH (t : Nat) : List (Nat × Blk) → List (Nat × Blk)
  | [] => []
  | (t', k) :: l => bif Nat.beq t t' then purgeH t l else (t', purgeB t k) :: purgeH t l
def updH (t : Nat) (k : Blk) : List (Nat × Blk) → List (Nat × Blk)
  | [] => []
  | (t', k') :: l => bif Nat.beq t t' then (t', k) :: l else (t', k') :: updH t k l

theorem beq_ne {a b : Nat} (h : a ≠ b) : Nat.beq a b = false := by rw [← Bool.not_eq_true, Nat.beq_eq]; exact h
theorem look_purgeE (t d : Nat) : ∀ l : List (Nat × AV), look d (purgeE t l) = (look d l).map (purgeA t)
  | [] => rfl
  | (d', v) :: l => by
    by_cases h : d = d'
    · subst h; simp [purgeE, look]
    · simp only [purgeE, look, beq_ne h, cond_false]; exact look_purgeE t d l
theorem look_purgeH_ne {t t' : Nat} (h : t' ≠ t) : ∀ l : List (Nat × Blk), look t' (purgeH t l) = (look t' l).map (purgeB t)
  | [] => rfl
  | (t1, k) :: l => by
    by_cases h1 : t = t1
    · subst h1
      simp only [purgeH, Nat.beq_refl, cond_true, look, beq_ne h, cond_false]
      exact look_purgeH_ne h l
    · simp only [purgeH, beq_ne h1, cond_false]
      by_cases h2 : t' = t1
      · subst h2; simp [look]
      · simp only [look, beq_ne h2, cond_false]; exact look_purgeH_ne h l
theorem look_purgeH_self (t : Nat) : ∀ l : List (Nat × Blk), look t (purgeH t l) = none
  | [] => rfl
  | (t1, k) :: l => by
    by_cases h1 : t = t1
    · subst h1; simp only [purgeH, Nat.beq_refl, cond_true]; exact look_purgeH_self t l
    · simp only [purgeH, beq_ne h1, cond_false, look]; exact look_purgeH_self t l
theorem look_updH_ne {t t' : Nat} (h : t' ≠ t) (k : Blk) : ∀ l : List (Nat × Blk), look t' (updH t k l) = look t' l
  | [] => rfl
  | (t1, k1) :: l => by
    by_cases h1 : t = t1
    · subst h1; simp [updH, look, beq_ne h]
    · simp only [updH, beq_ne h1, cond_false]
      by_cases h2 : t' = t1
      · subst h2; simp [look]
      · simp only [look, beq_ne h2, cond_false]; exact look_updH_ne h k l
theorem look_updH_self {t : Nat} (k : Blk) : ∀ l : List (Nat × Blk), has t l → look t (updH t k l) = some k
  | [], h => by obtain ⟨v, h⟩ := h; cases h
  | (t1, k1) :: l, h => by
    by_cases h1 : t = t1
    · subst h1; simp [updH, look]
    · simp only [updH, beq_ne h1, cond_false, look]
      refine look_updH_self k l ?_
      obtain ⟨v, h⟩ := h
      simp only [look, beq_ne h1, cond_false] at h
      exact ⟨v, h⟩
theorem has_updH {t t' : Nat} {k : Blk} {l : List (Nat × Blk)} (ht : has t l) : has t' (updH t k l) ↔ has t' l := by
  by_cases h : t' = t
  · subst h; exact ⟨fun _ => ht, fun _ => ⟨k, look_updH_self k l ht⟩⟩
  · unfold has; rw [look_updH_ne h]
theorem has_purgeH {t t' : Nat} {l : List (Nat × Blk)} : has t' (purgeH t l) ↔ t' ≠ t ∧ has t' l := by
  by_cases h : t' = t
  · subst h; unfold has; rw [look_purgeH_self]; simp
  · unfold has; rw [look_purgeH_ne h]
    constructor
    · rintro ⟨v, hv⟩
      cases hl : look t' l with
      | none => rw [hl] at hv; cases hv
      | some k => exact ⟨h, k, rfl⟩
    · rintro ⟨_, k, hk⟩; exact ⟨_, by rw [hk]; rfl⟩

theorem purgeA_VR {w w' : World} {Z Z' : Zone} {ι ι' : Tags} {t : Nat} {v : AV} {u : Value} (hsz : ∀ b n, bsz w b = some n → bsz w' b = some n)
    (hZ : ∀ β b, Z β b → Z' β b) (hcell : ∀ β b o u, Z β b → w.cell? ⟨b, o, none⟩ = some u → w'.cell? ⟨b, o, none⟩ = some u)
    (hι : ∀ t' b, t' ≠ t → ι t' = some b → ι' t' = some b) (h : VR w Z ι v u) : VR w' Z' ι' (purgeA t v) u := by
  unfold purgeA
  cases hf : AV.free t v with
  | false => exact .any _ _ _
  | true =>
    refine h.mono hsz _ _ hZ hcell fun t' b ht' => hι t' b ?_
    intro e; subst e; rw [hf] at ht'; cases ht'

/-- The tags with one more. -/
def setT (ι : Tags) (t b : Nat) : Tags := fun x => if x = t then some b else ι x

/-- A new block under the tag t; whatever spoke of t before is forgotten. -/
theorem Rel.new {C : Ctx} {s : St} {ι : Tags} {a : Act} {w w' : World} (r : Rel C s ι a w) {t d : Nat} {k : Blk} {v : AV} {u : Value} {b : Nat} (hd : d < C.N) (hK : t ∉ C.K)
    (hos : w'.os = w.os) (htape : w'.tape = w.tape) (hout : w'.output = w.output) (hsize : w.heap.size ≤ w'.heap.size)
    (hold : ∀ i, i < w.heap.size → w'.heap[i]? = w.heap[i]?) (hb0 : w.heap.size ≤ b)
    (hk : ∀ Z', (∀ β x, zone C s.heap ι w β x → Z' β x) → BlkR w' Z' (setT ι t b) t k) (hv : ∀ Z', (∀ β x, zone C s.heap ι w β x → Z' β x) → VR w' Z' (setT ι t b) v u) :
    Rel C ⟨(d, v) :: purgeE t s.env, (t, k) :: purgeH t s.heap⟩ (setT ι t b) (a.put (some d) u) w' := by
  have hZ : ∀ β x, zone C s.heap ι w β x → zone C ((t, k) :: purgeH t s.heap) (setT ι t b) w' β x := by
    rintro β x ⟨h1, h2, h3⟩
    refine ⟨by omega, fun t' ht' => ?_, h3⟩
    by_cases e : t' = t
    · subst e; simp [setT]; omega
    · simp only [setT, if_neg e]
      refine h2 t' ?_
      obtain ⟨q, hq⟩ := ht'
      rw [look_cons_ne e] at hq
      exact (has_purgeH.1 ⟨q, hq⟩).2
  have hcell : ∀ β x o y, zone C s.heap ι w β x → w.cell? ⟨x, o, none⟩ = some y → w'.cell? ⟨x, o, none⟩ = some y := by
    rintro β x o y ⟨h1, _, _⟩ hy
    rw [World.cell?_of_block (a := ⟨x, o, none⟩) (hold x h1)]; exact hy
  have hsz : ∀ x n, bsz w x = some n → bsz w' x = some n := by
    intro x n hx
    have hx1 : x < w.heap.size := by
      rcases Nat.lt_or_ge x w.heap.size with h | h
      · exact h
      · simp [bsz, Array.getElem?_eq_none h] at hx
    simp only [bsz, hold x hx1]; exact hx
  have hι : ∀ t' x, t' ≠ t → ι t' = some x → setT ι t b t' = some x := fun t' x hne hx => by simp only [setT, if_neg hne]; exact hx
  have hsize' := r.size
  refine ⟨by simp [Act.put, r.size], by simp [Act.put, r.dfr], ?_, ⟨?_, ?_, ?_, ?_⟩, fun t' ht' => by
    have hne : t' ≠ t := fun h => hK (h ▸ ht')
    simp only [setT, if_neg hne]; exact r.stab t' ht'⟩
  · intro d' v' hl
    by_cases e : d' = d
    · subst e
      rw [look_cons_self] at hl
      cases hl
      have : (a.put (some d') u).tmps.getD d' undef = u := by
        simp [Act.put, Array.getD_eq_getD_getElem?, hsize', hd]
      rw [this]
      exact hv _ hZ
    · rw [look_cons_ne e, look_purgeE] at hl
      have : (a.put (some d) u).tmps.getD d' undef = a.tmps.getD d' undef := by
        simp only [Act.put, Array.getD_eq_getD_getElem?, Array.getElem?_setIfInBounds]
        rw [if_neg (fun h => e h.symm)]
      rw [this]
      cases hq : look d' s.env with
      | none => rw [hq] at hl; cases hl
      | some q =>
        rw [hq] at hl
        simp only [Option.map_some, Option.some.injEq] at hl
        subst hl
        exact purgeA_VR hsz hZ hcell hι (r.env d' q hq)
  · intro t' k' hl
    by_cases e : t' = t
    · subst e
      rw [look_cons_self] at hl
      cases hl
      exact hk _ hZ
    · rw [look_cons_ne e, look_purgeH_ne e] at hl
      cases hq : look t' s.heap with
      | none => rw [hq] at hl; cases hl
      | some q =>
        rw [hq] at hl
        simp only [Option.map_some, Option.some.injEq] at hl
        subst hl
        have h0 := r.core.blk t' q hq
        have ht' : setT ι t b t' = ι t' := by simp [setT, e]
        unfold BlkR at h0 ⊢
        rw [ht']
        cases hx : ι t' with
        | none =>
          simp only [hx] at h0 ⊢
          obtain ⟨h1, h2⟩ := h0
          simp [purgeB, h2, h1]
        | some x =>
          simp only [hx] at h0 ⊢
          obtain ⟨cur, h1, h2, h3⟩ := h0
          have hxs : x < w.heap.size := (Array.getElem?_eq_some_iff.1 h1).1
          refine ⟨cur, ?_, ?_, ?_⟩
          · rw [hold x hxs, h1]
            unfold purgeB
            cases q.lst <;> rfl
          · unfold purgeB
            cases q.lst <;> simpa using h2
          · intro i hi
            obtain ⟨qt, ql, qc⟩ := q
            cases ql with
            | true =>
              obtain ⟨y, hy, hvr⟩ := h3 i hi
              exact ⟨y, hy, hvr.mono hsz _ _ (fun _ z hz => hZ _ _ hz) (fun _ z o y hz => hcell _ z o y hz) (fun _ _ _ h => h)⟩
            | false =>
              have hi' : i < qc.length := by simpa [purgeB] using hi
              obtain ⟨y, hy, hvr⟩ := h3 i hi'
              refine ⟨y, hy, ?_⟩
              have e : (purgeB t ⟨qt, false, qc⟩).cells[i]'hi = purgeA t (qc[i]'hi') := by simp [purgeB]
              rw [e]
              exact purgeA_VR hsz hZ hcell hι hvr
  · intro t1 t2 x h1 h2 e1 e2
    have key : ∀ t', has t' ((t, k) :: purgeH t s.heap) → t' ≠ t → has t' s.heap := by
      rintro t' ⟨q, hq⟩ hne
      rw [look_cons_ne hne] at hq
      exact (has_purgeH.1 ⟨q, hq⟩).2
    have hlt : ∀ t' x, has t' s.heap → ι t' = some x → x < w.heap.size := by
      rintro t' x ⟨q, hq⟩ hx
      have h0 := r.core.blk t' q hq
      simp only [BlkR, hx] at h0
      obtain ⟨cur, h1, _⟩ := h0
      exact (Array.getElem?_eq_some_iff.1 h1).1
    by_cases q1 : t1 = t <;> by_cases q2 : t2 = t
    · rw [q1, q2]
    · simp only [setT, if_pos q1, if_neg q2] at e1 e2
      have := hlt t2 x (key t2 h2 q2) e2
      cases e1; omega
    · simp only [setT, if_neg q1, if_pos q2] at e1 e2
      have := hlt t1 x (key t1 h1 q1) e1
      cases e2; omega
    · simp only [setT, if_neg q1, if_neg q2] at e1 e2
      exact r.core.inj t1 t2 x (key t1 h1 q1) (key t2 h2 q2) e1 e2
  · intro t' x h1 e1
    by_cases q : t' = t
    · simp only [setT, if_pos q] at e1
      cases e1
      have := r.core.tr.size
      left; omega
    · simp only [setT, if_neg q] at e1
      obtain ⟨z, hz⟩ := h1
      rw [look_cons_ne q] at hz
      exact r.core.own t' x (has_purgeH.1 ⟨z, hz⟩).2 e1
  · have tr := r.core.tr
    exact ⟨hos.trans tr.os, htape.trans tr.tape, hout.trans tr.output, Nat.le_trans tr.size hsize, fun i hi hn => (hold i (Nat.lt_of_lt_of_le hi tr.size)).trans (tr.block i hi hn), fun x n h => hsz x n (tr.bsz x n h)⟩

/-- One owned block written anew. -/
theorem Rel.write {C : Ctx} {s : St} {ι : Tags} {a : Act} {w w' : World} (r : Rel C s ι a w) {t b : Nat} {k k' : Blk} (hk : look t s.heap = some k) (ht : ι t = some b)
    (hos : w'.os = w.os) (htape : w'.tape = w.tape) (hout : w'.output = w.output) (hsize : w'.heap.size = w.heap.size)
    (hold : ∀ i, i ≠ b → w'.heap[i]? = w.heap[i]?) {cur cur' : Array Value} (hb : w.heap[b]? = some (.cells cur k.ty (0, 0))) (hb' : w'.heap[b]? = some (.cells cur' k'.ty (0, 0)))
    (hcs : cur'.size = cur.size) (hl : k'.cells.length ≤ cur'.size)
    (hc : ∀ i (hi : i < k'.cells.length), ∃ u, cur'[i]? = some u ∧ VR w' (bif k'.lst then fun _ => zone C s.heap ι w false else zone C s.heap ι w) (bif k'.lst then fun _ => none else ι) (k'.cells[i]'hi) u) :
    Rel C ⟨s.env, updH t k' s.heap⟩ ι a w' := by
  have hh : has t s.heap := ⟨k, hk⟩
  have hZ : ∀ β x, zone C s.heap ι w β x → zone C (updH t k' s.heap) ι w' β x := by
    rintro β x ⟨h1, h2, h3⟩
    exact ⟨by omega, fun t' ht' => h2 t' ((has_updH hh).1 ht'), h3⟩
  have hcell : ∀ β x o y, zone C s.heap ι w β x → w.cell? ⟨x, o, none⟩ = some y → w'.cell? ⟨x, o, none⟩ = some y := by
    rintro β x o y ⟨_, h2, _⟩ hy
    have hne : x ≠ b := fun e => h2 t hh (by rw [ht, e])
    rw [World.cell?_of_block (a := ⟨x, o, none⟩) (hold x hne)]; exact hy
  have hsz : ∀ x n, bsz w x = some n → bsz w' x = some n := by
    intro x n hx
    by_cases e : x = b
    · subst e
      simp only [bsz, hb] at hx
      simp only [bsz, hb', hcs]
      exact hx
    · simp only [bsz, hold x e]; exact hx
  refine ⟨r.size, r.dfr, ?_, ⟨?_, ?_, ?_, ?_⟩, r.stab⟩
  · intro d v hl
    exact (r.env d v hl).mono hsz _ _ hZ hcell (fun _ _ _ h => h)
  · intro t' q hl'
    by_cases e : t' = t
    · subst e
      rw [look_updH_self k' s.heap hh] at hl'
      cases hl'
      unfold BlkR
      rw [ht]
      refine ⟨cur', hb', hl, fun i hi => ?_⟩
      obtain ⟨u, hu, hvr⟩ := hc i hi
      refine ⟨u, hu, hvr.mono (fun _ _ h => h) _ _ ?_ (fun _ _ _ _ _ h => h) (fun _ _ _ h => h)⟩
      cases k'.lst with
      | true => exact fun _ z hz => hZ _ _ hz
      | false => exact hZ
    · rw [look_updH_ne e] at hl'
      have h0 := r.core.blk t' q hl'
      unfold BlkR at h0 ⊢
      cases hx : ι t' with
      | none => simp only [hx] at h0 ⊢; exact h0
      | some x =>
        simp only [hx] at h0 ⊢
        obtain ⟨c0, h1, h2, h3⟩ := h0
        have hne : x ≠ b := fun e' => e (r.core.inj t' t b ⟨q, hl'⟩ hh (by rw [hx, e']) ht)
        refine ⟨c0, by rw [hold x hne]; exact h1, h2, fun i hi => ?_⟩
        obtain ⟨u, hu, hvr⟩ := h3 i hi
        refine ⟨u, hu, hvr.mono hsz _ _ ?_ ?_ (fun _ _ _ h => h)⟩
        · cases q.lst with
          | true => exact fun _ z hz => hZ _ _ hz
          | false => exact hZ
        · cases q.lst with
          | true => exact fun _ z o y hz => hcell _ z o y hz
          | false => exact hcell
  · intro t1 t2 x h1 h2
    exact r.core.inj t1 t2 x ((has_updH hh).1 h1) ((has_updH hh).1 h2)
  · intro t' x h1
    exact r.core.own t' x ((has_updH hh).1 h1)
  · have tr := r.core.tr
    refine ⟨hos.trans tr.os, htape.trans tr.tape, hout.trans tr.output, by rw [hsize]; exact tr.size, fun i hi hn => ?_, fun x n h => hsz x n (tr.bsz x n h)⟩
    rw [hold i ?_]
    · exact tr.block i hi hn
    · intro e
      subst e
      rcases r.core.own t i hh ht with h | h
      · omega
      · exact hn h
end Go.AB

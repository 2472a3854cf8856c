import Derived.Test.YtnmglighdhaccaaLg
set_option linter.unusedVariables false
namespace Go.AB
open Go

theorem sumN_shift {g : Nat → Int} : ∀ k, sumN g (k + 1) = g 0 + sumN (fun j => g (j + 1)) k
  | 0 => by simp [sumN]
  | k + 1 => by rw [sumN, sumN_shift k, sumN]; omega
theorem restE_eq {p : R23} : ∀ (s : List Int) (i : Nat) (left : Int), restE p s i left = left - sumN (fun j => s.getD j 0 * szP p (i + j)) s.length
  | [], i, left => by simp [restE, sumN]
  | k :: s, i, left => by
    rw [restE, restE_eq s, List.length_cons, sumN_shift]
    simp only [List.getD_cons_zero, List.getD_cons_succ, Nat.add_zero]
    have : ∀ j, i + 1 + j = i + (j + 1) := fun j => by omega
    simp only [this]
    omega
theorem restE_use {p : R23} (a : List Int) : restE p a 0 (capP p) = capP p - useP p a a.length := by
  rw [restE_eq]
  simp only [Nat.zero_add]
  rfl
theorem needE_iff {p : R23} {r : Int} : ∀ (s : List Int) (i : Nat) (need : Int), r < needE p s i need ↔ r < need ∧ ∀ j, j < s.length → s.getD j 0 < demP p (i + j) → r < szP p (i + j)
  | [], i, need => by simp [needE]
  | k :: s, i, need => by
    rw [needE, needE_iff s]
    constructor
    · rintro ⟨h1, h2⟩
      refine ⟨by split at h1 <;> omega, fun j hj hd => ?_⟩
      cases j with
      | zero =>
        simp only [List.getD_cons_zero, Nat.add_zero] at hd ⊢
        rw [if_pos hd] at h1; omega
      | succ j =>
        simp only [List.getD_cons_succ, List.length_cons] at hd hj
        have := h2 j (by omega) (by rw [show i + 1 + j = i + (j + 1) from by omega]; exact hd)
        rw [show i + 1 + j = i + (j + 1) from by omega] at this
        exact this
    · rintro ⟨h1, h2⟩
      refine ⟨?_, fun j hj hd => ?_⟩
      · by_cases hk : k < demP p i
        · rw [if_pos hk]
          have := h2 0 (by simp) (by simpa using hk)
          simp only [Nat.add_zero] at this
          omega
        · rw [if_neg hk]; exact h1
      · have := h2 (j + 1) (by simp; omega) (by simp only [List.getD_cons_succ]; rw [show i + (j + 1) = i + 1 + j from by omega]; exact hd)
        rw [show i + (j + 1) = i + 1 + j from by omega] at this
        exact this
theorem restE_le {p : R23} (h : Vp p) : ∀ {s : List Int} {i : Nat} {left : Int}, i + s.length ≤ p.Lengths.length → (∀ j, j < s.length → 0 ≤ s.getD j 0) → restE p s i left ≤ left
  | [], _, _, _, _ => Int.le_refl _
  | k :: s, i, left, hl, h0 => by
    simp only [List.length_cons] at hl
    have h1 := restE_le h (s := s) (i := i + 1) (left := left - k * szP p i) (by omega) (fun j hj => by simpa using h0 (j + 1) (by simp; omega))
    have h2 : 0 ≤ k := by simpa using h0 0 (by simp)
    have h3 := h.sz (show i < p.Lengths.length by omega)
    have := h.k1
    have := Int.mul_nonneg h2 (show 0 ≤ szP p i by omega)
    rw [restE]; omega
theorem lowK_bd (must : Int) (i : Nat) : 0 ≤ lowK must i ∧ lowK must i ≤ 1 := by unfold lowK; split <;> omega
theorem mem_ext {p : R23} (h : Vp p) {must : Int} : ∀ {m i : Nat} {left : Int} {s : List Int}, i + m ≤ p.Lengths.length → 0 ≤ left →
    (s ∈ ext p must m i left ↔ s.length = m ∧ (∀ j, j < m → lowK must (i + j) ≤ s.getD j 0 ∧ s.getD j 0 ≤ demP p (i + j)) ∧ 0 ≤ restE p s i left)
  | 0, i, left, s, him, hl => by
    rw [ext, List.mem_singleton]
    constructor
    · rintro rfl
      exact ⟨rfl, fun j hj => absurd hj (Nat.not_lt_zero _), hl⟩
    · rintro ⟨h1, _, _⟩
      exact List.eq_nil_of_length_eq_zero h1
  | m + 1, i, left, s, him, hl => by
    have hil : i < p.Lengths.length := by omega
    have hz := h.sz hil
    have hk1 := h.k1
    have hd := h.dem hil
    have hlo := lowK_bd must i
    have hm : ∀ k, k ∈ downs (lowK must i) 1002 (topK p i left) ↔ lowK must i ≤ k ∧ k ≤ demP p i ∧ k * szP p i ≤ left := fun k => by
      rw [mem_downs (by unfold topK; omega), ← Int.le_ediv_iff_mul_le (show 0 < szP p i by omega)]
      unfold topK
      omega
    simp only [ext, List.mem_flatMap, List.mem_map, hm]
    constructor
    · rintro ⟨k, ⟨h1, h2, h3⟩, s', hs', rfl⟩
      obtain ⟨e1, e2, e3⟩ := (mem_ext h (by omega) (by omega)).1 hs'
      refine ⟨by simp [e1], fun j hj => ?_, e3⟩
      cases j with
      | zero => simpa using ⟨h1, h2⟩
      | succ j =>
        have := e2 j (by omega)
        rw [show i + 1 + j = i + (j + 1) from by omega] at this
        simpa using this
    · rintro ⟨h1, h2, h3⟩
      cases s with
      | nil => simp at h1
      | cons k s' =>
        simp only [List.length_cons] at h1
        have h4 := h2 0 (by omega)
        simp only [List.getD_cons_zero, Nat.add_zero] at h4
        have h5 : ∀ j, j < m → lowK must (i + 1 + j) ≤ s'.getD j 0 ∧ s'.getD j 0 ≤ demP p (i + 1 + j) := fun j hj => by
          have := h2 (j + 1) (by omega)
          rw [show i + (j + 1) = i + 1 + j from by omega] at this
          simpa using this
        rw [restE] at h3
        have h6 := restE_le h (s := s') (i := i + 1) (left := left - k * szP p i) (by omega) (fun j hj => by have := h5 j (by omega); have := lowK_bd must (i + 1 + j); omega)
        exact ⟨k, ⟨h4.1, h4.2, by omega⟩, s', (mem_ext h (by omega) (by omega)).2 ⟨by omega, h5, h3⟩, rfl⟩
/-- a is ahead of b -/
def Desc (a b : List Int) : Prop := ∃ k, k < a.length ∧ k < b.length ∧ (∀ j, j < k → a.getD j 0 = b.getD j 0) ∧ b.getD k 0 < a.getD k 0
theorem downs_lt {lo : Int} : ∀ {m : Nat} {hi k : Int}, k ∈ downs lo m hi → k ≤ hi
  | 0, hi, k, h => by simp [downs] at h
  | m + 1, hi, k, h => by
    unfold downs at h
    by_cases h1 : lo ≤ hi
    · rw [if_pos h1, List.mem_cons] at h
      rcases h with rfl | h
      · exact Int.le_refl _
      · have := downs_lt h; omega
    · rw [if_neg h1] at h; simp at h
theorem downs_pw {lo : Int} : ∀ {m : Nat} {hi : Int}, (downs lo m hi).Pairwise (fun a b => b < a)
  | 0, hi => by simp [downs]
  | m + 1, hi => by
    unfold downs
    by_cases h1 : lo ≤ hi
    · rw [if_pos h1, List.pairwise_cons]
      exact ⟨fun k hk => by have := downs_lt hk; omega, downs_pw⟩
    · rw [if_neg h1]; simp
theorem ext_pw {p : R23} {must : Int} : ∀ {m i : Nat} {left : Int}, (ext p must m i left).Pairwise Desc
  | 0, i, left => by simp [ext]
  | m + 1, i, left => by
    rw [ext, List.pairwise_flatMap]
    refine ⟨fun k _ => ?_, downs_pw.imp fun {k k'} hlt a ha b hb => ?_⟩
    · rw [List.pairwise_map]
      refine ext_pw.imp ?_
      rintro a b ⟨j, h1, h2, h3, h4⟩
      refine ⟨j + 1, by simp; omega, by simp; omega, fun q hq => ?_, by simpa using h4⟩
      cases q with
      | zero => rfl
      | succ q => simpa using h3 q (by omega)
    · rw [List.mem_map] at ha hb
      obtain ⟨a', _, rfl⟩ := ha
      obtain ⟨b', _, rfl⟩ := hb
      exact ⟨0, by simp, by simp, fun q hq => absurd hq (Nat.not_lt_zero _), by simpa using hlt⟩
theorem maxL_pw {p : R23} {must : Int} : (maxL p must).Pairwise Desc := (ext_pw.filter _).filter _
/-- no further piece of any length fits -/
def Full (p : R23) (a : List Int) : Prop := ∀ j, j < p.Lengths.length → a.getD j 0 < demP p j → capP p - useP p a a.length < szP p j
theorem mem_maxL {p : R23} (h : Vp p) {must : Int} {a : List Int} : a ∈ maxL p must ↔ Prop_ p a ∧ (∀ j, j < p.Lengths.length → lowK must j ≤ a.getD j 0) ∧ Full p a ∧ posL a = true := by
  have hc := h.cap
  unfold maxL
  rw [List.mem_filter, List.mem_filter, mem_ext h (by omega) (by omega)]
  unfold okE
  rw [decide_eq_true_eq, needE_iff, restE_use]
  simp only [Nat.zero_add]
  constructor
  · rintro ⟨⟨⟨h1, h2, h3⟩, h4, h5⟩, h6⟩
    refine ⟨⟨vP_iff.2 h, ⟨h1, fun i hi => ?_, by omega⟩, fun i hi => (h2 i (by omega)).2⟩, fun j hj => (h2 j hj).1, fun j hj => h5 j (by omega), h6⟩
    have := h2 i (by omega)
    have := lowK_bd must i
    omega
  · rintro ⟨⟨_, ⟨h1, h2, h3⟩, h4⟩, h5, h6, h7⟩
    have := useP_nonneg h h1 h2
    exact ⟨⟨⟨h1, fun j hj => ⟨h5 j hj, h4 j (by omega)⟩, by omega⟩, by omega, fun j hj => h6 j (by omega)⟩, h7⟩

/-! patterns that hold others -/
def Holds (a b : List Int) : Prop := ∀ i, i < b.length → b.getD i 0 ≤ a.getD i 0
theorem useP_le {p : R23} (h : Vp p) {a b : List Int} (hl : b.length = p.Lengths.length) (hab : Holds a b) : ∀ m, m ≤ b.length → useP p b m ≤ useP p a m := fun m hm => sumN_le fun i hi => by
  have := h.sz (show i < p.Lengths.length by omega)
  have := h.k1
  exact Int.mul_le_mul_of_nonneg_right (hab i (by omega)) (by omega)
theorem sumN_jump {g g' : Nat → Int} {j : Nat} {d : Int} : ∀ {k : Nat}, (∀ i, i < k → g i ≤ g' i) → j < k → g j + d ≤ g' j → sumN g k + d ≤ sumN g' k
  | 0, _, h, _ => absurd h (Nat.not_lt_zero _)
  | k + 1, h, hj, hd => by
    rw [sumN, sumN]
    rcases Nat.lt_or_ge j k with h1 | h1
    · have := sumN_jump (fun i hi => h i (by omega)) h1 hd
      have := h k (by omega)
      omega
    · have : j = k := by omega
      subst this
      have := sumN_le (k := j) (g := g) (g' := g') fun i hi => h i (by omega)
      omega
/-- none of two different maximal patterns holds the other -/
theorem not_holds {p : R23} (h : Vp p) {a b : List Int} (ha : Prop_ p a) (hb : Prop_ p b) (hf : Full p b) (hab : Holds a b) : ∀ j, j < p.Lengths.length → a.getD j 0 = b.getD j 0 := by
  intro j hj
  obtain ⟨_, ⟨a1, a2, a3⟩, a4⟩ := ha
  obtain ⟨_, ⟨b1, b2, b3⟩, b4⟩ := hb
  apply Classical.byContradiction
  intro hne
  have h1 := hab j (by omega)
  have h2 := hf j hj (by have := a4 j (by omega); unfold demP; omega)
  have hz := h.sz hj
  have hk := h.k1
  have h3 : useP p b b.length + szP p j ≤ useP p a b.length := by
    refine sumN_jump (j := j) (fun i hi => ?_) (by omega) ?_
    · have := h.sz (show i < p.Lengths.length by omega)
      exact Int.mul_le_mul_of_nonneg_right (hab i (by omega)) (by omega)
    · have : (b.getD j 0 + 1) * szP p j ≤ a.getD j 0 * szP p j := Int.mul_le_mul_of_nonneg_right (by omega) (by omega)
      rw [Int.add_mul, Int.one_mul] at this
      exact this
  rw [a1, ← b1] at a3
  omega
theorem desc_ne {a b : List Int} (h : Desc a b) : ∃ j, j < a.length ∧ j < b.length ∧ a.getD j 0 ≠ b.getD j 0 := by
  obtain ⟨k, h1, h2, _, h4⟩ := h
  exact ⟨k, h1, h2, by omega⟩
/-- every proper pattern is held by a full one -/
theorem grow {p : R23} (h : Vp p) : ∀ (m : Nat) (b : List Int), (capP p - useP p b b.length).toNat < m → Prop_ p b → ∃ a, Prop_ p a ∧ Full p a ∧ Holds a b
  | 0, b, hm, _ => absurd hm (Nat.not_lt_zero _)
  | m + 1, b, hm, hb => by
    by_cases hf : Full p b
    · exact ⟨b, hb, hf, fun i _ => Int.le_refl _⟩
    · unfold Full at hf
      simp only [Classical.not_forall] at hf
      obtain ⟨j, hj, hd, hs⟩ := hf
      obtain ⟨hv, ⟨b1, b2, b3⟩, b4⟩ := hb
      have hz := h.sz hj
      have hk := h.k1
      have hget : ∀ i, (b.set j (b.getD j 0 + 1)).getD i 0 = if i = j then b.getD j 0 + 1 else b.getD i 0 := fun i => by
        simp only [List.getD_eq_getElem?_getD, List.getElem?_set]
        by_cases e : j = i
        · subst e; rw [if_pos rfl, if_pos rfl, if_pos (by omega)]; rfl
        · rw [if_neg e, if_neg (fun e2 => e e2.symm)]
      have hu : useP p (b.set j (b.getD j 0 + 1)) (b.set j (b.getD j 0 + 1)).length = useP p b b.length + szP p j := by
        rw [List.length_set]
        have hle : useP p b b.length + szP p j ≤ useP p (b.set j (b.getD j 0 + 1)) b.length := by
          refine sumN_jump (j := j) (fun i hi => ?_) (by omega) ?_
          · rw [hget]
            by_cases e : i = j
            · subst e; rw [if_pos rfl, Int.add_mul]; omega
            · rw [if_neg e]; exact Int.le_refl _
          · rw [hget, if_pos rfl, Int.add_mul, Int.one_mul]; exact Int.le_refl _
        have hge : useP p (b.set j (b.getD j 0 + 1)) b.length + -szP p j ≤ useP p b b.length := by
          have h8 : sumN (fun i => (b.set j (b.getD j 0 + 1)).getD i 0 * szP p i) b.length + -szP p j ≤ sumN (fun i => b.getD i 0 * szP p i) b.length := by
            have key : ∀ k, k ≤ b.length → sumN (fun i => (b.set j (b.getD j 0 + 1)).getD i 0 * szP p i) k ≤ sumN (fun i => b.getD i 0 * szP p i) k + if j < k then szP p j else 0 := by
              intro k
              induction k with
              | zero => intro _; simp [sumN]
              | succ k ih =>
                intro hk2
                have := ih (by omega)
                simp only [sumN, hget]
                simp only [hget] at this
                by_cases e : k = j
                · subst e
                  rw [if_pos rfl, if_pos (by omega), Int.add_mul, Int.one_mul]
                  rw [if_neg (by omega)] at this
                  omega
                · rw [if_neg e]
                  by_cases e2 : j < k
                  · rw [if_pos (by omega)]; rw [if_pos e2] at this; omega
                  · rw [if_neg (by omega)]; rw [if_neg e2] at this; omega
            have := key b.length (Nat.le_refl _)
            rw [if_pos (by omega)] at this
            omega
          exact h8
        omega
      obtain ⟨a, ha1, ha2, ha3⟩ := grow h m (b.set j (b.getD j 0 + 1)) (by rw [hu]; omega) ⟨hv, ⟨by rw [List.length_set]; exact b1, fun i hi => by
        rw [hget]; rw [List.length_set] at hi
        have := b2 i hi
        have := b2 j (by omega)
        split <;> omega, by rw [hu]; omega⟩, fun i hi => by
        rw [hget]; rw [List.length_set] at hi
        have := b4 i hi
        unfold demP at hd
        split
        · rename_i e; subst e; omega
        · exact this⟩
      refine ⟨a, ha1, ha2, fun i hi => ?_⟩
      have := ha3 i (by rw [List.length_set]; exact hi)
      rw [hget] at this
      split at this
      · rename_i e; subst e; omega
      · exact this
theorem posL_iff {a : List Int} : posL a = true ↔ ∃ i, i < a.length ∧ 0 < a.getD i 0 := by
  unfold posL
  rw [List.any_eq_true]
  constructor
  · rintro ⟨x, hx, h⟩
    obtain ⟨i, hi, rfl⟩ := List.getElem_of_mem hx
    exact ⟨i, hi, by rw [← getD_at hi]; simpa using h⟩
  · rintro ⟨i, hi, h⟩
    refine ⟨a[i], List.getElem_mem hi, ?_⟩
    rw [getD_at hi]
    simpa using h
theorem covered {p : R23} (h : Vp p) {b : List Int} (hb : Prop_ p b) (hp : ∃ i, i < b.length ∧ 0 < b.getD i 0) : ∃ a, a ∈ maxL p (-1) ∧ Holds a b := by
  obtain ⟨a, h1, h2, h3⟩ := grow h _ b (Nat.lt_succ_self _) hb
  obtain ⟨i, hi, h4⟩ := hp
  have hal := h1.2.1.1
  have hbl := hb.2.1.1
  refine ⟨a, (mem_maxL h).2 ⟨h1, fun j hj => ?_, h2, posL_iff.2 ⟨i, by omega, by have := h3 i hi; omega⟩⟩, h3⟩
  unfold lowK
  rw [if_neg (by omega)]
  exact h1.2.1.2.1 j (by omega)
end Go.AB

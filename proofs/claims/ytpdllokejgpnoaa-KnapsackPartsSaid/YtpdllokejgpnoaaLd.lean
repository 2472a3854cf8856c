import Derived.Test.YtpdllokejgpnoaaLc
set_option linter.unusedVariables false
namespace Go.AB
open Go

def badB (x : R27) : Bool := ((((((decide (x.Size < (1 : Int))) || (decide ((4000 : Int) < x.Size))) || (decide (x.Value < (0 : Int)))) || (decide ((1073741824 : Int) < x.Value))) || (decide (x.Most < (0 : Int)))) || (decide ((1000 : Int) < x.Most)))
theorem badB_ok {x : R27} : badB x = false ↔ okI x := by
  unfold badB okI
  simp only [Bool.or_eq_false_iff, decide_eq_false_iff_not]
  omega
def sizeB (l : List R27) (c : Int) : Bool := (((decide ((l.length : Int) ≤ (20 : Int))) && (decide ((0 : Int) ≤ c))) && (decide (c ≤ (4000 : Int))))
/-- valid items and a capacity -/
def vldB (l : List R27) (c : Int) : Bool := sizeB l c && !(l.any badB)
theorem vldB_ok {l : List R27} {c : Int} (h : vldB l c = true) : okL l ∧ l.length ≤ 20 ∧ ∃ cap : Nat, c = (cap : Int) ∧ cap ≤ 4000 := by
  unfold vldB sizeB at h
  simp only [Bool.and_eq_true, decide_eq_true_eq, Bool.not_eq_true', List.any_eq_false] at h
  obtain ⟨⟨⟨h1, h2⟩, h3⟩, h4⟩ := h
  refine ⟨fun x hx => badB_ok.1 (by simpa using h4 x hx), by omega, c.toNat, by omega, by omega⟩
theorem vldB_mk {l : List R27} {cap : Nat} (h : okL l) (hl : l.length ≤ 20) (hc : cap ≤ 4000) : vldB l (cap : Int) = true := by
  unfold vldB sizeB
  simp only [Bool.and_eq_true, decide_eq_true_eq, Bool.not_eq_true', List.any_eq_false]
  exact ⟨⟨⟨by omega, by omega⟩, by omega⟩, fun x hx => by rw [badB_ok.2 (h x hx)]; simp⟩

theorem drop_any {l : List R27} {i : Nat} (h : i < l.length) : (l.drop i).any badB = (badB l[i] || (l.drop (i + 1)).any badB) := by
  rw [List.drop_eq_getElem_cons h, List.any_cons]

theorem m13_val {n : Nat} {l : List R27} {c : Int} (hl : l.length ≤ 1000) (hn : 1000 < n) : m13 n l c = some (vldB l c) := by
  unfold m13 jn
  refine loopM_ind (body := m13_L1 n l fun _ => some (sizeB l c)) (fun q x => ∃ i : Nat, x = (i : Int) ∧ q = l.length - i ∧ i ≤ l.length ∧ vldB l c = (sizeB l c && !((l.drop i).any badB)))
    (fun o => o = some (vldB l c)) (fun q x => ?_) n l.length 0 ⟨0, rfl, rfl, Nat.zero_le _, rfl⟩ (by omega)
  rintro ⟨i, rfl, rfl, hi, hv⟩
  by_cases hlt : i < l.length
  · have hcond : (decide ((i : Int) < (l.length : Int))) = true := by simpa using hlt
    rw [drop_any hlt] at hv
    by_cases hb : badB l[i] = true
    · right
      refine ⟨_, ?_, fun nx => by
        unfold m13_L1
        rw [if_pos hcond, getIdx_at (k := i) rfl hlt]
        simp only [Option.bind_some, letM_eq]
        unfold badB at hb
        rw [if_pos hb]⟩
      rw [hv, hb]
      simp
    · left
      have hb' : badB l[i] = false := by simpa using hb
      rw [hb', Bool.false_or] at hv
      refine ⟨l.length - (i + 1), ((i + 1 : Nat) : Int), by omega, ⟨i + 1, rfl, rfl, by omega, hv⟩, fun nx => ?_⟩
      unfold m13_L1
      rw [if_pos hcond, getIdx_at (k := i) rfl hlt]
      simp only [Option.bind_some, letM_eq]
      unfold badB at hb
      rw [if_neg hb, wrap64 (by omega) (by omega)]
      rfl
  · right
    refine ⟨_, ?_, fun nx => by
      have hcond : ¬ (decide ((i : Int) < (l.length : Int))) = true := by simpa using hlt
      unfold m13_L1
      rw [if_neg hcond]⟩
    have : i = l.length := by omega
    subst this
    rw [hv, List.drop_length]
    simp

theorem m38_val {n : Nat} {l : List R27} (hl : l.length ≤ 1000) (hn : 1000 < n) : ∃ z, m38 n l = some z ∧ (decide ((0 : Int) ≤ z)) = l.any badB := by
  unfold m38 jn
  refine loopM_ind (body := m38_L1 n l fun _ => some (-1)) (fun q x => ∃ i : Nat, x = (i : Int) ∧ q = l.length - i ∧ i ≤ l.length ∧ l.any badB = (l.drop i).any badB)
    (fun o => ∃ z, o = some z ∧ (decide ((0 : Int) ≤ z)) = l.any badB) (fun q x => ?_) n l.length 0 ⟨0, rfl, rfl, Nat.zero_le _, rfl⟩ (by omega)
  rintro ⟨i, rfl, rfl, hi, hv⟩
  by_cases hlt : i < l.length
  · have hcond : (decide ((i : Int) < (l.length : Int))) = true := by simpa using hlt
    rw [drop_any hlt] at hv
    have h29 : m29 n (R27.mk l[i].Size l[i].Value l[i].Most) = some (badB l[i]) := rfl
    by_cases hb : badB l[i] = true
    · right
      refine ⟨some (i : Int), ⟨i, rfl, ?_⟩, fun nx => by
        unfold m38_L1
        rw [if_pos hcond, getIdx_at (k := i) rfl hlt]
        simp only [Option.bind_some]
        rw [h29]
        simp only [Option.bind_some]
        rw [if_pos hb]⟩
      rw [hv, hb]
      simp
    · left
      have hb' : badB l[i] = false := by simpa using hb
      rw [hb', Bool.false_or] at hv
      refine ⟨l.length - (i + 1), ((i + 1 : Nat) : Int), by omega, ⟨i + 1, rfl, rfl, by omega, hv⟩, fun nx => ?_⟩
      unfold m38_L1
      rw [if_pos hcond, getIdx_at (k := i) rfl hlt]
      simp only [Option.bind_some, letM_eq]
      rw [h29]
      simp only [Option.bind_some]
      rw [if_neg hb, wrap64 (by omega) (by omega)]
      rfl
  · right
    refine ⟨some (-1), ⟨-1, rfl, ?_⟩, fun nx => by
      have hcond : ¬ (decide ((i : Int) < (l.length : Int))) = true := by simpa using hlt
      unfold m38_L1
      rw [if_neg hcond]⟩
    have : i = l.length := by omega
    subst this
    rw [hv, List.drop_length]
    simp

theorem m15_val {n : Nat} {l : List R27} {c : Int} (hl : l.length ≤ 1000) (hn : 1000 < n) : m15 n l c = some (vldB l c) := by
  obtain ⟨z, hz, hd⟩ := m38_val (n := n) hl hn
  unfold m15
  have h30 : m30 n l = some (l.any badB) := by
    unfold m30
    rw [hz]
    simp only [Option.bind_some]
    rw [hd]
  rw [h30]
  show ((gdO (sizeB l c) (some (l.any badB)) default).bind fun y => some (sizeB l c && !y)) = some (vldB l c)
  unfold vldB
  cases sizeB l c with
  | true => simp [gdO]
  | false => simp [gdO]

theorem m14_val {n : Nat} {l : List R27} (hl : l.length ≤ 1000) (hn : 1000 < n) : m14 n l = some l := by
  unfold m14 jn
  refine loopM_ind (body := m14_L1 n l fun p => some p) (fun q x => ∃ i : Nat, x.1 = (i : Int) ∧ q = l.length - i ∧ i ≤ l.length ∧ x.2 = l.take i)
    (fun o => o = some l) (fun q x => ?_) n l.length (0, []) ⟨0, rfl, rfl, Nat.zero_le _, by simp⟩ (by omega)
  rintro ⟨i, h1, rfl, hi, h2⟩
  obtain ⟨x1, x2⟩ := x
  simp only at h1 h2
  subst h1 h2
  by_cases hlt : i < l.length
  · left
    have hcond : (decide ((i : Int) < (l.length : Int))) = true := by simpa using hlt
    refine ⟨l.length - (i + 1), (((i + 1 : Nat) : Int), l.take (i + 1)), by omega, ⟨i + 1, rfl, rfl, by omega, rfl⟩, fun nx => ?_⟩
    unfold m14_L1
    simp only []
    rw [if_pos hcond, getIdx_at (k := i) rfl hlt]
    simp only [Option.bind_some]
    rw [apd_val (by simp; omega)]
    simp only [Option.bind_some, letM_eq]
    rw [wrap64 (by omega) (by omega), List.take_succ_eq_append_getElem hlt]
    rfl
  · right
    refine ⟨_, ?_, fun nx => by
      have hcond : ¬ (decide ((i : Int) < (l.length : Int))) = true := by simpa using hlt
      unfold m14_L1
      rw [if_neg hcond]⟩
    rw [List.take_of_length_le (by omega)]

theorem m17_val {n : Nat} {a b : List Int} (ha : a.length ≤ 4500) (hn : 4501 < n) : m17 n a b = some (a == b) := by
  unfold m17 jn
  by_cases hl : a.length = b.length
  · rw [if_neg (by simp [hl])]
    refine loopM_ind (body := m17_L1 n a b fun _ => some true) (fun q x => ∃ i : Nat, x = (i : Int) ∧ q = a.length - i ∧ i ≤ a.length ∧ a.take i = b.take i)
      (fun o => o = some (a == b)) (fun q x => ?_) n a.length 0 ⟨0, rfl, rfl, Nat.zero_le _, by simp⟩ (by omega)
    rintro ⟨i, rfl, rfl, hi, ht⟩
    by_cases hlt : i < a.length
    · have hcond : (decide ((i : Int) < (a.length : Int))) = true := by simpa using hlt
      by_cases he : a[i] = b[i]
      · left
        refine ⟨a.length - (i + 1), ((i + 1 : Nat) : Int), by omega, ⟨i + 1, rfl, rfl, by omega, ?_⟩, fun nx => ?_⟩
        · rw [List.take_succ_eq_append_getElem hlt, List.take_succ_eq_append_getElem (by omega), ht, he]
        · unfold m17_L1
          rw [if_pos hcond, getIdx_at (k := i) rfl hlt]
          simp only [Option.bind_some]
          rw [getIdx_at (k := i) rfl (by omega)]
          simp only [Option.bind_some, letM_eq]
          rw [if_neg (by simp [he]), wrap64 (by omega) (by omega)]
          rfl
      · right
        refine ⟨some false, ?_, fun nx => by
          unfold m17_L1
          rw [if_pos hcond, getIdx_at (k := i) rfl hlt]
          simp only [Option.bind_some]
          rw [getIdx_at (k := i) rfl (by omega)]
          simp only [Option.bind_some]
          rw [if_pos (by simp [he])]⟩
        have : a ≠ b := by
          intro h
          subst h
          exact he rfl
        simp [this]
    · right
      refine ⟨some true, ?_, fun nx => by
        have hcond : ¬ (decide ((i : Int) < (a.length : Int))) = true := by simpa using hlt
        unfold m17_L1
        rw [if_neg hcond]⟩
      rw [List.take_of_length_le (by omega), List.take_of_length_le (by omega)] at ht
      simp [ht]
  · rw [if_pos (by simp; omega)]
    have : a ≠ b := fun h => hl (by rw [h])
    simp [this]

/-- the greatest number with a value, 0 if there is none -/
def lastEq (g : Nat → Int) (v : Int) : Nat → Nat
  | 0 => 0
  | k + 1 => if g (k + 1) = v then k + 1 else lastEq g v k
theorem lastEq_le (g : Nat → Int) (v : Int) : ∀ k, lastEq g v k ≤ k
  | 0 => Nat.le_refl _
  | k + 1 => by
    rw [lastEq]
    split
    · exact Nat.le_refl _
    · have := lastEq_le g v k; omega
theorem lastEq_eq {g : Nat → Int} {v : Int} : ∀ {k i : Nat}, i ≤ k → g i = v → g (lastEq g v k) = v
  | 0, i, h, e => by
    have : i = 0 := by omega
    subst this; exact e
  | k + 1, i, h, e => by
    rw [lastEq]
    split
    · assumption
    · rename_i hne
      by_cases hi : i = k + 1
      · subst hi; exact absurd e hne
      · exact lastEq_eq (by omega) e
theorem lastEq_gt {g : Nat → Int} {v : Int} : ∀ {k j : Nat}, j ≤ k → lastEq g v k < j → g j ≠ v
  | 0, j, h, hl => by omega
  | k + 1, j, h, hl => by
    rw [lastEq] at hl
    split at hl
    · omega
    · rename_i hne
      by_cases hj : j = k + 1
      · subst hj; exact hne
      · exact lastEq_gt (by omega) hl

/-- the number of an item in the best solution -/
def ch (x : R27) (f : Nat → Int) (c : Nat) : Nat := lastEq (gx x f c) (W x f c) (min x.Most.toNat (c / x.Size.toNat))
def sol : List R27 → Nat → List Nat
  | [], _ => []
  | x :: l, c => ch x (T l) c :: sol l (c - ch x (T l) c * x.Size.toNat)
theorem ch_le {x : R27} {f : Nat → Int} {c : Nat} : ch x f c ≤ min x.Most.toNat (c / x.Size.toNat) := lastEq_le _ _ _
theorem ch_eq {x : R27} {f : Nat → Int} {c : Nat} : gx x f c (ch x f c) = W x f c := by
  obtain ⟨i, hi, e⟩ := mx_ex (g := gx x f c) (min x.Most.toNat (c / x.Size.toNat))
  exact lastEq_eq hi e.symm
theorem ch_mul {x : R27} {f : Nat → Int} {c : Nat} (hx : okI x) : ch x f c * x.Size.toNat ≤ c := by
  obtain ⟨s1, _⟩ := hx
  have := ch_le (x := x) (f := f) (c := c)
  have h2 : ch x f c ≤ c / x.Size.toNat := by omega
  rwa [Nat.le_div_iff_mul_le (by omega)] at h2
theorem sol_len : ∀ (l : List R27) (c : Nat), (sol l c).length = l.length
  | [], _ => rfl
  | x :: l, c => by simp [sol, sol_len l]
/-- the capacity that is left at an item -/
def lft : List R27 → Nat → Nat → Nat
  | _, c, 0 => c
  | [], c, _ + 1 => c
  | x :: l, c, i + 1 => lft l (c - ch x (T l) c * x.Size.toNat) i
theorem sol_at : ∀ {l : List R27} {c i : Nat} (h : i < l.length), (sol l c)[i]? = some (ch l[i] (T (l.drop (i + 1))) (lft l c i)) ∧ lft l c (i + 1) = lft l c i - ch l[i] (T (l.drop (i + 1))) (lft l c i) * l[i].Size.toNat
  | [], _, _, h => absurd h (Nat.not_lt_zero _)
  | x :: l, c, 0, h => ⟨rfl, by cases l <;> rfl⟩
  | x :: l, c, i + 1, h => by
    have := sol_at (l := l) (c := c - ch x (T l) c * x.Size.toNat) (i := i) (by simpa using h)
    exact ⟨by simpa [sol, lft] using this.1, by simpa [lft] using this.2⟩
theorem lft_le : ∀ (l : List R27) (c i : Nat), lft l c i ≤ c
  | _, c, 0 => by simp [lft]
  | [], c, _ + 1 => by simp [lft]
  | x :: l, c, i + 1 => by
    rw [lft]
    exact Nat.le_trans (lft_le l _ i) (Nat.sub_le _ _)
end Go.AB

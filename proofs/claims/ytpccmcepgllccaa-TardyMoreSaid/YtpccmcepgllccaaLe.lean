import Derived.Test.YtpccmcepgllccaaLd
set_option linter.unusedVariables false
namespace Go.AB
open Go

theorem Jn_app {l : List R38} {x : R38} {i : Nat} (h : i < l.length) : Jn (l ++ [x]) i = Jn l i := by
  unfold Jn
  rw [List.getD_eq_getElem?_getD, List.getD_eq_getElem?_getD, List.getElem?_append_left h]
theorem span_app {l : List R38} {x : R38} (hx : 0 ≤ x.Length) {i k : Nat} (hi : i < l.length) (hk : k < l.length) : spanSum l i k ≤ spanSum (l ++ [x]) i k := by
  unfold spanSum
  rw [List.length_append, List.length_singleton, sumN]
  have : sumN (fun j => if within (l ++ [x]) i k j = true then (Jn (l ++ [x]) j).Length else 0) l.length = sumN (fun j => if within l i k j = true then (Jn l j).Length else 0) l.length :=
    sumN_congr fun j hj => by
      unfold within
      rw [Jn_app hi, Jn_app hk, Jn_app hj]
  rw [this]
  have e : Jn (l ++ [x]) l.length = x := by simp [Jn]
  rw [e]
  split <;> omega
theorem tdiv_mono {a b m : Int} (h0 : 0 ≤ a) (h : a ≤ b) (h1 : 1 ≤ m) : (a + m - 1).tdiv m ≤ (b + m - 1).tdiv m := by
  rw [Int.tdiv_eq_ediv_of_nonneg (by omega), Int.tdiv_eq_ediv_of_nonneg (by omega)]
  exact Int.ediv_le_ediv (by omega) (by omega)
theorem vld_pos {l : List R38} (h : vld l = true) : ∀ y, y ∈ l → 1 ≤ y.Length := by
  unfold vld at h
  simp only [Bool.and_eq_true, decide_eq_true_eq] at h
  intro y hy
  have := okJ_iff.1 (List.all_eq_true.1 h.2 y hy)
  omega
theorem par_more {l : List R38} {x : R38} {m : Int} (hb : bd l) (hp : ∀ y, y ∈ l → 1 ≤ y.Length) (h0 : 0 < l.length) (hb' : bd (l ++ [x])) (hp' : ∀ y, y ∈ l ++ [x] → 1 ≤ y.Length) (hm : 1 ≤ m) : par l m ≤ par (l ++ [x]) m := by
  obtain ⟨⟨i, k, hi, hk, hs, e⟩, _⟩ := par_is hb hp h0 m
  have hx := hp' x (by simp)
  have h1 := span_app (x := x) (by omega) hi hk
  have h2 := (par_is hb' hp' (by simp) m).2 i k (by simp; omega) (by simp; omega) (by omega)
  refine Int.le_trans ?_ h2
  rw [e]
  unfold spanBd
  rw [Jn_app hi, Jn_app hk]
  have := tdiv_mono (by omega) h1 hm
  omega
theorem m4_gen {n : Nat} {l : List R38} {x : R38} (h10 : m10 n = some true) (hn : 1000 < n) : m4 n l x = some true := by
  unfold m4
  rw [h10, Option.bind_some]
  by_cases h1 : l.length ≤ 9 ∧ 0 < l.length
  · rw [decide_eq_false (show ¬ (9 : Int) < (l.length : Int) from by omega), decide_eq_false (show ¬ (l.length : Int) = 0 from by omega), show (!((!true || false) || false)) = true from rfl, gdO_true, m14_val (by omega) (by omega), Option.bind_some]
    by_cases h2 : vld l = true
    · rw [h2, show (!(((!true || false) || false) || !true)) = true from rfl, gdO_true, m14_val (by simp) (by simp; omega), Option.bind_some]
      by_cases h3 : vld [x] = true
      · have e3 : vld [R38.mk x.Release x.Length x.Due] = true := h3
        have hv : vld (l ++ [x]) = true := by
          unfold vld at h2 h3 ⊢
          simp only [Bool.and_eq_true, decide_eq_true_eq] at h2 h3 ⊢
          refine ⟨by simp; omega, ?_⟩
          rw [List.all_append, h2.2, h3.2]; rfl
        rw [e3, if_neg (by simp), m13o_val (by omega) (by omega), Option.bind_some, apd_val (by simp; omega), Option.bind_some, m13_val (by omega) (by omega), Option.bind_some]
        have q1 := par_more (m := 1) (bd_vld h2).1 (vld_pos h2) h1.2 (bd_vld hv).1 (vld_pos hv) (by omega)
        have q2 := par_more (m := 2) (bd_vld h2).1 (vld_pos h2) h1.2 (bd_vld hv).1 (vld_pos hv) (by omega)
        have e20 : ∀ l', vld l' = true → m20 n l' = some (par l' 1, 0) := fun l' h => by
          have := (bd_vld h).2
          unfold m20
          rw [m28_val (by omega), Option.bind_some, h, if_neg (by simp), m43_val (bd_vld h).1 (by omega) (by omega) (by omega)]
          rfl
        have e21 : ∀ l', vld l' = true → m21 n l' 2 = some (par l' 2, 0) := fun l' h => by
          have := (bd_vld h).2
          unfold m21
          rw [m28_val (by omega), Option.bind_some, h, if_neg (by simp), if_neg (by simp), m43_val (bd_vld h).1 (by omega) (by omega) (by omega)]
          rfl
        rw [show l ++ [R38.mk x.Release x.Length x.Due] = l ++ [x] from rfl]
        rw [e20 l h2, Option.bind_some, e20 _ hv, Option.bind_some, Option.bind_some, e21 l h2, Option.bind_some, e21 _ hv, Option.bind_some, letM_eq, decide_eq_true q1, decide_eq_true q2]
        rfl
      · have e3 : vld [R38.mk x.Release x.Length x.Due] = false := (Bool.not_eq_true _).mp h3
        rw [e3]
        exact (if_pos rfl).trans rfl
    · rw [(Bool.not_eq_true _).mp h2]
      rfl
  · have : (decide ((9 : Int) < (l.length : Int)) || decide ((l.length : Int) = 0)) = true := by
      simp only [Bool.or_eq_true, decide_eq_true_eq]
      omega
    rw [show ((!true || decide ((9 : Int) < (l.length : Int))) || decide ((l.length : Int) = 0)) = true from by simpa using this]
    rfl
theorem m4_true (l : List R38) (x : R38) : m4 2000 l x = some true := m4_gen m10_at (by decide)
end Go.AB

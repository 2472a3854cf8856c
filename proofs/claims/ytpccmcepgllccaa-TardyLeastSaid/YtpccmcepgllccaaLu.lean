import Derived.Test.YtpccmcepgllccaaLt
import Derived.Test.YtpccmcepgllccaaLg
set_option linter.unusedVariables false
namespace Go.AB
open Go

/-! the greatest lateness -/
theorem val_most {l : List R38} {o : List Int} : val l o true = match o.length with | 0 => 0 | k + 1 => mx (lat l o) k := by
  unfold val
  rw [foldN_congr (g := fun i n => if i = 0 ∨ n < lat l o i then lat l o i else n) fun i hi s => by rw [if_pos rfl]]
  cases o.length with
  | zero => rfl
  | succ k => exact foldN_mx k
theorem lat_le_val {l : List R38} {o : List Int} {m : Nat} (hm : m < o.length) : lat l o m ≤ val l o true := by
  rw [val_most]
  obtain ⟨k, hk⟩ : ∃ k, o.length = k + 1 := ⟨o.length - 1, by omega⟩
  rw [hk]
  exact le_mx (by omega)
/-- jobs of a span, one behind the other -/
theorem span_late {l : List R38} {o : List Int} (hp : ∀ y, y ∈ l → 1 ≤ y.Length) (h : comp l o) {i k : Nat} : ∀ m, m ≤ o.length →
    sumN (fun q => if within l i k (o.getD q 0).toNat = true then (Jn l (o.getD q 0).toNat).Length else 0) m = 0 ∨
      ∃ q, q < m ∧ within l i k (o.getD q 0).toNat = true ∧ (Jn l i).Release + sumN (fun q => if within l i k (o.getD q 0).toNat = true then (Jn l (o.getD q 0).toNat).Length else 0) m ≤ (fin l 0 o).getD q 0 := by
  have hpo : ∀ x, x ∈ o → 0 ≤ (J l x).Length := fun x hx => by
    have h1 := (ord_iff.1 h.1).2 x hx
    have := hp _ (J_mem h1.1 h1.2)
    omega
  intro m
  induction m with
  | zero => exact fun _ => .inl rfl
  | succ m ih =>
    intro hm
    have hmo : m < o.length := by omega
    have hx := (ord_iff.1 h.1).2 _ (getD_mem hmo)
    obtain ⟨x, hxe⟩ : ∃ x : Nat, o.getD m 0 = (x : Int) := ⟨(o.getD m 0).toNat, by omega⟩
    have hfr := fin_rel hpo hmo
    rw [hxe, J_nat] at hfr
    rw [sumN, hxe, Int.toNat_natCast]
    by_cases w : within l i k x = true
    · rw [if_pos w]
      right
      have w1 : (Jn l i).Release ≤ (Jn l x).Release := by
        unfold within at w
        simp only [Bool.and_eq_true, decide_eq_true_eq] at w
        exact w.1
      refine ⟨m, by omega, by rw [hxe, Int.toNat_natCast]; exact w, ?_⟩
      rcases ih (by omega) with h0 | ⟨q, hq, hw, hle⟩
      · rw [h0]; omega
      · have := fin_asc l o 0 q m hpo hq hmo
        rw [hxe, J_nat] at this
        omega
    · rw [if_neg w, Int.add_zero]
      rcases ih (by omega) with h0 | ⟨q, hq, hw, hle⟩
      · exact .inl h0
      · exact .inr ⟨q, by omega, hw, hle⟩
theorem par_late {l : List R38} {o : List Int} (hb : bd l) (hp : ∀ y, y ∈ l → 1 ≤ y.Length) (h : comp l o) : par l 1 ≤ val l o true := by
  rcases Nat.eq_zero_or_pos l.length with h0 | h0
  · have e : l = [] := List.eq_nil_of_length_eq_zero h0
    subst e
    have e2 : o = [] := List.eq_nil_of_length_eq_zero h.2
    subst e2
    exact Int.le_refl _
  · obtain ⟨⟨i, k, hi, hk, hs, e⟩, _⟩ := par_is hb hp h0 1
    have e1 : spanSum l i k = sumN (fun q => if within l i k (o.getD q 0).toNat = true then (Jn l (o.getD q 0).toNat).Length else 0) l.length := by
      have := sum_order h (fun x => if within l i k x.toNat = true then (Jn l x.toNat).Length else 0)
      simp only [Int.toNat_natCast] at this
      exact this
    rcases span_late hp h (i := i) (k := k) o.length (Nat.le_refl _) with hz | ⟨q, hq, hw, hle⟩
    · rw [h.2, ← e1] at hz
      omega
    · rw [h.2, ← e1] at hle
      refine Int.le_trans ?_ (lat_le_val hq)
      rw [e]
      unfold spanBd lat
      have hx := (ord_iff.1 h.1).2 _ (getD_mem hq)
      have ex : J l (o.getD q 0) = Jn l (o.getD q 0).toNat := by rw [← J_nat, Int.toNat_of_nonneg hx.1]
      have w2 : (Jn l (o.getD q 0).toNat).Due ≤ (Jn l k).Due := by
        unfold within at hw
        simp only [Bool.and_eq_true, decide_eq_true_eq] at hw
        exact hw.2
      rw [ex, show spanSum l i k + 1 - 1 = spanSum l i k from by omega, Int.tdiv_one]
      omega
theorem ceil_mono {S m : Int} (h0 : 0 ≤ S) (hm : 1 ≤ m) : (S + (m + 1) - 1).tdiv (m + 1) ≤ (S + m - 1).tdiv m := by
  rw [Int.tdiv_eq_ediv_of_nonneg (by omega), Int.tdiv_eq_ediv_of_nonneg (by omega)]
  have hq0 : 0 ≤ (S + m - 1) / m := Int.ediv_nonneg (by omega) (by omega)
  have h1 : S + m - 1 < ((S + m - 1) / m + 1) * m := Int.lt_ediv_add_one_mul_self _ (by omega)
  have h2 : (S + (m + 1) - 1) / (m + 1) < (S + m - 1) / m + 1 := by
    refine Int.ediv_lt_of_lt_mul (by omega) ?_
    rw [Int.mul_add, Int.mul_one]
    rw [Int.add_mul, Int.one_mul] at h1 ⊢
    omega
  omega
theorem par_anti {l : List R38} (hb : bd l) (hp : ∀ y, y ∈ l → 1 ≤ y.Length) {m : Int} (hm : 1 ≤ m) : par l (m + 1) ≤ par l m := by
  rcases Nat.eq_zero_or_pos l.length with h0 | h0
  · have e : l = [] := List.eq_nil_of_length_eq_zero h0
    subst e
    exact Int.le_refl _
  · obtain ⟨⟨i, k, hi, hk, hs, e⟩, _⟩ := par_is hb hp h0 (m + 1)
    have h2 := (par_is hb hp h0 m).2 i k hi hk hs
    have h3 := ceil_mono (m := m) (spanSum_bd hb i k).1 hm
    rw [e]
    unfold spanBd at h2 ⊢
    omega
/-! TardyLeast -/
theorem m7_gen {n : Nat} {l : List R38} {ch : List UInt8} (h10 : m10 n = some true) (hn : 6000 < n) : m7 n l ch = some true := by
  unfold m7
  rw [h10, Option.bind_some, show (!(!true)) = true from rfl, gdO_true, m11, Option.bind_some]
  by_cases h : l.length ≤ 10
  · rw [decide_eq_true (show (l.length : Int) ≤ 10 from by omega), show (!((!true) || (!true))) = true from rfl, gdO_true, m14_val (by omega) (by omega), Option.bind_some]
    by_cases hv : vld l = true
    · have hb := (bd_vld hv).1
      have hp := vld_pos' hv
      rw [hv, if_neg (by simp)]
      obtain ⟨o, eo, hc, _⟩ := m17_val (n := n) (l := l) (done := []) (ch := ch) (by simp [ordB]) (by omega) (by omega) (by simp)
      obtain ⟨out, e29, e50, hr, hol⟩ := (m29_val (n := n) (l := l) (by omega) hn).1 hv
      have hol' := hc.2
      have q1 := par_late hb hp hc
      have q2 : sumB l out ≤ val l o false := sum_least hp (fun y hy => (hb y hy).1) hc hr hol (isrN_facts (dues l)).1 (isrN_facts (dues l)).2
      have q3 : 0 ≤ sumB l out := by
        unfold sumB
        have : ∀ n : Nat, 0 ≤ sumN (fun k => max 0 (out.getD k 0 - (isr ltN [] (dues l)).getD k 0)) n := by
          intro n
          induction n with
          | zero => exact Int.le_refl _
          | succ n ih =>
            rw [sumN]
            have := Int.le_max_left 0 (out.getD n 0 - (isr ltN [] (dues l)).getD n 0)
            omega
        exact this _
      rw [eo, Option.bind_some, m13_val (by omega) (by omega), Option.bind_some, m20_val (by omega), hv, if_pos rfl, Option.bind_some, Option.bind_some, e29, Option.bind_some]
      dsimp only
      rw [decide_eq_true (show (0 : Int) = 0 from rfl), show (!((!true) || (!true))) = true from rfl, gdO_true, m16_val (by omega) (by omega) (by omega) (by omega), if_pos ⟨hv, hc.1⟩, Option.bind_some]
      rw [decide_eq_false (show ¬ val l o true < par l 1 from by omega), show (!(((!true) || (!true)) || false)) = true from rfl, gdO_true, m16_val (by omega) (by omega) (by omega) (by omega), if_pos ⟨hv, hc.1⟩, Option.bind_some]
      rw [decide_eq_false (show ¬ val l o false < sumB l out from by omega), decide_eq_false (show ¬ sumB l out < 0 from by omega), if_neg (by simp)]
      unfold jn
      dsimp only
      refine loopM_ind (fun m x => ∃ (j : Nat) (a : Int), 1 ≤ j ∧ j ≤ 7 ∧ x = (a, (j : Int)) ∧ m = 7 - j ∧ (j ≤ 6 → par l (j : Int) ≤ a)) (fun r => r = some true) ?_ n 6 _ ⟨1, par l 1, by omega, by omega, rfl, rfl, fun _ => Int.le_refl _⟩ (by omega)
      rintro m x ⟨j, a, hj1, hj, rfl, rfl, hle⟩
      rcases Nat.lt_or_ge j 7 with h1 | h1
      · refine .inl ⟨7 - (j + 1), (par l (j : Int), ((j + 1 : Nat) : Int)), by omega, ⟨j + 1, _, by omega, h1, rfl, rfl, fun _ => ?_⟩, fun nx => ?_⟩
        · rw [show ((j + 1 : Nat) : Int) = (j : Int) + 1 from by omega]
          exact par_anti hb hp (by omega)
        · rw [m7_L1, if_pos (by simp; omega), m13_val (by omega) (by omega), Option.bind_some, m21_val (by omega), hv, if_pos rfl, if_neg (by omega), Option.bind_some]
          dsimp only
          have := hle (by omega)
          rw [if_neg (by simp; omega), letM_eq, wrap64 (by omega) (by omega)]
          rfl
      · have : j = 7 := by omega
        subst this
        exact .inr ⟨_, rfl, fun nx => by rw [m7_L1, if_neg (by simp)]⟩
    · rw [(Bool.not_eq_true _).mp hv]
      rfl
  · rw [decide_eq_false (show ¬ (l.length : Int) ≤ 10 from by omega)]
    rfl
theorem m7_true (l : List R38) (ch : List UInt8) : m7 7000 l ch = some true := m7_gen m10_7 (by decide)
end Go.AB

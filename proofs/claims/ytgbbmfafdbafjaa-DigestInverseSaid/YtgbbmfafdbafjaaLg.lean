import Derived.Test.YtgbbmfafdbafjaaLf
set_option linter.unusedVariables false
namespace Go.AB
open Go

theorem open8_seal (b : List UInt8) : open8 (b ++ sum8 b) = (b, 0) := by
  have hl : (b ++ sum8 b).length = b.length + 8 := by rw [List.length_append]; rfl
  unfold open8
  rw [hl, if_neg (by omega), Nat.add_sub_cancel, List.take_left, List.drop_left, if_pos rfl]
theorem seal_open8 {b : List UInt8} (h : (open8 b).2 = 0) : (open8 b).1 ++ sum8 (open8 b).1 = b := by
  unfold open8 at h ⊢
  split at h
  · simp at h
  · rename_i h8
    rw [if_neg h8]
    split at h
    · rename_i he
      rw [if_pos he, he, List.take_append_drop]
    · simp at h

theorem m9_loop (n : Nat) : ∀ (m i : Nat) (l : List UInt8), l.length ≤ 1000 → i ≤ l.length → l.length - i < m → ∀ k : Unit → Option Bool, loopM (m9_L1 n k) m ((i : Int), l) = k ()
  | 0, _, _, _, _, hm, _ => absurd hm (Nat.not_lt_zero _)
  | m + 1, i, l, hl, hi, hm, k => by
    rw [loopM_succ, m9_L1]
    by_cases hlt : i < l.length
    · have hc : (decide ((i : Int) < (l.length : Int))) = true := by simpa using hlt
      simp only [hc, if_true]
      rw [getIdx_at rfl hlt]
      simp only [Option.bind_some]
      rw [setIdx_at rfl hlt]
      simp only [Option.bind_some, letM_eq]
      rw [wrap64 (by omega) (by omega)]
      have := m9_loop n m (i + 1) (l.set i (b8 (IntKind.wrap .u8 ((l[i].toNat : Int) + 1)))) (by rw [List.length_set]; exact hl) (by rw [List.length_set]; omega) (by rw [List.length_set]; omega) k
      exact_mod_cast this
    · have hc : (decide ((i : Int) < (l.length : Int))) = false := by simpa using hlt
      simp only [hc, Bool.false_eq_true, if_false]

theorem m9_true (a0 : List UInt8) {a1 : Int} (h1 : (Lit.int .u64 a1).wf = true) (a2 : List UInt8) : m9 2000 a0 a1 a2 = some true := by
  obtain ⟨v, rfl, hv⟩ := nat_of_u64 h1
  unfold m9
  rw [m10_true, m11_val]
  simp only [Option.bind_some, Bool.not_true, Bool.false_eq_true, if_false]
  by_cases hcond : ((!decide ((a0.length : Int) ≤ 400)) || decide ((400 : Int) < (a2.length : Int))) = true
  · rw [if_pos hcond]
  · rw [if_neg hcond]
    simp only [Bool.or_eq_true, Bool.not_eq_true', decide_eq_false_iff_not, decide_eq_true_eq, not_or, Classical.not_not] at hcond
    obtain ⟨hl, hd⟩ := hcond
    have hlen : (a0 ++ sum8 a0).length = a0.length + 8 := by rw [List.length_append]; rfl
    rw [m19o_m19, m19_val (by omega)]
    simp only [Option.bind_some]
    rw [m16_val (by omega), open8_seal]
    simp only [Option.bind_some, jn]
    rw [show (0 : Int) = ((0 : Nat) : Int) from rfl, m9_loop 2000 2000 0 (a0 ++ sum8 a0) (by omega) (by omega) (by omega)]
    have hm16 := m16_val (b := a0) (by omega)
    have hP : m21 2000 (D16 v) = some ((v : Int), 0) := by rw [m21_val (by rw [D16_len]; decide), if_pos (D16_len v), pl_D16 hv]
    have hP2 := m21_val (b := a2) (by omega)
    have e18 : ∀ a b : List UInt8, m18 2000 a b = some (a == b) := fun _ _ => rfl
    simp only [gdO, decide_true, Bool.not_true, Bool.not_false, if_true, e18, beq_self_eq_true, Option.bind_some, Bool.false_or, Bool.or_false, Bool.false_eq_true, if_false, hm16, m23_val hv, hP, hP2, Int.ofNat_zero, Bool.true_and]
    have hm19 : (open8 a0).2 = 0 → m19 2000 (open8 a0).1 = some a0 := by
      intro h0
      have h2 := seal_open8 h0
      have h3 : (open8 a0).1.length ≤ a0.length := by
        have := congrArg List.length h2
        rw [List.length_append] at this
        omega
      rw [m19_val (by omega), h2]
    by_cases h0 : (open8 a0).2 = 0
    · simp only [h0, decide_true, if_true, hm19 h0, Option.bind_some, beq_self_eq_true, Bool.not_true, Bool.and_false, Bool.false_eq_true, if_false]
      by_cases h16 : a2.length = 16
      · simp only [h16, if_true]
        by_cases h3 : (pl a2 0).2 = 0
        · obtain ⟨v2, e1, e2, e3⟩ := D16_pl h16 h3
          rw [e1]
          simp [m23_val e2, e3]
        · simp [h3]
      · simp [h16]
    · simp only [h0, decide_false, Bool.false_eq_true, if_false, Option.bind_some, Bool.false_and]
      by_cases h16 : a2.length = 16
      · simp only [h16, if_true]
        by_cases h3 : (pl a2 0).2 = 0
        · obtain ⟨v2, e1, e2, e3⟩ := D16_pl h16 h3
          rw [e1]
          simp [m23_val e2, e3]
        · simp [h3]
      · simp [h16]
end Go.AB

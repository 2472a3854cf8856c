import Derived.Test.YtpdllokejgpnoaaLe
import Derived.Test.YtpdllokejgpnoaaFc
set_option linter.unusedVariables false
namespace Go.AB
open Go

theorem m11_true : m11 5000 = some true := by kernel_rfl

def fewB (l : List R27) (c : Int) : Bool := (decide ((l.length : Int) ≤ (30 : Int))) && ((!vldB l c) || ((decide ((l.length : Int) ≤ (8 : Int))) && (decide (c ≤ (200 : Int)))))
theorem m12_val {l : List R27} {c : Int} : m12 5000 l c = some (fewB l c) := by
  unfold m12 fewB
  by_cases h : l.length ≤ 30
  · rw [m13_val (by omega) (by omega)]
    have : (decide ((l.length : Int) ≤ (30 : Int))) = true := by simp; omega
    rw [this]
    simp [gdO]
  · have : (decide ((l.length : Int) ≤ (30 : Int))) = false := by simp; omega
    rw [this]
    simp [gdO]
theorem fewB_ok {l : List R27} {c : Int} (h : fewB l c = true) : l.length ≤ 30 ∧ (vldB l c = true → l.length ≤ 8 ∧ c ≤ 200) := by
  unfold fewB at h
  simp only [Bool.and_eq_true, Bool.or_eq_true, decide_eq_true_eq, Bool.not_eq_true'] at h
  refine ⟨by omega, fun hv => ?_⟩
  rcases h.2 with h2 | h2
  · rw [hv] at h2; cases h2
  · omega

theorem m5_true (l : List R27) (c : Int) : m5 5000 l c = some true := by
  unfold m5
  rw [m11_true]
  simp only [Option.bind_some, Bool.not_true, Bool.not_false, Bool.false_or, gdO_true, m12_val]
  cases hf : fewB l c with
  | false => simp
  | true =>
    obtain ⟨h30, hfew⟩ := fewB_ok hf
    have h14 := m14_val (n := 5000) (l := l) (by omega) (by omega)
    have h15 := m15_val (n := 5000) (l := l) (c := c) (by omega) (by omega)
    have h13 := m13_val (n := 5000) (l := l) (c := c) (by omega) (by omega)
    simp only [Bool.not_true, Bool.false_eq_true, if_false, h14, Option.bind_some, h15, h13]
    cases hv : vldB l c with
    | false =>
      rw [m16_no hv (by omega) (by omega), m18_no hv (by omega) (by omega), m19_no hv (by omega) (by omega), m20_no hv (by omega) (by omega)]
      simp [gdO, m17_val (n := 5000) (a := []) (b := []) (by simp) (by omega)]
    | true =>
      obtain ⟨hl, _, cap, rfl, hcap⟩ := vldB_ok hv
      obtain ⟨h8, h200⟩ := hfew hv
      rw [m16_val hl hcap (by omega) (by omega), m18_val hl hcap (by omega) (by omega), m19_val hl hcap (by omega) (by omega), m20_val hl hcap (by omega) (by omega)]
      have hs : (casts (sol l cap)).length ≤ 4500 := by rw [casts_len, sol_len]; omega
      have hr : (row (T l) cap).length ≤ 4500 := by rw [row_len]; omega
      simp [gdO, m17_val (n := 5000) hs (by omega), m17_val (n := 5000) hr (by omega)]

/-- Solve, whatever valid items and capacity -/
theorem m14o_val {l : List R27} (hl : l.length ≤ 1000) : m14o 5000 l = some l := m14_val (n := 5000) hl (by omega)
end Go.AB

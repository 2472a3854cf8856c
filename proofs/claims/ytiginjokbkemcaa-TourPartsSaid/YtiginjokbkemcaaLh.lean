import Derived.Test.YtiginjokbkemcaaLg
set_option linter.unusedVariables false
namespace Go.AB
open Go
theorem Path.snoc {P : R24} {l : List Int} {x : Int} (h : Path P l) (hx : x ∈ rd P l) : Path P (l ++ [x]) := by
  refine ⟨?_,fun i hi => ?_⟩
  · have := h.1
    cases l with
    | nil => cases this
    | cons a t => exact this
  · have hi' : i + 1 ≤ l.length := by simp at hi; omega
    rw [List.take_append_of_le_length hi']
    rcases Nat.lt_or_ge (i + 1) l.length with h1 | h1
    · rw [List.getElem_append_left h1]
      exact h.2 i h1
    · have e : i + 1 = l.length := by omega
      rw [List.getElem_append_right (by omega)]
      simp only [e,Nat.sub_self,List.getElem_cons_zero,List.take_length]
      exact hx
theorem Path.zero {P : R24} {l : List Int} (h : Path P l) : (0 : Int) ∈ l := by
  have := h.1
  cases l with
  | nil => cases this
  | cons a t =>
    obtain rfl : a = 0 := by simpa using this
    simp
end Go.AB

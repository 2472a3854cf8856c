import Derived.Test.YtnmglighdhaccaaLi
set_option linter.unusedVariables false
namespace Go.AB
open Go
def More (p : R23) (a : List Int) : Prop := ∃ j,j < a.length ∧ Prop_ p (a.set j (a.getD j 0 + 1))
instance (p : R23) (a : List Int) : Decidable (More p a) := decidable_of_iff (¬ ∀ j,j < a.length → ¬ Prop_ p (a.set j (a.getD j 0 + 1))) (by
  unfold More
  constructor
  · intro h
    simp only [Classical.not_forall,Classical.not_not] at h
    obtain ⟨j,h1,h2⟩ := h
    exact ⟨j,h1,h2⟩
  · rintro ⟨j,h1,h2⟩ h
    exact h j h1 h2)
structure Begun (p : R23) (must : Int) (pre : List Int) : Prop where
  le : pre.length ≤ p.Lq.length
  bd : ∀ j,j < pre.length → 0 ≤ pre.getD j 0 ∧ pre.getD j 0 ≤ demP p j
  lo : ∀ j,j < pre.length → lowK must j ≤ pre.getD j 0
  fit : 0 ≤ capP p - useP p pre pre.length
end Go.AB

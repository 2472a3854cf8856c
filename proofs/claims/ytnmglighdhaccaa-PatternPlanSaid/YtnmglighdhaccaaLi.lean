import Derived.Test.YtnmglighdhaccaaLh
set_option linter.unusedVariables false
namespace Go.AB
open Go
instance (a b : List Int) : Decidable (Holds a b) := inferInstanceAs (Decidable (∀ i,i < b.length → _))
structure Some (p : R23) (l : List Int) (i : Nat) (left : Int) (any : Bool) : Prop where
  len : l.length = p.Lq.length
  lo : ∀ j,j < i → 0 ≤ l.getD j 0 ∧ l.getD j 0 ≤ demP p j
  hi : ∀ j,i ≤ j → l.getD j 0 = 0
  left_ : left = capP p - useP p l i
  l0 : 0 ≤ left
  l1 : left ≤ capP p
  an : any = true ↔ ∃ j,j < i ∧ 0 < l.getD j 0
theorem getD_set {l : List Int} {i j : Nat} {v : Int} (hi : i < l.length) : (l.set i v).getD j 0 = if j = i then v else l.getD j 0 := by
  simp only [List.getD_eq_getElem?_getD,List.getElem?_set]
  by_cases e : i = j
  · subst e; rw [if_pos rfl,if_pos rfl,if_pos hi]; rfl
  · rw [if_neg e,if_neg (fun e2 => e e2.symm)]
end Go.AB

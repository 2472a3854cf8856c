import Derived.Test.YtnmglighdhaccaaLh
set_option linter.unusedVariables false
namespace Go.AB
open Go
instance (a b : List Int) : Decidable (Holds a b) := inferInstanceAs (Decidable (∀ i,i < b.length → _))
structure Some (p : R23) (l : List Int) (i : Nat) (left : Int) (any : Bool) : Prop where
  len : l.length = p.Lengths.length
  lo : ∀ j,j < i → 0 ≤ l.getD j 0 ∧ l.getD j 0 ≤ demP p j
  hi : ∀ j,i ≤ j → l.getD j 0 = 0
  left_ : left = capP p - useP p l i
  l0 : 0 ≤ left
  l1 : left ≤ capP p
  an : any = true ↔ ∃ j,j < i ∧ 0 < l.getD j 0
theorem getD_set {l : List Int} {i j : Nat} {v : Int} (hi : i < l.length) : (l.set i v).getD j 0 = if j = i then v else l.getD j 0 := by
  simp only [List.getD_eq_getElem?_getD,List.getElem?_set]
  by_cases e : i = j
  · subst e; rw [if_pos rfl,if_pos rfl,if_pos hi]; rfl
  · rw [if_neg e,if_neg (fun e2 => e e2.symm)]
theorem Some.step {p : R23} (h : Vp p) {l : List Int} {i : Nat} {left : Int} {any : Bool} (hs : Some p l i left any) (hi : i < p.Lengths.length) {v : Int} (h0 : 0 ≤ v) (h1 : v ≤ demP p i) (h2 : v * szP p i ≤ left) :
    Some p (l.set i v) (i + 1) (left - v * szP p i) (any || decide (0 < v)) := by
  obtain ⟨s1,s2,s3,s4,s5,s6,s7⟩ := hs
  have hg : ∀ j,(l.set i v).getD j 0 = if j = i then v else l.getD j 0 := fun j => getD_set (by omega)
  have hz := h.sz hi
  have hk := h.k1
  have hm := Int.mul_nonneg h0 (show 0 ≤ szP p i by omega)
  refine ⟨by rw [List.length_set]; exact s1,fun j hj => ?_,fun j hj => ?_,?_,by omega,by omega,?_⟩
  · rw [hg]; split
    · rename_i e; subst e; exact ⟨h0,h1⟩
    · exact s2 j (by omega)
  · rw [hg,if_neg (by omega)]; exact s3 j (by omega)
  · show _ = capP p - (sumN (fun i_1 => (l.set i v).getD i_1 0 * szP p i_1) i + (l.set i v).getD i 0 * szP p i)
    rw [hg,if_pos rfl,sumN_congr (g' := fun j => l.getD j 0 * szP p j) (fun j hj => by rw [hg,if_neg (by omega)])]
    have : useP p l i = sumN (fun j => l.getD j 0 * szP p j) i := rfl
    omega
  · rw [Bool.or_eq_true,decide_eq_true_eq,s7]
    constructor
    · rintro (⟨j,h3,h4⟩ | h3)
      · exact ⟨j,by omega,by rw [hg,if_neg (by omega)]; exact h4⟩
      · exact ⟨i,by omega,by rw [hg,if_pos rfl]; exact h3⟩
    · rintro ⟨j,h3,h4⟩
      rw [hg] at h4
      by_cases e : j = i
      · rw [if_pos e] at h4; exact .inr h4
      · rw [if_neg e] at h4; exact .inl ⟨j,by omega,h4⟩
end Go.AB

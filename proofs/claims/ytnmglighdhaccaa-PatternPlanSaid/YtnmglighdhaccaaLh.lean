import Derived.Test.YtnmglighdhaccaaLg
set_option linter.unusedVariables false
namespace Go.AB
open Go
def Full (p : R23) (a : List Int) : Prop := ∀ j,j < p.Lq.length → a.getD j 0 < demP p j → capP p - useP p a a.length < szP p j
def Holds (a b : List Int) : Prop := ∀ i,i < b.length → b.getD i 0 ≤ a.getD i 0
theorem sumN_jump {g g' : Nat → Int} {j : Nat} {d : Int} : ∀ {k : Nat},(∀ i,i < k → g i ≤ g' i) → j < k → g j + d ≤ g' j → sumN g k + d ≤ sumN g' k
  | 0,_,h,_ => absurd h (Nat.not_lt_zero _)
  | k + 1,h,hj,hd => by
    rw [sumN,sumN]
    rcases Nat.lt_or_ge j k with h1 | h1
    · have := sumN_jump (fun i hi => h i (by omega)) h1 hd
      have := h k (by omega)
      omega
    · have : j = k := by omega
      subst this
      have := sumN_le (k := j) (g := g) (g' := g') fun i hi => h i (by omega)
      omega
theorem grow {p : R23} (h : Vp p) : ∀ (m : Nat) (b : List Int),(capP p - useP p b b.length).toNat < m → Prop_ p b → ∃ a,Prop_ p a ∧ Full p a ∧ Holds a b
  | 0,b,hm,_ => absurd hm (Nat.not_lt_zero _)
  | m + 1,b,hm,hb => by
    by_cases hf : Full p b
    · exact ⟨b,hb,hf,fun i _ => Int.le_refl _⟩
    · unfold Full at hf
      simp only [Classical.not_forall] at hf
      obtain ⟨j,hj,hd,hs⟩ := hf
      obtain ⟨hv,⟨b1,b2,b3⟩,b4⟩ := hb
      have hz := h.sz hj
      have hk := h.k1
      have hget : ∀ i,(b.set j (b.getD j 0 + 1)).getD i 0 = if i = j then b.getD j 0 + 1 else b.getD i 0 := fun i => by
        simp only [List.getD_eq_getElem?_getD,List.getElem?_set]
        by_cases e : j = i
        · subst e; rw [if_pos rfl,if_pos rfl,if_pos (by omega)]; rfl
        · rw [if_neg e,if_neg (fun e2 => e e2.symm)]
      have hu : useP p (b.set j (b.getD j 0 + 1)) (b.set j (b.getD j 0 + 1)).length = useP p b b.length + szP p j := by
        rw [List.length_set]
        have hle : useP p b b.length + szP p j ≤ useP p (b.set j (b.getD j 0 + 1)) b.length := by
          refine sumN_jump (j := j) (fun i hi => ?_) (by omega) ?_
          · rw [hget]
            by_cases e : i = j
            · subst e; rw [if_pos rfl,Int.add_mul]; omega
            · rw [if_neg e]; exact Int.le_refl _
          · rw [hget,if_pos rfl,Int.add_mul,Int.one_mul]; exact Int.le_refl _
        have hge : useP p (b.set j (b.getD j 0 + 1)) b.length + -szP p j ≤ useP p b b.length := by
          have h8 : sumN (fun i => (b.set j (b.getD j 0 + 1)).getD i 0 * szP p i) b.length + -szP p j ≤ sumN (fun i => b.getD i 0 * szP p i) b.length := by
            have key : ∀ k,k ≤ b.length → sumN (fun i => (b.set j (b.getD j 0 + 1)).getD i 0 * szP p i) k ≤ sumN (fun i => b.getD i 0 * szP p i) k + if j < k then szP p j else 0 := by
              intro k
              induction k with
              | zero => intro _; simp [sumN]
              | succ k ih =>
                intro hk2
                have := ih (by omega)
                simp only [sumN,hget]
                simp only [hget] at this
                by_cases e : k = j
                · subst e
                  rw [if_pos rfl,if_pos (by omega),Int.add_mul,Int.one_mul]
                  rw [if_neg (by omega)] at this
                  omega
                · rw [if_neg e]
                  by_cases e2 : j < k
                  · rw [if_pos (by omega)]; rw [if_pos e2] at this; omega
                  · rw [if_neg (by omega)]; rw [if_neg e2] at this; omega
            have := key b.length (Nat.le_refl _)
            rw [if_pos (by omega)] at this
            omega
          exact h8
        omega
      obtain ⟨a,ha1,ha2,ha3⟩ := grow h m (b.set j (b.getD j 0 + 1)) (by rw [hu]; omega) ⟨hv,⟨by rw [List.length_set]; exact b1,fun i hi => by
        rw [hget]; rw [List.length_set] at hi
        have := b2 i hi
        have := b2 j (by omega)
        split <;> omega,by rw [hu]; omega⟩,fun i hi => by
        rw [hget]; rw [List.length_set] at hi
        have := b4 i hi
        unfold demP at hd
        split
        · rename_i e; subst e; omega
        · exact this⟩
      refine ⟨a,ha1,ha2,fun i hi => ?_⟩
      have := ha3 i (by rw [List.length_set]; exact hi)
      rw [hget] at this
      split at this
      · rename_i e; subst e; omega
      · exact this
end Go.AB

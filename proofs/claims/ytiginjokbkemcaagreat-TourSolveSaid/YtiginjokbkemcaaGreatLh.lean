import Derived.Test.YtiginjokbkemcaaGreatLg
set_option linter.unusedVariables false
namespace Go.AB
open Go
theorem Path.snoc {P : R24} {l : List Int} {x : Int} (h : Path P l) (hx : x ∈ rd P l) : Path P (l ++ [x]) := by
  refine ⟨?_,fun i hi => ?_⟩
  · have := h.1
    cases l with
    | nil => cases this
    | cons a t => exact this
  · have hi' : i + 1 ≤ l.length := by simp at hi; omega
    rw [List.take_append_of_le_length hi']
    rcases Nat.lt_or_ge (i + 1) l.length with h1 | h1
    · rw [List.getElem_append_left h1]
      exact h.2 i h1
    · have e : i + 1 = l.length := by omega
      rw [List.getElem_append_right (by omega)]
      simp only [e,Nat.sub_self,List.getElem_cons_zero,List.take_length]
      exact hx
theorem Path.zero {P : R24} {l : List Int} (h : Path P l) : (0 : Int) ∈ l := by
  have := h.1
  cases l with
  | nil => cases this
  | cons a t =>
    obtain rfl : a = 0 := by simpa using this
    simp
theorem path0 {P : R24} : Path P [0] := ⟨rfl,fun i hi => by simp at hi⟩
theorem near_ok {P : R24} (hg : Good P) : ∀ (k : Nat) (path : List Int),Path P path → path.length + k = P.Pq.length → permB P (near P k path) = true
  | 0,path,h,hl => permB_iff.2 ⟨hl,h⟩
  | k + 1,path,h,hl => by
    have hne := List.length_pos_iff.2 (hg.next h.zero (by omega))
    rw [near]
    exact near_ok hg k _ (h.snoc (getD_mem (minAt_lt hne))) (by simp; omega)
theorem shS_perm {P : R24} : ∀ (k : Nat) (l best : List Int),Path P l → l.length + k = P.Pq.length → (best = [] ∨ permB P best = true) → shS P k l best = [] ∨ permB P (shS P k l best) = true
  | 0,l,best,hl,hk,hb => by
    unfold shS
    split
    · exact .inr (permB_iff.2 ⟨hk,hl⟩)
    · exact hb
  | k + 1,l,best,hl,hk,hb => by
    unfold shS
    exact foldl_keep (I := fun b => b = [] ∨ permB P b = true) hb fun s x hx hs => shS_perm k (l ++ [x]) s (hl.snoc hx) (by simp; omega) hs
theorem shS_mono {P : R24} : ∀ (k : Nat) (l best : List Int) (t : Int),0 < l.length → best ≠ [] → tourL P best ≤ t → shS P k l best ≠ [] ∧ tourL P (shS P k l best) ≤ t
  | 0,l,best,t,hl,hb,ht => by
    unfold shS
    by_cases hc : best = [] ∨ tourL P l < tourL P best
    · rw [if_pos hc]
      rcases hc with hc | hc
      · exact absurd hc hb
      · exact ⟨List.length_pos_iff.1 hl,by omega⟩
    · rw [if_neg hc]
      exact ⟨hb,ht⟩
  | k + 1,l,best,t,hl,hb,ht => by
    unfold shS
    exact foldl_keep (I := fun b => b ≠ [] ∧ tourL P b ≤ t) ⟨hb,ht⟩ fun s x hx hs => shS_mono k (l ++ [x]) s t (by simp) hs.1 hs.2
theorem shS_least {P : R24} {o : List Int} (ho : permB P o = true) : ∀ (k : Nat) (l best : List Int),0 < l.length → l.length + k = P.Pq.length → o.take l.length = l → shS P k l best ≠ [] ∧ tourL P (shS P k l best) ≤ tourL P o
  | 0,l,best,hl,hk,hp => by
    obtain ⟨h1,_⟩ := permB_iff.1 ho
    have e : o = l := by rw [← hp,List.take_of_length_le (by omega)]
    subst e
    unfold shS
    by_cases hc : best = [] ∨ tourL P o < tourL P best
    · rw [if_pos hc]
      exact ⟨List.length_pos_iff.1 hl,Int.le_refl _⟩
    · rw [if_neg hc]
      exact ⟨fun h => hc (.inl h),by
        have : ¬ tourL P o < tourL P best := fun h => hc (.inr h)
        omega⟩
  | k + 1,l,best,hl,hk,hp => by
    obtain ⟨h1,h2⟩ := permB_iff.1 ho
    have hlt : l.length < o.length := by omega
    obtain ⟨i,hi⟩ : ∃ i,l.length = i + 1 := ⟨l.length - 1,by omega⟩
    have hx : o[l.length] ∈ rd P l := by
      have := h2.2 i (by omega)
      simp only [← hi] at this
      rwa [hp] at this
    obtain ⟨A,B,e⟩ := List.append_of_mem hx
    unfold shS
    rw [e,List.foldl_append,List.foldl_cons]
    have h3 := shS_least ho k (l ++ [o[l.length]]) (A.foldl (fun b x => shS P k (l ++ [x]) b) best) (by simp) (by simp; omega) (by
      rw [List.length_append,List.length_singleton,List.take_succ_eq_append_getElem hlt,hp])
    exact foldl_keep (I := fun b => b ≠ [] ∧ tourL P b ≤ tourL P o) h3 fun s x hx hs => shS_mono k (l ++ [x]) s _ (by simp) hs.1 hs.2
end Go.AB

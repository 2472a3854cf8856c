import Derived.Test.YtiginjokbkemcaaLc
set_option linter.unusedVariables false
namespace Go.AB
open Go
theorem foldl_take {α S : Type} {f : S → α → S} {s : S} {l : List α} {i : Nat} (hi : i < l.length) : (l.take (i + 1)).foldl f s = f ((l.take i).foldl f s) l[i] := by
  rw [List.take_succ_eq_append_getElem hi,List.foldl_append]; rfl
theorem m17_val {n : Nat} {a b : List Int} (ha : a.length ≤ 1000000) (hn : a.length < n) : m17 n a b = some (decide (a = b)) := by
  unfold m17
  by_cases hl : (a.length : Int) = b.length
  · rw [if_neg (by simpa using hl)]
    dsimp only [jn]
    refine (loop_all (n := n) (fun i => (i : Int)) a.length (fun i => decide (a[i]? = b[i]?)) (some false) (some true) ?_ ?_ ?_ hn).trans ?_
    · intro i hi hp nx
      have : i < b.length := by omega
      rw [List.getElem?_eq_getElem hi,List.getElem?_eq_getElem this] at hp
      have hp' : a[i] = b[i] := by simpa using hp
      rw [m17_L1,if_pos (by simp; omega),getIdx_at rfl hi,Option.bind_some,getIdx_at rfl this,Option.bind_some,if_neg (by simpa using hp'),letM_eq,wInc (by omega)]
    · intro i hi hp nx
      have : i < b.length := by omega
      rw [List.getElem?_eq_getElem hi,List.getElem?_eq_getElem this] at hp
      have hp' : ¬ a[i] = b[i] := by simpa using hp
      rw [m17_L1,if_pos (by simp; omega),getIdx_at rfl hi,Option.bind_some,getIdx_at rfl this,Option.bind_some,if_pos (by simpa using hp')]
    · intro nx
      rw [m17_L1,if_neg (by simp)]
    · by_cases e : a = b
      · subst e
        rw [if_pos (by simp),decide_eq_true rfl]
      · rw [if_neg (fun h => e (List.ext_getElem? fun i => ?_)),decide_eq_false e]
        rcases Nat.lt_or_ge i a.length with h1 | h1
        · exact of_decide_eq_true (h i h1)
        · rw [List.getElem?_eq_none h1,List.getElem?_eq_none (by omega)]
  · rw [if_pos (by simpa using hl),decide_eq_false (fun e => hl (by rw [e]))]
theorem few_of {P : R24} (h : ((decide ((P.Pq.length : Int) ≤ (9 : Int))) && (decide ((P.Bq.length : Int) ≤ (12 : Int)))) = true) : P.Pq.length ≤ 9 ∧ P.Bq.length ≤ 12 := by
  simp only [Bool.and_eq_true,decide_eq_true_eq] at h
  omega
end Go.AB

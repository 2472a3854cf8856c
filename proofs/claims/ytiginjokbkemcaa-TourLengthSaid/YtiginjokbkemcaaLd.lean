import Derived.Test.YtiginjokbkemcaaLc
set_option linter.unusedVariables false
namespace Go.AB
open Go
def shS (P : R24) : Nat → List Int → List Int → List Int
  | 0,l,best => if best = [] ∨ tourL P l < tourL P best then l else best
  | k + 1,l,best => (rd P l).foldl (fun b x => shS P k (l ++ [x]) b) best
def OKt (P : R24) (l : List Int) : Prop := l.length = P.Points.length ∧ InP P l
def leastS (P : R24) (best : List Int) : Int := if best = [] then -1 else tourL P best
def exactS (P : R24) : List Int × Int × Int :=
  if vP P = false then ([],0,1) else if 8 < P.Points.length then ([],0,9) else (shS P (P.Points.length - 1) [0] [],tourL P (shS P (P.Points.length - 1) [0] []),0)
theorem inP0 {P : R24} (h : 1 ≤ P.Points.length) : InP P [0] := fun x hx => by
  obtain rfl : x = 0 := by simpa using hx
  omega
theorem m17_val {n : Nat} {a b : List Int} (ha : a.length ≤ 1000000) (hn : a.length < n) : m17 n a b = some (decide (a = b)) := by
  unfold m17
  by_cases hl : (a.length : Int) = b.length
  · rw [if_neg (by simpa using hl)]
    dsimp only [jn]
    refine (loop_all (n := n) (fun i => (i : Int)) a.length (fun i => decide (a[i]? = b[i]?)) (some false) (some true) ?_ ?_ ?_ hn).trans ?_
    · intro i hi hp nx
      have : i < b.length := by omega
      rw [List.getElem?_eq_getElem hi,List.getElem?_eq_getElem this] at hp
      have hp' : a[i] = b[i] := by simpa using hp
      rw [m17_L1,if_pos (by simp; omega),getIdx_at rfl hi,Option.bind_some,getIdx_at rfl this,Option.bind_some,if_neg (by simpa using hp'),letM_eq,wInc (by omega)]
    · intro i hi hp nx
      have : i < b.length := by omega
      rw [List.getElem?_eq_getElem hi,List.getElem?_eq_getElem this] at hp
      have hp' : ¬ a[i] = b[i] := by simpa using hp
      rw [m17_L1,if_pos (by simp; omega),getIdx_at rfl hi,Option.bind_some,getIdx_at rfl this,Option.bind_some,if_pos (by simpa using hp')]
    · intro nx
      rw [m17_L1,if_neg (by simp)]
    · by_cases e : a = b
      · subst e
        rw [if_pos (by simp),decide_eq_true rfl]
      · rw [if_neg (fun h => e (List.ext_getElem? fun i => ?_)),decide_eq_false e]
        rcases Nat.lt_or_ge i a.length with h1 | h1
        · exact of_decide_eq_true (h i h1)
        · rw [List.getElem?_eq_none h1,List.getElem?_eq_none (by omega)]
  · rw [if_pos (by simpa using hl),decide_eq_false (fun e => hl (by rw [e]))]
theorem few_of {P : R24} (h : ((decide ((P.Points.length : Int) ≤ (9 : Int))) && (decide ((P.Before.length : Int) ≤ (12 : Int)))) = true) : P.Points.length ≤ 9 ∧ P.Before.length ≤ 12 := by
  simp only [Bool.and_eq_true,decide_eq_true_eq] at h
  omega
end Go.AB

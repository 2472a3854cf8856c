import Derived.Test.YtiginjokbkemcaaLc
set_option linter.unusedVariables false
namespace Go.AB
open Go
def shS (P : R24) : Nat → List Int → List Int → List Int
  | 0,l,best => if best = [] ∨ tourL P l < tourL P best then l else best
  | k + 1,l,best => (rd P l).foldl (fun b x => shS P k (l ++ [x]) b) best
def OKt (P : R24) (l : List Int) : Prop := l.length = P.Points.length ∧ InP P l
theorem foldl_take {α S : Type} {f : S → α → S} {s : S} {l : List α} {i : Nat} (hi : i < l.length) : (l.take (i + 1)).foldl f s = f ((l.take i).foldl f s) l[i] := by
  rw [List.take_succ_eq_append_getElem hi,List.foldl_append]; rfl
def leastS (P : R24) (best : List Int) : Int := if best = [] then -1 else tourL P best
def exactS (P : R24) : List Int × Int × Int :=
  if vP P = false then ([],0,1) else if 8 < P.Points.length then ([],0,9) else (shS P (P.Points.length - 1) [0] [],tourL P (shS P (P.Points.length - 1) [0] []),0)
theorem few_of {P : R24} (h : ((decide ((P.Points.length : Int) ≤ (9 : Int))) && (decide ((P.Before.length : Int) ≤ (12 : Int)))) = true) : P.Points.length ≤ 9 ∧ P.Before.length ≤ 12 := by
  simp only [Bool.and_eq_true,decide_eq_true_eq] at h
  omega
end Go.AB

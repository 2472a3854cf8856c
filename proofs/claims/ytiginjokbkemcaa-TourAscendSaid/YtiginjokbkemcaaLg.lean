import Derived.Test.YtiginjokbkemcaaLf
set_option linter.unusedVariables false
namespace Go.AB
open Go
def minAt (P : R24) (last : Int) (l : List Int) : Nat → Nat
  | 0 => 0
  | i + 1 => if D P last (l.getD i 0) < D P last (l.getD (minAt P last l i) 0) then i else minAt P last l i
theorem getD_at {l : List Int} {k : Nat} (h : k < l.length) : getIdx l (k : Int) = some (l.getD k 0) := by
  refine getIdx_q (k := k) rfl ?_
  rw [List.getD_eq_getElem?_getD,List.getElem?_eq_getElem h]; rfl
theorem getD_mem {l : List Int} {k : Nat} (h : k < l.length) : l.getD k 0 ∈ l := by
  rw [List.getD_eq_getElem?_getD,List.getElem?_eq_getElem h]
  exact List.getElem_mem h
def near (P : R24) : Nat → List Int → List Int
  | 0,path => path
  | k + 1,path => near P k (path ++ [(rd P path).getD (minAt P (lastP path) (rd P path) (rd P path).length) 0])
def nearestS (P : R24) : List Int × Int := if vP P = false then ([],1) else (near P (P.Points.length - 1) [0],0)
def revL (l : List Int) (i j : Nat) : List Int := frow l.length fun p => if i ≤ p ∧ p ≤ j then l.getD (i + j - p) 0 else l.getD p 0
def revA (l : List Int) (i j a : Nat) : List Int := frow l.length fun p => if (i ≤ p ∧ p < i + a) ∨ (j < p + a ∧ p ≤ j) then l.getD (i + j - p) 0 else l.getD p 0
def findJ (q : Nat → Bool) : Nat → Nat → Option Nat
  | 0,_ => none
  | k + 1,j => if q j = true then some j else findJ q k (j + 1)
def findI (q : Nat → Nat → Bool) (len : Nat) : Nat → Nat → Option (Nat × Nat)
  | 0,_ => none
  | k + 1,i => match findJ (q i) (len - (i + 1)) (i + 1) with
    | some j => some (i,j)
    | none => findI q len k (i + 1)
def betterQ (P : R24) (l : List Int) (i j : Nat) : Bool := decide (tourL P (revL l i j) < tourL P l) && permB P (revL l i j)
def betterS (P : R24) (l : List Int) : Option (Nat × Nat) := findI (betterQ P l) l.length (l.length - 1) 1
theorem m63o_val {n : Nat} {l : List Int} (hl : l.length ≤ 1000000) : m63o n l = some l := by
  unfold m63o
  rw [apd_val (by simp; omega),Option.bind_some]; rfl
def impS (P : R24) : Nat → List Int → List Int
  | 0,l => l
  | k + 1,l => match betterS P l with
    | some x => impS P k (revL l x.1 x.2)
    | none => l
theorem permB_iff {P : R24} {l : List Int} : permB P l = true ↔ l.length = P.Points.length ∧ Path P l := by
  unfold permB
  rw [Bool.and_eq_true,decide_eq_true_eq,pathB_iff]
def improveS (P : R24) (l : List Int) : List Int × Int := if vP P = false then ([],1) else if permB P l = false then ([],22) else (impS P 180000 l,0)
def lengthS (P : R24) (l : List Int) : Int × Int := if vP P = false then (0,1) else if permB P l = false then (0,22) else (tourL P l,0)
end Go.AB

import Derived.Test.YtiginjokbkemcaaLf
set_option linter.unusedVariables false
namespace Go.AB
open Go
theorem getD_at {l : List Int} {k : Nat} (h : k < l.length) : getIdx l (k : Int) = some (l.getD k 0) := by
  refine getIdx_q (k := k) rfl ?_
  rw [List.getD_eq_getElem?_getD,List.getElem?_eq_getElem h]; rfl
theorem getD_mem {l : List Int} {k : Nat} (h : k < l.length) : l.getD k 0 ∈ l := by
  rw [List.getD_eq_getElem?_getD,List.getElem?_eq_getElem h]
  exact List.getElem_mem h
theorem m63o_val {n : Nat} {l : List Int} (hl : l.length ≤ 1000000) : m63o n l = some l := by
  unfold m63o
  rw [apd_val (by simp; omega),oB]; rfl
theorem permB_iff {P : R24} {l : List Int} : permB P l = true ↔ l.length = P.Pq.length ∧ Path P l := by
  unfold permB
  rw [Bool.and_eq_true,decide_eq_true_eq,pathB_iff]
def lengthS (P : R24) (l : List Int) : Int × Int := if vP P = false then (0,1) else if permB P l = false then (0,22) else (tourL P l,0)
theorem m29_val {n : Nat} {P : R24} {l : List Int} (hn : 2000 < n) : m29 n P l = some (lengthS P l) := by
  unfold m29 lengthS
  rw [eta24,m22_val hn,oB]
  cases hv : vP P with
  | false => rfl
  | true =>
    have hg := good_of hv
    rw [if_neg (show ¬ (!true) = true by simp),if_neg (show ¬ true = false by simp),m67_val hg hn,oB]
    cases hp : permB P l with
    | false => rfl
    | true =>
      obtain ⟨hl,hpa⟩ := permB_iff.1 hp
      have := hg.few.1
      rw [if_neg (show ¬ (!true) = true by simp),if_neg (show ¬ true = false by simp),m68_val hg.vec (hpa.inP hg) hpa.pos (by omega) hn,oB]
theorem m30_val {n : Nat} {P : R24} {l : List Int} (hn : 2000 < n) : m30 n P l = some (lengthS P l) := by
  unfold m30 lengthS
  rw [eta24,m15_val hn,oB]
  cases hv : vP P with
  | false => rfl
  | true =>
    have hg := good_of hv
    rw [if_neg (show ¬ (!true) = true by simp),if_neg (show ¬ true = false by simp),m37_val hg.few hg.one hn,oB]
    cases hp : permB P l with
    | false => rfl
    | true =>
      obtain ⟨hl,hpa⟩ := permB_iff.1 hp
      have := hg.few.1
      rw [if_neg (show ¬ (!true) = true by simp),if_neg (show ¬ true = false by simp),m20_val hg.vec (hpa.inP hg) hpa.pos (by omega) hn,oB]
end Go.AB

import Derived.Test.YtiginjokbkemcaaLg
set_option linter.unusedVariables false
namespace Go.AB
open Go
theorem Path.snoc {P : R24} {l : List Int} {x : Int} (h : Path P l) (hx : x ∈ rd P l) : Path P (l ++ [x]) := by
  refine ⟨?_,fun i hi => ?_⟩
  · have := h.1
    cases l with
    | nil => cases this
    | cons a t => exact this
  · have hi' : i + 1 ≤ l.length := by simp at hi; omega
    rw [List.take_append_of_le_length hi']
    rcases Nat.lt_or_ge (i + 1) l.length with h1 | h1
    · rw [List.getElem_append_left h1]
      exact h.2 i h1
    · have e : i + 1 = l.length := by omega
      rw [List.getElem_append_right (by omega)]
      simp only [e,Nat.sub_self,List.getElem_cons_zero,List.take_length]
      exact hx
theorem Path.zero {P : R24} {l : List Int} (h : Path P l) : (0 : Int) ∈ l := by
  have := h.1
  cases l with
  | nil => cases this
  | cons a t =>
    obtain rfl : a = 0 := by simpa using this
    simp
def ordI (l : List Int) (ch : List UInt8) (i : Nat) : Nat := if i < ch.length then (ch.getD i 0).toNat % l.length else 0
def ordS (P : R24) (ch : List UInt8) : Nat → Nat → List Int → List Int
  | 0,_,out => out
  | k + 1,i,out => ordS P ch k (i + 1) (out ++ [(rd P out).getD (ordI (rd P out) ch i) 0])
theorem ordI_lt {l : List Int} {ch : List UInt8} {i : Nat} (h : 0 < l.length) : ordI l ch i < l.length := by
  unfold ordI
  split
  · exact Nat.mod_lt _ h
  · exact h
theorem ordS_ok {P : R24} (hg : Good P) {ch : List UInt8} : ∀ (k i : Nat) (out : List Int),Path P out → out.length + k = P.Pq.length → permB P (ordS P ch k i out) = true
  | 0,i,out,h,hl => permB_iff.2 ⟨hl,h⟩
  | k + 1,i,out,h,hl => by
    have hne := List.length_pos_iff.2 (hg.next h.zero (by omega))
    rw [ordS]
    exact ordS_ok hg k (i + 1) _ (h.snoc (getD_mem (ordI_lt hne))) (by simp; omega)
end Go.AB

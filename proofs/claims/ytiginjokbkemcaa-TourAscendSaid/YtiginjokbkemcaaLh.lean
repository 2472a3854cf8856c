import Derived.Test.YtiginjokbkemcaaLg
set_option linter.unusedVariables false
namespace Go.AB
open Go
theorem Path.snoc {P : R24} {l : List Int} {x : Int} (h : Path P l) (hx : x ∈ rd P l) : Path P (l ++ [x]) := by
  refine ⟨?_,fun i hi => ?_⟩
  · have := h.1
    cases l with
    | nil => cases this
    | cons a t => exact this
  · have hi' : i + 1 ≤ l.length := by simp at hi; omega
    rw [List.take_append_of_le_length hi']
    rcases Nat.lt_or_ge (i + 1) l.length with h1 | h1
    · rw [List.getElem_append_left h1]
      exact h.2 i h1
    · have e : i + 1 = l.length := by omega
      rw [List.getElem_append_right (by omega)]
      simp only [e,Nat.sub_self,List.getElem_cons_zero,List.take_length]
      exact hx
theorem Path.zero {P : R24} {l : List Int} (h : Path P l) : (0 : Int) ∈ l := by
  have := h.1
  cases l with
  | nil => cases this
  | cons a t =>
    obtain rfl : a = 0 := by simpa using this
    simp
theorem path0 {P : R24} : Path P [0] := ⟨rfl,fun i hi => by simp at hi⟩
def ordI (l : List Int) (ch : List UInt8) (i : Nat) : Nat := if i < ch.length then (ch.getD i 0).toNat % l.length else 0
def ordS (P : R24) (ch : List UInt8) : Nat → Nat → List Int → List Int
  | 0,_,out => out
  | k + 1,i,out => ordS P ch k (i + 1) (out ++ [(rd P out).getD (ordI (rd P out) ch i) 0])
theorem ordI_lt {l : List Int} {ch : List UInt8} {i : Nat} (h : 0 < l.length) : ordI l ch i < l.length := by
  unfold ordI
  split
  · exact Nat.mod_lt _ h
  · exact h
theorem ordS_ok {P : R24} (hg : Good P) {ch : List UInt8} : ∀ (k i : Nat) (out : List Int),Path P out → out.length + k = P.Points.length → permB P (ordS P ch k i out) = true
  | 0,i,out,h,hl => permB_iff.2 ⟨hl,h⟩
  | k + 1,i,out,h,hl => by
    have hne := List.length_pos_iff.2 (hg.next h.zero (by omega))
    rw [ordS]
    exact ordS_ok hg k (i + 1) _ (h.snoc (getD_mem (ordI_lt hne))) (by simp; omega)
theorem m21_L1_val {N : Nat} {P : R24} (hg : Good P) (hN : 2000 < N) {ch : List UInt8} {K : List Int → Option (List Int)} : ∀ (k i : Nat) (out : List Int) (n : Nat),Path P out → out.length + k = P.Points.length → i ≤ 1000 - k → k < n →
    loopM (m21_L1 N P ch K) n ((i : Int),out) = K (ordS P ch k i out)
  | 0,i,out,n + 1,h,hl,hi,hn => by
    rw [loopM_succ,m21_L1,if_neg (by simp; omega)]; rfl
  | k + 1,i,out,n + 1,h,hl,hi,hn => by
    have hP1 := hg.few.1
    have hne := List.length_pos_iff.2 (hg.next h.zero (by omega))
    have hlt := ordI_lt (ch := ch) (i := i) hne
    have hrl := rd_len (P := P) (path := out)
    rw [loopM_succ,m21_L1]
    dsimp only
    rw [if_pos (by simp; omega),eta24,m45_val hg.few (by omega) hN,Option.bind_some]
    dsimp only [jn]
    have hrest : ∀ p : Int,p = ((ordI (rd P out) ch i : Nat) : Int) → ((getIdx (rd P out) p).bind fun y_29 => (apd out ([y_29] : List Int)).bind fun l2_30 => letM (IntKind.wrap .i64 ((i : Int) + 1)) fun t6_31 => loopM (m21_L1 N P ch K) n (t6_31,l2_30)) = K (ordS P ch (k + 1) i out) := fun p hp => by
      subst hp
      rw [getD_at hlt,Option.bind_some,apd_val (by simp; omega),Option.bind_some,letM_eq,wInc (by omega)]
      rw [ordS]
      exact m21_L1_val hg hN k (i + 1) _ n (h.snoc (getD_mem hlt)) (by simp; omega) (by omega) (by omega)
    by_cases hc : i < ch.length
    · have hg1 : getIdx ch (i : Int) = some (ch.getD i 0) := by
        refine getIdx_q (k := i) rfl ?_
        rw [List.getD_eq_getElem?_getD,List.getElem?_eq_getElem hc]; rfl
      rw [if_pos (decide_eq_true (by omega)),hg1,Option.bind_some]
      unfold asrt
      rw [if_pos (by omega)]
      dsimp only [letM] at hrest ⊢
      refine hrest _ ?_
      have hb : (ch.getD i 0).toNat < 256 := (ch.getD i 0).toNat_lt
      rw [wrap64 (by omega) (by omega),Int.tmod_eq_emod_of_nonneg (by omega)]
      unfold ordI
      rw [if_pos hc]
      exact (Int.natCast_emod _ _).symm
    · rw [if_neg (by rw [decide_eq_true_eq]; omega)]
      refine hrest 0 ?_
      unfold ordI
      rw [if_neg hc]; rfl
theorem m21_val {n : Nat} {P : R24} (hg : Good P) {ch : List UInt8} (hn : 2000 < n) : m21 n P ch = some (ordS P ch (P.Points.length - 1) 0 [0]) := by
  have h1 := hg.one
  have hP1 := hg.few.1
  unfold m21
  rw [jn]
  exact m21_L1_val hg hn (K := fun p => some p) (P.Points.length - 1) 0 [0] n path0 (by simp; omega) (by omega) (by omega)
end Go.AB

import Derived.Test.YtgbbmfafdbafjaaLd
import Derived.Test.YtgbbmfafdbafjaaFc
import Derived.Laws.RangeString
import Derived.Laws.RangeAny
set_option linter.unusedVariables false
namespace Go.AB
open Go

/-- the sixteen characters -/
def hexT : List UInt8 := [48, 49, 50, 51, 52, 53, 54, 55, 56, 57, 97, 98, 99, 100, 101, 102]
def hexc (d : Nat) : UInt8 := hexT.getD d 0
def hexv (c : UInt8) : Option Nat := if 48 ≤ c.toNat ∧ c.toNat ≤ 57 then some (c.toNat - 48) else if 97 ≤ c.toNat ∧ c.toNat ≤ 102 then some (c.toNat - 87) else none

theorem hexv_lt {c : UInt8} {d : Nat} (h : hexv c = some d) : d < 16 := by
  unfold hexv at h
  split at h
  · cases h; omega
  · split at h
    · cases h; omega
    · cases h
theorem hexc_hexv {c : UInt8} {d : Nat} (h : hexv c = some d) : hexc d = c := by
  have key : ∀ n : Fin 256, ∀ e : Fin 16, hexv (UInt8.ofNat n.val) = some e.val → hexc e.val = UInt8.ofNat n.val := by decide +kernel
  have hd := hexv_lt h
  have := key ⟨c.toNat, c.toNat_lt⟩ ⟨d, hd⟩
  simp only [UInt8.ofNat_toNat] at this
  exact this h
theorem hexv_hexc {d : Nat} (h : d < 16) : hexv (hexc d) = some d := by
  have key : ∀ e : Fin 16, hexv (hexc e.val) = some e.val := by decide +kernel
  exact key ⟨d, h⟩

/-- the last k digits of a number -/
def digs : Nat → Nat → List Nat
  | 0, _ => []
  | k + 1, v => digs k (v / 16) ++ [v % 16]
def vald (l : List Nat) : Nat := l.foldl (fun h d => h * 16 + d) 0
theorem vald_snoc (l : List Nat) (d : Nat) : vald (l ++ [d]) = vald l * 16 + d := by simp [vald]
theorem digs_len : ∀ k v, (digs k v).length = k
  | 0, _ => rfl
  | k + 1, v => by simp [digs, digs_len k]
theorem digs_lt : ∀ k v d, d ∈ digs k v → d < 16
  | 0, _, _, h => by cases h
  | k + 1, v, d, h => by
    simp only [digs, List.mem_append, List.mem_singleton] at h
    rcases h with h | h
    · exact digs_lt k _ d h
    · omega
theorem vald_digs : ∀ k v, v < 16 ^ k → vald (digs k v) = v
  | 0, v, h => by simp at h; subst h; rfl
  | k + 1, v, h => by
    rw [digs, vald_snoc, vald_digs k (v / 16) (by rw [Nat.pow_succ] at h; omega)]
    omega
theorem digs_vald : ∀ k (l : List Nat), l.length = k → (∀ d, d ∈ l → d < 16) → digs k (vald l) = l
  | 0, l, h, _ => by rw [List.length_eq_zero_iff.1 h]; rfl
  | k + 1, l, h, hd => by
    have hne : l ≠ [] := by intro e; rw [e] at h; cases h
    have e := List.dropLast_concat_getLast hne
    have hl : l.dropLast.length = k := by rw [List.length_dropLast]; omega
    have hlast : l.getLast hne < 16 := hd _ (List.getLast_mem hne)
    rw [← e, vald_snoc, digs]
    rw [show (vald l.dropLast * 16 + l.getLast hne) / 16 = vald l.dropLast by omega, show (vald l.dropLast * 16 + l.getLast hne) % 16 = l.getLast hne by omega]
    rw [digs_vald k l.dropLast hl fun d h => hd d (List.dropLast_sublist l |>.mem h)]
theorem digs_at : ∀ k v i, i < k → (digs k v)[i]? = some (v / 16 ^ (k - 1 - i) % 16)
  | 0, _, i, h => absurd h (Nat.not_lt_zero _)
  | k + 1, v, i, h => by
    rw [digs]
    by_cases hi : i < k
    · rw [List.getElem?_append_left (by rw [digs_len]; exact hi), digs_at k _ i hi]
      rw [show k + 1 - 1 - i = (k - 1 - i) + 1 by omega, Nat.pow_succ, Nat.mul_comm, Nat.div_div_eq_div_mul]
    · have : i = k := by omega
      subst this
      rw [List.getElem?_append_right (by rw [digs_len]; exact Nat.le_refl _), digs_len]
      simp

/-- the digits of a number -/
def D16 (v : Nat) : List UInt8 := (digs 16 v).map hexc
theorem D16_len (v : Nat) : (D16 v).length = 16 := by simp [D16, digs_len]
theorem D16_at (v i : Nat) (h : i < 16) : (D16 v)[i]? = some (hexc (v / 16 ^ (15 - i) % 16)) := by
  unfold D16
  rw [List.getElem?_map, digs_at 16 v i h]; rfl

theorem tab_at {e : Int} {d : Nat} (he : e = (d : Int)) (hd : d < 16) : getIdx ([48, 49, 50, 51, 52, 53, 54, 55, 56, 57, 97, 98, 99, 100, 101, 102] : List UInt8) e = some (hexc d) := by
  subst he
  rw [getIdx_nat]
  have key : ∀ e : Fin 16, ([48, 49, 50, 51, 52, 53, 54, 55, 56, 57, 97, 98, 99, 100, 101, 102] : List UInt8)[e.val]? = some (hexc e.val) := by decide +kernel
  exact key ⟨d, hd⟩

theorem and15 {x : Nat} (hx : x < 18446744073709551616) : andI .u64 (x : Int) 15 = ((x % 16 : Nat) : Int) := by
  unfold andI
  have e1 : BitVec.ofInt IntKind.u64.bits (x : Int) = BitVec.ofNat 64 x := by
    apply BitVec.eq_of_toNat_eq
    simp [IntKind.bits]
  have e2 : BitVec.ofInt IntKind.u64.bits 15 = BitVec.ofNat 64 15 := rfl
  rw [e1, e2]
  show IntKind.wrap .u64 ((((BitVec.ofNat 64 x : BitVec 64) &&& (BitVec.ofNat 64 15 : BitVec 64)).toNat : Nat) : Int) = _
  rw [wrapU64, ofInt_toNat]
  have : (BitVec.ofNat 64 x &&& BitVec.ofNat 64 15).toNat = x % 16 := by
    rw [BitVec.toNat_and, BitVec.toNat_ofNat, BitVec.toNat_ofNat, Nat.mod_eq_of_lt hx]
    have := Nat.and_two_pow_sub_one_eq_mod x 4
    simpa using this
  show (((BitVec.ofNat 64 x &&& BitVec.ofNat 64 15).toNat : Nat) : Int) = _
  rw [this]

theorem set_take {α : Type} {l D : List α} {i : Nat} {c : α} (hl : i < l.length) (ht : l.take i = D.take i) (hc : D[i]? = some c) : (l.set i c).take (i + 1) = D.take (i + 1) := by
  rw [List.take_add_one, List.take_add_one, List.take_set_of_le (Nat.le_refl _), ht, hc, List.getElem?_set_self hl]

theorem m23_loop (n v : Nat) (hv : v < 18446744073709551616) (k : List UInt8 → Option (List UInt8)) : ∀ (m i : Nat) (l : List UInt8), i ≤ 16 → l.length = 16 → l.take i = (D16 v).take i → 16 - i < m →
    loopM (m23_L1 n (v : Int) k) m ((i : Int), l) = k (D16 v)
  | 0, _, _, _, _, _, hm => absurd hm (Nat.not_lt_zero _)
  | m + 1, i, l, hi, hl, ht, hm => by
    rw [loopM_succ, m23_L1]
    by_cases hlt : i < 16
    · have hc : (decide ((i : Int) < 16)) = true := by simp; omega
      simp only [hc, if_true]
      have e1 : IntKind.wrap .i64 ((60 : Int) - IntKind.wrap .i64 ((4 : Int) * (i : Int))) = ((60 - 4 * i : Nat) : Int) := by
        rw [wrap64 (x := 4 * (i : Int)) (by omega) (by omega), wrap64 (by omega) (by omega)]; omega
      rw [e1, asrt_pos (by omega)]
      have e2 : shrI .u64 (v : Int) ((60 - 4 * i : Nat) : Int) = ((v / 16 ^ (15 - i) : Nat) : Int) := by
        unfold shrI
        rw [show min ((((60 - 4 * i : Nat)) : Int).toNat) IntKind.u64.bits = 4 * (15 - i) from by simp [IntKind.bits]; omega]
        rw [Int.fdiv_eq_ediv_of_nonneg _ (Int.le_of_lt (Int.pow_pos (by decide)))]
        rw [show (16 : Nat) = 2 ^ 4 from rfl, ← Nat.pow_mul]
        simp
      rw [e2, and15 (Nat.lt_of_le_of_lt (Nat.div_le_self _ _) hv), tab_at rfl (Nat.mod_lt _ (by decide))]
      simp only [Option.bind_some]
      rw [asrt_pos hl, getIdx_at rfl (by omega)]
      simp only [Option.bind_some]
      rw [setIdx_at rfl (by omega)]
      simp only [Option.bind_some, letM_eq]
      rw [wrap64 (by omega) (by omega)]
      have := m23_loop n v hv k m (i + 1) (l.set i (hexc (v / 16 ^ (15 - i) % 16))) (by omega) (by rw [List.length_set]; exact hl) (set_take (by omega) ht (D16_at v i hlt)) (by omega)
      exact_mod_cast this
    · have hc : (decide ((i : Int) < 16)) = false := by simp; omega
      simp only [hc, Bool.false_eq_true, if_false]
      have : i = 16 := by omega
      subst this
      rw [List.take_of_length_le (by omega), List.take_of_length_le (by rw [D16_len]; omega)] at ht
      rw [ht]
end Go.AB

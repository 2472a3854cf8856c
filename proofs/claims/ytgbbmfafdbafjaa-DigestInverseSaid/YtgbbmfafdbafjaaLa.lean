import Derived.Test.YtgbbmfafdbafjaaFa
import Derived.KernelRfl
namespace Go.AB
open Go

def stepD (h : Int) (c : UInt8) : Int :=
  xorI .u64 (IntKind.wrap .u64 ((xorI .u64 h (IntKind.wrap .u64 (c.toNat : Int))) * (11400714819323198485 : Int)))
    (shrI .u64 (IntKind.wrap .u64 ((xorI .u64 h (IntKind.wrap .u64 (c.toNat : Int))) * (11400714819323198485 : Int))) (29 : Int))

theorem wrap64 {x : Int} (h0 : -9223372036854775808 ≤ x) (h1 : x ≤ 9223372036854775807) : IntKind.wrap .i64 x = x := by
  simp [IntKind.wrap, IntKind.signed, IntKind.bits]; omega

theorem m15_loop (n : Nat) (b : List UInt8) (k : Int → Option Int) (hb : b.length ≤ 1000000000) :
    ∀ (m : Nat) (h : Int) (i : Nat), i ≤ b.length → b.length - i < m → loopM (m15_L1 n b k) m (h, (i : Int)) = k ((b.drop i).foldl stepD h)
  | 0, _, _, _, hm => absurd hm (Nat.not_lt_zero _)
  | m + 1, h, i, hi, hm => by
    rw [loopM_succ, m15_L1]
    by_cases hlt : i < b.length
    · have hc : (decide ((i : Int) < (b.length : Int))) = true := by simpa using hlt
      simp only [hc, if_true]
      rw [getIdx_nat, List.getElem?_eq_getElem hlt]
      simp only [Option.bind_some, letM]
      rw [wrap64 (by omega) (by omega)]
      have ih := m15_loop n b k hb m (stepD h b[i]) (i + 1) (by omega) (by omega)
      rw [List.drop_eq_getElem_cons hlt, List.foldl_cons, ← ih]
      rfl
    · have hc : (decide ((i : Int) < (b.length : Int))) = false := by simpa using hlt
      simp only [hc, Bool.false_eq_true, if_false]
      rw [List.drop_of_length_le (by omega), List.foldl_nil]

theorem m15_val {n : Nat} {s : Int} {b : List UInt8} (hb : b.length ≤ 1000000000) (hn : b.length < n) : m15 n s b = some (b.foldl stepD s) := by
  unfold m15 jn
  have := m15_loop n b (fun p => some p) hb n s 0 (Nat.zero_le _) (by omega)
  simpa using this

theorem m14_m15 (n : Nat) (s : Int) (b : List UInt8) : m14 n s b = m15 n s b := rfl
theorem m14_val {n : Nat} {s : Int} {b : List UInt8} (hb : b.length ≤ 1000000000) (hn : b.length < n) : m14 n s b = some (b.foldl stepD s) := (m14_m15 n s b).trans (m15_val hb hn)
theorem m12_val {n : Nat} {b : List UInt8} (hb : b.length ≤ 1000000000) (hn : b.length < n) : m12 n b = some (b.foldl stepD 1) := by
  unfold m12; rw [m14_val hb hn]; rfl
theorem m13_val {n : Nat} {b : List UInt8} (hb : b.length ≤ 1000000000) (hn : b.length < n) : m13 n b = some (b.foldl stepD 1) := by
  unfold m13; rw [m15_val hb hn]; rfl

theorem m10_true : m10 2000 = some true := by kernel_rfl

theorem m11_val (n : Nat) (b : List UInt8) : m11 n b = some (decide ((b.length : Int) ≤ 400)) := rfl

theorem m3_true (a0 : List UInt8) (a1 : Int) : m3 2000 a0 a1 = some true := by
  unfold m3
  rw [m10_true, m11_val]
  simp only [Option.bind_some, Bool.not_true, Bool.false_eq_true, if_false]
  by_cases h : (a0.length : Int) ≤ 400
  · have h1 : a0.length ≤ 1000000000 := by omega
    have h2 : a0.length < 2000 := by omega
    simp [h, m12_val h1 h2, m13_val h1 h2, m14_val h1 h2, m15_val h1 h2, gdO]
  · simp [h]
end Go.AB

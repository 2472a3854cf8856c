import Derived.Test.YtcahghigmlibjaaLa
namespace Go.AB
open Go

theorem wrapN (x : Nat) : IntKind.wrap .u64 (x : Int) = ((x % 18446744073709551616 : Nat) : Int) := by
  simp [IntKind.wrap, IntKind.signed, IntKind.bits]
theorem wrapN8 (x : Nat) : IntKind.wrap .u8 (x : Int) = ((x % 256 : Nat) : Int) := by
  simp [IntKind.wrap, IntKind.signed, IntKind.bits]
theorem b8N (x : Nat) : b8 (x : Int) = UInt8.ofNat (x % 256) := by
  unfold b8
  congr 1
theorem or_eq {x y : Nat} (hx : x < 72057594037927936) (hy : y < 256) : orI .u64 (shlI .u64 (x : Int) 8) (IntKind.wrap .u64 (y : Int)) = ((x * 256 + y : Nat) : Int) := by
  have e0 : shlI .u64 (x : Int) 8 = ((x * 256 : Nat) : Int) := by
    show IntKind.wrap .u64 ((x : Int) * 2 ^ min 8 64) = _
    rw [show ((x : Int) * 2 ^ min 8 64) = ((x * 256 : Nat) : Int) from by rw [show min 8 64 = 8 from rfl]; omega, wrapN]
    omega
  rw [e0, wrapN, Nat.mod_eq_of_lt (by omega)]
  unfold orI
  show IntKind.wrap .u64 (((BitVec.ofInt 64 ((x * 256 : Nat) : Int) ||| BitVec.ofInt 64 (y : Int)).toNat : Nat) : Int) = _
  have e1 : BitVec.ofInt 64 ((x * 256 : Nat) : Int) = BitVec.ofNat 64 (x * 256) := by
    generalize x * 256 = z
    apply BitVec.eq_of_toNat_eq; simp
  have e2 : BitVec.ofInt 64 (y : Int) = BitVec.ofNat 64 y := by
    apply BitVec.eq_of_toNat_eq; simp
  rw [e1, e2, wrapU64, ofInt_toNat, BitVec.toNat_or, BitVec.toNat_ofNat, BitVec.toNat_ofNat]
  have e3 : x * 256 % 2 ^ 64 = 2 ^ 8 * x := by omega
  have e4 : y % 2 ^ 64 = y := by omega
  rw [e3, e4, ← Nat.two_pow_add_eq_or_of_lt (by omega)]
  omega
theorem p256 {k : Nat} (h : k ≤ 7) : 256 ^ k ≤ 72057594037927936 := by
  have : (256 : Nat) ^ k ≤ 256 ^ 7 := Nat.pow_le_pow_right (by decide) h
  exact this
theorem num_take {l : List UInt8} {k : Nat} (h : k < l.length) : num (l.take (k + 1)) = num (l.take k) * 256 + l[k].toNat := by
  rw [List.take_succ_eq_append_getElem h, num_snoc]
theorem num_take_lt {l : List UInt8} {k : Nat} (hk : k ≤ 7) (h : k ≤ l.length) : num (l.take k) < 72057594037927936 :=
  Nat.lt_of_lt_of_le (num_lt k _ (by simp; omega)) (p256 hk)

theorem m37_val {n : Nat} {l : List UInt8} (hl : l.length ≤ 8) (hn : l.length < n) : m37 n l = some ((num l : Nat) : Int) := by
  unfold m37 jn
  refine loopM_ind (fun i s => ∃ k, k ≤ l.length ∧ i = l.length - k ∧ s = (((num (l.take k) : Nat) : Int), (k : Int))) (fun o => o = some ((num l : Nat) : Int)) ?_ n l.length _ ⟨0, Nat.zero_le _, rfl, rfl⟩ hn
  rintro i _ ⟨k, hk, rfl, rfl⟩
  rcases Nat.lt_or_ge k l.length with h | h
  · refine .inl ⟨l.length - (k + 1), (((num (l.take (k + 1)) : Nat) : Int), ((k + 1 : Nat) : Int)), by omega, ⟨k + 1, h, rfl, rfl⟩, fun nx => ?_⟩
    rw [m37_L1]
    simp only [show (decide ((k : Int) < (l.length : Int))) = true from by simpa using h, if_true, getIdx_at rfl h, Option.bind_some, letM]
    rw [or_eq (num_take_lt (by omega) hk) (UInt8.toNat_lt _), wrap64 (by omega) (by omega), num_take h]
    rfl
  · refine .inr ⟨_, rfl, fun nx => ?_⟩
    have : k = l.length := by omega
    subst this
    rw [m37_L1]
    simp

/-- the chain number at the end of a file -/
def chainN (b : List UInt8) : Nat := if b.length < 8 then 1 else num (b.drop (b.length - 8))
theorem chain_lt (b : List UInt8) : chainN b < 18446744073709551616 := by
  unfold chainN
  split
  · decide
  · exact num_lt 8 _ (by simp; omega)
theorem m30_val {n : Nat} {b : List UInt8} (hb : b.length ≤ 1000000000) (hn : 8 < n) : m30 n b = some ((chainN b : Nat) : Int) := by
  unfold m30 chainN
  by_cases h : b.length < 8
  · simp [h, show (b.length : Int) < 8 from by omega]
  · have h1 : (decide ((b.length : Int) < (8 : Int))) = false := by simp; omega
    rw [wrap64 (by omega) (by omega), slc_val (i := b.length - 8) (j := b.length) (by omega) rfl (by omega) (by omega)]
    simp only [h1, h, Bool.false_eq_true, if_false, Option.bind_some]
    rw [List.take_of_length_le (by simp), m37_val (by simp; omega) (by simp; omega)]
    rfl
theorem m32_val {n : Nat} {b : List UInt8} (hb : b.length ≤ 1000000000) (hn : 8 < n) : m32 n b = some ((chainN b : Nat) : Int) := by
  unfold m32 chainN jn letM
  by_cases h : b.length < 8
  · simp [h, show (b.length : Int) < 8 from by omega]
  · have h1 : (decide ((b.length : Int) < (8 : Int))) = false := by simp; omega
    simp only [h1, h, Bool.false_eq_true, if_false]
    rw [wrap64 (by omega) (by omega)]
    have hlen : (b.drop (b.length - 8)).length = 8 := by simp; omega
    generalize hd : b.drop (b.length - 8) = d at hlen
    have hat : ∀ j, j < 8 → ∀ hj : b.length - 8 + j < b.length, ∀ hj' : j < d.length, b[b.length - 8 + j] = d[j] := by
      intro j _ hj hj'
      subst hd
      simp
    refine loopM_ind (fun i s => ∃ j, j ≤ 8 ∧ i = 8 - j ∧ s = (((num (d.take j) : Nat) : Int), ((b.length - 8 + j : Nat) : Int))) (fun o => o = some ((num d : Nat) : Int)) ?_ n 8 _ ⟨0, Nat.zero_le _, rfl, ?_⟩ hn
    · rintro i _ ⟨j, hj, rfl, rfl⟩
      rcases Nat.lt_or_ge j 8 with h | h
      · refine .inl ⟨8 - (j + 1), (((num (d.take (j + 1)) : Nat) : Int), ((b.length - 8 + (j + 1) : Nat) : Int)), by omega, ⟨j + 1, h, rfl, rfl⟩, fun nx => ?_⟩
        rw [m32_L1]
        have hjb : b.length - 8 + j < b.length := by omega
        have hjd : j < d.length := by omega
        simp only [show (decide (((b.length - 8 + j : Nat) : Int) < (b.length : Int))) = true from by simp; omega, if_true, getIdx_at rfl hjb, Option.bind_some, letM]
        rw [hat j h hjb hjd]
        have hb1 := num_take_lt (l := d) (k := j) (by omega) (by omega)
        have hb2 := (d[j]).toNat_lt
        rw [show ((num (d.take j) : Nat) : Int) * 256 = ((num (d.take j) * 256 : Nat) : Int) from by omega, wrapN, wrapN, Nat.mod_eq_of_lt (by omega), Nat.mod_eq_of_lt (by omega),
          show ((num (d.take j) * 256 : Nat) : Int) + (((d[j]).toNat : Nat) : Int) = ((num (d.take j) * 256 + (d[j]).toNat : Nat) : Int) from by omega, wrapN, Nat.mod_eq_of_lt (by omega),
          wrap64 (by omega) (by omega), num_take hjd]
        congr 2
      · refine .inr ⟨_, rfl, fun nx => ?_⟩
        have : j = 8 := by omega
        subst this
        rw [m32_L1, show b.length - 8 + 8 = b.length from by omega]
        simp
        rw [List.take_of_length_le (by omega)]
    · simp [num]; omega

theorem sh_eq (y : Int) (k : Nat) (hk : k ≤ 64) : IntKind.wrap .u8 (shrI .u64 y (k : Int)) = (y / 2 ^ k) % 256 := by
  have h2 : min ((k : Int).toNat) IntKind.u64.bits = k := by simp [IntKind.bits]; omega
  unfold shrI
  rw [h2, Int.fdiv_eq_ediv_of_nonneg _ (Int.le_of_lt (Int.pow_pos (by decide)))]
  simp [IntKind.wrap, IntKind.signed, IntKind.bits]
theorem sh_byte {y k : Nat} (hk : k ≤ 7) : b8 (IntKind.wrap .u8 (shrI .u64 (y : Int) (IntKind.wrap .i64 (8 * (k : Int))))) = UInt8.ofNat (y / 256 ^ k % 256) := by
  rw [wrap64 (by omega) (by omega), show (8 * (k : Int)) = ((8 * k : Nat) : Int) from by omega, sh_eq _ _ (by omega)]
  have e : ((y : Int) / 2 ^ (8 * k)) % 256 = ((y / 256 ^ k % 256 : Nat) : Int) := by
    rw [show (256 : Nat) = 2 ^ 8 from rfl, ← Nat.pow_mul]
    simp
  rw [e, b8N, Nat.mod_mod]
end Go.AB

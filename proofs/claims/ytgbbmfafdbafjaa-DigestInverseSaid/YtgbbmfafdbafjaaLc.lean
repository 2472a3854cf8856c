import Derived.Test.YtgbbmfafdbafjaaLb
namespace Go.AB
open Go

def by25 (y : Int) : List UInt8 := [b8 (IntKind.wrap .u8 (shrI .u64 y 56)), b8 (IntKind.wrap .u8 (shrI .u64 y 48)), b8 (IntKind.wrap .u8 (shrI .u64 y 40)), b8 (IntKind.wrap .u8 (shrI .u64 y 32)),
  b8 (IntKind.wrap .u8 (shrI .u64 y 24)), b8 (IntKind.wrap .u8 (shrI .u64 y 16)), b8 (IntKind.wrap .u8 (shrI .u64 y 8)), b8 (IntKind.wrap .u8 (shrI .u64 y 0))]
theorem m25_val (y : Int) : m25 2000 y = some (by25 y) := by kernel_rfl

def dv (y : Int) : Int := IntKind.wrap .u64 (y.tdiv 256)
def md (y : Int) : UInt8 := b8 (IntKind.wrap .u8 (y.tmod 256))
def by26 (y : Int) : List UInt8 := [md (dv (dv (dv (dv (dv (dv (dv y))))))), md (dv (dv (dv (dv (dv (dv y)))))), md (dv (dv (dv (dv (dv y))))), md (dv (dv (dv (dv y)))), md (dv (dv (dv y))), md (dv (dv y)), md (dv y), md y]
theorem m26_val (y : Int) : m26 2000 y = some (by26 y) := by kernel_rfl

theorem dv_eq {y : Int} (h0 : 0 ≤ y) (h1 : y < 18446744073709551616) : dv y = y / 256 := by
  unfold dv
  rw [Int.tdiv_eq_ediv_of_nonneg h0]
  simp [IntKind.wrap, IntKind.signed, IntKind.bits]
  omega
theorem md_eq {y : Int} (h0 : 0 ≤ y) : md y = b8 (y % 256) := by
  unfold md
  rw [Int.tmod_eq_emod_of_nonneg h0]
  congr 1
  simp [IntKind.wrap, IntKind.signed, IntKind.bits]
theorem sh_eq (y : Int) (k : Nat) (hk : k ≤ 64) : IntKind.wrap .u8 (shrI .u64 y (k : Int)) = (y / 2 ^ k) % 256 := by
  have h2 : min ((k : Int).toNat) IntKind.u64.bits = k := by simp [IntKind.bits]; omega
  unfold shrI
  rw [h2, Int.fdiv_eq_ediv_of_nonneg _ (Int.le_of_lt (Int.pow_pos (by decide)))]
  simp [IntKind.wrap, IntKind.signed, IntKind.bits]

theorem by25_by26 {y : Int} (h0 : 0 ≤ y) (h1 : y < 18446744073709551616) : by25 y = by26 y := by
  have d1 := dv_eq h0 h1
  have d2 : dv (dv y) = y / 65536 := by rw [d1, dv_eq (by omega) (by omega)]; omega
  have d3 : dv (dv (dv y)) = y / 16777216 := by rw [d2, dv_eq (by omega) (by omega)]; omega
  have d4 : dv (dv (dv (dv y))) = y / 4294967296 := by rw [d3, dv_eq (by omega) (by omega)]; omega
  have d5 : dv (dv (dv (dv (dv y)))) = y / 1099511627776 := by rw [d4, dv_eq (by omega) (by omega)]; omega
  have d6 : dv (dv (dv (dv (dv (dv y))))) = y / 281474976710656 := by rw [d5, dv_eq (by omega) (by omega)]; omega
  have d7 : dv (dv (dv (dv (dv (dv (dv y)))))) = y / 72057594037927936 := by rw [d6, dv_eq (by omega) (by omega)]; omega
  unfold by25 by26
  rw [d7, d6, d5, d4, d3, d2, d1]
  rw [md_eq (by omega), md_eq (by omega), md_eq (by omega), md_eq (by omega), md_eq (by omega), md_eq (by omega), md_eq (by omega), md_eq (by omega)]
  have e7 : IntKind.wrap .u8 (shrI .u64 y 56) = (y / 72057594037927936) % 256 := by
    have h := sh_eq y 56 (by decide)
    rw [show ((2 : Int) ^ 56) = 72057594037927936 from by decide] at h
    exact h
  have e6 : IntKind.wrap .u8 (shrI .u64 y 48) = (y / 281474976710656) % 256 := by
    have h := sh_eq y 48 (by decide)
    rw [show ((2 : Int) ^ 48) = 281474976710656 from by decide] at h
    exact h
  have e5 : IntKind.wrap .u8 (shrI .u64 y 40) = (y / 1099511627776) % 256 := by
    have h := sh_eq y 40 (by decide)
    rw [show ((2 : Int) ^ 40) = 1099511627776 from by decide] at h
    exact h
  have e4 : IntKind.wrap .u8 (shrI .u64 y 32) = (y / 4294967296) % 256 := by
    have h := sh_eq y 32 (by decide)
    rw [show ((2 : Int) ^ 32) = 4294967296 from by decide] at h
    exact h
  have e3 : IntKind.wrap .u8 (shrI .u64 y 24) = (y / 16777216) % 256 := by
    have h := sh_eq y 24 (by decide)
    rw [show ((2 : Int) ^ 24) = 16777216 from by decide] at h
    exact h
  have e2 : IntKind.wrap .u8 (shrI .u64 y 16) = (y / 65536) % 256 := by
    have h := sh_eq y 16 (by decide)
    rw [show ((2 : Int) ^ 16) = 65536 from by decide] at h
    exact h
  have e1 : IntKind.wrap .u8 (shrI .u64 y 8) = (y / 256) % 256 := by
    have h := sh_eq y 8 (by decide)
    rw [show ((2 : Int) ^ 8) = 256 from by decide] at h
    exact h
  have e0 : IntKind.wrap .u8 (shrI .u64 y 0) = y % 256 := by
    have h := sh_eq y 0 (by decide)
    rw [show ((2 : Int) ^ 0) = 1 from by decide, Int.ediv_one] at h
    exact h
  rw [e7, e6, e5, e4, e3, e2, e1, e0]

theorem by26_len (y : Int) : (by26 y).length = 8 := rfl
theorem by25_len (y : Int) : (by25 y).length = 8 := rfl

theorem fold_u64 (b : List UInt8) : 0 ≤ b.foldl stepD 1 ∧ b.foldl stepD 1 < 18446744073709551616 := by
  have h := fold_g64 b 1#64
  rw [show ((1#64 : BitVec 64).toNat : Int) = 1 from rfl] at h
  rw [h]
  have := (b.foldl g64 1#64).isLt
  omega

/-- what both say of a checksum -/
def sum8 (b : List UInt8) : List UInt8 := by26 (b.foldl stepD 1)

theorem m19_val {b : List UInt8} (hb : b.length ≤ 1000) : m19 2000 b = some (b ++ sum8 b) := by
  unfold m19
  rw [m12_val (by omega) (by omega)]
  simp only [Option.bind_some]
  rw [m25_val, by25_by26 (fold_u64 b).1 (fold_u64 b).2]
  simp only [Option.bind_some]
  rw [wrap64 (by omega) (by omega), asrt_pos (by26_len _)]
  have hm : mk (0 : UInt8) 0 ((b.length : Int) + 8) = some [] := by
    unfold mk
    rw [if_pos (by omega)]; rfl
  rw [hm]
  simp only [Option.bind_some]
  rw [apd_nil (by omega)]
  simp only [Option.bind_some]
  rw [asrt_pos (by26_len _), apd_val (by rw [by26_len]; omega)]
  rfl
theorem m20_val {b : List UInt8} (hb : b.length ≤ 1000) : m20 2000 b = some (b ++ sum8 b) := by
  unfold m20
  rw [apd_nil (by omega)]
  simp only [Option.bind_some]
  rw [m13_val (by omega) (by omega)]
  simp only [Option.bind_some]
  rw [m26_val]
  simp only [Option.bind_some]
  rw [apd_val (by rw [by26_len]; omega)]
  rfl

theorem slc_take {b : List UInt8} {k : Nat} (h : k ≤ b.length) : slc b 0 (k : Int) = some (b.take k) := by
  unfold slc
  rw [if_pos (by omega)]; simp
theorem slc_drop {b : List UInt8} {k : Nat} (h : k ≤ b.length) : slc b (k : Int) (b.length : Int) = some (b.drop k) := by
  unfold slc
  rw [if_pos (by omega)]
  simp only [Int.toNat_natCast]
  rw [List.take_of_length_le (by rw [List.length_drop]; omega)]

/-- what both make of a sealed byte string -/
def open8 (b : List UInt8) : List UInt8 × Int :=
  if b.length < 8 then ([], 4) else if sum8 (b.take (b.length - 8)) = b.drop (b.length - 8) then (b.take (b.length - 8), 0) else ([], 5)

theorem m17_val {b : List UInt8} (hb : b.length ≤ 1000) : m17 2000 b = some (open8 b) := by
  unfold m17 open8
  by_cases h : b.length < 8
  · have hc : decide ((b.length : Int) < 8) = true := by simp; omega
    rw [if_pos hc, if_pos h]
  · have hc : ¬ decide ((b.length : Int) < 8) = true := by simp; omega
    rw [if_neg hc, if_neg h, letM_eq, wrap64 (by omega) (by omega), show (b.length : Int) - 8 = ((b.length - 8 : Nat) : Int) from by omega, slc_take (by omega), slc_drop (by omega)]
    simp only [Option.bind_some]
    rw [m13_val (by rw [List.length_take]; omega) (by rw [List.length_take]; omega)]
    simp only [Option.bind_some]
    rw [m26_val]
    simp only [Option.bind_some]
    by_cases he : sum8 (b.take (b.length - 8)) = b.drop (b.length - 8)
    · rw [if_pos he]
      have : (by26 ((b.take (b.length - 8)).foldl stepD 1) == b.drop (b.length - 8)) = true := by rw [beq_iff_eq]; exact he
      rw [this]
      simp [apd_nil (show (b.take (b.length - 8)).length ≤ 1000000000 by rw [List.length_take]; omega)]
    · rw [if_neg he]
      have : (by26 ((b.take (b.length - 8)).foldl stepD 1) == b.drop (b.length - 8)) = false := by rw [beq_eq_false_iff_ne]; exact he
      rw [this]
      simp
theorem m16_val {b : List UInt8} (hb : b.length ≤ 1000) : m16 2000 b = some (open8 b) := by
  unfold m16 open8
  by_cases h : b.length < 8
  · have hc : decide ((b.length : Int) < 8) = true := by simp; omega
    rw [if_pos hc, if_pos h]
  · have hc : ¬ decide ((b.length : Int) < 8) = true := by simp; omega
    have h8 : (b.drop (b.length - 8)).length = 8 := by rw [List.length_drop]; omega
    rw [if_neg hc, if_neg h, letM_eq, wrap64 (by omega) (by omega), show (b.length : Int) - 8 = ((b.length - 8 : Nat) : Int) from by omega, slc_take (by omega), slc_drop (by omega)]
    simp only [Option.bind_some]
    rw [m12_val (by rw [List.length_take]; omega) (by rw [List.length_take]; omega)]
    simp only [Option.bind_some]
    rw [m25_val, by25_by26 (fold_u64 _).1 (fold_u64 _).2]
    simp only [Option.bind_some]
    rw [asrt_pos (by26_len _), asrt_pos (by26_len _), asrt_pos (by omega), asrt_pos h8, asrt_pos (by26_len _), asrt_pos h8]
    by_cases he : sum8 (b.take (b.length - 8)) = b.drop (b.length - 8)
    · rw [if_pos he]
      have : (by26 ((b.take (b.length - 8)).foldl stepD 1) == b.drop (b.length - 8)) = true := by rw [beq_iff_eq]; exact he
      rw [this]
      simp [apd_nil (show (b.take (b.length - 8)).length ≤ 1000000000 by rw [List.length_take]; omega)]
    · rw [if_neg he]
      have : (by26 ((b.take (b.length - 8)).foldl stepD 1) == b.drop (b.length - 8)) = false := by rw [beq_eq_false_iff_ne]; exact he
      rw [this]
      simp

theorem m6_true (a0 : List UInt8) : m6 2000 a0 = some true := by
  unfold m6
  rw [m10_true, m11_val]
  simp only [Option.bind_some, Bool.not_true, Bool.false_eq_true, if_false]
  by_cases h : (a0.length : Int) ≤ 400
  · have e1 : a0.length ≤ 1000 := by omega
    simp [h, m16_val e1, m17_val e1, m19_val e1, m20_val e1, m18, gdO]
  · simp [h]
end Go.AB

import Derived.Test.YtgbbmfafdbafjaaLa
namespace Go.AB
open Go

theorem apd_nil {xs : List UInt8} (h : xs.length ≤ 1000000000) : apd ([] : List UInt8) xs = some xs := by
  unfold apd
  rw [if_pos (by simp; omega)]; rfl
theorem apd_val {α : Type} {xs ys : List α} (h : xs.length + ys.length ≤ 1000000000) : apd xs ys = some (xs ++ ys) := by
  unfold apd
  rw [if_pos (by omega)]

theorem m4_true (a0 : Int) (a1 a2 : List UInt8) : m4 2000 a0 a1 a2 = some true := by
  unfold m4
  rw [m10_true, m11_val, m11_val]
  simp only [Option.bind_some, Bool.not_true, Bool.false_eq_true, if_false]
  by_cases h1 : (a1.length : Int) ≤ 400
  · by_cases h2 : (a2.length : Int) ≤ 400
    · have e1 : a1.length ≤ 1000000000 := by omega
      have e2 : a1.length < 2000 := by omega
      have e3 : a2.length ≤ 1000000000 := by omega
      have e4 : a2.length < 2000 := by omega
      have e5 : (a1 ++ a2).length ≤ 1000000000 := by rw [List.length_append]; omega
      have e6 : (a1 ++ a2).length < 2000 := by rw [List.length_append]; omega
      have e7 : a1.length + a2.length ≤ 1000000000 := by omega
      have e8 : ([] : List UInt8).length ≤ 1000000000 := by simp
      have e9 : ([] : List UInt8).length < 2000 := by simp
      simp [h1, h2, gdO, apd_nil e1, apd_val e7, m14_val e1 e2, m14_val e3 e4, m14_val e5 e6, m14_val e8 e9, m12_val e1 e2, m12_val e5 e6, List.foldl_append]
    · simp [h1, h2, gdO]
  · simp [h1, gdO]

/-- one round of the checksum on 64 bits -/
def g64 (v : BitVec 64) (c : UInt8) : BitVec 64 :=
  ((v ^^^ BitVec.ofNat 64 c.toNat) * 11400714819323198485#64) ^^^ (((v ^^^ BitVec.ofNat 64 c.toNat) * 11400714819323198485#64) >>> 29)

theorem wrapU64 (x : Int) : IntKind.wrap .u64 x = ((BitVec.ofInt 64 x).toNat : Int) := by
  simp [IntKind.wrap, IntKind.signed, IntKind.bits, BitVec.toNat_ofInt]
  omega

theorem ofInt_toNat (v : BitVec 64) : BitVec.ofInt 64 (v.toNat : Int) = v := by
  apply BitVec.eq_of_toNat_eq
  simp

theorem stepD_g64 (v : BitVec 64) (c : UInt8) : stepD (v.toNat : Int) c = ((g64 v c).toNat : Int) := by
  have hx : ∀ a b : BitVec 64, xorI .u64 (a.toNat : Int) (b.toNat : Int) = (((a ^^^ b).toNat : Nat) : Int) := by
    intro a b
    unfold xorI
    show IntKind.wrap .u64 (((BitVec.ofInt 64 (a.toNat : Int) ^^^ BitVec.ofInt 64 (b.toNat : Int)).toNat : Nat) : Int) = _
    rw [ofInt_toNat, ofInt_toNat, wrapU64, ofInt_toNat]
  have hc : IntKind.wrap .u64 (c.toNat : Int) = ((BitVec.ofNat 64 c.toNat).toNat : Int) := by
    rw [wrapU64]
    congr 1
  have hm : ∀ a : BitVec 64, IntKind.wrap .u64 ((a.toNat : Int) * (11400714819323198485 : Int)) = ((a * 11400714819323198485#64).toNat : Int) := by
    intro a
    rw [wrapU64, BitVec.ofInt_mul, ofInt_toNat]
    rfl
  have hs : ∀ a : BitVec 64, shrI .u64 (a.toNat : Int) (29 : Int) = ((a >>> 29).toNat : Int) := by
    intro a
    unfold shrI
    rw [BitVec.toNat_ushiftRight, Nat.shiftRight_eq_div_pow]
    show Int.fdiv (a.toNat : Int) (2 ^ min 29 64) = _
    rw [Int.fdiv_eq_ediv_of_nonneg _ (by decide)]
    rfl
  unfold stepD g64
  rw [hc, hx, hm, hs, hx]

theorem g64_inj {v w : BitVec 64} {c : UInt8} (h : g64 v c = g64 w c) : v = w := by
  have key : ∀ x y : BitVec 64, x ^^^ (x >>> 29) = y ^^^ (y >>> 29) → x = y := by
    intro x y h
    have h1 : x ^^^ y = (x ^^^ y) >>> 29 := by
      have h2 : (x ^^^ (x >>> 29)) ^^^ (y ^^^ (y >>> 29)) = 0#64 := by rw [h, BitVec.xor_self]
      have h3 : (x ^^^ y) ^^^ ((x ^^^ y) >>> 29) = 0#64 := by
        rw [BitVec.ushiftRight_xor_distrib, ← h2]
        ac_rfl
      exact BitVec.xor_eq_zero_iff.1 h3
    have h4 := congrArg BitVec.toNat h1
    rw [BitVec.toNat_ushiftRight, Nat.shiftRight_eq_div_pow] at h4
    have h5 : (x ^^^ y).toNat = 0 := by omega
    have h6 : x ^^^ y = 0#64 := BitVec.eq_of_toNat_eq (by simpa using h5)
    exact BitVec.xor_eq_zero_iff.1 h6
  have h1 := key _ _ h
  have hk : (11400714819323198485#64 * 17428512612931826493#64) = 1#64 := by decide
  have h2 : v ^^^ BitVec.ofNat 64 c.toNat = w ^^^ BitVec.ofNat 64 c.toNat := by
    have h3 := congrArg (· * 17428512612931826493#64) h1
    simpa [BitVec.mul_assoc, hk] using h3
  have h3 : (v ^^^ BitVec.ofNat 64 c.toNat) ^^^ BitVec.ofNat 64 c.toNat = (w ^^^ BitVec.ofNat 64 c.toNat) ^^^ BitVec.ofNat 64 c.toNat := by rw [h2]
  simpa [BitVec.xor_assoc] using h3

theorem fold_g64 (b : List UInt8) : ∀ v : BitVec 64, b.foldl stepD (v.toNat : Int) = ((b.foldl g64 v).toNat : Int) := by
  induction b with
  | nil => intro v; rfl
  | cons c b ih => intro v; rw [List.foldl_cons, stepD_g64, ih, List.foldl_cons]
theorem fold_inj (b : List UInt8) : ∀ v w : BitVec 64, b.foldl g64 v = b.foldl g64 w → v = w := by
  induction b with
  | nil => intro v w h; exact h
  | cons c b ih => intro v w h; exact g64_inj (ih _ _ h)

theorem u64_of {a : Int} (h : (Lit.int .u64 a).wf = true) : ∃ v : BitVec 64, a = (v.toNat : Int) := by
  simp [Lit.wf, IntKind.min, IntKind.max, IntKind.signed, IntKind.bits] at h
  refine ⟨BitVec.ofInt 64 a, ?_⟩
  simp [BitVec.toNat_ofInt]
  omega

theorem m5_true (a0 : List UInt8) {a1 a2 : Int} (h1 : (Lit.int .u64 a1).wf = true) (h2 : (Lit.int .u64 a2).wf = true) : m5 2000 a0 a1 a2 = some true := by
  unfold m5
  rw [m10_true, m11_val]
  simp only [Option.bind_some, Bool.not_true, Bool.false_eq_true, if_false]
  by_cases h : (a0.length : Int) ≤ 400
  · have e1 : a0.length ≤ 1000000000 := by omega
    have e2 : a0.length < 2000 := by omega
    obtain ⟨v, rfl⟩ := u64_of h1
    obtain ⟨w, rfl⟩ := u64_of h2
    rw [m14_val e1 e2, m14_val e1 e2, fold_g64, fold_g64]
    have hi : ((((a0.foldl g64 v).toNat : Nat) : Int) = (((a0.foldl g64 w).toNat : Nat) : Int)) ↔ ((v.toNat : Int) = (w.toNat : Int)) := by
      constructor
      · intro h
        rw [fold_inj a0 v w (BitVec.eq_of_toNat_eq (Int.ofNat.inj h))]
      · intro h
        rw [BitVec.eq_of_toNat_eq (Int.ofNat.inj h)]
    simp only [Option.bind_some, h, decide_true, Bool.not_true, Bool.false_eq_true, if_false, hi]
    simp
  · simp [h]
end Go.AB

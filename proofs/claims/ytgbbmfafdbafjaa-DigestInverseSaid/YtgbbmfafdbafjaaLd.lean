import Derived.Test.YtgbbmfafdbafjaaLc
import Derived.Test.YtgbbmfafdbafjaaFb
namespace Go.AB
open Go

theorem b8_inj {a b : Int} (ha : 0 ≤ a ∧ a < 256) (hb : 0 ≤ b ∧ b < 256) (h : b8 a = b8 b) : a = b := by
  unfold b8 at h
  have := congrArg UInt8.toNat h
  rw [UInt8.toNat_ofNat', UInt8.toNat_ofNat'] at this
  omega

theorem by26_inj {y z : Int} (hy : 0 ≤ y ∧ y < 18446744073709551616) (hz : 0 ≤ z ∧ z < 18446744073709551616) (h : by26 y = by26 z) : y = z := by
  have key : ∀ y : Int, 0 ≤ y ∧ y < 18446744073709551616 → by26 y = [b8 (y / 72057594037927936 % 256), b8 (y / 281474976710656 % 256), b8 (y / 1099511627776 % 256), b8 (y / 4294967296 % 256), b8 (y / 16777216 % 256), b8 (y / 65536 % 256), b8 (y / 256 % 256), b8 (y % 256)] := by
    intro y hy
    obtain ⟨h0, h1⟩ := hy
    have d1 := dv_eq h0 h1
    have d2 : dv (dv y) = y / 65536 := by rw [d1, dv_eq (by omega) (by omega)]; omega
    have d3 : dv (dv (dv y)) = y / 16777216 := by rw [d2, dv_eq (by omega) (by omega)]; omega
    have d4 : dv (dv (dv (dv y))) = y / 4294967296 := by rw [d3, dv_eq (by omega) (by omega)]; omega
    have d5 : dv (dv (dv (dv (dv y)))) = y / 1099511627776 := by rw [d4, dv_eq (by omega) (by omega)]; omega
    have d6 : dv (dv (dv (dv (dv (dv y))))) = y / 281474976710656 := by rw [d5, dv_eq (by omega) (by omega)]; omega
    have d7 : dv (dv (dv (dv (dv (dv (dv y)))))) = y / 72057594037927936 := by rw [d6, dv_eq (by omega) (by omega)]; omega
    unfold by26
    rw [d7, d6, d5, d4, d3, d2, d1]
    rw [md_eq (by omega), md_eq (by omega), md_eq (by omega), md_eq (by omega), md_eq (by omega), md_eq (by omega), md_eq (by omega), md_eq (by omega)]
  rw [key y hy, key z hz] at h
  simp only [List.cons.injEq, and_true] at h
  obtain ⟨h7, h6, h5, h4, h3, h2, h1, h0⟩ := h
  have i7 := b8_inj (by omega) (by omega) h7
  have i6 := b8_inj (by omega) (by omega) h6
  have i5 := b8_inj (by omega) (by omega) h5
  have i4 := b8_inj (by omega) (by omega) h4
  have i3 := b8_inj (by omega) (by omega) h3
  have i2 := b8_inj (by omega) (by omega) h2
  have i1 := b8_inj (by omega) (by omega) h1
  have i0 := b8_inj (by omega) (by omega) h0
  omega

theorem g64_byte {v : BitVec 64} {c e : UInt8} (h : g64 v c = g64 v e) : c = e := by
  have key : ∀ x y : BitVec 64, x ^^^ (x >>> 29) = y ^^^ (y >>> 29) → x = y := by
    intro x y h
    have h1 : x ^^^ y = (x ^^^ y) >>> 29 := by
      have h2 : (x ^^^ (x >>> 29)) ^^^ (y ^^^ (y >>> 29)) = 0#64 := by rw [h, BitVec.xor_self]
      have h3 : (x ^^^ y) ^^^ ((x ^^^ y) >>> 29) = 0#64 := by
        rw [BitVec.ushiftRight_xor_distrib, ← h2]
        ac_rfl
      exact BitVec.xor_eq_zero_iff.1 h3
    have h4 := congrArg BitVec.toNat h1
    rw [BitVec.toNat_ushiftRight, Nat.shiftRight_eq_div_pow] at h4
    have h5 : (x ^^^ y).toNat = 0 := by omega
    have h6 : x ^^^ y = 0#64 := BitVec.eq_of_toNat_eq (by simpa using h5)
    exact BitVec.xor_eq_zero_iff.1 h6
  have h1 := key _ _ h
  have hk : (11400714819323198485#64 * 17428512612931826493#64) = 1#64 := by decide
  have h2 : v ^^^ BitVec.ofNat 64 c.toNat = v ^^^ BitVec.ofNat 64 e.toNat := by
    have h3 := congrArg (· * 17428512612931826493#64) h1
    simpa [BitVec.mul_assoc, hk] using h3
  have h3 : v ^^^ (v ^^^ BitVec.ofNat 64 c.toNat) = v ^^^ (v ^^^ BitVec.ofNat 64 e.toNat) := by rw [h2]
  simp only [← BitVec.xor_assoc, BitVec.xor_self, BitVec.zero_xor] at h3
  have h4 := congrArg BitVec.toNat h3
  rw [BitVec.toNat_ofNat, BitVec.toNat_ofNat] at h4
  have l1 := c.toNat_lt
  have l2 := e.toNat_lt
  exact UInt8.toNat_inj.1 (by omega)

/-- one byte another: another checksum -/
theorem fold_set (b : List UInt8) : ∀ (v : BitVec 64) (j : Nat) (c e : UInt8), b[j]? = some c → e ≠ c → (b.set j e).foldl g64 v ≠ b.foldl g64 v := by
  induction b with
  | nil => intro v j c e h; simp at h
  | cons a b ih =>
    intro v j c e h hne
    cases j with
    | zero =>
      simp at h
      subst h
      rw [List.set_cons_zero, List.foldl_cons, List.foldl_cons]
      intro hf
      exact hne (g64_byte (fold_inj b _ _ hf))
    | succ j =>
      simp at h
      rw [List.set_cons_succ, List.foldl_cons, List.foldl_cons]
      exact ih _ j c e h hne

theorem fold_set_D {b : List UInt8} {s : Int} (hs : (Lit.int .u64 s).wf = true) {j : Nat} {c e : UInt8} (h : b[j]? = some c) (hne : e ≠ c) : (b.set j e).foldl stepD s ≠ b.foldl stepD s := by
  obtain ⟨v, rfl⟩ := u64_of hs
  rw [fold_g64, fold_g64]
  intro hf
  exact fold_set b v j c e h hne (BitVec.eq_of_toNat_eq (Int.ofNat.inj hf))

theorem sum8_set {b : List UInt8} {j : Nat} {c e : UInt8} (h : b[j]? = some c) (hne : e ≠ c) : sum8 (b.set j e) ≠ sum8 b := by
  intro hs
  exact fold_set_D (s := 1) rfl h hne (by26_inj (fold_u64 _) (fold_u64 _) hs)

theorem open8_set {b : List UInt8} {j : Nat} {c e : UInt8} (h : (b ++ sum8 b)[j]? = some c) (hne : e ≠ c) : open8 ((b ++ sum8 b).set j e) = ([], 5) := by
  have hl : (b ++ sum8 b).length = b.length + 8 := by rw [List.length_append]; rfl
  have hj : j < b.length + 8 := by rw [← hl]; exact (List.getElem?_eq_some_iff.1 h).1
  unfold open8
  rw [List.length_set, hl, if_neg (by omega), Nat.add_sub_cancel, if_neg]
  rcases Nat.lt_or_ge j b.length with hlt | hge
  · rw [List.set_append_left _ _ hlt, List.take_left' (by simp), List.drop_left' (by simp)]
    rw [List.getElem?_append_left hlt] at h
    exact sum8_set h hne
  · rw [List.set_append_right _ _ hge, List.take_left' rfl, List.drop_left' rfl]
    rw [List.getElem?_append_right hge] at h
    intro he
    have := congrArg (fun l => l[j - b.length]?) he
    simp only [h] at this
    have hlt : j - b.length < (sum8 b).length := (List.getElem?_eq_some_iff.1 h).1
    rw [List.getElem?_set_self hlt] at this
    exact hne (Option.some.inj this).symm

theorem xor8_ne {y d : UInt8} (hd : d ≠ 0) : b8 (xorI .u8 (y.toNat : Int) (d.toNat : Int)) ≠ y := by
  have h : ∀ y d : UInt8, b8 (xorI .u8 (y.toNat : Int) (d.toNat : Int)) = y ^^^ d := by
    intro y d
    have ho : ∀ c : UInt8, BitVec.ofInt 8 (c.toNat : Int) = c.toBitVec := by
      intro c
      apply BitVec.eq_of_toNat_eq
      have := c.toNat_lt
      simp
    unfold xorI
    show b8 (IntKind.wrap .u8 (((BitVec.ofInt 8 (y.toNat : Int) ^^^ BitVec.ofInt 8 (d.toNat : Int)).toNat : Nat) : Int)) = _
    rw [ho, ho]
    have he : (y.toBitVec ^^^ d.toBitVec).toNat = (y ^^^ d).toNat := rfl
    rw [he]
    generalize y ^^^ d = z
    have hlt := z.toNat_lt
    have hw : IntKind.wrap .u8 ((z.toNat : Nat) : Int) = ((z.toNat : Nat) : Int) := by
      simp only [IntKind.wrap, IntKind.signed, IntKind.bits]
      simp
      omega
    rw [hw, b8_toNat]
  rw [h]
  intro he
  apply hd
  have : y ^^^ (y ^^^ d) = y ^^^ y := by rw [he]
  rwa [← UInt8.xor_assoc, UInt8.xor_self, UInt8.zero_xor] at this

theorem m19o_m19 (n : Nat) (b : List UInt8) : m19o n b = m19 n b := rfl

theorem getIdx_at {α : Type} {xs : List α} {i : Int} {k : Nat} (hi : i = (k : Int)) (hk : k < xs.length) : getIdx xs i = some xs[k] := by
  subst hi
  rw [getIdx_nat, List.getElem?_eq_getElem hk]
theorem setIdx_at {α : Type} {xs : List α} {i : Int} {k : Nat} {y : α} (hi : i = (k : Int)) (hk : k < xs.length) : setIdx xs i y = some (xs.set k y) := by
  subst hi
  unfold setIdx
  rw [if_pos (by omega)]; simp

theorem m7_true (a0 : List UInt8) {a1 c0 c1 : Int} (h1 : (Lit.int .u64 a1).wf = true) (hc0 : 0 ≤ c0 ∧ c0 < 65536) : m7 2000 a0 a1 [c0, c1] = some true := by
  unfold m7
  rw [m10_true, m11_val]
  simp only [Option.bind_some, Bool.not_true, Bool.false_eq_true, if_false]
  rw [asrt_pos (show [c0, c1].length = 2 from rfl), show getIdx [c0, c1] 1 = some c1 from rfl]
  simp only [Option.bind_some, letM_eq]
  generalize b8 (IntKind.wrap .u8 c1) = d
  by_cases hcond : ((!decide ((a0.length : Int) ≤ 400)) || decide ((d.toNat : Int) = 0)) = true
  · rw [if_pos hcond]
  · rw [if_neg hcond]
    simp only [Bool.or_eq_true, Bool.not_eq_true', decide_eq_false_iff_not, decide_eq_true_eq, not_or, Classical.not_not] at hcond
    obtain ⟨hl, hd⟩ := hcond
    have hd0 : d ≠ 0 := fun e => hd (by rw [e]; rfl)
    have hlen : (a0 ++ sum8 a0).length = a0.length + 8 := by rw [List.length_append]; rfl
    have hw : IntKind.wrap .i64 c0 = c0 := wrap64 (by omega) (by omega)
    rw [m19o_m19, m19_val (by omega)]
    simp only [Option.bind_some]
    rw [if_neg (by rw [hlen]; simp; omega), asrt_pos (show [c0, c1].length = 2 from rfl), show getIdx [c0, c1] 0 = some c0 from rfl]
    simp only [Option.bind_some, hw]
    rw [asrt_pos (by rw [hlen]; omega)]
    have hj1 : c0.tmod ((a0 ++ sum8 a0).length : Int) = ((c0.toNat % (a0.length + 8) : Nat) : Int) := by
      rw [hlen, Int.tmod_eq_emod_of_nonneg hc0.1]
      have : c0 = (c0.toNat : Int) := by omega
      rw [this]
      simp
    have hk1 : c0.toNat % (a0.length + 8) < (a0 ++ sum8 a0).length := by rw [hlen]; exact Nat.mod_lt _ (by omega)
    rw [getIdx_at hj1 hk1]
    simp only [Option.bind_some]
    rw [setIdx_at hj1 hk1]
    simp only [Option.bind_some]
    rw [m16_val (by rw [List.length_set, hlen]; omega), open8_set (List.getElem?_eq_getElem hk1) (xor8_ne hd0)]
    simp only [Option.bind_some]
    rw [if_neg (by decide)]
    by_cases h0 : (a0.length : Int) = 0
    · rw [if_pos (by simpa using h0)]
    · rw [if_neg (by simpa using h0), apd_nil (by omega)]
      simp only [Option.bind_some]
      rw [asrt_pos (show [c0, c1].length = 2 from rfl), asrt_pos h0]
      have hj2 : c0.tmod (a0.length : Int) = ((c0.toNat % a0.length : Nat) : Int) := by
        rw [Int.tmod_eq_emod_of_nonneg hc0.1]
        have : c0 = (c0.toNat : Int) := by omega
        rw [this]
        simp
      have hk2 : c0.toNat % a0.length < a0.length := Nat.mod_lt _ (by omega)
      rw [getIdx_at hj2 hk2]
      simp only [Option.bind_some]
      rw [setIdx_at hj2 hk2]
      simp only [Option.bind_some]
      rw [m14_val (by rw [List.length_set]; omega) (by rw [List.length_set]; omega), m14_val (by omega) (by omega)]
      simp only [Option.bind_some]
      have := fold_set_D h1 (List.getElem?_eq_getElem hk2) (xor8_ne (y := a0[c0.toNat % a0.length]) hd0)
      simp [this]
end Go.AB

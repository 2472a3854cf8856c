import Derived.Test.YtcahghigmlibjaaFa
import Derived.Test.YtcahghigmlibjaaLw
namespace Go.AB
open Go

def stepD (h : Int) (c : UInt8) : Int :=
  xorI .u64 (IntKind.wrap .u64 ((xorI .u64 h (IntKind.wrap .u64 (c.toNat : Int))) * (11400714819323198485 : Int)))
    (shrI .u64 (IntKind.wrap .u64 ((xorI .u64 h (IntKind.wrap .u64 (c.toNat : Int))) * (11400714819323198485 : Int))) (29 : Int))

theorem m36_loop (n : Nat) (b : List UInt8) (k : Int → Option Int) (hb : b.length ≤ 1000000000) :
    ∀ (m : Nat) (h : Int) (i : Nat), i ≤ b.length → b.length - i < m → loopM (m36_L1 n b k) m (h, (i : Int)) = k ((b.drop i).foldl stepD h)
  | 0, _, _, _, hm => absurd hm (Nat.not_lt_zero _)
  | m + 1, h, i, hi, hm => by
    rw [loopM_succ, m36_L1]
    by_cases hlt : i < b.length
    · have hc : (decide ((i : Int) < (b.length : Int))) = true := by simpa using hlt
      simp only [hc, if_true]
      rw [getIdx_nat, List.getElem?_eq_getElem hlt]
      simp only [Option.bind_some, letM]
      rw [wrap64 (by omega) (by omega)]
      have ih := m36_loop n b k hb m (stepD h b[i]) (i + 1) (by omega) (by omega)
      rw [List.drop_eq_getElem_cons hlt, List.foldl_cons, ← ih]
      rfl
    · have hc : (decide ((i : Int) < (b.length : Int))) = false := by simpa using hlt
      simp only [hc, Bool.false_eq_true, if_false]
      rw [List.drop_of_length_le (by omega), List.foldl_nil]

theorem m36_val {n : Nat} {s : Int} {b : List UInt8} (hb : b.length ≤ 1000000000) (hn : b.length < n) : m36 n s b = some (b.foldl stepD s) := by
  unfold m36 jn
  have := m36_loop n b (fun p => some p) hb n s 0 (Nat.zero_le _) (by omega)
  simpa using this

theorem m38_m36 (n : Nat) (s : Int) (b : List UInt8) : m38 n s b = m36 n s b := rfl

/-- one round of the checksum on 64 bits -/
def g64 (v : BitVec 64) (c : UInt8) : BitVec 64 :=
  ((v ^^^ BitVec.ofNat 64 c.toNat) * 11400714819323198485#64) ^^^ (((v ^^^ BitVec.ofNat 64 c.toNat) * 11400714819323198485#64) >>> 29)

theorem wrapU64 (x : Int) : IntKind.wrap .u64 x = ((BitVec.ofInt 64 x).toNat : Int) := by
  simp [IntKind.wrap, IntKind.signed, IntKind.bits, BitVec.toNat_ofInt]
  omega

theorem ofInt_toNat (v : BitVec 64) : BitVec.ofInt 64 (v.toNat : Int) = v := by
  apply BitVec.eq_of_toNat_eq
  simp

theorem stepD_g64 (v : BitVec 64) (c : UInt8) : stepD (v.toNat : Int) c = ((g64 v c).toNat : Int) := by
  have hx : ∀ a b : BitVec 64, xorI .u64 (a.toNat : Int) (b.toNat : Int) = (((a ^^^ b).toNat : Nat) : Int) := by
    intro a b
    unfold xorI
    show IntKind.wrap .u64 (((BitVec.ofInt 64 (a.toNat : Int) ^^^ BitVec.ofInt 64 (b.toNat : Int)).toNat : Nat) : Int) = _
    rw [ofInt_toNat, ofInt_toNat, wrapU64, ofInt_toNat]
  have hc : IntKind.wrap .u64 (c.toNat : Int) = ((BitVec.ofNat 64 c.toNat).toNat : Int) := by
    rw [wrapU64]
    congr 1
  have hm : ∀ a : BitVec 64, IntKind.wrap .u64 ((a.toNat : Int) * (11400714819323198485 : Int)) = ((a * 11400714819323198485#64).toNat : Int) := by
    intro a
    rw [wrapU64, BitVec.ofInt_mul, ofInt_toNat]
    rfl
  have hs : ∀ a : BitVec 64, shrI .u64 (a.toNat : Int) (29 : Int) = ((a >>> 29).toNat : Int) := by
    intro a
    unfold shrI
    rw [BitVec.toNat_ushiftRight, Nat.shiftRight_eq_div_pow]
    show Int.fdiv (a.toNat : Int) (2 ^ min 29 64) = _
    rw [Int.fdiv_eq_ediv_of_nonneg _ (by decide)]
    rfl
  unfold stepD g64
  rw [hc, hx, hm, hs, hx]

theorem g64_inj {v w : BitVec 64} {c : UInt8} (h : g64 v c = g64 w c) : v = w := by
  have key : ∀ x y : BitVec 64, x ^^^ (x >>> 29) = y ^^^ (y >>> 29) → x = y := by
    intro x y h
    have h1 : x ^^^ y = (x ^^^ y) >>> 29 := by
      have h2 : (x ^^^ (x >>> 29)) ^^^ (y ^^^ (y >>> 29)) = 0#64 := by rw [h, BitVec.xor_self]
      have h3 : (x ^^^ y) ^^^ ((x ^^^ y) >>> 29) = 0#64 := by
        rw [BitVec.ushiftRight_xor_distrib, ← h2]
        ac_rfl
      exact BitVec.xor_eq_zero_iff.1 h3
    have h4 := congrArg BitVec.toNat h1
    rw [BitVec.toNat_ushiftRight, Nat.shiftRight_eq_div_pow] at h4
    have h5 : (x ^^^ y).toNat = 0 := by omega
    have h6 : x ^^^ y = 0#64 := BitVec.eq_of_toNat_eq (by simpa using h5)
    exact BitVec.xor_eq_zero_iff.1 h6
  have h1 := key _ _ h
  have hk : (11400714819323198485#64 * 17428512612931826493#64) = 1#64 := by decide
  have h2 : v ^^^ BitVec.ofNat 64 c.toNat = w ^^^ BitVec.ofNat 64 c.toNat := by
    have h3 := congrArg (· * 17428512612931826493#64) h1
    simpa [BitVec.mul_assoc, hk] using h3
  have h3 : (v ^^^ BitVec.ofNat 64 c.toNat) ^^^ BitVec.ofNat 64 c.toNat = (w ^^^ BitVec.ofNat 64 c.toNat) ^^^ BitVec.ofNat 64 c.toNat := by rw [h2]
  simpa [BitVec.xor_assoc] using h3

theorem fold_g64 (b : List UInt8) : ∀ v : BitVec 64, b.foldl stepD (v.toNat : Int) = ((b.foldl g64 v).toNat : Int) := by
  induction b with
  | nil => intro v; rfl
  | cons c b ih => intro v; rw [List.foldl_cons, stepD_g64, ih, List.foldl_cons]
theorem fold_inj (b : List UInt8) : ∀ v w : BitVec 64, b.foldl g64 v = b.foldl g64 w → v = w := by
  induction b with
  | nil => intro v w h; exact h
  | cons c b ih => intro v w h; exact g64_inj (ih _ _ h)

theorem g64_byte {v : BitVec 64} {c e : UInt8} (h : g64 v c = g64 v e) : c = e := by
  have key : ∀ x y : BitVec 64, x ^^^ (x >>> 29) = y ^^^ (y >>> 29) → x = y := by
    intro x y h
    have h1 : x ^^^ y = (x ^^^ y) >>> 29 := by
      have h2 : (x ^^^ (x >>> 29)) ^^^ (y ^^^ (y >>> 29)) = 0#64 := by rw [h, BitVec.xor_self]
      have h3 : (x ^^^ y) ^^^ ((x ^^^ y) >>> 29) = 0#64 := by
        rw [BitVec.ushiftRight_xor_distrib, ← h2]
        ac_rfl
      exact BitVec.xor_eq_zero_iff.1 h3
    have h4 := congrArg BitVec.toNat h1
    rw [BitVec.toNat_ushiftRight, Nat.shiftRight_eq_div_pow] at h4
    have h5 : (x ^^^ y).toNat = 0 := by omega
    have h6 : x ^^^ y = 0#64 := BitVec.eq_of_toNat_eq (by simpa using h5)
    exact BitVec.xor_eq_zero_iff.1 h6
  have h1 := key _ _ h
  have hk : (11400714819323198485#64 * 17428512612931826493#64) = 1#64 := by decide
  have h2 : v ^^^ BitVec.ofNat 64 c.toNat = v ^^^ BitVec.ofNat 64 e.toNat := by
    have h3 := congrArg (· * 17428512612931826493#64) h1
    simpa [BitVec.mul_assoc, hk] using h3
  have h3 : v ^^^ (v ^^^ BitVec.ofNat 64 c.toNat) = v ^^^ (v ^^^ BitVec.ofNat 64 e.toNat) := by rw [h2]
  simp only [← BitVec.xor_assoc, BitVec.xor_self, BitVec.zero_xor] at h3
  have h4 := congrArg BitVec.toNat h3
  rw [BitVec.toNat_ofNat, BitVec.toNat_ofNat] at h4
  have l1 := c.toNat_lt
  have l2 := e.toNat_lt
  exact UInt8.toNat_inj.1 (by omega)

/-- one byte another: another checksum -/
theorem fold_set (b : List UInt8) : ∀ (v : BitVec 64) (j : Nat) (c e : UInt8), b[j]? = some c → e ≠ c → (b.set j e).foldl g64 v ≠ b.foldl g64 v := by
  induction b with
  | nil => intro v j c e h; simp at h
  | cons a b ih =>
    intro v j c e h hne
    cases j with
    | zero =>
      simp at h
      subst h
      rw [List.set_cons_zero, List.foldl_cons, List.foldl_cons]
      intro hf
      exact hne (g64_byte (fold_inj b _ _ hf))
    | succ j =>
      simp at h
      rw [List.set_cons_succ, List.foldl_cons, List.foldl_cons]
      exact ih _ j c e h hne

theorem xor8_ne {y d : UInt8} (hd : d ≠ 0) : b8 (xorI .u8 (y.toNat : Int) (d.toNat : Int)) ≠ y := by
  have h : ∀ y d : UInt8, b8 (xorI .u8 (y.toNat : Int) (d.toNat : Int)) = y ^^^ d := by
    intro y d
    have ho : ∀ c : UInt8, BitVec.ofInt 8 (c.toNat : Int) = c.toBitVec := by
      intro c
      apply BitVec.eq_of_toNat_eq
      have := c.toNat_lt
      simp
    unfold xorI
    show b8 (IntKind.wrap .u8 (((BitVec.ofInt 8 (y.toNat : Int) ^^^ BitVec.ofInt 8 (d.toNat : Int)).toNat : Nat) : Int)) = _
    rw [ho, ho]
    have he : (y.toBitVec ^^^ d.toBitVec).toNat = (y ^^^ d).toNat := rfl
    rw [he]
    generalize y ^^^ d = z
    have hlt := z.toNat_lt
    have hw : IntKind.wrap .u8 ((z.toNat : Nat) : Int) = ((z.toNat : Nat) : Int) := by
      simp only [IntKind.wrap, IntKind.signed, IntKind.bits]
      simp
      omega
    rw [hw, b8_toNat]
  rw [h]
  intro he
  apply hd
  have : y ^^^ (y ^^^ d) = y ^^^ y := by rw [he]
  rwa [← UInt8.xor_assoc, UInt8.xor_self, UInt8.zero_xor] at this


/-- the next chain number -/
def nx (c : Nat) (l : List UInt8) : Nat := (l.foldl g64 (BitVec.ofNat 64 c)).toNat
theorem nx_lt (c : Nat) (l : List UInt8) : nx c l < 18446744073709551616 := (l.foldl g64 (BitVec.ofNat 64 c)).isLt
theorem fold_nx {c : Nat} (h : c < 18446744073709551616) (l : List UInt8) : l.foldl stepD (c : Int) = ((nx c l : Nat) : Int) := by
  have := fold_g64 l (BitVec.ofNat 64 c)
  rw [BitVec.toNat_ofNat, Nat.mod_eq_of_lt h] at this
  exact this
theorem m36_nx {n c : Nat} {l : List UInt8} (hc : c < 18446744073709551616) (hl : l.length ≤ 1000000000) (hn : l.length < n) : m36 n (c : Int) l = some ((nx c l : Nat) : Int) := by
  rw [m36_val hl hn, fold_nx hc]
theorem m38_nx {n c : Nat} {l : List UInt8} (hc : c < 18446744073709551616) (hl : l.length ≤ 1000000000) (hn : l.length < n) : m38 n (c : Int) l = some ((nx c l : Nat) : Int) := m36_nx hc hl hn
theorem nx_set {c : Nat} {l : List UInt8} {j : Nat} {x e : UInt8} (h : l[j]? = some x) (hne : e ≠ x) : nx c (l.set j e) ≠ nx c l := fun he =>
  fold_set l _ j x e h hne (BitVec.eq_of_toNat_eq he)

/-- a number as bytes, the most significant one first -/
def B : Nat → Nat → List UInt8
  | 0, _ => []
  | k + 1, v => B k (v / 256) ++ [UInt8.ofNat (v % 256)]
def num (l : List UInt8) : Nat := l.foldl (fun x c => x * 256 + c.toNat) 0
theorem num_snoc (l : List UInt8) (d : UInt8) : num (l ++ [d]) = num l * 256 + d.toNat := by simp [num]
theorem B_len : ∀ k v, (B k v).length = k
  | 0, _ => rfl
  | k + 1, v => by simp [B, B_len k]
theorem num_B : ∀ k v, v < 256 ^ k → num (B k v) = v
  | 0, v, h => by simp at h; subst h; rfl
  | k + 1, v, h => by
    have h1 : v / 256 < 256 ^ k := by rw [Nat.pow_succ] at h; omega
    rw [B, num_snoc, num_B k _ h1]
    simp
    omega
theorem num_lt : ∀ (k : Nat) (l : List UInt8), l.length = k → num l < 256 ^ k
  | 0, l, h => by
    have : l = [] := List.eq_nil_of_length_eq_zero h
    subst this; simp [num]
  | k + 1, l, h => by
    obtain ⟨l', d, rfl⟩ : ∃ l' d, l = l' ++ [d] := ⟨l.dropLast, l.getLast (by intro e; subst e; simp at h), (List.dropLast_concat_getLast _).symm⟩
    have h1 : l'.length = k := by simpa using h
    have := num_lt k l' h1
    have hd := d.toNat_lt
    rw [num_snoc, Nat.pow_succ]
    omega
theorem B_num : ∀ k (l : List UInt8), l.length = k → B k (num l) = l
  | 0, l, h => by
    have : l = [] := List.eq_nil_of_length_eq_zero h
    subst this; rfl
  | k + 1, l, h => by
    obtain ⟨l', d, rfl⟩ : ∃ l' d, l = l' ++ [d] := ⟨l.dropLast, l.getLast (by intro e; subst e; simp at h), (List.dropLast_concat_getLast _).symm⟩
    have h1 : l'.length = k := by simpa using h
    have hd := d.toNat_lt
    rw [B, num_snoc, show (num l' * 256 + d.toNat) / 256 = num l' from by omega, B_num k l' h1, show (num l' * 256 + d.toNat) % 256 = d.toNat from by omega]
    simp
theorem B_at : ∀ k v i, i < k → (B k v)[i]? = some (UInt8.ofNat (v / 256 ^ (k - 1 - i) % 256))
  | 0, _, _, h => absurd h (Nat.not_lt_zero _)
  | k + 1, v, i, h => by
    rw [B]
    rcases Nat.lt_or_ge i k with hi | hi
    · rw [List.getElem?_append_left (by rw [B_len]; exact hi), B_at k _ i hi]
      congr 3
      rw [Nat.div_div_eq_div_mul, show k + 1 - 1 - i = (k - 1 - i) + 1 from by omega, Nat.pow_succ, Nat.mul_comm]
    · have : i = k := by omega
      subst this
      rw [List.getElem?_append_right (by rw [B_len]; exact Nat.le_refl _), B_len, Nat.sub_self]
      simp
end Go.AB

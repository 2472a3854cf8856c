import Derived.Test.YtffbjmipkffgkaaD
import Derived.Test.YtffbjmipkffgkaaLw
namespace Go.AB
open Go

/-- a number as bytes, the most significant one first -/
def B : Nat → Nat → List UInt8
  | 0, _ => []
  | k + 1, v => B k (v / 256) ++ [UInt8.ofNat (v % 256)]
def num (l : List UInt8) : Nat := l.foldl (fun x c => x * 256 + c.toNat) 0
theorem num_snoc (l : List UInt8) (d : UInt8) : num (l ++ [d]) = num l * 256 + d.toNat := by simp [num]
theorem B_len : ∀ k v, (B k v).length = k
  | 0, _ => rfl
  | k + 1, v => by simp [B, B_len k]
theorem num_B : ∀ k v, v < 256 ^ k → num (B k v) = v
  | 0, v, h => by simp at h; subst h; rfl
  | k + 1, v, h => by
    have h1 : v / 256 < 256 ^ k := by rw [Nat.pow_succ] at h; omega
    rw [B, num_snoc, num_B k _ h1]
    simp
    omega
theorem num_lt : ∀ (k : Nat) (l : List UInt8), l.length = k → num l < 256 ^ k
  | 0, l, h => by
    have : l = [] := List.eq_nil_of_length_eq_zero h
    subst this; simp [num]
  | k + 1, l, h => by
    obtain ⟨l', d, rfl⟩ : ∃ l' d, l = l' ++ [d] := ⟨l.dropLast, l.getLast (by intro e; subst e; simp at h), (List.dropLast_concat_getLast _).symm⟩
    have h1 : l'.length = k := by simpa using h
    have := num_lt k l' h1
    have hd := d.toNat_lt
    rw [num_snoc, Nat.pow_succ]
    omega
theorem B_num : ∀ k (l : List UInt8), l.length = k → B k (num l) = l
  | 0, l, h => by
    have : l = [] := List.eq_nil_of_length_eq_zero h
    subst this; rfl
  | k + 1, l, h => by
    obtain ⟨l', d, rfl⟩ : ∃ l' d, l = l' ++ [d] := ⟨l.dropLast, l.getLast (by intro e; subst e; simp at h), (List.dropLast_concat_getLast _).symm⟩
    have h1 : l'.length = k := by simpa using h
    have hd := d.toNat_lt
    rw [B, num_snoc, show (num l' * 256 + d.toNat) / 256 = num l' from by omega, B_num k l' h1, show (num l' * 256 + d.toNat) % 256 = d.toNat from by omega]
    simp
theorem B_at : ∀ k v i, i < k → (B k v)[i]? = some (UInt8.ofNat (v / 256 ^ (k - 1 - i) % 256))
  | 0, _, _, h => absurd h (Nat.not_lt_zero _)
  | k + 1, v, i, h => by
    rw [B]
    rcases Nat.lt_or_ge i k with hi | hi
    · rw [List.getElem?_append_left (by rw [B_len]; exact hi), B_at k _ i hi]
      congr 3
      rw [Nat.div_div_eq_div_mul, show k + 1 - 1 - i = (k - 1 - i) + 1 from by omega, Nat.pow_succ, Nat.mul_comm]
    · have : i = k := by omega
      subst this
      rw [List.getElem?_append_right (by rw [B_len]; exact Nat.le_refl _), B_len, Nat.sub_self]
      simp
theorem wrapN8 (x : Nat) : IntKind.wrap .u8 (x : Int) = ((x % 256 : Nat) : Int) := by
  simp [IntKind.wrap, IntKind.signed, IntKind.bits]
theorem b8N (x : Nat) : b8 (x : Int) = UInt8.ofNat (x % 256) := by
  unfold b8
  congr 1

theorem num_Bm : ∀ k v, num (B k v) = v % 256 ^ k
  | 0, v => by simp [B, num, Nat.mod_one]
  | k + 1, v => by
    rw [B, num_snoc, num_Bm k (v / 256)]
    have e : (UInt8.ofNat (v % 256)).toNat = v % 256 := by simp
    rw [e, Nat.pow_succ, Nat.mul_comm (256 ^ k) 256, Nat.mod_mul]
    omega
theorem B_mod (k v : Nat) : B k (v % 256 ^ k) = B k v := by
  have h1 := B_num k (B k v) (B_len k v)
  rw [num_Bm] at h1
  exact h1

/-- how many bytes an integer takes -/
def wd (n : Int) : Nat :=
  if n = 0 then 0 else if -128 ≤ n ∧ n < 128 then 1 else if -32768 ≤ n ∧ n < 32768 then 2 else if -8388608 ≤ n ∧ n < 8388608 then 3 else if -2147483648 ≤ n ∧ n < 2147483648 then 4
  else if -549755813888 ≤ n ∧ n < 549755813888 then 5 else if -140737488355328 ≤ n ∧ n < 140737488355328 then 6 else if -36028797018963968 ≤ n ∧ n < 36028797018963968 then 7 else 8
theorem wd_le (n : Int) : wd n ≤ 8 := by unfold wd; (repeat' split) <;> omega
/-- its bits -/
def tc (n : Int) : Nat := (n % 18446744073709551616).toNat
/-- a number of k bytes as a signed one -/
def sg (k u : Nat) : Int := if 2 * u < 256 ^ k then (u : Int) else (u : Int) - ((256 ^ k : Nat) : Int)
def val (l : List UInt8) : Int := sg l.length (num l)
def inR (n : Int) : Prop := -9223372036854775808 ≤ n ∧ n ≤ 9223372036854775807
def eInt (n : Int) : List UInt8 := UInt8.ofNat (wd n) :: B (wd n) (tc n)
theorem eInt_len (n : Int) : (eInt n).length = wd n + 1 := by simp [eInt, B_len]

theorem sg_tc {n : Int} (h : inR n) : sg (wd n) (tc n % 256 ^ wd n) = n := by
  obtain ⟨h1, h2⟩ := h
  unfold tc sg
  have hw : wd n = 0 ∧ n = 0 ∨ wd n = 1 ∧ -128 ≤ n ∧ n < 128 ∨ wd n = 2 ∧ -32768 ≤ n ∧ n < 32768 ∨ wd n = 3 ∧ -8388608 ≤ n ∧ n < 8388608 ∨ wd n = 4 ∧ -2147483648 ≤ n ∧ n < 2147483648 ∨
      wd n = 5 ∧ -549755813888 ≤ n ∧ n < 549755813888 ∨ wd n = 6 ∧ -140737488355328 ≤ n ∧ n < 140737488355328 ∨ wd n = 7 ∧ -36028797018963968 ≤ n ∧ n < 36028797018963968 ∨ wd n = 8 := by
    unfold wd; (repeat' split) <;> omega
  rcases hw with ⟨e, h⟩ | ⟨e, h⟩ | ⟨e, h⟩ | ⟨e, h⟩ | ⟨e, h⟩ | ⟨e, h⟩ | ⟨e, h⟩ | ⟨e, h⟩ | e <;> rw [e] <;> simp only [Nat.reducePow] <;> split <;> omega
theorem sg_in {k u : Nat} (hk : k ≤ 8) (hu : u < 256 ^ k) : inR (sg k u) ∧ tc (sg k u) % 256 ^ k = u := by
  unfold inR tc sg
  have hc : k = 0 ∨ k = 1 ∨ k = 2 ∨ k = 3 ∨ k = 4 ∨ k = 5 ∨ k = 6 ∨ k = 7 ∨ k = 8 := by omega
  rcases hc with rfl | rfl | rfl | rfl | rfl | rfl | rfl | rfl | rfl <;> simp only [Nat.reducePow] at hu ⊢ <;> split <;> omega
theorem val_B {n : Int} (h : inR n) : val (B (wd n) (tc n)) = n := by
  unfold val
  rw [B_len, num_Bm, sg_tc h]
theorem val_in {l : List UInt8} (h : l.length ≤ 8) : inR (val l) ∧ B l.length (tc (val l)) = l := by
  obtain ⟨h1, h2⟩ := sg_in h (num_lt l.length l rfl)
  refine ⟨h1, ?_⟩
  unfold val
  rw [← B_mod, h2, B_num _ _ rfl]

/-- an integer at the beginning of some bytes -/
def pInt : List UInt8 → Option (Int × Nat)
  | [] => none
  | s :: r => if s.toNat ≤ 8 ∧ s.toNat ≤ r.length ∧ wd (val (r.take s.toNat)) = s.toNat then some (val (r.take s.toNat), s.toNat + 1) else none
/-- what a reader and a writer of values promise -/
structure Cod {α : Type} (e : α → List UInt8) (ok : α → Prop) (p : List UInt8 → Option (α × Nat)) : Prop where
  rt : ∀ v u, ok v → p (e v ++ u) = some (v, (e v).length)
  cn : ∀ t v k, p t = some (v, k) → ok v ∧ k = (e v).length ∧ ∃ u, t = e v ++ u
theorem codInt : Cod eInt inR pInt := by
  refine ⟨fun v u h => ?_, fun t v k h => ?_⟩
  · have hw := wd_le v
    have e : (UInt8.ofNat (wd v)).toNat = wd v := by simp; omega
    rw [eInt, List.cons_append, pInt, e, List.take_left' (B_len _ _), val_B h]
    rw [if_pos ⟨hw, by simp [B_len], rfl⟩]
    simp [B_len]
  · match t with
    | [] => cases h
    | s :: r =>
      rw [pInt] at h
      split at h
      · rename_i hc
        obtain ⟨h1, h2, h3⟩ := hc
        have := Option.some.inj h
        simp only [Prod.mk.injEq] at this
        obtain ⟨rfl, rfl⟩ := this
        have hl : (r.take s.toNat).length = s.toNat := by simp; omega
        obtain ⟨q1, q2⟩ := val_in (l := r.take s.toNat) (by omega)
        refine ⟨q1, by rw [eInt_len, h3], r.drop s.toNat, ?_⟩
        rw [eInt, h3]
        rw [hl] at q2
        rw [q2]
        simp
      · cases h
end Go.AB

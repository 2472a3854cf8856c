import Derived.Test.YtffbjmipkffgkaaLi
namespace Go.AB
open Go

theorem fitW {v : Int} (hv : v ≠ 0) {i : Nat} (h1 : 1 ≤ i) (h2 : i ≤ 7) : (-((2 ^ (8 * i - 1) : Nat) : Int) ≤ v ∧ v < ((2 ^ (8 * i - 1) : Nat) : Int)) ↔ wd v ≤ i := by
  have hc : i = 1 ∨ i = 2 ∨ i = 3 ∨ i = 4 ∨ i = 5 ∨ i = 6 ∨ i = 7 := by omega
  unfold wd
  rcases hc with rfl | rfl | rfl | rfl | rfl | rfl | rfl <;> simp only [Nat.reduceMul, Nat.reduceSub, Nat.reducePow] <;> (repeat' split) <;> omega
theorem pow55 {j : Nat} (h : j ≤ 55) : 2 ^ j ≤ 36028797018963968 := by
  have : (2 : Nat) ^ j ≤ 2 ^ 55 := Nat.pow_le_pow_right (by decide) h
  exact this
theorem m73_l4 {n i : Nat} (hn : 100 < n) (h1 : 1 ≤ i) (h2 : i ≤ 7) (k : Int → Option Int) : loopM (m73_L4 n (i : Int) k) n ((1 : Int), (0 : Int)) = k ((2 ^ (8 * i - 1) : Nat) : Int) := by
  refine loopM_ind (fun m x => ∃ j : Nat, j ≤ 8 * i - 1 ∧ m = 8 * i - 1 - j ∧ x = (((2 ^ j : Nat) : Int), (j : Int))) (fun o => o = k ((2 ^ (8 * i - 1) : Nat) : Int)) ?_ n (8 * i - 1) _ ⟨0, Nat.zero_le _, rfl, rfl⟩ (by omega)
  rintro m x ⟨j, hj, rfl, rfl⟩
  rcases Nat.lt_or_ge j (8 * i - 1) with h | h
  · refine .inl ⟨8 * i - 1 - (j + 1), (((2 ^ (j + 1) : Nat) : Int), ((j + 1 : Nat) : Int)), by omega, ⟨j + 1, h, rfl, rfl⟩, fun nx => ?_⟩
    have hp := pow55 (j := j) (by omega)
    rw [m73_L4]
    dsimp only
    rw [wrap64 (x := 8 * (i : Int)) (by omega) (by omega), wrap64 (x := 8 * (i : Int) - 1) (by omega) (by omega), if_pos (by simp; omega), letM_eq, letM_eq, wrap64 (x := (j : Int) + 1) (by omega) (by omega)]
    have e : IntKind.wrap .i64 (2 * ((2 ^ j : Nat) : Int)) = ((2 ^ (j + 1) : Nat) : Int) := by
      rw [Nat.pow_succ]
      generalize 2 ^ j = q at hp
      rw [wrap64 (by omega) (by omega)]
      omega
    rw [e]
    rfl
  · refine .inr ⟨_, rfl, fun nx => ?_⟩
    have : j = 8 * i - 1 := by omega
    subst this
    rw [m73_L4]
    dsimp only
    rw [wrap64 (x := 8 * (i : Int)) (by omega) (by omega), wrap64 (x := 8 * (i : Int) - 1) (by omega) (by omega), if_neg (by simp; omega)]
theorem m73_val {n : Nat} {v : Int} (hn : 100 < n) : m73 n v = some ((wd v : Nat) : Int) := by
  unfold m73 jn
  have hw := wd_le v
  by_cases h0 : v = 0
  · subst h0
    rw [if_pos (by simp)]
    rfl
  · rw [if_neg (by simpa using h0)]
    have hp : 1 ≤ wd v := by unfold wd; (repeat' split) <;> omega
    refine loopM_ind (fun m x => ∃ j : Nat, 1 ≤ j ∧ j ≤ wd v ∧ m = wd v - j ∧ x = (j : Int)) (fun o => o = some ((wd v : Nat) : Int)) ?_ n (wd v - 1) _ ⟨1, Nat.le_refl _, hp, rfl, rfl⟩ (by omega)
    rintro m x ⟨j, hj, hj2, rfl, rfl⟩
    by_cases h8 : j ≤ 7
    · have hf := fitW h0 hj h8
      have hpw := pow55 (j := 8 * j - 1) (by omega)
      rcases Nat.lt_or_ge j (wd v) with h | h
      · refine .inl ⟨wd v - (j + 1), ((j + 1 : Nat) : Int), by omega, ⟨j + 1, by omega, h, rfl, rfl⟩, fun nx => ?_⟩
        rw [m73_L3]
        unfold jn
        rw [if_pos (by simp; omega)]
        refine (m73_l4 hn hj h8 _).trans ?_
        generalize 2 ^ (8 * j - 1) = q at hf hpw
        rw [wrap64 (x := 0 - (q : Int)) (by omega) (by omega), if_neg, letM_eq, wrap64 (by omega) (by omega)]
        · rfl
        · intro hc
          simp only [Bool.and_eq_true, decide_eq_true_eq] at hc
          have := hf.1 ⟨by omega, hc.2⟩
          omega
      · have : j = wd v := by omega
        refine .inr ⟨_, rfl, fun nx => ?_⟩
        rw [m73_L3]
        unfold jn
        rw [if_pos (by simp; omega)]
        refine (m73_l4 hn hj h8 _).trans ?_
        have hf2 := hf.2 (by omega)
        generalize 2 ^ (8 * j - 1) = q at hf2 hpw
        rw [wrap64 (x := 0 - (q : Int)) (by omega) (by omega), if_pos, this]
        simp only [Bool.and_eq_true, decide_eq_true_eq]
        exact ⟨by omega, hf2.2⟩
    · refine .inr ⟨_, rfl, fun nx => ?_⟩
      have : wd v = 8 := by omega
      rw [m73_L3]
      unfold jn
      rw [if_neg (by simp; omega), this]
      rfl

theorem foldl_num : ∀ (l : List UInt8) (x : Nat), l.foldl (fun x c => x * 256 + c.toNat) x = x * 256 ^ l.length + num l
  | [], x => by simp [num]
  | c :: l, x => by
    have e : num (c :: l) = l.foldl (fun x c => x * 256 + c.toNat) (0 * 256 + c.toNat) := rfl
    rw [List.foldl_cons, foldl_num l, e, foldl_num l, List.length_cons, Nat.pow_succ, Nat.zero_mul, Nat.zero_add, Nat.add_mul, Nat.mul_assoc, Nat.mul_comm 256, Nat.add_assoc]
theorem num_cons (c : UInt8) (l : List UInt8) : num (c :: l) = c.toNat * 256 ^ l.length + num l := by
  rw [num, List.foldl_cons, foldl_num, Nat.zero_mul, Nat.zero_add]
/-- the sign -/
def st (l : List UInt8) : Int := match l with | [] => 0 | c :: _ => if 128 ≤ c.toNat then -1 else 0
theorem st_val {l : List UInt8} (h : l.length ≤ 8) : st l * ((256 ^ l.length : Nat) : Int) + ((num l : Nat) : Int) = val l := by
  match l, h with
  | [], _ => rfl
  | c :: l, h =>
    have hl := num_lt l.length l rfl
    have hc := c.toNat_lt
    unfold val sg st
    rw [num_cons, List.length_cons, Nat.pow_succ]
    generalize 256 ^ l.length = q at hl
    generalize num l = m at hl
    dsimp only
    by_cases h1 : 128 ≤ c.toNat
    · have : 128 * q ≤ c.toNat * q := Nat.mul_le_mul_right _ h1
      rw [if_pos h1, if_neg (by omega)]
      omega
    · have : c.toNat * q ≤ 127 * q := Nat.mul_le_mul_right _ (by omega)
      rw [if_neg h1, if_pos (by omega)]
      omega
theorem wrapU (x : Int) : IntKind.wrap .u64 x = x % 18446744073709551616 := by simp [IntKind.wrap, IntKind.signed, IntKind.bits]
theorem wrapBack {x : Int} (h : inR x) : IntKind.wrap .i64 (x % 18446744073709551616) = x := by
  obtain ⟨h1, h2⟩ := h
  simp [IntKind.wrap, IntKind.signed, IntKind.bits]; omega
theorem m50_l1 {n s i : Nat} {b r : List UInt8} (hn : 100 < n) (hr : r = b.drop (i + 1)) (hs : s ≤ 8) (hsr : s ≤ r.length) (hb : b.length ≤ 100000) (hi : i < b.length) (z : Int) (hz : z = 0 ∨ z = -1) (k : Int → Option (Int × (List UInt8) × Int × Bool)) :
    loopM (m50_L1 n b (i : Int) (s : Int) k) n (z % 18446744073709551616, (1 : Int)) = k ((z * ((256 ^ s : Nat) : Int) + ((num (r.take s) : Nat) : Int)) % 18446744073709551616) := by
  have hrl : r.length = b.length - (i + 1) := by rw [hr, List.length_drop]
  refine loopM_ind (fun m x => ∃ j : Nat, j ≤ s ∧ m = s - j ∧ x = ((z * ((256 ^ j : Nat) : Int) + ((num (r.take j) : Nat) : Int)) % 18446744073709551616, ((j + 1 : Nat) : Int))) (fun o => o = k ((z * ((256 ^ s : Nat) : Int) + ((num (r.take s) : Nat) : Int)) % 18446744073709551616)) ?_ n s _ ⟨0, Nat.zero_le _, rfl, by simp [num]⟩ (by omega)
  rintro m x ⟨j, hj, rfl, rfl⟩
  rcases Nat.lt_or_ge j s with h | h
  · refine .inl ⟨s - (j + 1), ((z * ((256 ^ (j + 1) : Nat) : Int) + ((num (r.take (j + 1)) : Nat) : Int)) % 18446744073709551616, ((j + 1 + 1 : Nat) : Int)), by omega, ⟨j + 1, h, rfl, rfl⟩, fun nx => ?_⟩
    have hjr : j < r.length := by omega
    have hc : (b[i + 1 + j]'(by omega)) = r[j] := by subst hr; rw [List.getElem_drop]
    have hlt := r[j].toNat_lt
    rw [m50_L1, if_pos (by simp; omega)]
    dsimp only
    rw [wrap64 (x := (i : Int) + ((j + 1 : Nat) : Int)) (by omega) (by omega), getIdx_at (k := i + 1 + j) (by omega) (by omega), Option.bind_some, hc, letM_eq, letM_eq, wrap64 (x := ((j + 1 : Nat) : Int) + 1) (by omega) (by omega), wrapU, wrapU, wrapU, List.take_succ_eq_append_getElem hjr, num_snoc, Nat.pow_succ]
    generalize 256 ^ j = q
    generalize num (r.take j) = w
    generalize r[j].toNat = c at hlt
    have e : (((z * (q : Int) + (w : Int)) % 18446744073709551616 * 256) % 18446744073709551616 + (c : Int) % 18446744073709551616) % 18446744073709551616 = (z * ((q * 256 : Nat) : Int) + ((w * 256 + c : Nat) : Int)) % 18446744073709551616 := by
      rcases hz with rfl | rfl <;> omega
    rw [e]
    rfl
  · refine .inr ⟨_, rfl, fun nx => ?_⟩
    have : j = s := by omega
    subst this
    rw [m50_L1, if_neg (by simp; omega)]
theorem fInt {n : Nat} (hn : 100 < n) : Rd (m50 n) 0 pInt := by
  intro b i f hi hb
  cases f with
  | true =>
    unfold m50
    rw [Bool.true_or, Bool.not_true, gdO_false, Option.bind_some, Bool.true_or, Bool.not_true, gdO_false, Option.bind_some, letM_eq, Bool.true_or, if_pos rfl]
    rfl
  | false =>
    unfold m50 jn
    rcases Nat.lt_or_ge i b.length with h | h
    · have hs := b[i].toNat_lt
      have d0 : decide ((b.length : Int) ≤ (i : Int)) = false := decide_eq_false (by omega)
      rw [d0, Bool.or_false, Bool.not_false, gdO_true, getIdx_at rfl h, Option.bind_some]
      by_cases h8 : b[i].toNat ≤ 8
      · have d1 : decide ((8 : Int) < (b[i].toNat : Int)) = false := decide_eq_false (by omega)
        rw [d1, Bool.or_false, Bool.not_false, gdO_true, Option.bind_some, letM_eq, Bool.false_or, wrap64 (x := (b.length : Int) - (i : Int)) (by omega) (by omega), wrap64 (x := (b.length : Int) - (i : Int) - 1) (by omega) (by omega), wrap64 (x := (b[i].toNat : Int)) (by omega) (by omega)]
        by_cases hl : b[i].toNat ≤ (b.drop (i + 1)).length
        · have hl' := hl
          rw [List.length_drop] at hl'
          rw [if_neg (by simp; omega), Option.bind_some, letM_eq, wrap64 (x := (b[i].toNat : Int)) (by omega) (by omega), wrap64 (x := (b[i].toNat : Int) + 1) (by omega) (by omega), wrap64 (x := (i : Int) + ((b[i].toNat : Int) + 1)) (by omega) (by omega)]
          have ht : ((b.drop (i + 1)).take b[i].toNat).length = b[i].toNat := by rw [List.length_take]; omega
          obtain ⟨w1, w2⟩ := val_in (l := (b.drop (i + 1)).take b[i].toNat) (by omega)
          have hst := st_val (l := (b.drop (i + 1)).take b[i].toNat) (by omega)
          have hz : st ((b.drop (i + 1)).take b[i].toNat) = 0 ∨ st ((b.drop (i + 1)).take b[i].toNat) = -1 := by
            unfold st
            split
            · exact .inl rfl
            · split
              · exact .inr rfl
              · exact .inl rfl
          have key := m50_l1 (n := n) (s := b[i].toNat) (i := i) (b := b) (r := b.drop (i + 1)) hn rfl h8 hl hb h _ hz (fun p_22 : Int => ((m73 n (IntKind.wrap .i64 p_22)).bind fun y_24 => (if (!decide (y_24 = (b[i].toNat : Int))) = true then (some ((0 : Int), b, (i : Int), true)) else (letM ((IntKind.wrap .i64 ((i : Int) + (IntKind.wrap .i64 ((b[i].toNat : Int) + (1 : Int)))))) fun c_25 => (some ((IntKind.wrap .i64 p_22), b, c_25, false))))))
          rw [ht] at hst
          rw [hst, wrapBack w1, m73_val hn, Option.bind_some, letM_eq, wrap64 (x := (b[i].toNat : Int) + 1) (by omega) (by omega), wrap64 (x := (i : Int) + ((b[i].toNat : Int) + 1)) (by omega) (by omega)] at key
          have fin : (if (!decide (((wd (val ((b.drop (i + 1)).take b[i].toNat)) : Nat) : Int) = (b[i].toNat : Int))) = true then (some ((0 : Int), b, (i : Int), true)) else some (val ((b.drop (i + 1)).take b[i].toNat), b, (i : Int) + ((b[i].toNat : Int) + 1), false)) = RS 0 pInt b i false := by
            by_cases hw : wd (val ((b.drop (i + 1)).take b[i].toNat)) = b[i].toNat
            · rw [if_neg (by simp; omega), RS_some (r := (val ((b.drop (i + 1)).take b[i].toNat), b[i].toNat + 1)) (by rw [List.drop_eq_getElem_cons h, pInt, if_pos ⟨h8, hl, hw⟩])]
              rfl
            · rw [if_pos (by simp; omega), RS_none (by rw [List.drop_eq_getElem_cons h, pInt, if_neg (fun hc => hw hc.2.2)])]
          rw [fin] at key
          by_cases h0 : b[i].toNat = 0
          · have e0 : st ((b.drop (i + 1)).take b[i].toNat) = 0 := by rw [h0]; rfl
            rw [e0] at key
            rw [show decide ((0 : Int) < (b[i].toNat : Int)) = false from decide_eq_false (by omega), gdO_false, Option.bind_some, Bool.false_and]
            dsimp only
            rw [if_neg (by simp)]
            exact key
          · have hi1 : i + 1 < b.length := by omega
            have e0 : st ((b.drop (i + 1)).take b[i].toNat) = if 128 ≤ b[i + 1].toNat then -1 else 0 := by
              obtain ⟨m, hm⟩ : ∃ m, b[i].toNat = m + 1 := ⟨b[i].toNat - 1, by omega⟩
              rw [hm, List.drop_eq_getElem_cons hi1, List.take_succ_cons]
              rfl
            rw [e0] at key
            rw [show decide ((0 : Int) < (b[i].toNat : Int)) = true from decide_eq_true (by omega), gdO_true, wrap64 (x := (i : Int) + 1) (by omega) (by omega), getIdx_at (k := i + 1) (by omega) hi1, Option.bind_some, Bool.true_and]
            by_cases h128 : 128 ≤ b[i + 1].toNat
            · rw [if_pos h128] at key
              dsimp only
              rw [if_pos (decide_eq_true (by omega))]
              exact key
            · rw [if_neg h128] at key
              dsimp only
              rw [if_neg (by simp; omega)]
              exact key
        · rw [List.length_drop] at hl
          rw [if_pos (by simp; omega), RS_none]
          rw [List.drop_eq_getElem_cons h, pInt, if_neg (fun hc => hl (by rw [← List.length_drop]; exact hc.2.1))]
      · have d1 : decide ((8 : Int) < (b[i].toNat : Int)) = true := decide_eq_true (by omega)
        rw [d1, Bool.or_true, Bool.not_true, gdO_false, Option.bind_some, letM_eq, Bool.true_or, if_pos rfl, RS_none]
        rw [List.drop_eq_getElem_cons h, pInt, if_neg (fun hc => h8 hc.1)]
    · have d0 : decide ((b.length : Int) ≤ (i : Int)) = true := decide_eq_true (by omega)
      rw [d0, Bool.or_true, Bool.not_true, gdO_false, Option.bind_some, Bool.true_or, Bool.not_true, gdO_false, Option.bind_some, letM_eq, Bool.true_or, if_pos rfl, RS_none]
      rw [List.drop_eq_nil_of_le h]
      rfl
end Go.AB

import Derived.Test.YtffbjmipkffgkaaLa
namespace Go.AB
open Go

theorem shr_ediv (a : Int) (k : Nat) (hk : k ≤ 64) : shrI .i64 a (k : Int) = a / 2 ^ k := by
  have h2 : min ((k : Int).toNat) IntKind.i64.bits = k := by simp [IntKind.bits]; omega
  unfold shrI
  rw [h2, Int.fdiv_eq_ediv_of_nonneg _ (Int.le_of_lt (Int.pow_pos (by decide)))]
theorem fits {a : Int} (h : inR a) {j : Nat} (h1 : 1 ≤ j) (h2 : j ≤ 7) : decide (shrI .i64 a (IntKind.wrap .i64 (IntKind.wrap .i64 ((8 : Int) * (j : Int)) - 1)) = shrI .i64 a 63) = decide (wd a ≤ j) := by
  obtain ⟨r1, r2⟩ := h
  rw [wrap64 (x := 8 * (j : Int)) (by omega) (by omega), wrap64 (by omega) (by omega), show (8 * (j : Int) - 1) = ((8 * j - 1 : Nat) : Int) from by omega, shr_ediv _ _ (by omega), show (63 : Int) = ((63 : Nat) : Int) from rfl, shr_ediv _ _ (by omega)]
  apply decide_eq_decide.2
  have hc : j = 1 ∨ j = 2 ∨ j = 3 ∨ j = 4 ∨ j = 5 ∨ j = 6 ∨ j = 7 := by omega
  unfold wd
  rcases hc with rfl | rfl | rfl | rfl | rfl | rfl | rfl <;> simp only [Nat.reduceMul, Nat.reduceSub, Int.reducePow] <;> (repeat' split) <;> omega
theorem byteAt {a : Int} (h : inR a) {i : Nat} (hi : i ≤ 7) : b8 (IntKind.wrap .u8 (shrI .i64 a (IntKind.wrap .i64 ((8 : Int) * (i : Int))))) = UInt8.ofNat (tc a / 256 ^ i % 256) := by
  obtain ⟨r1, r2⟩ := h
  rw [wrap64 (by omega) (by omega), show (8 * (i : Int)) = ((8 * i : Nat) : Int) from by omega, shr_ediv _ _ (by omega)]
  have hw : IntKind.wrap .u8 (a / 2 ^ (8 * i)) = ((tc a / 256 ^ i % 256 : Nat) : Int) := by
    unfold tc
    simp only [IntKind.wrap, IntKind.signed, IntKind.bits]
    have hc : i = 0 ∨ i = 1 ∨ i = 2 ∨ i = 3 ∨ i = 4 ∨ i = 5 ∨ i = 6 ∨ i = 7 := by omega
    rcases hc with rfl | rfl | rfl | rfl | rfl | rfl | rfl | rfl <;> simp only [Nat.reduceMul, Int.reducePow, Nat.reducePow] <;> simp <;> omega
  rw [hw, b8N, Nat.mod_mod]

theorem width_loop {n : Nat} {a : Int} (h : inR a) (hn : 9 < n) (k : Int → Option (List UInt8)) : loopM (m12o_L1 n a k) n (if a = 0 then 0 else 1) = k ((wd a : Nat) : Int) := by
  have hw := wd_le a
  by_cases h0 : a = 0
  · subst h0
    rw [if_pos rfl]
    match n, hn with
    | n + 1, _ =>
      rw [loopM_succ, m12o_L1]
      rfl
  · rw [if_neg h0]
    have hp : 1 ≤ wd a := by unfold wd; (repeat' split) <;> omega
    refine loopM_ind (fun m s => ∃ j : Nat, 1 ≤ j ∧ j ≤ wd a ∧ m = wd a - j ∧ s = (j : Int)) (fun o => o = k ((wd a : Nat) : Int)) ?_ n (wd a - 1) _ ⟨1, by omega, hp, rfl, rfl⟩ (by omega)
    rintro m _ ⟨j, h1, h2, rfl, rfl⟩
    rcases Nat.lt_or_ge j (wd a) with hlt | hge
    · refine .inl ⟨wd a - (j + 1), ((j + 1 : Nat) : Int), by omega, ⟨j + 1, by omega, hlt, rfl, rfl⟩, fun nx => ?_⟩
      rw [m12o_L1, fits h h1 (by omega)]
      have e1 : decide ((0 : Int) < (j : Int)) = true := by simp; omega
      have e2 : decide ((j : Int) < (8 : Int)) = true := by simp; omega
      have e3 : decide (wd a ≤ j) = false := by simp; omega
      simp only [e1, e2, e3, Bool.and_self, Bool.not_false, asrtG, asrt, letM, if_true]
      rw [if_pos (by rw [wrap64 (x := 8 * (j : Int)) (by omega) (by omega), wrap64 (by omega) (by omega)]; omega), wrap64 (by omega) (by omega)]
      rfl
    · refine .inr ⟨_, rfl, fun nx => ?_⟩
      have : j = wd a := by omega
      subst this
      rw [m12o_L1]
      rcases Nat.lt_or_ge (wd a) 8 with h8 | h8
      · rw [fits h h1 (by omega)]
        have e1 : decide ((0 : Int) < ((wd a : Nat) : Int)) = true := by simp; omega
        have e2 : decide (((wd a : Nat) : Int) < (8 : Int)) = true := by simp; omega
        simp only [e1, e2, Nat.le_refl, decide_true, Bool.and_self, Bool.not_true, Bool.and_false, asrtG, asrt, letM, if_true, Bool.false_eq_true, if_false]
        rw [if_pos (by rw [wrap64 (x := 8 * ((wd a : Nat) : Int)) (by omega) (by omega), wrap64 (by omega) (by omega)]; omega)]
      · have e2 : decide (((wd a : Nat) : Int) < (8 : Int)) = false := by simp; omega
        simp only [e2, Bool.and_false, Bool.false_and, asrtG, letM, Bool.false_eq_true, if_false]

theorem m12o_val {n : Nat} {a : Int} {b : List UInt8} (h : inR a) (hb : b.length ≤ 100000000) (hn : 9 < n) : m12o n b a = some (b ++ eInt a) := by
  unfold m12o jn
  have hw := wd_le a
  have key : (fun p_1 : Int => loopM (m12o_L1 n a fun p_16 => (apd b ([(b8 (IntKind.wrap .u8 p_16))] : List UInt8)).bind fun l1_18 => (letM ((IntKind.wrap .i64 (p_16 - (1 : Int)))) fun t6_19 => loopM (m12o_L2 n a fun p_33 => some p_33) n (t6_19, l1_18))) n p_1) (if a = 0 then 0 else 1) = some (b ++ eInt a) := by
    dsimp only
    rw [width_loop h hn]
    rw [wrapN8, b8N, Nat.mod_mod, Nat.mod_eq_of_lt (by omega), apd_val (by simp; omega), Option.bind_some, letM_eq, wrap64 (by omega) (by omega)]
    refine loopM_ind (fun m s => ∃ j : Nat, j ≤ wd a ∧ m = wd a - j ∧ s = (((wd a : Nat) : Int) - 1 - (j : Int), b ++ [UInt8.ofNat (wd a)] ++ (B (wd a) (tc a)).take j)) (fun o => o = some (b ++ eInt a)) ?_ n (wd a) _ ⟨0, Nat.zero_le _, rfl, by simp⟩ (by omega)
    rintro m _ ⟨j, h2, rfl, rfl⟩
    rcases Nat.lt_or_ge j (wd a) with hlt | hge
    · refine .inl ⟨wd a - (j + 1), (((wd a : Nat) : Int) - 1 - ((j + 1 : Nat) : Int), b ++ [UInt8.ofNat (wd a)] ++ (B (wd a) (tc a)).take (j + 1)), by omega, ⟨j + 1, hlt, rfl, rfl⟩, fun nx => ?_⟩
      rw [m12o_L2]
      dsimp only
      have hi : ((wd a : Nat) : Int) - 1 - (j : Int) = ((wd a - 1 - j : Nat) : Int) := by omega
      have hj : j < (B (wd a) (tc a)).length := by rw [B_len]; exact hlt
      have hat := B_at (wd a) (tc a) j hlt
      rw [List.getElem?_eq_getElem hj] at hat
      rw [hi, if_pos (by simp), byteAt h (by omega), ← Option.some.inj hat]
      unfold asrt
      rw [if_pos (by rw [wrap64 (by omega) (by omega)]; omega), apd_val (by simp; omega), Option.bind_some, letM_eq, wrap64 (by omega) (by omega), List.append_assoc _ _ [_], ← List.take_succ_eq_append_getElem hj]
      congr 2
      omega
    · refine .inr ⟨_, rfl, fun nx => ?_⟩
      have : j = wd a := by omega
      subst this
      rw [m12o_L2]
      dsimp only
      rw [if_neg (by simp; omega), List.take_of_length_le (by rw [B_len]; exact Nat.le_refl _)]
      simp [eInt]
  by_cases h0 : a = 0
  · rw [if_pos h0] at key
    dsimp only
    rw [if_neg (by simpa using h0)]
    exact key
  · rw [if_neg h0] at key
    dsimp only
    rw [if_pos (by simpa using h0)]
    exact key
theorem m12ox1_o (n : Nat) (a : Int) : m12ox1 n a = m12o n [] a := rfl
theorem m12x2_o (n : Nat) (a : Int) : m12x2 n a = m12o n [] a := rfl
theorem m12ox1_val {n : Nat} {a : Int} (h : inR a) (hn : 9 < n) : m12ox1 n a = some (eInt a) := by rw [m12ox1_o, m12o_val h (by simp) hn]; rfl
theorem m12x2_val {n : Nat} {a : Int} (h : inR a) (hn : 9 < n) : m12x2 n a = some (eInt a) := by rw [m12x2_o, m12o_val h (by simp) hn]; rfl
end Go.AB

import Derived.Test.YtgbbmfafdbafjaaLe
set_option linter.unusedVariables false
namespace Go.AB
open Go

theorem m23_val {v : Nat} (hv : v < 18446744073709551616) : m23 2000 (v : Int) = some (D16 v) := by
  unfold m23 jn
  simp only [letM_eq]
  have := m23_loop 2000 v hv (fun p => asrt (p.length = 16) (some p)) 2000 0 (List.replicate 16 0) (by omega) (by simp) (by rw [List.take_zero, List.take_zero]) (by omega)
  rw [show ((0 : Nat) : Int) = 0 from rfl] at this
  rw [this, asrt_pos (D16_len v)]

theorem wrapN' (x : Nat) : IntKind.wrap .u64 (x : Int) = ((x % 18446744073709551616 : Nat) : Int) := by
  simp [IntKind.wrap, IntKind.signed, IntKind.bits]
theorem set_drop {α : Type} {l D : List α} {i : Nat} {c : α} (hl : i < l.length) (ht : l.drop (i + 1) = D.drop (i + 1)) (hD : i < D.length) (hc : D[i]? = some c) : (l.set i c).drop i = D.drop i := by
  rw [List.drop_eq_getElem_cons (by rw [List.length_set]; exact hl), List.drop_eq_getElem_cons hD, List.getElem_set_self, List.drop_set_of_lt (by omega), ht]
  rw [List.getElem?_eq_getElem hD] at hc
  rw [Option.some.inj hc]

theorem m24_loop (n v : Nat) (hv : v < 18446744073709551616) (k : List UInt8 → Option (List UInt8)) : ∀ (m i : Nat) (l : List UInt8), i ≤ 16 → l.length = 16 → l.drop i = (D16 v).drop i → i < m →
    loopM (m24_L1 n k) m (((v / 16 ^ (16 - i) : Nat) : Int), (i : Int) - 1, l) = k (D16 v)
  | 0, _, _, _, _, _, hm => absurd hm (Nat.not_lt_zero _)
  | m + 1, 0, l, hi, hl, ht, hm => by
    rw [loopM_succ, m24_L1]
    have hc : (decide ((0 : Int) ≤ ((0 : Nat) : Int) - 1)) = false := by decide
    simp only [hc, Bool.false_eq_true, if_false]
    simp only [List.drop_zero] at ht
    rw [ht]
  | m + 1, i + 1, l, hi, hl, ht, hm => by
    rw [loopM_succ, m24_L1]
    have e0 : (((i + 1 : Nat) : Int) - 1) = (i : Int) := by omega
    have hc : (decide ((0 : Int) ≤ (i : Int))) = true := by simp
    simp only [e0, hc, if_true]
    have hq : v / 16 ^ (16 - (i + 1)) ≤ v := Nat.div_le_self _ _
    have e1 : ((v / 16 ^ (16 - (i + 1)) : Nat) : Int).tmod 16 = ((v / 16 ^ (15 - i) % 16 : Nat) : Int) := by
      rw [Int.tmod_eq_emod_of_nonneg (Int.natCast_nonneg _), show 16 - (i + 1) = 15 - i by omega]; simp
    rw [e1, tab_at rfl (Nat.mod_lt _ (by decide))]
    simp only [Option.bind_some]
    rw [getIdx_at rfl (by omega)]
    simp only [Option.bind_some]
    rw [setIdx_at rfl (by omega)]
    simp only [Option.bind_some, letM_eq]
    have e2 : IntKind.wrap .u64 (((v / 16 ^ (16 - (i + 1)) : Nat) : Int).tdiv 16) = ((v / 16 ^ (16 - i) : Nat) : Int) := by
      rw [Int.tdiv_eq_ediv_of_nonneg (Int.natCast_nonneg _)]
      have h1 : ((v / 16 ^ (16 - (i + 1)) : Nat) : Int) / 16 = ((v / 16 ^ (16 - i) : Nat) : Int) := by
        rw [show 16 - i = (16 - (i + 1)) + 1 by omega, Nat.pow_succ, ← Nat.div_div_eq_div_mul]
        rfl
      rw [h1]
      have h2 : v / 16 ^ (16 - i) ≤ v := Nat.div_le_self _ _
      generalize v / 16 ^ (16 - i) = q at h2
      rw [wrapN', Nat.mod_eq_of_lt (by omega)]
    rw [e2, wrap64 (by omega) (by omega)]
    have hD := D16_at v i (by omega)
    exact m24_loop n v hv k m i (l.set i (hexc (v / 16 ^ (15 - i) % 16))) (by omega) (by rw [List.length_set]; exact hl) (set_drop (by omega) ht (by rw [D16_len]; omega) hD) (by omega)

theorem m24_val {v : Nat} (hv : v < 18446744073709551616) : m24 2000 (v : Int) = some (D16 v) := by
  unfold m24 jn
  have hm : mk (0 : UInt8) 16 16 = some (List.replicate 16 0) := rfl
  rw [hm]
  simp only [Option.bind_some]
  have := m24_loop 2000 v hv (fun p => some p) 2000 16 (List.replicate 16 0) (by omega) (by simp) (by rw [List.drop_of_length_le (by simp), List.drop_of_length_le (by rw [D16_len]; omega)]) (by omega)
  simp only [Nat.sub_self, Nat.pow_zero, Nat.div_one] at this
  exact this

/-- what both make of the rest of a text -/
def pl : List UInt8 → Nat → Int × Int
  | [], h => ((h : Int), 0)
  | c :: l, h => match hexv c with
    | some d => pl l ((h * 16 + d) % 18446744073709551616)
    | none => (0, 3)

theorem pl_cons_some {c : UInt8} {l : List UInt8} {h d : Nat} (hv : hexv c = some d) : pl (c :: l) h = pl l ((h * 16 + d) % 18446744073709551616) := by
  rw [pl, hv]
theorem pl_cons_none {c : UInt8} {l : List UInt8} {h : Nat} (hv : hexv c = none) : pl (c :: l) h = (0, 3) := by
  rw [pl, hv]
theorem wrapN (x : Nat) : IntKind.wrap .u64 (x : Int) = ((x % 18446744073709551616 : Nat) : Int) := by
  simp [IntKind.wrap, IntKind.signed, IntKind.bits]

theorem m22_loop (n : Nat) (b : List UInt8) (hb : b.length ≤ 1000) : ∀ (m i h : Nat), i ≤ b.length → b.length - i < m → h < 18446744073709551616 →
    loopM (m22_L1 n b (fun p => some (p, 0))) m ((h : Int), (i : Int)) = some (pl (b.drop i) h)
  | 0, _, _, _, hm, _ => absurd hm (Nat.not_lt_zero _)
  | m + 1, i, h, hi, hm, hh => by
    rw [loopM_succ, m22_L1]
    by_cases hlt : i < b.length
    · have hc : (decide ((i : Int) < (b.length : Int))) = true := by simpa using hlt
      simp only [hc, if_true]
      rw [getIdx_at rfl hlt, List.drop_eq_getElem_cons hlt]
      simp only [Option.bind_some, letM_eq, jn]
      rw [wrap64 (x := (i : Int) + 1) (by omega) (by omega)]
      generalize b[i] = c
      have hcl := c.toNat_lt
      have e16 : IntKind.wrap .u64 ((h : Int) * 16) = ((h * 16 % 18446744073709551616 : Nat) : Int) := by
        rw [show ((h : Int) * 16) = ((h * 16 : Nat) : Int) from by omega, wrapN]
      have hw8 : ∀ x : Nat, x < 256 → IntKind.wrap .u8 (x : Int) = (x : Int) := by
        intro x hx
        simp [IntKind.wrap, IntKind.signed, IntKind.bits]
        omega
      have ih := fun h' hh' => m22_loop n b hb m (i + 1) h' (by omega) (by omega) hh'
      by_cases h1 : 48 ≤ c.toNat ∧ c.toNat ≤ 57
      · have hv : hexv c = some (c.toNat - 48) := by unfold hexv; rw [if_pos h1]
        have hc1 : (decide ((48 : Int) ≤ (c.toNat : Int)) && decide ((c.toNat : Int) ≤ 57)) = true := by simp; omega
        rw [if_pos hc1, pl_cons_some hv]
        rw [e16, show ((c.toNat : Int) - 48) = ((c.toNat - 48 : Nat) : Int) from by omega, hw8 _ (by omega), wrapN]
        rw [show (((h * 16 % 18446744073709551616 : Nat) : Int) + (((c.toNat - 48) % 18446744073709551616 : Nat) : Int)) = ((h * 16 % 18446744073709551616 + (c.toNat - 48) % 18446744073709551616 : Nat) : Int) from by omega, wrapN]
        rw [show (h * 16 % 18446744073709551616 + (c.toNat - 48) % 18446744073709551616) % 18446744073709551616 = (h * 16 + (c.toNat - 48)) % 18446744073709551616 from by omega]
        have hq : (h * 16 + (c.toNat - 48)) % 18446744073709551616 < 18446744073709551616 := Nat.mod_lt _ (by decide)
        generalize (h * 16 + (c.toNat - 48)) % 18446744073709551616 = q at hq ⊢
        have := ih q hq
        exact_mod_cast this
      · have hc1 : ¬ (decide ((48 : Int) ≤ (c.toNat : Int)) && decide ((c.toNat : Int) ≤ 57)) = true := by simp; omega
        rw [if_neg hc1]
        by_cases h2 : 97 ≤ c.toNat ∧ c.toNat ≤ 102
        · have hv : hexv c = some (c.toNat - 87) := by unfold hexv; rw [if_neg h1, if_pos h2]
          have hc2 : (decide ((97 : Int) ≤ (c.toNat : Int)) && decide ((c.toNat : Int) ≤ 102)) = true := by simp; omega
          rw [if_pos hc2, pl_cons_some hv]
          rw [e16, show ((c.toNat : Int) - 97) = ((c.toNat - 97 : Nat) : Int) from by omega, hw8 _ (by omega), wrapN]
          rw [show (((h * 16 % 18446744073709551616 : Nat) : Int) + (((c.toNat - 97) % 18446744073709551616 : Nat) : Int)) = ((h * 16 % 18446744073709551616 + (c.toNat - 97) % 18446744073709551616 : Nat) : Int) from by omega, wrapN]
          rw [show ((((h * 16 % 18446744073709551616 + (c.toNat - 97) % 18446744073709551616) % 18446744073709551616 : Nat) : Int) + 10) = (((h * 16 % 18446744073709551616 + (c.toNat - 97) % 18446744073709551616) % 18446744073709551616 + 10 : Nat) : Int) from by omega, wrapN]
          rw [show ((h * 16 % 18446744073709551616 + (c.toNat - 97) % 18446744073709551616) % 18446744073709551616 + 10) % 18446744073709551616 = (h * 16 + (c.toNat - 87)) % 18446744073709551616 from by omega]
          have hq : (h * 16 + (c.toNat - 87)) % 18446744073709551616 < 18446744073709551616 := Nat.mod_lt _ (by decide)
          generalize (h * 16 + (c.toNat - 87)) % 18446744073709551616 = q at hq ⊢
          have := ih q hq
          exact_mod_cast this
        · have hv : hexv c = none := by unfold hexv; rw [if_neg h1, if_neg h2]
          have hc2 : ¬ (decide ((97 : Int) ≤ (c.toNat : Int)) && decide ((c.toNat : Int) ≤ 102)) = true := by simp; omega
          rw [if_neg hc2, pl_cons_none hv]
    · have hc : (decide ((i : Int) < (b.length : Int))) = false := by simpa using hlt
      simp only [hc, Bool.false_eq_true, if_false]
      rw [List.drop_of_length_le (by omega), pl]

theorem m22_val {b : List UInt8} (hb : b.length ≤ 1000) : m22 2000 b = some (if b.length = 16 then pl b 0 else (0, 3)) := by
  unfold m22 jn
  by_cases h : b.length = 16
  · have hc : ¬ (!decide ((b.length : Int) = 16)) = true := by simp; omega
    rw [if_neg hc, if_pos h]
    have := m22_loop 2000 b hb 2000 0 0 (by omega) (by omega) (by decide)
    simpa using this
  · have hc : (!decide ((b.length : Int) = 16)) = true := by simp; omega
    rw [if_pos hc, if_neg h]

theorem bits_or {h d : Nat} (hh : h < 18446744073709551616) (hd : d < 16) : bits BinOp.or IntKind.u64 (IntKind.u64.wrap ((h : Int) * 16)) (d : Int) = (((h * 16 + d) % 18446744073709551616 : Nat) : Int) := by
  have e1 : BitVec.ofInt 64 (IntKind.u64.wrap ((h : Int) * 16)) = BitVec.ofNat 64 (h * 16 % 18446744073709551616) := by
    rw [show ((h : Int) * 16) = ((h * 16 : Nat) : Int) from by omega, wrapN]
    apply BitVec.eq_of_toNat_eq
    simp
    omega
  have e2 : BitVec.ofInt 64 (d : Int) = BitVec.ofNat 64 d := by
    apply BitVec.eq_of_toNat_eq
    simp
  unfold bits
  show IntKind.wrap .u64 (((BitVec.ofInt 64 (IntKind.u64.wrap ((h : Int) * 16)) ||| BitVec.ofInt 64 (d : Int)).toNat : Nat) : Int) = _
  rw [e1, e2, wrapU64, ofInt_toNat, BitVec.toNat_or, BitVec.toNat_ofNat, BitVec.toNat_ofNat]
  have e3 : h * 16 % 18446744073709551616 % 2 ^ 64 = 2 ^ 4 * (h % 1152921504606846976) := by omega
  have e4 : d % 2 ^ 64 = d := by omega
  rw [e3, e4, ← Nat.two_pow_add_eq_or_of_lt (by omega)]
  omega

theorem prs_pl (b : List UInt8) (hb : b.length ≤ 1000) : ∀ (m i h : Nat), i ≤ b.length → b.length - i ≤ m → h < 18446744073709551616 → prs (mkS b) m i (h : Int) = pl (b.drop i) h
  | 0, i, h, hi, hm, _ => by
    rw [List.drop_of_length_le (by omega), pl]; rfl
  | m + 1, i, h, hi, hm, hh => by
    rw [prs, mkS_size]
    by_cases hlt : i < b.length
    · rw [if_pos hlt, List.drop_eq_getElem_cons hlt]
      have hp : i < (mkS b).size := by rw [mkS_size]; exact hlt
      have eb : (mkS b)[i]'hp = b[i] := by
        rfl
      by_cases hc : b[i].toNat < 128
      · rw [decode_ascii (mkS b) i hp (by rw [eb]; exact hc), eb]
        simp only
        have ih := fun h' hh' => prs_pl b hb m (i + 1) h' (by omega) (by omega) hh'
        generalize b[i] = c at hc ⊢
        by_cases h1 : 48 ≤ c.toNat ∧ c.toNat ≤ 57
        · have hv : hexv c = some (c.toNat - 48) := by unfold hexv; rw [if_pos h1]
          rw [if_pos (by omega), pl_cons_some hv]
          rw [show ((c.toNat : Int) - 48) = ((c.toNat - 48 : Nat) : Int) from by omega, bits_or hh (by omega)]
          exact ih _ (Nat.mod_lt _ (by decide))
        · rw [if_neg (by omega)]
          by_cases h2 : 97 ≤ c.toNat ∧ c.toNat ≤ 102
          · have hv : hexv c = some (c.toNat - 87) := by unfold hexv; rw [if_neg h1, if_pos h2]
            rw [if_pos (by omega), pl_cons_some hv]
            rw [show ((c.toNat : Int) - 97 + 10) = ((c.toNat - 87 : Nat) : Int) from by omega, bits_or hh (by omega)]
            exact ih _ (Nat.mod_lt _ (by decide))
          · have hv : hexv c = none := by unfold hexv; rw [if_neg h1, if_neg h2]
            rw [if_neg (by omega), pl_cons_none hv]
      · have := (decode_high (mkS b) i hp (by rw [eb]; omega)).1
        have hv : hexv b[i] = none := by unfold hexv; rw [if_neg (by omega), if_neg (by omega)]
        rw [if_neg (by omega), if_neg (by omega)]
        exact (pl_cons_none hv).symm
    · rw [if_neg hlt, List.drop_of_length_le (by omega), pl]

theorem m21_val {b : List UInt8} (hb : b.length ≤ 1000) : m21 2000 b = some (if b.length = 16 then pl b 0 else (0, 3)) := by
  unfold m21
  rw [if_pos (by unfold maxLen; omega)]
  by_cases h : b.length = 16
  · rw [if_pos h, if_pos h]
    have := prs_pl b hb 16 0 0 (by omega) (by omega) (by decide)
    simpa using this
  · rw [if_neg h, if_neg h]

theorem nat_of_u64 {a : Int} (h : (Lit.int .u64 a).wf = true) : ∃ v : Nat, a = (v : Int) ∧ v < 18446744073709551616 := by
  obtain ⟨v, hv⟩ := u64_of h
  exact ⟨v.toNat, hv, v.isLt⟩

theorem m8_true {a0 : Int} (h0 : (Lit.int .u64 a0).wf = true) (a1 : List UInt8) : m8 2000 a0 a1 = some true := by
  obtain ⟨v, rfl, hv⟩ := nat_of_u64 h0
  unfold m8
  rw [m10_true]
  simp only [Option.bind_some, Bool.not_true, Bool.false_eq_true, if_false]
  by_cases h : (400 : Int) < (a1.length : Int)
  · simp [h]
  · simp [h, m21_val (show a1.length ≤ 1000 by omega), m22_val (show a1.length ≤ 1000 by omega), m23_val hv, m24_val hv]

/-- a list of digits, read -/
theorem pl_some {l : List UInt8} {ds : List Nat} : ∀ (h : Nat), l.map hexv = ds.map some → pl l h = (((ds.foldl (fun h d => (h * 16 + d) % 18446744073709551616) h : Nat) : Int), 0) := by
  induction l generalizing ds with
  | nil =>
    intro h hl
    have : ds = [] := by
      cases ds with
      | nil => rfl
      | cons _ _ => simp at hl
    subst this
    rfl
  | cons c l ih =>
    intro h hl
    cases ds with
    | nil => simp at hl
    | cons d ds =>
      simp only [List.map_cons, List.cons.injEq] at hl
      rw [pl, hl.1]
      exact ih _ hl.2
theorem pl_ok {l : List UInt8} : ∀ {h : Nat}, (pl l h).2 = 0 → ∃ ds : List Nat, l.map hexv = ds.map some := by
  induction l with
  | nil => intro h _; exact ⟨[], rfl⟩
  | cons c l ih =>
    intro h hp
    rw [pl] at hp
    cases hc : hexv c with
    | none => rw [hc] at hp; simp at hp
    | some d =>
      rw [hc] at hp
      obtain ⟨ds, hds⟩ := ih hp
      exact ⟨d :: ds, by simp [hc, hds]⟩
/-- no digit is lost while there are 16 at the most -/
theorem fold_mod : ∀ (ds : List Nat) (h : Nat), (∀ d, d ∈ ds → d < 16) → h < 16 ^ (16 - ds.length) → ds.length ≤ 16 → ds.foldl (fun h d => (h * 16 + d) % 18446744073709551616) h = ds.foldl (fun h d => h * 16 + d) h
  | [], _, _, _, _ => rfl
  | d :: ds, h, hd, hh, hl => by
    simp only [List.length_cons] at hh hl
    have hd0 := hd d (by simp)
    have hlt : h * 16 + d < 16 ^ (16 - ds.length) := by
      rw [show 16 - ds.length = (16 - (ds.length + 1)) + 1 by omega, Nat.pow_succ]
      omega
    have hle : 16 ^ (16 - ds.length) ≤ 18446744073709551616 := by
      calc 16 ^ (16 - ds.length) ≤ 16 ^ 16 := Nat.pow_le_pow_right (by decide) (by omega)
        _ = 18446744073709551616 := by decide
    rw [List.foldl_cons, List.foldl_cons, Nat.mod_eq_of_lt (by omega)]
    exact fold_mod ds _ (fun d h => hd d (List.mem_cons_of_mem _ h)) hlt (by omega)

theorem map_hexc {l : List UInt8} {ds : List Nat} (h : l.map hexv = ds.map some) : ds.map hexc = l ∧ (∀ d, d ∈ ds → d < 16) := by
  induction l generalizing ds with
  | nil =>
    cases ds with
    | nil => exact ⟨rfl, fun d h => by cases h⟩
    | cons _ _ => simp at h
  | cons c l ih =>
    cases ds with
    | nil => simp at h
    | cons d ds =>
      simp only [List.map_cons, List.cons.injEq] at h
      obtain ⟨h1, h2⟩ := ih h.2
      refine ⟨by simp [h1, hexc_hexv h.1], fun e he => ?_⟩
      rcases List.mem_cons.1 he with rfl | he
      · exact hexv_lt h.1
      · exact h2 e he
theorem map_hexv {ds : List Nat} (h : ∀ d, d ∈ ds → d < 16) : (ds.map hexc).map hexv = ds.map some := by
  rw [List.map_map]
  exact List.map_congr_left fun d hd => hexv_hexc (h d hd)

theorem pl_D16 {v : Nat} (hv : v < 18446744073709551616) : pl (D16 v) 0 = ((v : Int), 0) := by
  have hd := digs_lt 16 v
  unfold D16
  rw [pl_some 0 (map_hexv hd), fold_mod _ 0 hd (by rw [digs_len]; decide) (by rw [digs_len]; exact Nat.le_refl _)]
  have := vald_digs 16 v (by have : (16 : Nat) ^ 16 = 18446744073709551616 := by decide
                             omega)
  unfold vald at this
  rw [this]

theorem D16_pl {b : List UInt8} (hl : b.length = 16) (h : (pl b 0).2 = 0) : ∃ v : Nat, pl b 0 = ((v : Int), 0) ∧ v < 18446744073709551616 ∧ D16 v = b := by
  obtain ⟨ds, hds⟩ := pl_ok h
  obtain ⟨h1, h2⟩ := map_hexc hds
  have hdl : ds.length = 16 := by
    have := congrArg List.length hds
    simpa [hl] using this.symm
  refine ⟨vald ds, ?_, ?_, ?_⟩
  · rw [pl_some 0 hds, fold_mod ds 0 h2 (by rw [hdl]; decide) (by omega)]; rfl
  · have : ∀ (ds : List Nat) (h : Nat), (∀ d, d ∈ ds → d < 16) → ds.foldl (fun h d => h * 16 + d) h < (h + 1) * 16 ^ ds.length := by
      intro ds
      induction ds with
      | nil => intro h _; simp
      | cons d ds ih =>
        intro h hd
        have h1 := ih (h * 16 + d) fun e he => hd e (List.mem_cons_of_mem _ he)
        have h2 := hd d (by simp)
        rw [List.foldl_cons, List.length_cons, Nat.pow_succ]
        refine Nat.lt_of_lt_of_le h1 ?_
        rw [← Nat.mul_assoc, Nat.mul_right_comm]
        exact Nat.mul_le_mul_right _ (by omega)
    have h3 := this ds 0 h2
    rw [hdl] at h3
    have e : (16 : Nat) ^ 16 = 18446744073709551616 := by decide
    unfold vald
    omega
  · unfold D16
    rw [digs_vald 16 ds hdl h2, h1]
end Go.AB

import Derived.Test.YtffbjmipkffgkaaLc
namespace Go.AB
open Go

theorem or_sg {v : Int} {c : Nat} (h1 : -36028797018963968 ≤ v) (h2 : v < 36028797018963968) (hc : c < 256) : orI .i64 (shlI .i64 v 8) (c : Int) = v * 256 + (c : Int) := by
  have e0 : shlI .i64 v 8 = v * 256 := by
    show IntKind.wrap .i64 (v * 2 ^ min 8 64) = _
    rw [show (v * 2 ^ min 8 64) = v * 256 from by rw [show min 8 64 = 8 from rfl]; rfl, wrap64 (by omega) (by omega)]
  rw [e0]
  unfold orI
  show IntKind.wrap .i64 (((BitVec.ofInt 64 (v * 256) ||| BitVec.ofInt 64 (c : Int)).toNat : Nat) : Int) = _
  have e2 : BitVec.ofInt 64 (c : Int) = BitVec.ofNat 64 c := by apply BitVec.eq_of_toNat_eq; simp
  rw [e2, BitVec.toNat_or, BitVec.toNat_ofInt, BitVec.toNat_ofNat]
  obtain ⟨z, hz, hz2⟩ : ∃ z : Nat, (v % 72057594037927936) = (z : Int) ∧ z < 72057594037927936 := ⟨(v % 72057594037927936).toNat, by omega, by omega⟩
  have e3 : (v * 256 % ((2 ^ 64 : Nat) : Int)).toNat = 2 ^ 8 * z := by omega
  have e4 : c % 2 ^ 64 = c := by omega
  rw [e3, e4, ← Nat.two_pow_add_eq_or_of_lt (by omega)]
  simp [IntKind.wrap, IntKind.signed, IntKind.bits]; omega
theorem val_nil : val [] = 0 := by simp [val, sg, num]
theorem val_one (c : UInt8) : val [c] = IntKind.wrap .i64 (IntKind.wrap .i8 (c.toNat : Int)) := by
  have hc := c.toNat_lt
  simp only [val, sg, num, List.length_cons, List.length_nil, List.foldl_cons, List.foldl_nil, IntKind.wrap, IntKind.signed, IntKind.bits]
  simp
  split <;> omega
theorem val_snoc {l : List UInt8} {c : UInt8} (h : 1 ≤ l.length) : val (l ++ [c]) = val l * 256 + (c.toNat : Int) := by
  have hc := c.toNat_lt
  obtain ⟨k, hk⟩ : ∃ k, l.length = k + 1 := ⟨l.length - 1, by omega⟩
  unfold val sg
  rw [num_snoc, List.length_append, hk, show k + 1 + [c].length = k + 1 + 1 from rfl, Nat.pow_succ, Nat.pow_succ]
  generalize 256 ^ k = q
  split <;> split <;> omega
theorem val_lt {l : List UInt8} (h : l.length ≤ 7) : -36028797018963968 ≤ val l ∧ val l < 36028797018963968 := by
  have hn := num_lt l.length l rfl
  unfold val sg
  have hc : l.length = 0 ∨ l.length = 1 ∨ l.length = 2 ∨ l.length = 3 ∨ l.length = 4 ∨ l.length = 5 ∨ l.length = 6 ∨ l.length = 7 := by omega
  rcases hc with e | e | e | e | e | e | e | e <;> rw [e] at hn ⊢ <;> simp only [Nat.reducePow] at hn ⊢ <;> split <;> omega

/-- what an attempt at a value answers -/
def Bt {α : Type} (p : List UInt8 → Option (α × Nat)) (b : List UInt8) (i : Nat) (o : Option (α × List UInt8 × Int × Bool)) : Prop :=
  (∀ r, p (b.drop i) = some r → o = some (r.1, b, ((i + r.2 : Nat) : Int), false)) ∧ (p (b.drop i) = none → ∃ v a, o = some (v, b, a, true))
def RS {α : Type} (zero : α) (p : List UInt8 → Option (α × Nat)) (b : List UInt8) (i : Nat) (f : Bool) : Option (α × List UInt8 × Int × Bool) :=
  some (if f = true then (zero, b, (i : Int), true) else match p (b.drop i) with | some r => (r.1, b, ((i + r.2 : Nat) : Int), false) | none => (zero, b, (i : Int), true))
section
variable {α : Type} {zero : α} {p : List UInt8 → Option (α × Nat)} {b : List UInt8} {i : Nat}
theorem RS_f : RS zero p b i true = some (zero, b, (i : Int), true) := rfl
theorem RS_some {r : α × Nat} (h : p (b.drop i) = some r) : RS zero p b i false = some (r.1, b, ((i + r.2 : Nat) : Int), false) := by simp [RS, h]
theorem RS_none (h : p (b.drop i) = none) : RS zero p b i false = some (zero, b, (i : Int), true) := by simp [RS, h]
/-- an attempt, undone when it fails -/
theorem att {f : Bool} {o : Option (α × List UInt8 × Int × Bool)} (h : f = false → Bt p b i o) :
    (if f = true then some (zero, b, (i : Int), f) else o.bind fun y => if y.2.2.2 = true then some (zero, y.2.1, (i : Int), y.2.2.2) else some (y.1, y.2.1, y.2.2.1, y.2.2.2)) = RS zero p b i f := by
  cases f with
  | true => rfl
  | false =>
    obtain ⟨h1, h2⟩ := h rfl
    rw [if_neg (by simp)]
    cases hp : p (b.drop i) with
    | none =>
      obtain ⟨v, a, e⟩ := h2 hp
      rw [e, RS_none hp, Option.bind_some]
      rfl
    | some r =>
      rw [h1 r hp, RS_some hp, Option.bind_some]
      rfl
theorem eta4 {β γ δ ε : Type} (o : Option (β × γ × δ × ε)) : (o.bind fun y => some (y.1, y.2.1, y.2.2.1, y.2.2.2)) = o := by cases o <;> rfl
end

theorem m45_lt {n : Nat} {b : List UInt8} {i : Nat} {f : Bool} (h : i < b.length) (hb : b.length ≤ 100000) : m45 n b (i : Int) f = some ((b[i].toNat : Int), b, ((i + 1 : Nat) : Int), f) := by
  unfold m45
  rw [if_neg (by simp; omega), letM_eq, wrap64 (x := (i : Int) + 1) (by omega) (by omega), wrap64 (x := (i : Int) + 1 - 1) (by omega) (by omega), getIdx_at (k := i) (by omega) h, Option.bind_some]
  rfl
theorem m45_ge {n : Nat} {b : List UInt8} {i : Nat} {f : Bool} (h : b.length ≤ i) : m45 n b (i : Int) f = some (0, b, (i : Int), true) := by
  unfold m45
  rw [if_pos (by simp; omega)]

theorem m44_dry {n s j : Nat} {b : List UInt8} {v : Int} {f : Bool} {y1 : Int × List UInt8 × Int × Bool} {k : (Int × (List UInt8) × Int × Bool) → Option (Int × (List UInt8) × Int × Bool)} (hs : s ≤ 8) (hb : b.length ≤ 100000) (hy : IntKind.wrap .i64 y1.1 = (s : Int)) (hlt : j < s) :
    ∃ v', ∀ nx, m44_L1 n y1 k nx (v, (j : Int), b, (b.length : Int), f) = nx (v', ((j + 1 : Nat) : Int), b, (b.length : Int), true) := by
  refine ⟨if (decide ((j : Int) = (0 : Int))) = true then IntKind.wrap .i64 (IntKind.wrap .i8 0) else orI .i64 (shlI .i64 v (8 : Int)) (IntKind.wrap .i64 0), fun nx => ?_⟩
  rw [m44_L1]
  unfold jn
  dsimp only
  rw [hy, if_pos (by simp; omega), m45_ge (Nat.le_refl _), Option.bind_some]
  dsimp only
  rw [letM_eq, letM_eq, letM_eq, letM_eq, wrap64 (x := (j : Int) + 1) (by omega) (by omega)]
  split <;> rfl

theorem m44_loop {n s : Nat} {b r : List UInt8} {i : Nat} {y1 : Int × List UInt8 × Int × Bool} (hr : r = b.drop (i + 1)) (hs : s ≤ 8) (hn : 9 < n) (hb : b.length ≤ 100000) (hi : i < b.length) (hy : IntKind.wrap .i64 y1.1 = (s : Int))
    (k : (Int × (List UInt8) × Int × Bool) → Option (Int × (List UInt8) × Int × Bool)) :
    (s ≤ r.length → loopM (m44_L1 n y1 k) n (0, 0, b, ((i + 1 : Nat) : Int), false) = k (val (r.take s), b, ((i + 1 + s : Nat) : Int), false)) ∧
    (r.length < s → ∃ v, loopM (m44_L1 n y1 k) n (0, 0, b, ((i + 1 : Nat) : Int), false) = k (v, b, (b.length : Int), true)) := by
  have hrl : r.length = b.length - (i + 1) := by rw [hr, List.length_drop]
  refine loopM_ind (fun m x => ∃ j : Nat, j ≤ s ∧ m = s - j ∧ ((j ≤ r.length ∧ x = (val (r.take j), (j : Int), b, ((i + 1 + j : Nat) : Int), false)) ∨ (r.length < s ∧ ∃ v, x = (v, (j : Int), b, (b.length : Int), true))))
    (fun o => (s ≤ r.length → o = k (val (r.take s), b, ((i + 1 + s : Nat) : Int), false)) ∧ (r.length < s → ∃ v, o = k (v, b, (b.length : Int), true))) ?_ n s _ ⟨0, Nat.zero_le _, rfl, .inl ⟨Nat.zero_le _, by rw [List.take_zero, val_nil]; rfl⟩⟩ (by omega)
  rintro m x ⟨j, h1, rfl, hx⟩
  rcases Nat.lt_or_ge j s with hlt | hge
  · rcases hx with ⟨hj, rfl⟩ | ⟨hj, v, rfl⟩
    · rcases Nat.lt_or_ge j r.length with hjr | hjr
      · refine .inl ⟨s - (j + 1), (val (r.take (j + 1)), ((j + 1 : Nat) : Int), b, ((i + 1 + (j + 1) : Nat) : Int), false), by omega, ⟨j + 1, hlt, rfl, .inl ⟨hjr, rfl⟩⟩, fun nx => ?_⟩
        rw [m44_L1]
        unfold jn
        dsimp only
        have hc : (b[i + 1 + j]'(by omega)) = r[j] := by subst hr; rw [List.getElem_drop]
        rw [hy, if_pos (by simp; omega), m45_lt (by omega) hb, Option.bind_some, hc]
        dsimp only
        rw [letM_eq, letM_eq, letM_eq, letM_eq, wrap64 (x := (j : Int) + 1) (by omega) (by omega), wrap64 (x := (r[j].toNat : Int)) (by have := r[j].toNat_lt; omega) (by have := r[j].toNat_lt; omega)]
        have e2 : ((j + 1 : Nat) : Int) = (j : Int) + 1 := by omega
        rw [List.take_succ_eq_append_getElem hjr, e2]
        by_cases h0 : j = 0
        · subst h0
          rw [if_pos (by simp), List.take_zero, List.nil_append, val_one]
        · have hl : (r.take j).length = j := by simp; omega
          obtain ⟨v1, v2⟩ := val_lt (l := r.take j) (by omega)
          rw [if_neg (by simp; omega), or_sg v1 v2 (UInt8.toNat_lt _), val_snoc (by omega)]
          rfl
      · have e0 : i + 1 + j = b.length := by omega
        obtain ⟨v', hv⟩ := m44_dry (n := n) (k := k) (j := j) (f := false) (v := val (r.take j)) hs hb hy hlt
        refine .inl ⟨s - (j + 1), (v', ((j + 1 : Nat) : Int), b, (b.length : Int), true), by omega, ⟨j + 1, hlt, rfl, .inr ⟨by omega, v', rfl⟩⟩, fun nx => ?_⟩
        rw [e0]
        exact hv nx
    · obtain ⟨v', hv⟩ := m44_dry (n := n) (k := k) (j := j) (f := true) (v := v) hs hb hy hlt
      exact .inl ⟨s - (j + 1), (v', ((j + 1 : Nat) : Int), b, (b.length : Int), true), by omega, ⟨j + 1, hlt, rfl, .inr ⟨by omega, v', rfl⟩⟩, fun nx => hv nx⟩
  · have : j = s := by omega
    subst this
    rcases hx with ⟨hj, rfl⟩ | ⟨hj, v, rfl⟩
    · refine .inr ⟨_, ⟨fun _ => rfl, fun h => absurd h (by omega)⟩, fun nx => ?_⟩
      rw [m44_L1, hy, if_neg (by simp)]
    · refine .inr ⟨_, ⟨fun h => absurd h (by omega), fun _ => ⟨v, rfl⟩⟩, fun nx => ?_⟩
      rw [m44_L1, hy, if_neg (by simp)]

theorem m44_bd {n : Nat} (hn : 9 < n) {b : List UInt8} {i : Nat} (hi : i ≤ b.length) (hb : b.length ≤ 100000) : Bt pInt b i (m44 n b (i : Int) false) := by
  unfold m44 jn
  rcases Nat.lt_or_ge i b.length with h | h
  · rw [m45_lt h hb, Option.bind_some]
    dsimp only
    have hs := b[i].toNat_lt
    rw [Bool.false_or, wrap64 (x := (b[i].toNat : Int)) (by omega) (by omega), wrap64 (x := (b[i].toNat : Int) + 1) (by omega) (by omega)]
    unfold Bt
    rw [List.drop_eq_getElem_cons h]
    by_cases h8 : b[i].toNat ≤ 8
    · rw [if_neg (by simp; omega)]
      obtain ⟨q1, q2⟩ := m44_loop (n := n) (s := b[i].toNat) (r := b.drop (i + 1)) (y1 := ((b[i].toNat : Int), b, ((i + 1 : Nat) : Int), false)) rfl h8 hn hb h (wrap64 (by omega) (by omega))
        (fun p_24 : Int × (List UInt8) × Int × Bool => ((gdO (!p_24.2.2.2) (m12x2 n p_24.1) default).bind fun y_26 => if ((!p_24.2.2.2) && (!decide ((y_26.length : Int) = (b[i].toNat : Int) + 1))) = true then some (p_24.1, p_24.2.1, p_24.2.2.1, true) else some (p_24.1, p_24.2.1, p_24.2.2.1, p_24.2.2.2)))
      rcases Nat.lt_or_ge (b.drop (i + 1)).length b[i].toNat with hl | hl
      · obtain ⟨v, e⟩ := q2 hl
        refine ⟨fun r hr => ?_, fun _ => ⟨v, (b.length : Int), ?_⟩⟩
        · rw [pInt, if_neg (fun hc => absurd hc.2.1 (by omega))] at hr
          cases hr
        · exact e.trans rfl
      · have e := q1 hl
        have ht : ((b.drop (i + 1)).take b[i].toNat).length = b[i].toNat := by rw [List.length_take]; omega
        obtain ⟨w1, w2⟩ := val_in (l := (b.drop (i + 1)).take b[i].toNat) (by omega)
        rw [Bool.not_false, gdO_true, m12x2_val w1 hn, Option.bind_some, eInt_len, Bool.true_and] at e
        dsimp only at e
        by_cases hw : wd (val ((b.drop (i + 1)).take b[i].toNat)) = b[i].toNat
        · rw [if_neg (by simp; omega)] at e
          refine ⟨fun r hr => ?_, fun hr => ?_⟩
          · rw [pInt, if_pos ⟨h8, hl, hw⟩] at hr
            obtain rfl := Option.some.inj hr
            refine e.trans ?_
            rw [show i + 1 + b[i].toNat = i + (b[i].toNat + 1) from by omega]
          · rw [pInt, if_pos ⟨h8, hl, hw⟩] at hr
            cases hr
        · rw [if_pos (by simp; omega)] at e
          refine ⟨fun r hr => ?_, fun hr => ⟨_, _, e⟩⟩
          rw [pInt, if_neg (fun hc => hw hc.2.2)] at hr
          cases hr
    · rw [if_pos (by simp; omega)]
      refine ⟨fun r hr => ?_, fun _ => ⟨_, _, rfl⟩⟩
      rw [pInt, if_neg (fun hc => h8 hc.1)] at hr
      cases hr
  · rw [m45_ge h, Option.bind_some]
    dsimp only
    rw [Bool.true_or, if_pos rfl]
    refine ⟨fun r hr => ?_, fun _ => ⟨_, _, rfl⟩⟩
    rw [List.drop_eq_nil_of_le h] at hr
    cases hr
/-- a reader -/
def Rd {α : Type} (m : List UInt8 → Int → Bool → Option (α × List UInt8 × Int × Bool)) (zero : α) (p : List UInt8 → Option (α × Nat)) : Prop :=
  ∀ b i f, i ≤ b.length → b.length ≤ 100000 → m b ((i : Nat) : Int) f = RS zero p b i f
theorem rInt {n : Nat} (hn : 9 < n) : Rd (m17 n) 0 pInt := by
  intro b i f hi hb
  unfold m17 m43
  rw [eta4]
  refine att (zero := (0 : Int)) (f := f) (o := m44 n b (i : Int) f) fun hf => ?_
  subst hf
  exact m44_bd hn hi hb
end Go.AB

import Derived.Test.YtcahghigmlibjaaLd
namespace Go.AB
open Go

theorem or64' {x y : Nat} (hx : x < 256) (hy : y < 256) : orI .i64 (shlI .i64 (IntKind.wrap .i64 (x : Int)) 8) (IntKind.wrap .i64 (y : Int)) = ((x * 256 + y : Nat) : Int) := by
  rw [wrap64 (by omega) (by omega), wrap64 (by omega) (by omega)]
  have e0 : shlI .i64 (x : Int) 8 = ((x * 256 : Nat) : Int) := by
    show IntKind.wrap .i64 ((x : Int) * 2 ^ min 8 64) = _
    rw [show ((x : Int) * 2 ^ min 8 64) = ((x * 256 : Nat) : Int) from by rw [show min 8 64 = 8 from rfl]; omega, wrap64 (by omega) (by omega)]
  rw [e0]
  unfold orI
  show IntKind.wrap .i64 (((BitVec.ofInt 64 ((x * 256 : Nat) : Int) ||| BitVec.ofInt 64 (y : Int)).toNat : Nat) : Int) = _
  have e1 : BitVec.ofInt 64 ((x * 256 : Nat) : Int) = BitVec.ofNat 64 (x * 256) := by
    generalize x * 256 = z
    apply BitVec.eq_of_toNat_eq; simp
  have e2 : BitVec.ofInt 64 (y : Int) = BitVec.ofNat 64 y := by
    apply BitVec.eq_of_toNat_eq; simp
  rw [e1, e2, BitVec.toNat_or, BitVec.toNat_ofNat, BitVec.toNat_ofNat]
  have e3 : x * 256 % 2 ^ 64 = 2 ^ 8 * x := by omega
  have e4 : y % 2 ^ 64 = y := by omega
  rw [e3, e4, ← Nat.two_pow_add_eq_or_of_lt (by omega), wrap64 (by omega) (by omega)]
  omega
theorem or64 (a b : UInt8) : orI .i64 (shlI .i64 (IntKind.wrap .i64 (a.toNat : Int)) 8) (IntKind.wrap .i64 (b.toNat : Int)) = ((kk a b : Nat) : Int) := or64' a.toNat_lt b.toNat_lt
theorem kk_lt (a b : UInt8) : kk a b < 65536 := by
  have := a.toNat_lt
  have := b.toNat_lt
  unfold kk; omega
theorem not_byte {c d : UInt8} : (decide ((c.toNat : Int) = xorI .u8 (if IntKind.signed .u8 then -1 else IntKind.max .u8) (d.toNat : Int))) = decide (c = UInt8.ofNat (255 - d.toNat)) := by
  rw [not8 d.toNat_lt]
  have h1 := d.toNat_lt
  have h2 := c.toNat_lt
  apply decide_eq_decide.2
  constructor
  · intro h
    apply UInt8.toNat_inj.1
    rw [ofN (by omega)]; omega
  · intro h
    rw [h, ofN (by omega)]
theorem is245 {c : UInt8} : (decide ((c.toNat : Int) = (245 : Int))) = decide (c = 245) := by
  apply decide_eq_decide.2
  constructor
  · intro h
    apply UInt8.toNat_inj.1
    have : (245 : UInt8).toNat = 245 := rfl
    omega
  · intro h; subst h; rfl
theorem gdF {α : Type} (o : Option α) (d : α) : gdO false o d = some d := rfl
theorem gdT {α : Type} (o : Option α) (d : α) : gdO true o d = o := rfl

theorem m40_step {n c i : Nat} {b : List UInt8} {k : Unit → Option (List (Int × List UInt8))} {nxt : Int × Int → Option (List (Int × List UInt8))} (hk : k () = some []) (hb : b.length ≤ 100000) (hi : i ≤ b.length)
    (hc : c < 18446744073709551616) (hn : 4010 < n) : m40_L1 n b k nxt ((i : Int), (c : Int)) =
      match parse c (b.drop i) with | none => some [] | some r => yldM false (((i + 13 + r.length : Nat) : Int), r) (nxt (((i + 13 + r.length : Nat) : Int), ((nx c r : Nat) : Int))) := by
  rw [m40_L1]
  dsimp only
  rw [wrap64 (x := (b.length : Int) - (i : Int)) (by omega) (by omega)]
  have hlen : (b.drop i).length = b.length - i := by simp
  rcases Nat.lt_or_ge (b.length - i) 5 with h5 | h5
  · rw [parse_short (by omega), if_neg (by simp; omega), hk]
  · rw [if_pos (by simp; omega)]
    have hsl : ∀ x y : Nat, i ≤ x → x ≤ y → y ≤ b.length → ∀ l h : Int, l = (x : Int) → h = (y : Int) → slc b l h = some (((b.drop i).drop (x - i)).take (y - x)) := by
      intro x y h1 h2 h3 l h e1 e2
      rw [slc_val (i := x) (j := y) e1 e2 h2 h3, List.drop_drop]
      congr 3
      omega
    have h5' : 5 ≤ (b.drop i).length := by omega
    generalize ht : b.drop i = t at hlen hsl h5'
    clear ht
    match t, h5', hlen, hsl with
    | t0 :: t1 :: t2 :: t3 :: t4 :: rest, _, hlen, hsl =>
      simp only [List.length_cons] at hlen
      have l1 := t1.toNat_lt
      have l2 := t2.toNat_lt
      rw [hsl i (i + 5) (by omega) (by omega) (by omega) _ _ rfl (by rw [wrap64 (by omega) (by omega)]; omega)]
      rw [Nat.sub_self, List.drop_zero, show i + 5 - i = 5 from by omega]
      rw [show (t0 :: t1 :: t2 :: t3 :: t4 :: rest).take 5 = [t0, t1, t2, t3, t4] from rfl, Option.bind_some]
      rw [show getIdx [t0, t1, t2, t3, t4] (0 : Int) = some t0 from rfl, show getIdx [t0, t1, t2, t3, t4] (1 : Int) = some t1 from rfl, show getIdx [t0, t1, t2, t3, t4] (2 : Int) = some t2 from rfl,
        show getIdx [t0, t1, t2, t3, t4] (3 : Int) = some t3 from rfl, show getIdx [t0, t1, t2, t3, t4] (4 : Int) = some t4 from rfl]
      simp only [Option.bind_some, letM]
      rw [or64, is245, parse]
      by_cases h0 : t0 = 245
      · simp only [h0, decide_true, Bool.not_true, Bool.not_false, Bool.false_or, gdT, Option.bind_some, not_byte]
        by_cases h3 : t3 = UInt8.ofNat (255 - t1.toNat)
        · simp only [h3, decide_true, Bool.not_true, Bool.not_false, Bool.false_or, gdT, Option.bind_some, not_byte]
          by_cases h4 : t4 = UInt8.ofNat (255 - t2.toNat)
          · simp only [h4, decide_true, Bool.not_true, Bool.not_false, Bool.false_or, true_and]
            have hKl := kk_lt t1 t2
            generalize kk t1 t2 = K at hKl ⊢
            rw [wrap64 (x := (5 : Int) + (K : Int)) (by omega) (by omega), wrap64 (x := (5 : Int) + (K : Int) + 8) (by omega) (by omega), wrap64 (x := (i : Int) + 5) (by omega) (by omega),
              wrap64 (x := (i : Int) + 5 + (K : Int)) (by omega) (by omega), wrap64 (x := (i : Int) + ((5 : Int) + (K : Int) + 8)) (by omega) (by omega)]
            by_cases hs : K ≤ 4000 ∧ K + 8 ≤ rest.length
            · rw [if_neg (by simp; omega)]
              rw [hsl (i + 5) (i + 5 + K) (by omega) (by omega) (by omega) _ _ (by omega) (by omega), show i + 5 - i = 5 from by omega, show i + 5 + K - (i + 5) = K from by omega]
              simp only [List.drop_succ_cons, List.drop_zero, Option.bind_some]
              rw [m36_nx hc (by simp; omega) (by simp; omega)]
              simp only [Option.bind_some]
              rw [wrap64 (x := (i : Int) + (5 + (K : Int) + 8) - 8) (by omega) (by omega), hsl (i + 5 + K) (i + 13 + K) (by omega) (by omega) (by omega) _ _ (by omega) (by omega), show i + 5 + K - i = K + 5 from by omega, show i + 13 + K - (i + 5 + K) = 8 from by omega]
              simp only [List.drop_succ_cons, Option.bind_some]
              rw [m37_val (by simp; omega) (by simp; omega)]
              simp only [Option.bind_some]
              have h8 : ((rest.drop K).take 8).length = 8 := by simp; omega
              have hiff : (((num ((rest.drop K).take 8) : Nat) : Int) = ((nx c (rest.take K) : Nat) : Int)) ↔ (rest.drop K).take 8 = B 8 (nx c (rest.take K)) := by
                constructor
                · intro h
                  have h := Int.ofNat.inj h
                  rw [← h, B_num 8 _ h8]
                · intro h
                  rw [h, num_B 8 _ (nx_lt _ _)]
              have hrl : (rest.take K).length = K := by simp; omega
              by_cases he : (rest.drop K).take 8 = B 8 (nx c (rest.take K))
              · rw [if_pos ⟨hs.1, hs.2, he⟩, show (decide (((num ((rest.drop K).take 8) : Nat) : Int) = ((nx c (rest.take K) : Nat) : Int))) = true from decide_eq_true (hiff.2 he)]
                simp only [Bool.not_true, hrl]
                rw [show (i : Int) + (5 + (K : Int) + 8) = ((i + 13 + K : Nat) : Int) from by omega]
              · rw [if_neg (fun h => he h.2.2), show (decide (((num ((rest.drop K).take 8) : Nat) : Int) = ((nx c (rest.take K) : Nat) : Int))) = false from decide_eq_false fun h => he (hiff.1 h)]
                rfl
            · rw [if_pos (by simp; omega), if_neg (fun h => hs ⟨h.1, h.2.1⟩)]
          · simp [h4]
        · simp [h3, gdF]
      · simp [h0, gdF]
end Go.AB

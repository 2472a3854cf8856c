import Derived.Test.YtffbjmipkffgkaaLm
import Derived.Test.YtffbjmipkffgkaaLj
namespace Go.AB
open Go

theorem m74_eq (n : Nat) (b : List UInt8) (i : Int) (f : Bool) (a : Int) : m74 n b i f a = some (b, a, true) := rfl
theorem fBnd {n : Nat} (hn : 100 < n) (lo hi : Int) : Rd (fun b i f => m51 n b i f lo hi) 0 (pBnd lo hi) := by
  intro b i f hi' hb
  dsimp only
  unfold m51
  rw [fInt hn b i f hi' hb]
  cases f with
  | true => rfl
  | false =>
    cases hp : pInt (b.drop i) with
    | none =>
      rw [RS_none hp, RS_none (by rw [pBnd, hp]; rfl)]
      rfl
    | some r =>
      rw [RS_some hp, Option.bind_some]
      dsimp only
      rw [if_neg (by simp)]
      by_cases hc : lo ≤ r.1 ∧ r.1 ≤ hi
      · rw [if_neg (by simp; omega), RS_some (r := r) (by rw [pBnd, hp, Option.bind_some, if_pos hc])]
      · rw [if_pos (by simp; omega), m74_eq, RS_none (by rw [pBnd, hp, Option.bind_some, if_neg hc])]
        rfl
theorem fBool (n : Nat) : Rd (m52 n) false pBool := by
  intro b i f hi hb
  unfold m52
  cases f with
  | true =>
    rw [Bool.true_or, Bool.not_true, gdO_false, Option.bind_some, Bool.true_or, if_pos rfl]
    rfl
  | false =>
    rcases Nat.lt_or_ge i b.length with h | h
    · have d0 : decide ((b.length : Int) ≤ (i : Int)) = false := decide_eq_false (by omega)
      rw [d0, Bool.or_false, Bool.not_false, gdO_true, getIdx_at rfl h, Option.bind_some, Bool.false_or]
      have e : decide ((b[i].toNat : Int) = 1) = decide (b[i] = 1) := by
        apply decide_eq_decide.2
        rw [← UInt8.toNat_inj]
        show _ ↔ b[i].toNat = 1
        omega
      by_cases hc : b[i].toNat ≤ 1
      · rw [if_neg (by simp; omega), letM_eq, wrap64 (x := (i : Int) + 1) (by omega) (by omega), wrap64 (x := (i : Int) + 1 - 1) (by omega) (by omega), getIdx_at (k := i) (by omega) h, Option.bind_some, e,
          RS_some (r := (decide (b[i] = 1), 1)) (by rw [List.drop_eq_getElem_cons h, pBool, if_pos hc])]
        rfl
      · rw [if_pos (by simp; omega), RS_none (by rw [List.drop_eq_getElem_cons h, pBool, if_neg hc])]
    · have d0 : decide ((b.length : Int) ≤ (i : Int)) = true := decide_eq_true (by omega)
      rw [d0, Bool.or_true, Bool.not_true, gdO_false, Option.bind_some, Bool.true_or, if_pos rfl, RS_none]
      rw [List.drop_eq_nil_of_le h]
      rfl
theorem fBytes {n : Nat} (hn : 100 < n) (max : Int) : Rd (fun b i f => m54 n b i f max) [] (pBytes max) := by
  intro b i f hi hb
  dsimp only
  unfold m54
  rw [show m51 n b (i : Int) f 0 max = _ from fBnd hn 0 max b i f hi hb]
  cases f with
  | true => rfl
  | false =>
    cases hp : pBnd 0 max (b.drop i) with
    | none =>
      rw [RS_none hp, RS_none (by rw [pBytes, hp]; rfl)]
      rfl
    | some r =>
      obtain ⟨⟨⟨_, hR⟩, h0, h1⟩, h2, u, h3⟩ := (codBnd 0 max).cn _ r.1 r.2 hp
      have h4 : r.2 ≤ (b.drop i).length := by rw [h3, h2]; simp
      rw [List.length_drop] at h4
      rw [RS_some hp, Option.bind_some]
      dsimp only
      rw [wrap64 (x := (b.length : Int) - ((i + r.2 : Nat) : Int)) (by omega) (by omega), Bool.false_or]
      by_cases hc : r.1 ≤ ((b.length - (i + r.2) : Nat) : Int)
      · rw [if_neg (by simp; omega), letM_eq, wrap64 (x := ((i + r.2 : Nat) : Int) + r.1) (by omega) (by omega), wrap64 (by omega) (by omega)]
        rw [slc_val (i := i + r.2) (j := i + r.2 + r.1.toNat) (by omega) (by omega) (by omega) (by omega), Option.bind_some, apd_val (by simp; omega), Option.bind_some,
          RS_some (r := ((b.drop (i + r.2)).take r.1.toNat, r.2 + r.1.toNat)) (by rw [pBytes, hp, Option.bind_some, List.drop_drop, List.length_drop, if_pos hc])]
        rw [show i + r.2 + r.1.toNat - (i + r.2) = r.1.toNat from by omega, List.nil_append, show ((i + r.2 : Nat) : Int) + r.1 = ((i + (r.2 + r.1.toNat) : Nat) : Int) from by omega]
      · rw [if_pos (by simp; omega), m74_eq, RS_none (by rw [pBytes, hp, Option.bind_some, List.drop_drop, List.length_drop, if_neg hc])]
        rfl
theorem fText {n : Nat} (hn : 100 < n) (max : Int) : Rd (fun b i f => m53 n b i f max) [] (pBytes max) := by
  intro b i f hi hb
  dsimp only
  unfold m53
  rw [eta4]
  exact fBytes hn max b i f hi hb
section
variable {α β γ : Type}
theorem ref_two {m1 : List UInt8 → Int → Bool → Option (α × List UInt8 × Int × Bool)} {m2 : List UInt8 → Int → Bool → Option (β × List UInt8 × Int × Bool)} {z1 : α} {z2 : β} {p : List UInt8 → Option (α × Nat)} {q : List UInt8 → Option (β × Nat)}
    (h1 : Rd m1 z1 p) (h2 : Rd m2 z2 q) (c1 : Pos p) (mk : α → β → γ) (zero : γ) (n : Nat) {b : List UInt8} {i : Nat} {f : Bool} (hi : i ≤ b.length) (hb : b.length ≤ 100000) :
    ((m1 b (i : Int) f).bind fun y1 => (m2 y1.2.1 y1.2.2.1 y1.2.2.2).bind fun y2 => if y2.2.2.2 = true then (m74 n y2.2.1 y2.2.2.1 y2.2.2.2 (i : Int)).bind fun y3 => some (zero, y3.1, y3.2.1, y3.2.2) else some (mk y1.1 y2.1, y2.2.1, y2.2.2.1, y2.2.2.2)) =
      RS zero (fun t => (pTwo p q t).map fun r => (mk r.1.1 r.1.2, r.2)) b i f := by
  rw [h1 b i f hi hb]
  cases f with
  | true =>
    rw [RS_f, Option.bind_some]
    dsimp only
    rw [h2 b i true hi hb, RS_f]
    rfl
  | false =>
    cases hp : p (b.drop i) with
    | none =>
      rw [RS_none hp, Option.bind_some]
      dsimp only
      rw [h2 b i true hi hb, RS_f, RS_none (by simp [pTwo, hp])]
      rfl
    | some r =>
      obtain ⟨_, hr2⟩ := c1.in hi hp
      rw [RS_some hp, Option.bind_some]
      dsimp only
      rw [h2 b (i + r.2) false hr2 hb]
      cases hq : q (b.drop (i + r.2)) with
      | none =>
        rw [RS_none hq, RS_none (by simp [pTwo, hp, List.drop_drop, hq])]
        rfl
      | some s =>
        rw [RS_some hq, RS_some (r := (mk r.1 s.1, r.2 + s.2)) (by simp [pTwo, hp, List.drop_drop, hq]), Option.bind_some, Nat.add_assoc]
        rfl
/-- a loop that counts up -/
def refL (m : List UInt8 → Int → Bool → Option (α × List UInt8 × Int × Bool)) (c : Int) (k : ((List UInt8) × Int × Bool × (List α)) → Option (β × (List UInt8) × Int × Bool)) (nx : (Int × (List UInt8) × Int × Bool × (List α)) → Option (β × (List UInt8) × Int × Bool)) (x : (Int × (List UInt8) × Int × Bool × (List α))) : Option (β × (List UInt8) × Int × Bool) :=
  (if ((decide (x.1 < c)) && (!x.2.2.2.1)) = true then ((m x.2.1 x.2.2.1 x.2.2.2.1).bind fun y => ((apd x.2.2.2.2 ([y.1] : List α)).bind fun l => (letM ((IntKind.wrap .i64 (x.1 + (1 : Int)))) fun t => (nx (t, y.2.1, y.2.2.1, y.2.2.2, l))))) else (k (x.2.1, x.2.2.1, x.2.2.2.1, x.2.2.2.2)))
theorem refL_run {m : List UInt8 → Int → Bool → Option (α × List UInt8 × Int × Bool)} {z : α} {p : List UInt8 → Option (α × Nat)} (h : Rd m z p) (c : Pos p) (k : ((List UInt8) × Int × Bool × (List α)) → Option (β × (List UInt8) × Int × Bool)) {b : List UInt8} (hb : b.length ≤ 100000) :
    ∀ (cnt n i j : Nat) (acc : List α), ((j + cnt : Nat) : Int) ≤ 9223372036854775807 → i ≤ b.length → acc.length ≤ i → b.length - i + 2 ≤ n →
      (∀ r, pN p cnt (b.drop i) = some r → loopM (refL m ((j + cnt : Nat) : Int) k) n ((j : Int), b, (i : Int), false, acc) = k (b, ((i + r.2 : Nat) : Int), false, acc ++ r.1)) ∧
      (pN p cnt (b.drop i) = none → ∃ a acc', loopM (refL m ((j + cnt : Nat) : Int) k) n ((j : Int), b, (i : Int), false, acc) = k (b, a, true, acc')) := by
  intro cnt
  induction cnt with
  | zero =>
    intro n i j acc hc hi ha hn
    obtain ⟨n, rfl⟩ : ∃ n', n = n' + 1 := ⟨n - 1, by omega⟩
    rw [loopM_succ, refL, if_neg (by simp)]
    refine ⟨fun r hr => ?_, fun hr => by cases hr⟩
    obtain rfl := Option.some.inj hr
    simp
  | succ cnt ih =>
    intro n i j acc hc hi ha hn
    obtain ⟨n, rfl⟩ : ∃ n', n = n' + 1 := ⟨n - 1, by omega⟩
    rw [loopM_succ, refL, if_pos (by simp; omega)]
    dsimp only
    rw [h b i false hi hb, pN]
    cases hp : p (b.drop i) with
    | none =>
      rw [RS_none hp, Option.bind_some, apd_val (by simp; omega), Option.bind_some, letM_eq]
      dsimp only
      obtain ⟨n, rfl⟩ : ∃ n', n = n' + 1 := ⟨n - 1, by omega⟩
      rw [loopM_succ, refL, if_neg (by simp)]
      exact ⟨fun r hr => (by cases hr), fun _ => ⟨_, _, rfl⟩⟩
    | some r =>
      obtain ⟨hr1, hr2⟩ := c.in hi hp
      rw [RS_some hp]
      simp only [Option.bind_some]
      rw [apd_val (by simp; omega)]
      simp only [Option.bind_some, letM_eq]
      rw [wrap64 (x := (j : Int) + 1) (by omega) (by omega), show ((j : Int) + 1) = ((j + 1 : Nat) : Int) from by omega, List.drop_drop]
      obtain ⟨q1, q2⟩ := ih n (i + r.2) (j + 1) (acc ++ [r.1]) (by omega) hr2 (by simp; omega) (by omega)
      rw [show j + 1 + cnt = j + (cnt + 1) from by omega] at q1 q2
      cases hq : pN p cnt (b.drop (i + r.2)) with
      | none => exact ⟨fun w hw => (by cases hw), fun _ => q2 hq⟩
      | some s =>
        refine ⟨fun w hw => ?_, fun hw => by cases hw⟩
        obtain rfl := Option.some.inj hw
        rw [q1 s hq]
        simp [Nat.add_assoc]
/-- a list with its length, to any end -/
theorem ref_run {m : List UInt8 → Int → Bool → Option (α × List UInt8 × Int × Bool)} {z : α} {p : List UInt8 → Option (α × Nat)} (h : Rd m z p) (c : Pos p) {mb : List UInt8 → Int → Bool → Option (Int × List UInt8 × Int × Bool)} {max : Int} (hm : Rd mb 0 (pBnd 0 max)) {n : Nat} (hn : 100002 < n) {b : List UInt8} {i : Nat} {f : Bool} (hi : i ≤ b.length) (hb : b.length ≤ 100000)
    (k : ((List UInt8) × Int × Bool × (List α)) → Option (β × (List UInt8) × Int × Bool)) :
    (f = false → ∀ r, pList p max (b.drop i) = some r → ((mb b (i : Int) f).bind fun y1 => loopM (refL m y1.1 k) n ((0 : Int), y1.2.1, y1.2.2.1, y1.2.2.2, ([] : List α))) = k (b, ((i + r.2 : Nat) : Int), false, r.1)) ∧
    ((f = true ∨ pList p max (b.drop i) = none) → ∃ a acc, ((mb b (i : Int) f).bind fun y1 => loopM (refL m y1.1 k) n ((0 : Int), y1.2.1, y1.2.2.1, y1.2.2.2, ([] : List α))) = k (b, a, true, acc)) := by
  rw [hm b i f hi hb]
  cases f with
  | true =>
    refine ⟨fun hc => (by cases hc), fun _ => ?_⟩
    rw [RS_f, Option.bind_some]
    dsimp only
    obtain ⟨n, rfl⟩ : ∃ n', n = n' + 1 := ⟨n - 1, by omega⟩
    rw [loopM_succ, refL, if_neg (by simp)]
    exact ⟨_, _, rfl⟩
  | false =>
    unfold pList
    cases hp : pBnd 0 max (b.drop i) with
    | none =>
      rw [RS_none hp, Option.bind_some]
      dsimp only
      obtain ⟨n, rfl⟩ : ∃ n', n = n' + 1 := ⟨n - 1, by omega⟩
      rw [loopM_succ, refL, if_neg (by simp)]
      exact ⟨fun _ r hr => (by cases hr), fun _ => ⟨_, _, rfl⟩⟩
    | some r =>
      obtain ⟨⟨⟨_, hR⟩, h0, h1⟩, h2, u, h3⟩ := (codBnd 0 max).cn _ r.1 r.2 hp
      have h4 : r.2 ≤ (b.drop i).length := by rw [h3, h2]; simp
      rw [List.length_drop] at h4
      rw [RS_some hp, Option.bind_some, Option.bind_some]
      dsimp only
      rw [List.drop_drop]
      obtain ⟨q1, q2⟩ := refL_run h c k hb r.1.toNat n (i + r.2) 0 [] (by omega) (by omega) (Nat.zero_le _) (by omega)
      rw [show ((0 + r.1.toNat : Nat) : Int) = r.1 from by omega] at q1 q2
      cases hq : pN p r.1.toNat (b.drop (i + r.2)) with
      | none =>
        obtain ⟨a, acc, e⟩ := q2 hq
        exact ⟨fun _ w hw => (by cases hw), fun _ => ⟨_, _, e⟩⟩
      | some s =>
        refine ⟨fun _ w hw => ?_, fun hw => by rcases hw with hw | hw <;> cases hw⟩
        obtain rfl := Option.some.inj hw
        refine (q1 s hq).trans ?_
        simp [Nat.add_assoc]
theorem ref_list {m : List UInt8 → Int → Bool → Option (α × List UInt8 × Int × Bool)} {z : α} {p : List UInt8 → Option (α × Nat)} (h : Rd m z p) (c : Pos p) {mb : List UInt8 → Int → Bool → Option (Int × List UInt8 × Int × Bool)} {max : Int} (hm : Rd mb 0 (pBnd 0 max)) {n : Nat} (hn : 100002 < n) {b : List UInt8} {i : Nat} {f : Bool} (hi : i ≤ b.length) (hb : b.length ≤ 100000) :
    ((mb b (i : Int) f).bind fun y1 => loopM (refL m y1.1 fun p_15 => (if p_15.2.2.1 = true then ((m74 n p_15.1 p_15.2.1 p_15.2.2.1 (i : Int)).bind fun y_17 => (some (([] : List α), y_17.1, y_17.2.1, y_17.2.2))) else (some (p_15.2.2.2, p_15.1, p_15.2.1, p_15.2.2.1)))) n ((0 : Int), y1.2.1, y1.2.2.1, y1.2.2.2, ([] : List α))) = RS [] (pList p max) b i f := by
  obtain ⟨q1, q2⟩ := ref_run h c hm hn hi hb (f := f) fun p_15 => (if p_15.2.2.1 = true then ((m74 n p_15.1 p_15.2.1 p_15.2.2.1 (i : Int)).bind fun y_17 => (some (([] : List α), y_17.1, y_17.2.1, y_17.2.2))) else (some (p_15.2.2.2, p_15.1, p_15.2.1, p_15.2.2.1)))
  cases f with
  | true =>
    obtain ⟨a, acc, e⟩ := q2 (.inl rfl)
    rw [e]; rfl
  | false =>
    cases hp : pList p max (b.drop i) with
    | none =>
      obtain ⟨a, acc, e⟩ := q2 (.inr hp)
      rw [e, RS_none hp]; rfl
    | some r =>
      rw [q1 rfl r hp, RS_some hp]; rfl
end
theorem fInts {n : Nat} (hn : 100002 < n) (max : Int) : Rd (fun b i f => m55 n b i f max) [] (pList pInt max) := by
  intro b i f hi hb
  exact ref_list (fInt (n := n) (by omega)) posInt (fBnd (n := n) (by omega) 0 max) hn hi hb
theorem fVec {n : Nat} (hn : 100 < n) : Rd (m56 n) (R59.mk 0 0) pVec := by
  intro b i f hi hb
  exact ref_two (fInt hn) (fInt hn) posInt R59.mk (R59.mk 0 0) n hi hb
theorem fRatio {n : Nat} (hn : 100 < n) : Rd (m59 n) (R63.mk 0 0) pRatio := by
  intro b i f hi hb
  exact ref_two (fInt hn) (fInt hn) posInt R63.mk (R63.mk 0 0) n hi hb
theorem fRing {n : Nat} (hn : 100002 < n) (max : Int) : Rd (fun b i f => m57 n b i f max) [] (pList pVec max) := by
  intro b i f hi hb
  exact ref_list (fVec (n := n) (by omega)) posVec (fBnd (n := n) (by omega) 0 max) hn hi hb
theorem fShape {n : Nat} (hn : 100002 < n) : Rd (m58 n) (R27.mk [] []) pShape := by
  intro b i f hi hb
  unfold m58 jn
  rw [show m57 n b (i : Int) f 40 = _ from fRing hn 40 b i f hi hb]
  have fail : ∀ (j : Nat) (y1 : List R59 × List UInt8 × Int × Bool), j ≤ b.length →
      ((m51 n b (j : Int) true 0 6).bind fun y_2 => loopM (m58_L1 n y_2 fun p_16 => (if p_16.2.2.1 = true then ((m74 n p_16.1 p_16.2.1 p_16.2.2.1 (i : Int)).bind fun y_18 => (some ((R27.mk ([] : List R59) ([] : List (List R59))), y_18.1, y_18.2.1, y_18.2.2))) else (some ((R27.mk y1.1 p_16.2.2.2), p_16.1, p_16.2.1, p_16.2.2.1)))) n ((0 : Int), y_2.2.1, y_2.2.2.1, y_2.2.2.2, ([] : List (List R59)))) = some (R27.mk [] [], b, (i : Int), true) := by
    intro j y1 hj
    obtain ⟨_, q2⟩ := ref_run (fRing hn 40) (posRing (by decide)) (fBnd (n := n) (by omega) 0 6) hn hj hb (f := true) fun p_16 => (if p_16.2.2.1 = true then ((m74 n p_16.1 p_16.2.1 p_16.2.2.1 (i : Int)).bind fun y_18 => (some ((R27.mk ([] : List R59) ([] : List (List R59))), y_18.1, y_18.2.1, y_18.2.2))) else (some ((R27.mk y1.1 p_16.2.2.2), p_16.1, p_16.2.1, p_16.2.2.1)))
    obtain ⟨a, acc, e⟩ := q2 (.inl rfl)
    exact e
  cases f with
  | true =>
    rw [RS_f, Option.bind_some]
    exact fail i _ hi
  | false =>
    cases hp : pList pVec 40 (b.drop i) with
    | none =>
      rw [RS_none hp, RS_none (by simp [pShape, pTwo, hp]), Option.bind_some]
      exact fail i _ hi
    | some r =>
      obtain ⟨_, hr2⟩ := (posRing (max := 40) (by decide)).in hi hp
      rw [RS_some hp, Option.bind_some]
      obtain ⟨q1, q2⟩ := ref_run (fRing hn 40) (posRing (by decide)) (fBnd (n := n) (by omega) 0 6) hn hr2 hb (f := false) fun p_16 => (if p_16.2.2.1 = true then ((m74 n p_16.1 p_16.2.1 p_16.2.2.1 (i : Int)).bind fun y_18 => (some ((R27.mk ([] : List R59) ([] : List (List R59))), y_18.1, y_18.2.1, y_18.2.2))) else (some ((R27.mk r.1 p_16.2.2.2), p_16.1, p_16.2.1, p_16.2.2.1)))
      cases hq : pList (pList pVec 40) 6 (b.drop (i + r.2)) with
      | none =>
        obtain ⟨a, acc, e⟩ := q2 (.inr hq)
        rw [RS_none (by simp [pShape, pTwo, hp, List.drop_drop, hq])]
        exact e
      | some s =>
        rw [RS_some (r := (R27.mk r.1 s.1, r.2 + s.2)) (by simp [pShape, pTwo, hp, List.drop_drop, hq]), ← Nat.add_assoc]
        exact q1 rfl s hq
end Go.AB

import Derived.Test.YtffbjmipkffgkaaLd
namespace Go.AB
open Go

section
variable {α β γ : Type}
/-- what is read is not nothing, and lies within -/
def Pos (p : List UInt8 → Option (α × Nat)) : Prop := ∀ t r, p t = some r → 0 < r.2 ∧ r.2 ≤ t.length
theorem Cod.ps {e : α → List UInt8} {ok : α → Prop} {p : List UInt8 → Option (α × Nat)} (h : Cod e ok p) (he : ∀ v, 0 < (e v).length) : Pos p := by
  intro t r hp
  obtain ⟨_, h2, u, h3⟩ := h.cn _ r.1 r.2 hp
  rw [h2, h3]
  exact ⟨he _, by simp⟩
theorem Pos.in {p : List UInt8 → Option (α × Nat)} (h : Pos p) {b : List UInt8} {i : Nat} {r : α × Nat} (hi : i ≤ b.length) (hp : p (b.drop i) = some r) : 0 < r.2 ∧ i + r.2 ≤ b.length := by
  obtain ⟨h1, h2⟩ := h _ _ hp
  rw [List.length_drop] at h2
  omega
theorem Bt_two {m1 : List UInt8 → Int → Bool → Option (α × List UInt8 × Int × Bool)} {m2 : List UInt8 → Int → Bool → Option (β × List UInt8 × Int × Bool)} {z1 : α} {z2 : β} {p : List UInt8 → Option (α × Nat)} {q : List UInt8 → Option (β × Nat)}
    (h1 : Rd m1 z1 p) (h2 : Rd m2 z2 q) (c1 : Pos p) (mk : α → β → γ) {b : List UInt8} {i : Nat} (hi : i ≤ b.length) (hb : b.length ≤ 100000) :
    Bt (fun t => (pTwo p q t).map fun r => (mk r.1.1 r.1.2, r.2)) b i ((m1 b (i : Int) false).bind fun y1 => (m2 y1.2.1 y1.2.2.1 y1.2.2.2).bind fun y2 => some (mk y1.1 y2.1, y2.2.1, y2.2.2.1, y2.2.2.2)) := by
  rw [h1 b i false hi hb]
  unfold Bt
  dsimp only [pTwo]
  cases hp : p (b.drop i) with
  | none =>
    rw [RS_none hp, Option.bind_some]
    dsimp only
    rw [h2 b i true hi hb, RS_f]
    exact ⟨fun r hr => by simp at hr, fun _ => ⟨_, _, rfl⟩⟩
  | some r =>
    obtain ⟨_, hr2⟩ := c1.in hi hp
    rw [RS_some hp, Option.bind_some, Option.bind_some]
    dsimp only
    rw [h2 b (i + r.2) false hr2 hb, List.drop_drop]
    cases hq : q (b.drop (i + r.2)) with
    | none =>
      rw [RS_none hq]
      exact ⟨fun r hr => by simp at hr, fun _ => ⟨_, _, rfl⟩⟩
    | some s =>
      rw [RS_some hq]
      refine ⟨fun w hw => ?_, fun hw => by simp at hw⟩
      have := Option.some.inj hw
      subst this
      simp [Nat.add_assoc]
/-- a loop that counts down -/
def ownL (m : List UInt8 → Int → Bool → Option (α × List UInt8 × Int × Bool)) (k : ((List UInt8) × Int × Bool × (List α)) → Option (β × (List UInt8) × Int × Bool)) (nx : (Int × (List UInt8) × Int × Bool × (List α)) → Option (β × (List UInt8) × Int × Bool)) (x : (Int × (List UInt8) × Int × Bool × (List α))) : Option (β × (List UInt8) × Int × Bool) :=
  (if ((decide ((0 : Int) < x.1)) && (!x.2.2.2.1)) = true then ((m x.2.1 x.2.2.1 x.2.2.2.1).bind fun y => ((apd x.2.2.2.2 ([y.1] : List α)).bind fun l => (letM ((IntKind.wrap .i64 (x.1 - (1 : Int)))) fun t => (nx (t, y.2.1, y.2.2.1, y.2.2.2, l))))) else (k (x.2.1, x.2.2.1, x.2.2.2.1, x.2.2.2.2)))
theorem ownL_run {m : List UInt8 → Int → Bool → Option (α × List UInt8 × Int × Bool)} {z : α} {p : List UInt8 → Option (α × Nat)} (h : Rd m z p) (c : Pos p) (k : ((List UInt8) × Int × Bool × (List α)) → Option (β × (List UInt8) × Int × Bool)) {b : List UInt8} (hb : b.length ≤ 100000) :
    ∀ (cnt n i : Nat) (acc : List α), (cnt : Int) ≤ 9223372036854775807 → i ≤ b.length → acc.length ≤ i → b.length - i + 2 ≤ n →
      (∀ r, pN p cnt (b.drop i) = some r → loopM (ownL m k) n ((cnt : Int), b, (i : Int), false, acc) = k (b, ((i + r.2 : Nat) : Int), false, acc ++ r.1)) ∧
      (pN p cnt (b.drop i) = none → ∃ a acc', loopM (ownL m k) n ((cnt : Int), b, (i : Int), false, acc) = k (b, a, true, acc')) := by
  intro cnt
  induction cnt with
  | zero =>
    intro n i acc hc hi ha hn
    obtain ⟨n, rfl⟩ : ∃ n', n = n' + 1 := ⟨n - 1, by omega⟩
    rw [loopM_succ, ownL, if_neg (by simp)]
    refine ⟨fun r hr => ?_, fun hr => by cases hr⟩
    obtain rfl := Option.some.inj hr
    simp
  | succ cnt ih =>
    intro n i acc hc hi ha hn
    obtain ⟨n, rfl⟩ : ∃ n', n = n' + 1 := ⟨n - 1, by omega⟩
    rw [loopM_succ, ownL, if_pos (by simp)]
    dsimp only
    rw [h b i false hi hb, pN]
    cases hp : p (b.drop i) with
    | none =>
      rw [RS_none hp, Option.bind_some, apd_val (by simp; omega), Option.bind_some, letM_eq]
      dsimp only
      obtain ⟨n, rfl⟩ : ∃ n', n = n' + 1 := ⟨n - 1, by omega⟩
      rw [loopM_succ, ownL, if_neg (by simp)]
      exact ⟨fun r hr => (by cases hr), fun _ => ⟨_, _, rfl⟩⟩
    | some r =>
      obtain ⟨hr1, hr2⟩ := c.in hi hp
      rw [RS_some hp]
      simp only [Option.bind_some]
      rw [apd_val (by simp; omega)]
      simp only [Option.bind_some, letM_eq]
      rw [wrap64 (by omega) (by omega), show (((cnt + 1 : Nat) : Int) - 1) = (cnt : Int) from by omega, List.drop_drop]
      obtain ⟨q1, q2⟩ := ih n (i + r.2) (acc ++ [r.1]) (by omega) hr2 (by simp; omega) (by omega)
      cases hq : pN p cnt (b.drop (i + r.2)) with
      | none => exact ⟨fun w hw => (by cases hw), fun _ => q2 hq⟩
      | some s =>
        refine ⟨fun w hw => ?_, fun hw => by cases hw⟩
        obtain rfl := Option.some.inj hw
        rw [q1 s hq]
        simp [Nat.add_assoc]
theorem Bt_list {m : List UInt8 → Int → Bool → Option (α × List UInt8 × Int × Bool)} {z : α} {p : List UInt8 → Option (α × Nat)} (h : Rd m z p) (c : Pos p) {mb : List UInt8 → Int → Bool → Option (Int × List UInt8 × Int × Bool)} {max : Int} (hm : Rd mb 0 (pBnd 0 max)) {n : Nat} (hn : 100002 < n) {b : List UInt8} {i : Nat} (hi : i ≤ b.length) (hb : b.length ≤ 100000) :
    Bt (pList p max) b i ((mb b (i : Int) false).bind fun y1 => loopM (ownL m fun p => some (p.2.2.2, p.1, p.2.1, p.2.2.1)) n (y1.1, y1.2.1, y1.2.2.1, y1.2.2.2, ([] : List α))) := by
  rw [hm b i false hi hb]
  unfold Bt pList
  cases hp : pBnd 0 max (b.drop i) with
  | none =>
    rw [RS_none hp, Option.bind_some]
    dsimp only
    obtain ⟨n, rfl⟩ : ∃ n', n = n' + 1 := ⟨n - 1, by omega⟩
    rw [loopM_succ, ownL, if_neg (by simp)]
    exact ⟨fun r hr => (by cases hr), fun _ => ⟨_, _, rfl⟩⟩
  | some r =>
    obtain ⟨⟨⟨_, hR⟩, h0, h1⟩, h2, u, h3⟩ := (codBnd 0 max).cn _ r.1 r.2 hp
    have h4 : r.2 ≤ (b.drop i).length := by rw [h3, h2]; simp
    rw [List.length_drop] at h4
    rw [RS_some hp, Option.bind_some, Option.bind_some]
    dsimp only
    rw [List.drop_drop]
    obtain ⟨q1, q2⟩ := ownL_run h c (fun p => some (p.2.2.2, p.1, p.2.1, p.2.2.1)) hb r.1.toNat n (i + r.2) [] (by omega) (by omega) (Nat.zero_le _) (by omega)
    rw [show ((r.1.toNat : Nat) : Int) = r.1 from by omega] at q1 q2
    cases hq : pN p r.1.toNat (b.drop (i + r.2)) with
    | none =>
      obtain ⟨a, acc, e⟩ := q2 hq
      exact ⟨fun w hw => (by cases hw), fun _ => ⟨_, _, e⟩⟩
    | some s =>
      refine ⟨fun w hw => ?_, fun hw => by cases hw⟩
      obtain rfl := Option.some.inj hw
      rw [q1 s hq]
      simp [Nat.add_assoc]
end
theorem posInt : Pos pInt := codInt.ps fun v => by rw [eInt_len]; omega
theorem posBnd (lo hi : Int) : Pos (pBnd lo hi) := (codBnd lo hi).ps fun v => by rw [eInt_len]; omega
theorem posVec : Pos pVec := codVec.ps fun v => by rw [eVec, List.length_append, eInt_len]; omega
theorem posRing {max : Int} (hm : max ≤ 9223372036854775807) : Pos (pList pVec max) := (codRing max hm).ps fun v => by rw [eRing, eList, List.length_append, eInt_len]; omega

theorem Bt_bnd {n : Nat} (hn : 9 < n) {lo hi : Int} {b : List UInt8} {i : Nat} (hi' : i ≤ b.length) (hb : b.length ≤ 100000) : Bt (pBnd lo hi) b i (m60 n b (i : Int) false lo hi) := by
  unfold m60
  rw [rInt hn b i false hi' hb]
  unfold Bt pBnd
  cases hp : pInt (b.drop i) with
  | none =>
    rw [RS_none hp]
    exact ⟨fun r hr => (by cases hr), fun _ => ⟨_, _, rfl⟩⟩
  | some r =>
    rw [RS_some hp, Option.bind_some, Option.bind_some]
    dsimp only
    by_cases hc : lo ≤ r.1 ∧ r.1 ≤ hi
    · rw [if_pos hc]
      refine ⟨fun w hw => ?_, fun hw => by cases hw⟩
      obtain rfl := Option.some.inj hw
      have e : ((false || decide (r.1 < lo)) || decide (hi < r.1)) = false := by simp; omega
      rw [e]
    · rw [if_neg hc]
      have e : ((false || decide (r.1 < lo)) || decide (hi < r.1)) = true := by simp; omega
      rw [e]
      exact ⟨fun w hw => (by cases hw), fun _ => ⟨_, _, rfl⟩⟩
theorem rBnd {n : Nat} (hn : 9 < n) (lo hi : Int) : Rd (fun b i f => m25 n b i f lo hi) 0 (pBnd lo hi) := by
  intro b i f hi' hb
  dsimp only
  unfold m25 m43x1
  rw [eta4]
  refine att (zero := (0 : Int)) (f := f) (o := m60 n b (i : Int) f lo hi) fun hf => ?_
  subst hf
  exact Bt_bnd hn hi' hb
theorem Bt_bytes {n : Nat} (hn : 9 < n) {max : Int} {b : List UInt8} {i : Nat} (hi : i ≤ b.length) (hb : b.length ≤ 100000) : Bt (pBytes max) b i (m64 n b (i : Int) false max) := by
  unfold m64
  rw [show m25 n b (i : Int) false 0 max = _ from rBnd hn 0 max b i false hi hb]
  unfold Bt pBytes
  cases hp : pBnd 0 max (b.drop i) with
  | none =>
    rw [RS_none hp]
    exact ⟨fun r hr => (by cases hr), fun _ => ⟨_, _, rfl⟩⟩
  | some r =>
    obtain ⟨⟨⟨_, hR⟩, h0, h1⟩, h2, u, h3⟩ := (codBnd 0 max).cn _ r.1 r.2 hp
    have h4 : r.2 ≤ (b.drop i).length := by rw [h3, h2]; simp
    rw [List.length_drop] at h4
    rw [RS_some hp, Option.bind_some, Option.bind_some]
    dsimp only
    rw [List.drop_drop, wrap64 (x := (b.length : Int) - ((i + r.2 : Nat) : Int)) (by omega) (by omega), List.length_drop]
    by_cases hc : r.1 ≤ ((b.length - (i + r.2) : Nat) : Int)
    · rw [if_pos hc, if_neg (by simp; omega), letM_eq, wrap64 (x := ((i + r.2 : Nat) : Int) + r.1) (by omega) (by omega), wrap64 (by omega) (by omega)]
      rw [slc_val (i := i + r.2) (j := i + r.2 + r.1.toNat) (by omega) (by omega) (by omega) (by omega), Option.bind_some]
      unfold m42
      rw [apd_val (by simp; omega)]
      refine ⟨fun w hw => ?_, fun hw => by cases hw⟩
      obtain rfl := Option.some.inj hw
      rw [Option.bind_some, Option.bind_some, show i + r.2 + r.1.toNat - (i + r.2) = r.1.toNat from by omega, List.nil_append]
      dsimp only
      rw [show ((i + r.2 : Nat) : Int) + r.1 = ((i + (r.2 + r.1.toNat) : Nat) : Int) from by omega]
    · rw [if_neg hc, if_pos (by simp; omega)]
      exact ⟨fun w hw => (by cases hw), fun _ => ⟨_, _, rfl⟩⟩
theorem rBytes {n : Nat} (hn : 9 < n) (max : Int) : Rd (fun b i f => m27 n b i f max) [] (pBytes max) := by
  intro b i f hi hb
  dsimp only
  unfold m27 m63
  rw [eta4]
  refine att (zero := ([] : List UInt8)) (f := f) (o := m64 n b (i : Int) f max) fun hf => ?_
  subst hf
  exact Bt_bytes hn hi hb
theorem rText {n : Nat} (hn : 9 < n) (max : Int) : Rd (fun b i f => m19 n b i f max) [] (pBytes max) := by
  intro b i f hi hb
  dsimp only
  unfold m19
  rw [eta4]
  exact rBytes hn max b i f hi hb
theorem rBool (n : Nat) : Rd (m26 n) false pBool := by
  intro b i f hi hb
  unfold m26 m61
  rw [eta4]
  refine att (zero := false) (f := f) (o := m62 n b (i : Int) f) fun hf => ?_
  subst hf
  unfold m62 Bt
  rcases Nat.lt_or_ge i b.length with h | h
  · rw [m45_lt h hb, List.drop_eq_getElem_cons h, pBool, Option.bind_some]
    dsimp only
    have e : decide ((b[i].toNat : Int) = 1) = decide (b[i] = 1) := by
      apply decide_eq_decide.2
      rw [← UInt8.toNat_inj]
      show _ ↔ b[i].toNat = 1
      omega
    by_cases hc : b[i].toNat ≤ 1
    · rw [if_pos hc]
      refine ⟨fun w hw => ?_, fun hw => by cases hw⟩
      obtain rfl := Option.some.inj hw
      rw [e, show (false || decide ((1 : Int) < (b[i].toNat : Int))) = false from by simp; omega]
    · rw [if_neg hc, show (false || decide ((1 : Int) < (b[i].toNat : Int))) = true from by simp; omega]
      exact ⟨fun w hw => (by cases hw), fun _ => ⟨_, _, rfl⟩⟩
  · rw [m45_ge h, List.drop_eq_nil_of_le h, Option.bind_some]
    exact ⟨fun w hw => (by cases hw), fun _ => ⟨_, _, rfl⟩⟩
theorem rVec {n : Nat} (hn : 9 < n) : Rd (m29 n) (R59.mk 0 0) pVec := by
  intro b i f hi hb
  unfold m29 m66
  refine (eta4 _).trans ?_
  refine att (zero := R59.mk 0 0) (f := f) (o := m67 n b (i : Int) f) fun hf => ?_
  subst hf
  exact Bt_two (rInt hn) (rInt hn) posInt R59.mk hi hb
theorem rRatio {n : Nat} (hn : 9 < n) : Rd (m31 n) (R63.mk 0 0) pRatio := by
  intro b i f hi hb
  unfold m31 m69
  refine (eta4 _).trans ?_
  refine att (zero := R63.mk 0 0) (f := f) (o := m70 n b (i : Int) f) fun hf => ?_
  subst hf
  exact Bt_two (rInt hn) (rInt hn) posInt R63.mk hi hb
theorem rInts {n : Nat} (hn : 100002 < n) (max : Int) : Rd (fun b i f => m28 n b i f max) [] (pList pInt max) := by
  intro b i f hi hb
  dsimp only
  unfold m28 m65 m75
  rw [eta4, eta4]
  refine att (zero := ([] : List Int)) (f := f) (o := m76 n b (i : Int) f max) fun hf => ?_
  subst hf
  exact Bt_list (rInt (by omega)) posInt (rBnd (n := n) (by omega) 0 max) hn hi hb
theorem rRing {n : Nat} (hn : 100002 < n) (max : Int) : Rd (fun b i f => m30 n b i f max) [] (pList pVec max) := by
  intro b i f hi hb
  dsimp only
  unfold m30 m68 m77
  rw [eta4, eta4]
  refine att (zero := ([] : List R59)) (f := f) (o := m78 n b (i : Int) f max) fun hf => ?_
  subst hf
  exact Bt_list (rVec (by omega)) posVec (rBnd (n := n) (by omega) 0 max) hn hi hb
theorem rRing40 {n : Nat} (hn : 100002 < n) : Rd (m48 n) [] (pList pVec 40) := by
  intro b i f hi hb
  unfold m48
  rw [eta4]
  exact rRing hn 40 b i f hi hb
theorem rHoles {n : Nat} (hn : 100002 < n) (max : Int) : Rd (fun b i f => m49 n b i f max) [] (pList (pList pVec 40) max) := by
  intro b i f hi hb
  dsimp only
  unfold m49 m71
  rw [eta4]
  refine att (zero := ([] : List (List R59))) (f := f) (o := m72 n b (i : Int) f max) fun hf => ?_
  subst hf
  exact Bt_list (rRing40 hn) (posRing (by decide)) (rBnd (n := n) (by omega) 0 max) hn hi hb
theorem rShape {n : Nat} (hn : 100002 < n) : Rd (m20 n) (R27.mk [] []) pShape := by
  intro b i f hi hb
  unfold m20 m46
  refine (eta4 _).trans ?_
  refine att (zero := R27.mk [] []) (f := f) (o := m47 n b (i : Int) f) fun hf => ?_
  subst hf
  exact Bt_two (rRing40 hn) (rHoles hn 6) (posRing (by decide)) R27.mk hi hb
end Go.AB

import Derived.Test.YtcahghigmlibjaaLc
namespace Go.AB
open Go

/-- the two bytes of a length -/
def kk (a b : UInt8) : Nat := a.toNat * 256 + b.toNat
/-- the record of the frame at the beginning of some bytes, behind a chain number -/
def parse (c : Nat) : List UInt8 → Option (List UInt8)
  | t0 :: t1 :: t2 :: t3 :: t4 :: rest =>
    if t0 = 245 ∧ t3 = UInt8.ofNat (255 - t1.toNat) ∧ t4 = UInt8.ofNat (255 - t2.toNat) ∧ kk t1 t2 ≤ 4000 ∧ kk t1 t2 + 8 ≤ rest.length ∧
      (rest.drop (kk t1 t2)).take 8 = B 8 (nx c (rest.take (kk t1 t2))) then some (rest.take (kk t1 t2)) else none
  | _ => none
theorem parse_short {c : Nat} {t : List UInt8} (h : t.length < 5) : parse c t = none := by
  match t, h with
  | [], _ => rfl
  | [_], _ => rfl
  | [_, _], _ => rfl
  | [_, _, _], _ => rfl
  | [_, _, _, _], _ => rfl
  | _ :: _ :: _ :: _ :: _ :: _, h => simp at h; omega
theorem ofN {x : Nat} (h : x < 256) : (UInt8.ofNat x).toNat = x := by simp; omega
theorem hk {k : Nat} (h : k ≤ 4000) : kk (UInt8.ofNat (k / 256)) (UInt8.ofNat (k % 256)) = k := by
  unfold kk
  rw [ofN (by omega), ofN (by omega)]; omega
theorem frm_cons (c : Nat) (r : List UInt8) : frm c r = 245 :: UInt8.ofNat (r.length / 256) :: UInt8.ofNat (r.length % 256) :: UInt8.ofNat (255 - r.length / 256) :: UInt8.ofNat (255 - r.length % 256) :: (r ++ B 8 (nx c r)) := by
  simp [frm, hdr]
theorem parse_frm (c : Nat) {r : List UInt8} (h : r.length ≤ 4000) (u : List UInt8) : parse c (frm c r ++ u) = some r := by
  rw [frm_cons]
  simp only [List.cons_append, parse, hk h]
  rw [if_pos]
  · rw [List.append_assoc, List.take_left' rfl]
  · refine ⟨trivial, by rw [ofN (by omega)], by rw [ofN (by omega)], h, by simp [B_len], ?_⟩
    rw [List.append_assoc, List.take_left' rfl, List.drop_left' rfl, List.take_left' (B_len _ _)]
theorem parse_some {c : Nat} {t r : List UInt8} (h : parse c t = some r) : r.length ≤ 4000 ∧ ∃ u, t = frm c r ++ u := by
  rcases Nat.lt_or_ge t.length 5 with hl | hl
  · rw [parse_short hl] at h; cases h
  · match t, hl with
    | t0 :: t1 :: t2 :: t3 :: t4 :: rest, _ =>
      rw [parse] at h
      split at h
      · rename_i hc
        obtain ⟨h0, h3, h4, hk4, h5, h6⟩ := hc
        have hr := Option.some.inj h
        have h1 := t1.toNat_lt
        have h2 := t2.toNat_lt
        have e1 : kk t1 t2 / 256 = t1.toNat := by unfold kk; omega
        have e2 : kk t1 t2 % 256 = t2.toNat := by unfold kk; omega
        have hrl : r.length = kk t1 t2 := by rw [← hr]; simp; omega
        refine ⟨by omega, (rest.drop (kk t1 t2)).drop 8, ?_⟩
        rw [frm_cons, hrl, e1, e2, h0, h3, h4]
        simp only [List.cons_append, UInt8.ofNat_toNat]
        rw [hr] at h6
        rw [← h6, List.append_assoc, List.take_append_drop, ← hr, List.take_append_drop]
      · cases h
theorem parse_trunc (c : Nat) {r : List UInt8} (h : r.length ≤ 4000) {m : Nat} (hm : m < 13 + r.length) : parse c ((frm c r).take m) = none := by
  rcases Nat.lt_or_ge m 5 with hl | hl
  · exact parse_short (by simp; omega)
  · obtain ⟨j, rfl⟩ : ∃ j, m = j + 5 := ⟨m - 5, by omega⟩
    rw [frm_cons]
    simp only [List.take_succ_cons, parse, hk h]
    rw [if_neg]
    rintro ⟨_, _, _, _, h5, _⟩
    simp [B_len] at h5
    omega
theorem B_inj {v w : Nat} (hv : v < 18446744073709551616) (hw : w < 18446744073709551616) (h : B 8 v = B 8 w) : v = w := by
  have := congrArg num h
  rwa [num_B 8 v hv, num_B 8 w hw] at this
theorem parse_set (c : Nat) {r : List UInt8} (h : r.length ≤ 4000) {j : Nat} {x e : UInt8} (hx : (frm c r)[j]? = some x) (hne : e ≠ x) (u : List UInt8) : parse c ((frm c r).set j e ++ u) = none := by
  have hkk := hk h
  rw [frm_cons] at hx ⊢
  match j, hx with
  | 0, hx =>
    simp at hx
    simp only [List.set_cons_zero, List.cons_append, parse]
    rw [if_neg]
    rintro ⟨h0, _⟩
    exact hne (h0.trans hx)
  | 1, hx =>
    simp at hx
    simp only [List.set_cons_succ, List.set_cons_zero, List.cons_append, parse]
    rw [if_neg]
    rintro ⟨_, h3, _⟩
    apply hne
    rw [← hx]
    have := congrArg UInt8.toNat h3
    have he := e.toNat_lt
    rw [ofN (by omega), ofN (by omega)] at this
    apply UInt8.toNat_inj.1
    rw [ofN (by omega)]; omega
  | 2, hx =>
    simp at hx
    simp only [List.set_cons_succ, List.set_cons_zero, List.cons_append, parse]
    rw [if_neg]
    rintro ⟨_, _, h3, _⟩
    apply hne
    rw [← hx]
    have := congrArg UInt8.toNat h3
    have he := e.toNat_lt
    rw [ofN (by omega), ofN (by omega)] at this
    apply UInt8.toNat_inj.1
    rw [ofN (by omega)]; omega
  | 3, hx =>
    simp at hx
    simp only [List.set_cons_succ, List.set_cons_zero, List.cons_append, parse]
    rw [if_neg]
    rintro ⟨_, h3, _⟩
    apply hne
    rw [← hx, h3, ofN (by omega)]
  | 4, hx =>
    simp at hx
    simp only [List.set_cons_succ, List.set_cons_zero, List.cons_append, parse]
    rw [if_neg]
    rintro ⟨_, _, h3, _⟩
    apply hne
    rw [← hx, h3, ofN (by omega)]
  | j + 5, hx =>
    simp only [List.getElem?_cons_succ] at hx
    simp only [List.set_cons_succ, List.cons_append, parse, hkk]
    rw [if_neg]
    rintro ⟨_, _, _, _, _, h6⟩
    rcases Nat.lt_or_ge j r.length with hj | hj
    · rw [List.set_append_left _ _ hj, List.append_assoc, List.take_left' (by simp), List.drop_left' (by simp), List.take_left' (B_len _ _)] at h6
      rw [List.getElem?_append_left hj] at hx
      exact nx_set (c := c) hx hne (B_inj (nx_lt _ _) (nx_lt _ _) h6).symm
    · rw [List.set_append_right _ _ hj, List.append_assoc, List.take_left' rfl, List.drop_left' rfl, List.take_left' (by simp [B_len])] at h6
      rw [List.getElem?_append_right hj] at hx
      have := congrArg (fun l => l[j - r.length]?) h6
      simp only [hx] at this
      rw [List.getElem?_set_self (List.getElem?_eq_some_iff.1 hx).1] at this
      exact hne (Option.some.inj this)

/-- frames one behind the other -/
def cat : Nat → List (List UInt8) → List UInt8
  | _, [] => []
  | c, r :: rs => frm c r ++ cat (nx c r) rs
def chn : Nat → List (List UInt8) → Nat
  | c, [] => c
  | c, r :: rs => chn (nx c r) rs
theorem cat_append : ∀ (c : Nat) (a b : List (List UInt8)), cat c (a ++ b) = cat c a ++ cat (chn c a) b
  | _, [], _ => rfl
  | c, r :: a, b => by simp [cat, chn, cat_append (nx c r) a b]
theorem chn_append : ∀ (c : Nat) (a b : List (List UInt8)), chn c (a ++ b) = chn (chn c a) b
  | _, [], _ => rfl
  | c, r :: a, b => by simp [chn, chn_append (nx c r) a b]
theorem chn_lt : ∀ {c : Nat} (rs : List (List UInt8)), c < 18446744073709551616 → chn c rs < 18446744073709551616
  | _, [], h => h
  | c, r :: rs, _ => chn_lt rs (nx_lt c r)
theorem chain_cat : ∀ (rs : List (List UInt8)), chainN (cat 1 rs) = chn 1 rs := by
  intro rs
  rcases List.eq_nil_or_concat rs with rfl | ⟨a, r, rfl⟩
  · rfl
  · rw [List.concat_eq_append, cat_append, chn_append]
    simp only [cat, chn, List.append_nil]
    unfold chainN
    have hl := frm_len (chn 1 a) r
    rw [if_neg (by simp [hl]; omega), List.length_append, show (cat 1 a).length + (frm (chn 1 a) r).length - 8 = (cat 1 a).length + (5 + r.length) from by omega, List.drop_append, List.drop_of_length_le (by omega)]
    rw [show (cat 1 a).length + (5 + r.length) - (cat 1 a).length = 5 + r.length from by omega, List.nil_append, frm, List.drop_left' (by simp [hdr]; omega)]
    exact num_B 8 _ (nx_lt _ _)

def small (rs : List (List UInt8)) : Prop := ∀ r, r ∈ rs → r.length ≤ 4000
/-- what is readable -/
def RdT (c : Nat) (t : List UInt8) (rs : List (List UInt8)) : Prop := small rs ∧ ∃ u, t = cat c rs ++ u ∧ parse (chn c rs) u = none
theorem RdT.nil {c : Nat} {t : List UInt8} (h : parse c t = none) : RdT c t [] := ⟨fun _ h => (List.not_mem_nil h).elim, t, rfl, h⟩
theorem RdT.cons {c : Nat} {t : List UInt8} {r : List UInt8} {rs : List (List UInt8)} (hr : r.length ≤ 4000) (h : RdT (nx c r) t rs) : RdT c (frm c r ++ t) (r :: rs) := by
  obtain ⟨h1, u, rfl, h3⟩ := h
  refine ⟨fun x hx => ?_, u, by simp [cat], h3⟩
  rcases List.mem_cons.1 hx with rfl | hx
  · exact hr
  · exact h1 x hx
theorem rd_ex : ∀ (k : Nat) (c : Nat) (t : List UInt8), t.length ≤ k → ∃ rs, RdT c t rs
  | k, c, t, hk => by
    cases hp : parse c t with
    | none => exact ⟨[], .nil hp⟩
    | some r =>
      obtain ⟨h1, u, rfl⟩ := parse_some hp
      have hl := frm_len c r
      match k with
      | 0 => rw [List.length_append] at hk; omega
      | k + 1 =>
        obtain ⟨rs, h⟩ := rd_ex k (nx c r) u (by rw [List.length_append] at hk; omega)
        exact ⟨r :: rs, .cons h1 h⟩
theorem RdT.uniq : ∀ {c : Nat} {t : List UInt8} {rs rs' : List (List UInt8)}, RdT c t rs → RdT c t rs' → rs = rs'
  | c, t, [], [], _, _ => rfl
  | c, t, [], r :: rs', ⟨_, u, h1, h2⟩, ⟨s, v, h3, _⟩ => by
    simp only [cat, List.nil_append, chn] at h1 h2
    simp only [cat, List.append_assoc] at h3
    rw [← h1, h3, parse_frm c (s r (by simp))] at h2; cases h2
  | c, t, r :: rs, [], ⟨s, v, h3, _⟩, ⟨_, u, h1, h2⟩ => by
    simp only [cat, List.nil_append, chn] at h1 h2
    simp only [cat, List.append_assoc] at h3
    rw [← h1, h3, parse_frm c (s r (by simp))] at h2; cases h2
  | c, t, r :: rs, r' :: rs', ⟨s, v, h3, h4⟩, ⟨s', v', h3', h4'⟩ => by
    simp only [cat, List.append_assoc] at h3 h3'
    have e1 := parse_frm c (s r (by simp)) (cat (nx c r) rs ++ v)
    have e2 := parse_frm c (s' r' (by simp)) (cat (nx c r') rs' ++ v')
    rw [← h3] at e1
    rw [← h3', e1] at e2
    obtain rfl := Option.some.inj e2
    have e3 : cat (nx c r) rs ++ v = cat (nx c r) rs' ++ v' := List.append_cancel_left (h3.symm.trans h3')
    rw [RdT.uniq (c := nx c r) (t := cat (nx c r) rs ++ v) (rs := rs) (rs' := rs') ⟨fun x hx => s x (by simp [hx]), v, rfl, h4⟩ ⟨fun x hx => s' x (by simp [hx]), v', e3, h4'⟩]
theorem RdT.cat {c : Nat} {rs : List (List UInt8)} (h : small rs) : RdT c (cat c rs) rs := ⟨h, [], by simp, rfl⟩
/-- what is left of a file -/
theorem rd_take : ∀ (c : Nat) (l : List (List UInt8)) (m : Nat), small l → ∃ j, j ≤ l.length ∧ RdT c ((Go.AB.cat c l).take m) (l.take j) ∧ (∀ i, i ≤ l.length → (Go.AB.cat c (l.take i)).length ≤ m → i ≤ j)
  | c, [], m, _ => ⟨0, Nat.le_refl _, by simpa [Go.AB.cat] using RdT.nil (c := c) (t := []) rfl, fun i h _ => by simpa using h⟩
  | c, r :: rs, m, hs => by
    have hr := hs r (by simp)
    have hl := frm_len c r
    rcases Nat.lt_or_ge m (13 + r.length) with h | h
    · refine ⟨0, Nat.zero_le _, ?_, fun i hi hm => ?_⟩
      · rw [Go.AB.cat, List.take_append_of_le_length (by omega)]
        exact .nil (parse_trunc c hr h)
      · match i with
        | 0 => exact Nat.le_refl _
        | i + 1 => simp [Go.AB.cat, hl] at hm; omega
    · obtain ⟨j, hj, h1, h2⟩ := rd_take (nx c r) rs (m - (13 + r.length)) fun x hx => hs x (by simp [hx])
      refine ⟨j + 1, by simp; omega, ?_, fun i hi hm => ?_⟩
      · rw [Go.AB.cat, List.take_append, List.take_of_length_le (by omega), hl, List.take_succ_cons]
        exact .cons hr h1
      · match i with
        | 0 => omega
        | i + 1 =>
          simp [Go.AB.cat, hl] at hm
          have := h2 i (by simpa using hi) (by omega)
          omega
end Go.AB

import Derived.Test.YtcahghigmlibjaaLe
namespace Go.AB
open Go

theorem parse_13 {c : Nat} {t : List UInt8} (h : t.length < 13) : parse c t = none := by
  cases hp : parse c t with
  | none => rfl
  | some r =>
    obtain ⟨_, u, rfl⟩ := parse_some hp
    have := frm_len c r
    rw [List.length_append] at h
    omega
theorem m35_val {n c i : Nat} {b : List UInt8} (hb : b.length ≤ 100000) (hi : i ≤ b.length) (hc : c < 18446744073709551616) (hn : 4010 < n) :
    (∀ r, parse c (b.drop i) = some r → m35 n b (i : Int) (c : Int) = some (r, ((nx c r : Nat) : Int), true)) ∧ (parse c (b.drop i) = none → ∃ x y, m35 n b (i : Int) (c : Int) = some (x, y, false)) := by
  unfold m35
  have hlen : (b.drop i).length = b.length - i := by simp
  rw [wrap64 (x := (b.length : Int) - (i : Int)) (by omega) (by omega)]
  rcases Nat.lt_or_ge (b.length - i) 13 with h5 | h5
  · rw [if_pos (by simp; omega), parse_13 (by omega)]
    exact ⟨fun r h => (by cases h), fun _ => ⟨_, _, rfl⟩⟩
  · rw [if_neg (by simp; omega)]
    have hsl : ∀ x y : Nat, i ≤ x → x ≤ y → y ≤ b.length → ∀ l h : Int, l = (x : Int) → h = (y : Int) → slc b l h = some (((b.drop i).drop (x - i)).take (y - x)) := by
      intro x y h1 h2 h3 l h e1 e2
      rw [slc_val (i := x) (j := y) e1 e2 h2 h3, List.drop_drop]
      congr 3
      omega
    have hat : ∀ k : Nat, b[i + k]? = (b.drop i)[k]? := fun k => by rw [List.getElem?_drop]
    have h5' : 13 ≤ (b.drop i).length := by omega
    generalize ht : b.drop i = t at hlen hsl h5' hat
    clear ht
    match t, h5', hlen, hsl, hat with
    | t0 :: t1 :: t2 :: t3 :: t4 :: rest, _, hlen, hsl, hat =>
      simp only [List.length_cons] at hlen
      have l1 := t1.toNat_lt
      have l2 := t2.toNat_lt
      rw [getIdx_q (k := i + 1) (y := t1) (by rw [wrap64 (by omega) (by omega)]; omega) (by rw [hat]; rfl), getIdx_q (k := i + 2) (y := t2) (by rw [wrap64 (by omega) (by omega)]; omega) (by rw [hat]; rfl)]
      rw [Option.bind_some, Option.bind_some, letM_eq]
      have hK : IntKind.wrap .i64 (IntKind.wrap .i64 (256 * IntKind.wrap .i64 (t1.toNat : Int)) + IntKind.wrap .i64 (t2.toNat : Int)) = ((kk t1 t2 : Nat) : Int) := by
        rw [wrap64 (x := (t1.toNat : Int)) (by omega) (by omega), wrap64 (x := (t2.toNat : Int)) (by omega) (by omega), wrap64 (x := 256 * (t1.toNat : Int)) (by omega) (by omega), wrap64 (by omega) (by omega)]
        unfold kk; omega
      rw [hK]
      have hKl := kk_lt t1 t2
      have hne : ∀ r, parse c (t0 :: t1 :: t2 :: t3 :: t4 :: rest) = some r → r.length = kk t1 t2 ∧ r.length ≤ 4000 ∧ (t0 :: t1 :: t2 :: t3 :: t4 :: rest).take (13 + r.length) = frm c r ∧ r = rest.take (kk t1 t2) ∧ 13 + r.length ≤ rest.length + 5 := by
        intro r h
        obtain ⟨h1, u, h2⟩ := parse_some h
        have h3 : kk t1 t2 = r.length := by
          rw [frm_cons, List.cons_append, List.cons_append, List.cons_append] at h2
          simp only [List.cons.injEq] at h2
          rw [h2.2.1, h2.2.2.1, hk h1]
        refine ⟨h3.symm, h1, by rw [h2, List.take_left' (frm_len c r)], ?_, ?_⟩
        · have h4 := congrArg (fun l => (l.drop 5).take (kk t1 t2)) h2
          simp only [List.drop_succ_cons, List.drop_zero] at h4
          rw [h4, frm_cons, h3]
          simp only [List.cons_append, List.drop_succ_cons, List.drop_zero]
          rw [List.append_assoc, List.take_left' rfl]
        · have h4 := congrArg List.length h2
          rw [List.length_append, frm_len] at h4
          simp only [List.length_cons] at h4
          omega
      generalize hKK : kk t1 t2 = K at hKl hne ⊢
      rw [wrap64 (x := (13 : Int) + (K : Int)) (by omega) (by omega)]
      by_cases hs : K ≤ 4000 ∧ K + 8 ≤ rest.length
      · rw [if_neg (by simp; omega)]
        rw [hsl (i + 5) (i + 5 + K) (by omega) (by omega) (by omega) _ _ (by rw [wrap64 (by omega) (by omega)]; omega) (by rw [wrap64 (x := (i : Int) + 5) (by omega) (by omega), wrap64 (by omega) (by omega)]; omega), show i + 5 - i = 5 from by omega, show i + 5 + K - (i + 5) = K from by omega]
        rw [show (t0 :: t1 :: t2 :: t3 :: t4 :: rest).drop 5 = rest from rfl, Option.bind_some, apd_val (by simp; omega), Option.bind_some, List.nil_append]
        have hrl : (rest.take K).length = K := by simp; omega
        rw [m31_val hc (by omega) hn, Option.bind_some]
        rw [hsl i (i + 13 + K) (by omega) (by omega) (by omega) _ _ rfl (by rw [wrap64 (x := (i : Int) + 13) (by omega) (by omega), wrap64 (by omega) (by omega)]; omega), show i + 13 + K - i = 13 + K from by omega, Nat.sub_self, List.drop_zero, Option.bind_some]
        refine ⟨fun r h => ?_, fun h => ⟨rest.take K, ((nx c (rest.take K) : Nat) : Int), ?_⟩⟩
        · obtain ⟨q1, q2, q3, q4, _⟩ := hne r h
          rw [← q4]
          rw [q1] at q3
          simp [q3]
        · have : (frm c (rest.take K) == (t0 :: t1 :: t2 :: t3 :: t4 :: rest).take (13 + K)) = false := by
            apply Bool.eq_false_iff.2
            intro he
            have he := eq_of_beq he
            have h2 := parse_frm c (r := rest.take K) (by omega) ((t0 :: t1 :: t2 :: t3 :: t4 :: rest).drop (13 + K))
            rw [he, List.take_append_drop, h] at h2
            cases h2
          rw [this]
      · rw [if_pos (by simp; omega)]
        exact ⟨fun r h => absurd (hne r h) (fun h => hs ⟨by omega, by omega⟩), fun _ => ⟨_, _, rfl⟩⟩

/-- what an iteration over frames gives -/
def outs : Nat → List (List UInt8) → List (Int × List UInt8)
  | _, [] => []
  | i, r :: rs => (((i + 13 + r.length : Nat) : Int), r) :: outs (i + 13 + r.length) rs
theorem cat_len_cons (c : Nat) (r : List UInt8) (rs : List (List UInt8)) : (cat c (r :: rs)).length = 13 + r.length + (cat (nx c r) rs).length := by
  rw [cat, List.length_append, frm_len]
theorem outs_loop {n : Nat} {b : List UInt8} {k : Unit → Option (List (Int × List UInt8))} (hk : k () = some []) (hb : b.length ≤ 100000) (hn : 4010 < n) :
    ∀ (m : Nat) (rs : List (List UInt8)) (c i : Nat), c < 18446744073709551616 → i ≤ b.length → RdT c (b.drop i) rs → rs.length < m → loopM (m40_L1 n b k) m ((i : Int), (c : Int)) = some (outs i rs)
  | 0, _, _, _, _, _, _, h => absurd h (Nat.not_lt_zero _)
  | m + 1, [], c, i, hc, hi, ⟨_, u, h1, h2⟩, _ => by
    simp only [cat, List.nil_append, chn] at h1 h2
    rw [loopM_succ, m40_step hk hb hi hc hn, h1, h2]
    rfl
  | m + 1, r :: rs, c, i, hc, hi, ⟨s, u, h1, h2⟩, hm => by
    have hr := s r (by simp)
    have hp := parse_frm c hr (cat (nx c r) rs ++ u)
    have e1 : b.drop i = frm c r ++ (cat (nx c r) rs ++ u) := by rw [h1, cat, List.append_assoc]
    rw [loopM_succ, m40_step hk hb hi hc hn, e1, hp]
    dsimp only
    have hlen : b.length - i = 13 + r.length + (cat (nx c r) rs ++ u).length := by
      have := congrArg List.length e1
      rwa [List.length_drop, List.length_append, frm_len] at this
    have e2 : b.drop (i + 13 + r.length) = cat (nx c r) rs ++ u := by
      rw [show i + 13 + r.length = i + (13 + r.length) from by omega, ← List.drop_drop, e1, List.drop_left' (frm_len c r)]
    rw [outs_loop hk hb hn m rs (nx c r) (i + 13 + r.length) (nx_lt _ _) (by omega) ⟨fun x hx => s x (by simp [hx]), u, e2, h2⟩ (by simpa using hm)]
    rfl
theorem RdT.len {c : Nat} {t : List UInt8} {rs : List (List UInt8)} (h : RdT c t rs) : (Go.AB.cat c rs).length ≤ t.length := by
  obtain ⟨_, u, rfl, _⟩ := h
  simp
theorem cat_ge (c : Nat) : ∀ rs : List (List UInt8), 13 * rs.length ≤ (cat c rs).length := by
  intro rs
  induction rs generalizing c with
  | nil => simp
  | cons r rs ih => rw [cat_len_cons]; have := ih (nx c r); simp; omega
theorem m40_val {n : Nat} {b : List UInt8} {rs : List (List UInt8)} (hb : b.length ≤ 50000) (hn : 4010 < n) (h : RdT 1 b rs) : m40 n b = some (outs 0 rs) := by
  unfold m40 jn
  have h1 := h.len
  have h2 := cat_ge 1 rs
  exact outs_loop (k := fun _ => some []) rfl (by omega) hn n rs 1 0 (by decide) (Nat.zero_le _) h (by omega)

theorem m24_val {n : Nat} {b : List UInt8} {rs : List (List UInt8)} (hb : b.length ≤ 50000) (hn : 4010 < n) (h : RdT 1 b rs) : m24 n b = some (rs, (((cat 1 rs).length : Nat) : Int)) := by
  unfold m24
  rw [show m34 n b = some () from rfl, m40_val hb hn h, Option.bind_some, Option.bind_some]
  have h1 := h.len
  have key : ∀ (rs : List (List UInt8)) (c i : Nat) (acc : List (List UInt8)), acc.length + rs.length ≤ 100000 → small rs →
      rangeL (m24_R1 n) (outs i rs) (fun p_14 : Int × (List (List UInt8)) => (some (p_14.2, p_14.1))) ((i : Int), acc) = some (acc ++ rs, ((i + (cat c rs).length : Nat) : Int)) := by
    intro rs
    induction rs with
    | nil => intro c i acc _ _; simp [outs, rangeL, cat]
    | cons r rs ih =>
      intro c i acc hl hs
      rw [outs, rangeL, m24_R1]
      dsimp only
      have hr := hs r (by simp)
      rw [apd_val (by simp; omega), Option.bind_some, List.nil_append, apd_val (by simp at hl ⊢; omega), Option.bind_some]
      have := ih (nx c r) (i + 13 + r.length) (acc ++ [r]) (by simp at hl ⊢; omega) (fun x hx => hs x (by simp [hx]))
      rw [this, cat_len_cons, List.append_assoc]
      congr 3
      omega
  have h2 := cat_ge 1 rs
  have := key rs 1 0 [] (by simp; omega) h.1
  simpa using this

theorem m26_val {n : Nat} {b : List UInt8} {rs : List (List UInt8)} (hb : b.length ≤ 50000) (hn : 4010 < n) (h : RdT 1 b rs) : m26 n b = some (rs, (((cat 1 rs).length : Nat) : Int)) := by
  unfold m26
  have h1 := h.len
  have h2 := cat_ge 1 rs
  have key : ∀ (m : Nat) (rs : List (List UInt8)) (c i : Nat) (acc : List (List UInt8)), c < 18446744073709551616 → i ≤ b.length → RdT c (b.drop i) rs → rs.length < m → acc.length + rs.length ≤ 100000 →
      loopM (m26_L1 n b) m ((i : Int), (c : Int), acc) = some (acc ++ rs, ((i + (cat c rs).length : Nat) : Int)) := by
    intro m
    induction m with
    | zero => intro rs c i acc _ _ _ h; exact absurd h (Nat.not_lt_zero _)
    | succ m ih =>
      intro rs c i acc hc hi hrd hm hacc
      obtain ⟨v1, v2⟩ := m35_val (n := n) (c := c) (i := i) (b := b) (by omega) hi hc hn
      rw [loopM_succ, m26_L1]
      dsimp only
      match rs, hrd with
      | [], ⟨_, u, e1, e2⟩ =>
        simp only [cat, List.nil_append, chn] at e1 e2
        obtain ⟨x, y, hv⟩ := v2 (by rw [e1]; exact e2)
        rw [hv]
        simp [cat]
      | r :: rs, ⟨s, u, e1, e2⟩ =>
        have hr := s r (by simp)
        have e3 : b.drop i = frm c r ++ (cat (nx c r) rs ++ u) := by rw [e1, cat, List.append_assoc]
        have hlen : b.length - i = 13 + r.length + (cat (nx c r) rs ++ u).length := by
          have := congrArg List.length e3
          rwa [List.length_drop, List.length_append, frm_len] at this
        have e4 : b.drop (i + 13 + r.length) = cat (nx c r) rs ++ u := by
          rw [show i + 13 + r.length = i + (13 + r.length) from by omega, ← List.drop_drop, e3, List.drop_left' (frm_len c r)]
        rw [v1 r (by rw [e3]; exact parse_frm c hr _), Option.bind_some]
        dsimp only
        simp only [Bool.not_true, Bool.false_eq_true, if_false]
        rw [apd_val (by simp at hacc ⊢; omega), Option.bind_some, letM_eq, wrap64 (x := (i : Int) + 13) (by omega) (by omega), wrap64 (by omega) (by omega)]
        rw [show (i : Int) + 13 + (r.length : Int) = ((i + 13 + r.length : Nat) : Int) from by omega]
        rw [ih rs (nx c r) (i + 13 + r.length) (acc ++ [r]) (nx_lt _ _) (by omega) ⟨fun x hx => s x (by simp [hx]), u, e4, e2⟩ (by simpa using hm) (by simp at hacc ⊢; omega), cat_len_cons, List.append_assoc]
        congr 3
        omega
  have := key n rs 1 0 [] (by decide) (Nat.zero_le _) h (by omega) (by simp; omega)
  simpa using this
end Go.AB

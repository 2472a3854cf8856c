import Derived.Test.YtffbjmipkffgkaaLh
namespace Go.AB
open Go

theorem eShape_pos (s : R27) : 0 < (eShape s).length := by rw [eShape, eRing, eList, List.length_append, List.length_append, eInt_len]; omega
theorem sl0 {α : Type} {b : List α} {j : Nat} (hj : j ≤ b.length) : slc b (0 : Int) (j : Int) = some (b.take j) := by
  have := slc_val (b := b) (l := 0) (h := (j : Int)) (i := 0) (j := j) rfl rfl (Nat.zero_le _) hj
  simpa using this
/-- at a beginning of what is written no value is read -/
theorem cut {α : Type} {e : α → List UInt8} {ok ok' : α → Prop} {p p' : List UInt8 → Option (α × Nat)} {z : α} {m : List UInt8 → Int → Bool → Option (α × List UInt8 × Int × Bool)} (h : Cod e ok p) (h' : Cod e ok' p') (hs : ∀ v, ok' v → ok v) {v : α} (ho : ok v) (hr : Rd m z p') {k : Nat} (hk : k < (e v).length) (hb : (e v).length ≤ 100000) :
    m ((e v).take k) (0 : Int) false = some (z, (e v).take k, 0, true) := by
  have := hr ((e v).take k) 0 false (Nat.zero_le _) (by simp; omega)
  rw [RS_none (by rw [List.drop_zero]; exact h.short2 h' hs ho hk)] at this
  exact this
theorem m4_l1 {n : Nat} (hn : 200 < n) {a : Int} (ha : inR a) {k : Unit → Option Bool} : loopM (m4_L1 n (eInt a) k) n (0 : Int) = k () := by
  have hl := eInt_len a
  have hw := wd_le a
  refine loopM_ind (fun i x => ∃ j : Nat, j ≤ (eInt a).length ∧ i = (eInt a).length - j ∧ x = (j : Int)) (fun o => o = k ()) ?_ n _ _ ⟨0, Nat.zero_le _, rfl, rfl⟩ (by omega)
  rintro i x ⟨j, hj, rfl, rfl⟩
  rcases Nat.lt_or_ge j (eInt a).length with h1 | h1
  · refine .inl ⟨_, _, ?_, ⟨j + 1, h1, rfl, rfl⟩, fun nx => ?_⟩
    · omega
    rw [m4_L1, if_pos (by simp; omega), sl0 hj, Option.bind_some, m16_val (by simp; omega), Option.bind_some]
    dsimp only
    rw [cut codInt codInt (fun _ h => h) ha (rInt (n := n) (by omega)) h1 (by omega), Option.bind_some]
    have e1 : m18 n ((eInt a).take j) 0 true = some 4 := rfl
    simp only [decide_true, Bool.not_true, Bool.not_false, gdO_true, e1, Option.bind_some, Bool.or_self, Bool.false_eq_true, if_false, letM_eq]
    rw [wrap64 (by omega) (by omega)]
    rfl
  · refine .inr ⟨_, rfl, fun nx => ?_⟩
    have : j = (eInt a).length := by omega
    subst this
    rw [m4_L1, if_neg (by simp)]
theorem eBytes_len (l : List UInt8) : 0 < (eBytes l).length ∧ (eBytes l).length ≤ 9 + l.length := by
  have := wd_le (l.length : Int)
  rw [eBytes, List.length_append, eInt_len]; omega
theorem m4_l2 {n : Nat} (hn : 300 < n) {a : List UInt8} (ha : a.length ≤ 200) {k : Unit → Option Bool} : loopM (m4_L2 n (eBytes a) k) n (0 : Int) = k () := by
  have hl := eBytes_len a
  refine loopM_ind (fun i x => ∃ j : Nat, j ≤ (eBytes a).length ∧ i = (eBytes a).length - j ∧ x = (j : Int)) (fun o => o = k ()) ?_ n _ _ ⟨0, Nat.zero_le _, rfl, rfl⟩ (by omega)
  rintro i x ⟨j, hj, rfl, rfl⟩
  rcases Nat.lt_or_ge j (eBytes a).length with h1 | h1
  · refine .inl ⟨_, _, ?_, ⟨j + 1, h1, rfl, rfl⟩, fun nx => ?_⟩
    · omega
    rw [m4_L2, if_pos (by simp; omega), sl0 hj, Option.bind_some, m16_val (by simp; omega), Option.bind_some]
    dsimp only
    rw [show m19 n ((eBytes a).take j) 0 false 200 = _ from cut (codBytes 200 (by decide)) (codBytes 200 (by decide)) (fun _ h => h) (by omega) (rText (n := n) (by omega) 200) h1 (by omega), Option.bind_some]
    have e1 : m18 n ((eBytes a).take j) 0 true = some 4 := rfl
    simp only [beq_self_eq_true, decide_true, Bool.not_true, Bool.not_false, gdO_true, e1, Option.bind_some, Bool.or_self, Bool.false_eq_true, if_false, letM_eq]
    rw [wrap64 (by omega) (by omega)]
    rfl
  · refine .inr ⟨_, rfl, fun nx => ?_⟩
    have : j = (eBytes a).length := by omega
    subst this
    rw [m4_L2, if_neg (by simp)]
theorem eShape_len {s : R27} (hs : small s) : (eShape s).length ≤ 50000 := by
  obtain ⟨h1, h2, h3⟩ := hs
  have hr := eRing_len s.Outer
  have hw := wd_le (s.Holes.length : Int)
  have hf : (s.Holes.flatMap eRing).length ≤ s.Holes.length * 909 := flat_le fun y hy => by
    have := eRing_len y
    have := h3 y hy
    omega
  rw [eShape, List.length_append, eList, List.length_append, eInt_len]
  omega
theorem okSub {s : R27} (h : okShape s) : okS 50 8 s := ⟨⟨by have := h.1.1; omega, h.1.2⟩, by have := h.2.1; omega, fun r hr => ⟨by have := (h.2.2 r hr).1; omega, (h.2.2 r hr).2⟩⟩
theorem m4_l3 {n : Nat} (hn : 100002 < n) {s : R27} (hi : ints s) (hs : small s) {k : Unit → Option Bool} : loopM (m4_L3 n (eShape s) k) n (0 : Int) = k () := by
  have hl := eShape_len hs
  refine loopM_ind (fun i x => ∃ j : Nat, j ≤ (eShape s).length ∧ i = (eShape s).length - j ∧ x = (j : Int)) (fun o => o = k ()) ?_ n _ _ ⟨0, Nat.zero_le _, rfl, rfl⟩ (by omega)
  rintro i x ⟨j, hj, rfl, rfl⟩
  by_cases h1 : j < (eShape s).length ∧ j < 100
  · obtain ⟨h1, h2⟩ := h1
    refine .inl ⟨_, _, ?_, ⟨j + 1, h1, rfl, rfl⟩, fun nx => ?_⟩
    · omega
    rw [m4_L3, if_pos (by simp; omega), sl0 hj, Option.bind_some, m16_val (by simp; omega), Option.bind_some]
    dsimp only
    rw [cut (codS 50 8 (by decide) (by decide)) codShape (fun _ h => okSub h) (smallS hi hs) (rShape (n := n) (by omega)) h1 (by omega), Option.bind_some]
    have e1 : m18 n ((eShape s).take j) 0 true = some 4 := rfl
    have e2 : m15 n (R27.mk [] []) (R27.mk [] []) = some true := m15_val (s := R27.mk [] []) (t := R27.mk [] []) ⟨by simp; omega, by simp⟩ (fun r hr => by cases hr) ⟨by simp; omega, by simp⟩
    simp only [e2, decide_true, Bool.not_true, Bool.not_false, gdO_true, e1, Option.bind_some, Bool.or_self, Bool.false_eq_true, if_false, letM_eq]
    rw [wrap64 (by omega) (by omega)]
    rfl
  · refine .inr ⟨_, rfl, fun nx => ?_⟩
    rw [m4_L3, if_neg (by simp; omega)]
theorem m4_gen {n : Nat} {a0 : Int} {a1 : List UInt8} {a2 : R27} (hn : 100002 < n) (hh : a2.Holes.length < n) (h0 : (Lit.int .i64 a0).wf = true) (h2 : WS a2) : m4 n a0 a1 a2 = some true := by
  obtain ⟨c, e1, k1⟩ := m10_val hh h2.len
  have e1' : m10 n (R27.mk a2.Outer a2.Holes) = some c := e1
  unfold m4 jn
  rw [m9_gen (by omega), Option.bind_some, if_neg (by simp), e1']
  by_cases b1 : a1.length ≤ 200
  · have d1 : decide ((200 : Int) < (a1.length : Int)) = false := by simp; omega
    rw [d1, Bool.not_false, gdO_true, Option.bind_some]
    cases c with
    | false => rw [if_pos (by simp)]
    | true =>
      have hs := k1.1 rfl
      by_cases b2 : a2.Outer.length ≤ 20
      · rw [if_neg (by simp; omega), m12x2_val (wfI h0) (by omega), Option.bind_some, m13_val (l := a1) (by omega) (by omega), Option.bind_some, show m14 n (R27.mk a2.Outer a2.Holes) = _ from m14_val h2.ints hs (by omega), Option.bind_some]
        refine (m4_l1 (n := n) (by omega) (wfI h0)).trans ((m4_l2 (n := n) (by omega) b1).trans ((m4_l3 (n := n) hn h2.ints hs).trans ?_))
        have q1 := eShape_pos a2
        have q2 := (eBytes_len a1).1
        have q3 := eInt_len a0
        have r1 : decide ((0 : Int) < ((eInt a0).length : Int)) = true := decide_eq_true (by omega)
        have r2 : decide ((0 : Int) < ((eBytes a1).length : Int)) = true := decide_eq_true (by omega)
        have r3 : decide ((0 : Int) < ((eShape a2).length : Int)) = true := decide_eq_true (by omega)
        show some ((decide ((0 : Int) < ((eInt a0).length : Int)) && decide ((0 : Int) < ((eBytes a1).length : Int))) && decide ((0 : Int) < ((eShape a2).length : Int))) = some true
        rw [r1, r2, r3]
        rfl
      · rw [if_pos (by simp; omega)]
  · have d1 : decide ((200 : Int) < (a1.length : Int)) = true := by simp; omega
    rw [d1, Bool.not_true, gdO_false, Option.bind_some, if_pos (by simp)]
/-- what is read whole is what is written -/
theorem whole {α : Type} {e : α → List UInt8} {ok : α → Prop} {p : List UInt8 → Option (α × Nat)} {z : α} {m : List UInt8 → Int → Bool → Option (α × List UInt8 × Int × Bool)} (h : Cod e ok p) (hr : Rd m z p) (n : Nat) {b : List UInt8} (hb : b.length ≤ 100000) :
    ∃ v i f, m b (0 : Int) false = some (v, b, i, f) ∧ (m18 n b i f = some 4 ∨ m18 n b i f = some 0 ∧ e v = b ∧ ok v) := by
  have h1 := hr b 0 false (Nat.zero_le _) hb
  cases hp : p b with
  | none =>
    rw [RS_none (by rw [List.drop_zero]; exact hp)] at h1
    exact ⟨_, _, _, h1, .inl rfl⟩
  | some r =>
    rw [RS_some (r := r) (by rw [List.drop_zero]; exact hp)] at h1
    refine ⟨_, _, _, h1, ?_⟩
    obtain ⟨q1, q2, u, q3⟩ := h.cn _ r.1 r.2 hp
    by_cases hc : r.2 < b.length
    · left
      unfold m18
      rw [if_pos (by simp; omega)]
    · right
      refine ⟨by unfold m18; rw [if_neg (by simp; omega)], ?_, q1⟩
      have : u = [] := by
        apply List.eq_nil_of_length_eq_zero
        have := congrArg List.length q3
        rw [List.length_append] at this
        omega
      subst this
      rw [List.append_nil] at q3
      exact q3.symm
theorem m4_all {a0 : Int} {a1 : List UInt8} {a2 : R27} (h0 : (Lit.int .i64 a0).wf = true) (h2 : WS a2) : m4 (a2.Holes.length + 200000) a0 a1 a2 = some true := m4_gen (by omega) (by omega) h0 h2
theorem m7_gen {n : Nat} (hn : 100002 < n) (a0 : List UInt8) : m7 n a0 = some true := by
  unfold m7
  rw [m9_gen (by omega), Option.bind_some, if_neg (by simp)]
  by_cases hb : a0.length ≤ 900
  · rw [if_neg (by simp; omega), m16_val (by omega), Option.bind_some, Option.bind_some, Option.bind_some]
    dsimp only
    obtain ⟨v1, i1, f1, w1, c1⟩ := whole codShape (rShape hn) n (b := a0) (by omega)
    obtain ⟨v2, i2, f2, w2, c2⟩ := whole (codList codInt 900 (by decide)) (rInts hn 900) n (b := a0) (by omega)
    obtain ⟨v3, i3, f3, w3, c3⟩ := whole (codBytes 900 (by decide)) (rText (n := n) (by omega) 900) n (b := a0) (by omega)
    rw [w1, Option.bind_some, show m28 n a0 0 false 900 = _ from w2, Option.bind_some, show m19 n a0 0 false 900 = _ from w3, Option.bind_some]
    dsimp only
    have last : ∀ c : Bool, c = true → ((gdO c (m18 n a0 i3 f3) default).bind fun y_14 => ((gdO (c && (!(!decide (y_14 = (0 : Int))))) (m13 n v3) default).bind fun y_15 => ((gdO (c && (!(!decide (y_14 = (0 : Int))))) (m11 n y_15 a0) default).bind fun y_16 => (some (c && ((!decide (y_14 = (0 : Int))) || y_16)))))) = some true := by
      rintro c rfl
      rw [gdO_true]
      rcases c3 with c | ⟨c, e, o⟩
      · rw [c]; rfl
      · rw [c, Option.bind_some, show (true && (!(!decide ((0 : Int) = 0)))) = true from rfl, gdO_true, m13_val (l := v3) (by omega) (by omega), Option.bind_some, gdO_true, e, m11_eq, Option.bind_some, beq_self_eq_true]
        rfl
    have mid : ((m18 n a0 i2 f2).bind fun y_11 => ((gdO (!(!decide (y_11 = (0 : Int)))) (m32 n v2) default).bind fun y_12 => ((gdO (!(!decide (y_11 = (0 : Int)))) (m11 n y_12 a0) default).bind fun y_13 => ((gdO ((!decide (y_11 = (0 : Int))) || y_13) (m18 n a0 i3 f3) default).bind fun y_14 => ((gdO (((!decide (y_11 = (0 : Int))) || y_13) && (!(!decide (y_14 = (0 : Int))))) (m13 n v3) default).bind fun y_15 => ((gdO (((!decide (y_11 = (0 : Int))) || y_13) && (!(!decide (y_14 = (0 : Int))))) (m11 n y_15 a0) default).bind fun y_16 => (some (((!decide (y_11 = (0 : Int))) || y_13) && ((!decide (y_14 = (0 : Int))) || y_16))))))))) = some true := by
      rcases c2 with c | ⟨c, e, o⟩
      · rw [c]
        exact last _ rfl
      · rw [c, Option.bind_some, show (!(!decide ((0 : Int) = 0))) = true from rfl, gdO_true, m32_val o.2 (by have := o.1; omega) (by omega), Option.bind_some, gdO_true, e, m11_eq, Option.bind_some, beq_self_eq_true]
        exact last _ rfl
    rcases c1 with c | ⟨c, e, o⟩
    · rw [c]
      exact mid
    · rw [c, Option.bind_some, show decide ((0 : Int) = 0) = true from rfl, gdO_true, show m14 n (R27.mk v1.Outer v1.Holes) = _ from m14_val (s := v1) ⟨o.1.2, fun r hr => (o.2.2 r hr).2⟩ ⟨by have := o.1.1; omega, by have := o.2.1; omega, fun r hr => by have := (o.2.2 r hr).1; omega⟩ (by omega), Option.bind_some, e, gdO_true, m11_eq, Option.bind_some, beq_self_eq_true]
      exact mid
  · rw [if_pos (by simp; omega)]
theorem m7_all (a0 : List UInt8) : m7 200000 a0 = some true := m7_gen (by decide) a0
end Go.AB

import Derived.Test.YtffbjmipkffgkaaLo
namespace Go.AB
open Go

/-- two readers of one kind read the same -/
theorem same {α : Type} {e : α → List UInt8} {ok : α → Prop} {p : List UInt8 → Option (α × Nat)} {z : α} {m m' : List UInt8 → Int → Bool → Option (α × List UInt8 × Int × Bool)} (h : Cod e ok p) (r1 : Rd m z p) (r2 : Rd m' z p) {b : List UInt8} {i : Nat} (f : Bool) (hi : i ≤ b.length) (hb : b.length ≤ 100000) :
    ∃ v i' f', m b (i : Int) f = some (v, b, ((i' : Nat) : Int), f') ∧ m' b (i : Int) f = some (v, b, ((i' : Nat) : Int), f') ∧ i' ≤ b.length ∧ (v = z ∨ ok v ∧ (e v).length ≤ b.length) := by
  rw [r1 b i f hi hb, r2 b i f hi hb]
  cases f with
  | true => exact ⟨_, i, true, rfl, rfl, hi, .inl rfl⟩
  | false =>
    cases hp : p (b.drop i) with
    | none =>
      rw [RS_none hp]
      exact ⟨_, i, true, rfl, rfl, hi, .inl rfl⟩
    | some r =>
      obtain ⟨q1, q2, u, q3⟩ := h.cn _ r.1 r.2 hp
      have hl := congrArg List.length q3
      rw [List.length_append, List.length_drop] at hl
      rw [RS_some hp]
      exact ⟨_, i + r.2, false, rfl, rfl, by omega, .inr ⟨q1, by omega⟩⟩
theorem flat_ge {α : Type} {e : α → List UInt8} (he : ∀ v, 0 < (e v).length) : ∀ l : List α, l.length ≤ (l.flatMap e).length
  | [] => by simp
  | x :: l => by
    have := flat_ge he l
    have := he x
    rw [List.flatMap_cons, List.length_append, List.length_cons]; omega
theorem eList_ge {α : Type} {e : α → List UInt8} (he : ∀ v, 0 < (e v).length) (l : List α) : l.length ≤ (eList e l).length := by
  have := flat_ge he l
  rw [eList, List.length_append]; omega
theorem eInt_pos (v : Int) : 0 < (eInt v).length := by rw [eInt_len]; omega
theorem eVec_pos (v : R59) : 0 < (eVec v).length := by rw [eVec, List.length_append, eInt_len]; omega
def W52 (y : R52) : Prop := (Lit.int .i64 y.Kind).wf = true ∧ (Lit.int .i64 y.Lo).wf = true ∧ (Lit.int .i64 y.Hi).wf = true ∧ True
theorem codRatio : Cod (fun v : R63 => eInt v.Num ++ eInt v.Den) (fun v => inR v.Num ∧ inR v.Den) pRatio := (codTwo codInt codInt).map (fun r => R63.mk r.1 r.2) (fun v => (v.Num, v.Den)) (fun _ => rfl) (fun _ => rfl)
theorem m21_val {n : Nat} (hn : 100002 < n) {b : List UInt8} {i : Nat} (f : Bool) {y : R52} (hy : W52 y) (hi : i ≤ b.length) (hb : b.length ≤ 100000) :
    ∃ i' f', m21 n b (i : Int) f b (i : Int) f y = some (true, b, ((i' : Nat) : Int), f', b, ((i' : Nat) : Int), f') ∧ i' ≤ b.length := by
  have hH := (wfI hy.2.2.1).2
  unfold m21
  by_cases k0 : y.Kind = 0
  · rw [if_pos (by simp [k0])]
    obtain ⟨v, i', f', e1, e2, e3, e4⟩ := same codInt (rInt (n := n) (by omega)) (fInt (n := n) (by omega)) f hi hb
    rw [e1, Option.bind_some, e2, Option.bind_some]
    exact ⟨i', f', by simp, e3⟩
  rw [if_neg (by simp [k0])]
  by_cases k1 : y.Kind = 1
  · rw [if_pos (by simp [k1])]
    obtain ⟨v, i', f', e1, e2, e3, e4⟩ := same (codBnd y.Lo y.Hi) (rBnd (n := n) (by omega) y.Lo y.Hi) (fBnd (n := n) (by omega) y.Lo y.Hi) f hi hb
    rw [e1, Option.bind_some, e2, Option.bind_some]
    exact ⟨i', f', by simp, e3⟩
  rw [if_neg (by simp [k1])]
  by_cases k2 : y.Kind = 2
  · rw [if_pos (by simp [k2])]
    obtain ⟨v, i', f', e1, e2, e3, e4⟩ := same codBool (rBool n) (fBool n) f hi hb
    rw [e1, Option.bind_some, e2, Option.bind_some]
    exact ⟨i', f', by simp, e3⟩
  rw [if_neg (by simp [k2])]
  by_cases k3 : y.Kind = 3
  · rw [if_pos (by simp [k3])]
    obtain ⟨v, i', f', e1, e2, e3, e4⟩ := same (codBytes y.Hi hH) (rText (n := n) (by omega) y.Hi) (fText (n := n) (by omega) y.Hi) f hi hb
    rw [e1, Option.bind_some, e2, Option.bind_some]
    exact ⟨i', f', by simp, e3⟩
  rw [if_neg (by simp [k3])]
  by_cases k4 : y.Kind = 4
  · rw [if_pos (by simp [k4])]
    obtain ⟨v, i', f', e1, e2, e3, e4⟩ := same (codBytes y.Hi hH) (rBytes (n := n) (by omega) y.Hi) (fBytes (n := n) (by omega) y.Hi) f hi hb
    rw [e1, Option.bind_some, e2, Option.bind_some, m11_eq, Option.bind_some]
    exact ⟨i', f', by simp, e3⟩
  rw [if_neg (by simp [k4])]
  by_cases k5 : y.Kind = 5
  · rw [if_pos (by simp [k5])]
    obtain ⟨v, i', f', e1, e2, e3, e4⟩ := same (codList codInt y.Hi hH) (rInts hn y.Hi) (fInts hn y.Hi) f hi hb
    have hl : v.length ≤ 100000 := by
      rcases e4 with rfl | ⟨_, e4⟩
      · simp
      · have := eList_ge eInt_pos v; omega
    rw [e1, Option.bind_some, e2, Option.bind_some, m38_val (by dsimp only; omega) (by dsimp only; omega), Option.bind_some]
    exact ⟨i', f', by simp, e3⟩
  rw [if_neg (by simp [k5])]
  by_cases k6 : y.Kind = 6
  · rw [if_pos (by simp [k6])]
    obtain ⟨v, i', f', e1, e2, e3, e4⟩ := same codVec (rVec (n := n) (by omega)) (fVec (n := n) (by omega)) f hi hb
    rw [e1, Option.bind_some, e2, Option.bind_some]
    exact ⟨i', f', by simp, e3⟩
  rw [if_neg (by simp [k6])]
  by_cases k7 : y.Kind = 7
  · rw [if_pos (by simp [k7])]
    obtain ⟨v, i', f', e1, e2, e3, e4⟩ := same (codRing y.Hi hH) (rRing hn y.Hi) (fRing hn y.Hi) f hi hb
    have hl : v.length ≤ 100000 := by
      rcases e4 with rfl | ⟨_, e4⟩
      · simp
      · have := eList_ge eVec_pos v; unfold eRing at e4; omega
    rw [e1, Option.bind_some, e2, Option.bind_some, m39_val (by dsimp only; omega) (by dsimp only; omega), Option.bind_some]
    exact ⟨i', f', by simp, e3⟩
  rw [if_neg (by simp [k7])]
  by_cases k8 : y.Kind = 8
  · rw [if_pos (by simp [k8])]
    obtain ⟨v, i', f', e1, e2, e3, e4⟩ := same codShape (rShape hn) (fShape hn) f hi hb
    have hs : small v := by
      rcases e4 with rfl | ⟨o, _⟩
      · exact ⟨by simp, by simp, fun r hr => by cases hr⟩
      · exact ⟨by have := o.1.1; omega, by have := o.2.1; omega, fun r hr => by have := (o.2.2 r hr).1; omega⟩
    obtain ⟨s1, s2, s3⟩ := hs
    rw [e1, Option.bind_some, e2, Option.bind_some, m15_val (by dsimp only; omega) (fun r hr => by have := s3 r hr; omega) (by dsimp only; omega), Option.bind_some]
    exact ⟨i', f', by simp, e3⟩
  rw [if_neg (by simp [k8])]
  obtain ⟨v, i', f', e1, e2, e3, e4⟩ := same codRatio (rRatio (n := n) (by omega)) (fRatio (n := n) (by omega)) f hi hb
  rw [e1, Option.bind_some, e2, Option.bind_some]
  exact ⟨i', f', by simp, e3⟩
theorem m5_l1 {n : Nat} {l : List UInt8} (hn : l.length < n) (hl : l.length ≤ 900) (k : Unit → Option Bool) : loopM (m5_L1 n k) n ((0 : Int), l) = k () := by
  refine loopM_ind (fun i x => ∃ (j : Nat) (t : List UInt8), j ≤ l.length ∧ i = l.length - j ∧ x = ((j : Int), t) ∧ t.length = l.length) (fun o => o = k ()) ?_ n l.length _ ⟨0, l, Nat.zero_le _, rfl, rfl, rfl⟩ hn
  rintro i x ⟨j, t, hj, rfl, rfl, ht⟩
  rcases Nat.lt_or_ge j l.length with h | h
  · have h' : j < t.length := by omega
    refine .inl ⟨l.length - (j + 1), (((j + 1 : Nat) : Int), t.set j (b8 (IntKind.wrap .u8 ((t[j].toNat : Int) + (1 : Int))))), by omega, ⟨j + 1, _, h, rfl, rfl, by rw [List.length_set]; exact ht⟩, fun nx => ?_⟩
    rw [m5_L1, if_pos (by simp; omega)]
    dsimp only
    rw [getIdx_at rfl h', Option.bind_some, Option.bind_some, setIdx_at rfl h', Option.bind_some, letM_eq, wrap64 (by omega) (by omega)]
    rfl
  · refine .inr ⟨_, rfl, fun nx => ?_⟩
    rw [m5_L1, if_neg (by simp; omega)]
theorem m5_l2 {n : Nat} {a1 : List R52} {b : List UInt8} (hn : 100002 < n) (hw : ∀ y, y ∈ a1 → W52 y) (hl : a1.length ≤ 20) (hb : b.length ≤ 100000) : loopM (m5_L2 n a1 fun _ => some true) n ((0 : Int), b, (0 : Int), false, b, (0 : Int), false) = some true := by
  refine loopM_ind (fun m x => ∃ (j i : Nat) (f : Bool), j ≤ a1.length ∧ m = a1.length - j ∧ x = ((j : Int), b, (i : Int), f, b, (i : Int), f) ∧ i ≤ b.length) (fun o => o = some true) ?_ n a1.length _ ⟨0, 0, false, Nat.zero_le _, rfl, rfl, Nat.zero_le _⟩ (by omega)
  rintro m x ⟨j, i, f, hj, rfl, rfl, hi⟩
  rcases Nat.lt_or_ge j a1.length with h | h
  · obtain ⟨i', f', e, h'⟩ := m21_val hn f (hw _ (List.getElem_mem h)) hi hb
    refine .inl ⟨a1.length - (j + 1), (((j + 1 : Nat) : Int), b, (i' : Int), f', b, (i' : Int), f'), by omega, ⟨j + 1, i', f', h, rfl, rfl, h'⟩, fun nx => ?_⟩
    rw [m5_L2, if_pos (by simp; omega)]
    dsimp only
    rw [getIdx_at rfl h, Option.bind_some, show m21 n b (i : Int) f b (i : Int) f (R52.mk a1[j].Kind a1[j].Lo a1[j].Hi) = _ from e, Option.bind_some]
    have q1 : m18 n b (i' : Int) f' = m24 n b (i' : Int) f' := by
      unfold m18 m24
      cases f'
      · by_cases hc : i' < b.length
        · rw [if_pos (by simp; omega), if_pos (by simp; omega)]
        · rw [if_neg (by simp; omega), if_neg (by simp; omega)]
      · rfl
    have q2 : ∃ c, m24 n b (i' : Int) f' = some c := by
      unfold m24
      split <;> exact ⟨_, rfl⟩
    obtain ⟨c, q2⟩ := q2
    have q3 : m22 n b (i' : Int) f' = some (IntKind.wrap .i64 ((b.length : Int) - (i' : Int))) := rfl
    have q4 : m23 n b (i' : Int) f' = some (IntKind.wrap .i64 ((b.length : Int) - (i' : Int))) := rfl
    simp only [Bool.not_true, Bool.not_false, gdO_true, q1, q2, q3, q4, Option.bind_some, Bool.false_or, decide_true, Bool.or_self, Bool.false_eq_true, if_false, letM_eq]
    rw [wrap64 (x := (j : Int) + 1) (by omega) (by omega)]
    rfl
  · refine .inr ⟨_, rfl, fun nx => ?_⟩
    rw [m5_L2, if_neg (by simp; omega)]
theorem m5_gen {n : Nat} {a0 : List UInt8} {a1 : List R52} (hn : 100002 < n) (hw : ∀ y, y ∈ a1 → W52 y) : m5 n a0 a1 = some true := by
  unfold m5 jn
  rw [m9_gen (by omega), Option.bind_some, if_neg (by simp)]
  by_cases hc : a0.length ≤ 900 ∧ a1.length ≤ 20
  · obtain ⟨h1, h2⟩ := hc
    rw [if_neg (by simp; omega), apd_val (by simp; omega), Option.bind_some, List.nil_append, m16_val (by omega), Option.bind_some]
    refine (m5_l1 (n := n) (by omega) h1 _).trans ?_
    exact m5_l2 (b := a0) hn hw h2 (by omega)
  · rw [if_pos (by simp; omega)]
theorem m5_all {a0 : List UInt8} {a1 : List R52} (hw : ∀ y, y ∈ a1 → W52 y) : m5 200000 a0 a1 = some true := m5_gen (by decide) hw
end Go.AB

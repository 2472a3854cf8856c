import Derived.Test.YtpcjbgfgimboiaaLj
namespace Go.AB
open Go

def ginv (e : R68) : R75 := R75.mk e.x.Key e.number
theorem gm_at {l : List R68} {i : Nat} (hi : i < l.length) : getIdx (l.map ginv) (i : Int) = some (ginv l[i]) := by
  rw [getIdx_at (k := i) rfl (by simpa using hi), List.getElem_map]
theorem m35_val {n : Nat} {l : List R68} {c k : Int} {i j : Nat} (hi : i < l.length) (hj : j < l.length) (k0 : 0 ≤ k) (k1 : k ≤ 1000000) :
    m35 n k (l.map ginv) c (i : Int) (j : Int) = some (decide (lt l[i] l[j]), k + 1) := by
  unfold m35
  rw [gm_at hi, Option.bind_some, gm_at hj, Option.bind_some]
  have e : ∀ a b : Int, m25 n a b k = some (decide (a < b), k + 1) := fun a b => by rw [m25, letM_eq, wrap64 (by omega) (by omega)]
  by_cases h : l[i].number < l[j].number
  · rw [if_pos (show decide ((ginv l[i]).number < (ginv l[j]).number) = true from decide_eq_true h), e, Option.bind_some]
    have q : (!decide (l[j].x.Key < l[i].x.Key)) = decide (lt l[i] l[j]) := by
      rw [Bool.eq_iff_iff]
      simp only [Bool.not_eq_true', decide_eq_false_iff_not, decide_eq_true_eq]
      unfold lt
      omega
    rw [← q]
    rfl
  · rw [if_neg (show ¬ decide ((ginv l[i]).number < (ginv l[j]).number) = true from fun hh => h (of_decide_eq_true hh)), e, Option.bind_some]
    have q : decide (l[i].x.Key < l[j].x.Key) = decide (lt l[i] l[j]) := by
      apply decide_eq_decide.2
      unfold lt
      omega
    rw [← q]
    rfl
theorem swap75 {R : Type} {l : List R68} {i p : Nat} (hi : i < l.length) (hp : p < l.length) (k : List R75 → Option R) :
    ((getIdx (l.map ginv) (p : Int)).bind fun y_26 => ((getIdx (l.map ginv) (i : Int)).bind fun y_27 => ((getIdx (l.map ginv) (i : Int)).bind fun y_28 => ((setIdx (l.map ginv) (i : Int) (R75.mk y_26.x y_26.number)).bind fun l2_29 => ((getIdx l2_29 (p : Int)).bind fun y_30 => ((setIdx l2_29 (p : Int) (R75.mk y_27.x y_27.number)).bind fun l2_31 => k l2_31)))))) = k ((sw l i p).map ginv) := by
  rw [gm_at hp, Option.bind_some, gm_at hi, Option.bind_some, Option.bind_some, setIdx_at (k := i) rfl (by simpa using hi), Option.bind_some, getIdx_at (k := p) rfl (by simpa using hp), Option.bind_some, setIdx_at (k := p) rfl (by simpa using hp), Option.bind_some]
  unfold sw
  rw [List.map_set, List.map_set, ← at_get hp, ← at_get hi]
theorem pow_small {d : Nat} (h : 2 ^ d ≤ 1000) : d ≤ 9 := by
  rcases Nat.lt_or_ge d 10 with h1 | h1
  · omega
  · have := Nat.pow_le_pow_right (n := 2) (by omega) h1
    omega
theorem m26_val {n : Nat} {l : List R68} {c k x : Int} (hh : hp l) (hn : l.length < n) (hl : l.length ≤ 999) (hc : 0 ≤ c ∧ c ≤ 100000) (hk : 0 ≤ k ∧ k ≤ 100000) :
    ∃ k' l', m26 n k (l.map ginv) c x = some (c + 1, k', l'.map ginv) ∧ l'.Perm (l ++ [R68.mk ⟨x, 0⟩ c]) ∧ hp l' ∧ k ≤ k' ∧ k' ≤ k + 10 := by
  unfold m26 jn
  rw [apd_val (by simp; omega), Option.bind_some, letM_eq, letM_eq, wrap64 (x := c + 1) (by omega) (by omega)]
  rw [show l.map ginv ++ [R75.mk x c] = (l ++ [R68.mk ⟨x, 0⟩ c]).map ginv from by simp [ginv]]
  rw [show IntKind.wrap .i64 ((((l ++ [R68.mk ⟨x, 0⟩ c]).map ginv).length : Int) - 1) = ((l.length : Nat) : Int) from by rw [List.length_map, List.length_append, List.length_singleton, wrap64 (by omega) (by omega)]; omega]
  refine loopM_ind (fun m s => ∃ (i d : Nat) (t : List R68), s = ((i : Int), k + (d : Int), t.map ginv) ∧ i = m ∧ i < t.length ∧ t.length ≤ 1000 ∧ 2 ^ d * (i + 1) ≤ 1000 ∧ up t i ∧ t.Perm (l ++ [R68.mk ⟨x, 0⟩ c])) (fun o => ∃ k' l', o = some (c + 1, k', l'.map ginv) ∧ l'.Perm (l ++ [R68.mk ⟨x, 0⟩ c]) ∧ hp l' ∧ k ≤ k' ∧ k' ≤ k + 10) ?_ n l.length _
    ⟨l.length, 0, _, by rw [show k + ((0 : Nat) : Int) = k from Int.add_zero k], rfl, by simp, by simp; omega, by simp; omega, up_new hh, List.Perm.refl _⟩ hn
  rintro m s ⟨i, d, t, rfl, rfl, hi, ht, hd, hu, hq⟩
  have d9 : d ≤ 9 := pow_small (Nat.le_trans (Nat.le_mul_of_pos_right _ (by omega)) hd)
  rcases Nat.eq_zero_or_pos i with h0 | h0
  · subst h0
    refine .inr ⟨_, ⟨k + (d : Int), t, rfl, hq, up_done hu (.inl rfl), by omega, by omega⟩, fun nx => ?_⟩
    rw [m26_L1, if_neg (by simp)]
  · have hpl : (i - 1) / 2 < t.length := by omega
    by_cases hlt : lt (at' t i) (at' t ((i - 1) / 2))
    · have hd' : 2 ^ (d + 1) * ((i - 1) / 2 + 1) ≤ 1000 := by
        refine Nat.le_trans ?_ hd
        rw [Nat.pow_succ, Nat.mul_assoc]
        exact Nat.mul_le_mul_left _ (by omega)
      refine .inl ⟨(i - 1) / 2, ((((i - 1) / 2 : Nat) : Int), k + ((d + 1 : Nat) : Int), (sw t i ((i - 1) / 2)).map ginv), by omega, ⟨(i - 1) / 2, d + 1, _, rfl, rfl, by rw [sw_len]; omega, by rw [sw_len]; exact ht, hd', up_step hi h0 hu hlt, (sw_perm hi hpl).trans hq⟩, fun nx => ?_⟩
      rw [m26_L1, if_pos (by simp; omega)]
      dsimp only
      rw [letM_eq, half h0 (by omega), m35_val hi hpl (by omega) (by omega), Option.bind_some, at_get hi, at_get hpl, decide_eq_true hlt, if_neg (by simp)]
      rw [show k + ((d + 1 : Nat) : Int) = k + (d : Int) + 1 from by omega]
      exact swap75 hi hpl fun l2 => nx (_, _, l2)
    · refine .inr ⟨_, ⟨k + (d : Int) + 1, t, rfl, hq, up_done hu (.inr hlt), by omega, by omega⟩, fun nx => ?_⟩
      rw [m26_L1, if_pos (by simp; omega)]
      dsimp only
      rw [letM_eq, half h0 (by omega), m35_val hi hpl (by omega) (by omega), Option.bind_some, at_get hi, at_get hpl, decide_eq_false hlt, if_pos (by simp)]
def cnt (l : List R68) (j : Nat) : Int := if j < l.length then 1 else 0
theorem pickC {R : Type} {n : Nat} {l : List R68} {c k : Int} {j b : Nat} (hb : b < l.length) (k0 : 0 ≤ k) (k1 : k ≤ 1000000) (F : Int → Int → Option R) :
    (jn (fun p : Bool × Int => (jn (fun q : Int => F q p.2) fun kk => (if p.1 = true then kk (j : Int) else kk (b : Int)))) fun kk => (if (decide ((j : Int) < (l.length : Int))) = true then ((m35 n k (l.map ginv) c (j : Int) (b : Int)).bind fun y => (kk (y.1, y.2))) else (kk (false, k)))) = F ((if j < l.length ∧ lt (at' l j) (at' l b) then j else b : Nat) : Int) (k + cnt l j) := by
  unfold jn cnt
  dsimp only
  by_cases hj : j < l.length
  · rw [if_pos (decide_eq_true (by omega)), m35_val hj hb k0 k1, Option.bind_some, at_get hj, at_get hb, if_pos hj]
    dsimp only
    by_cases hl : lt (at' l j) (at' l b)
    · rw [if_pos (decide_eq_true hl), if_pos ⟨hj, hl⟩]
    · rw [if_neg (by simpa using hl), if_neg (fun h => hl h.2)]
  · rw [if_neg (by simp; omega), if_neg (by simp), if_neg (fun h : j < l.length ∧ _ => hj h.1), if_neg hj, Int.add_zero]
theorem m27_L1_val {n : Nat} {l : List R68} {c k : Int} {y : R75} {i : Nat} (hi : i < l.length) (hl : l.length ≤ 100000) (k0 : 0 ≤ k) (k1 : k ≤ 100000) (nx : (Int × Int × (List R75)) → Option (Int × Bool × Int × Int × (List R75))) :
    m27_L1 n c y (l.length : Int) nx ((i : Int), k, l.map ginv) = if best l i = i then some (y.x, true, c, k + cnt l (2 * i + 1) + cnt l (2 * i + 2), l.map ginv) else nx (((best l i : Nat) : Int), k + cnt l (2 * i + 1) + cnt l (2 * i + 2), (sw l i (best l i)).map ginv) := by
  rw [m27_L1]
  dsimp only
  rw [letM_eq, wrap64 (x := 2 * (i : Int)) (by omega) (by omega), wrap64 (x := 2 * (i : Int) + 1) (by omega) (by omega), wrap64 (x := 2 * (i : Int) + 2) (by omega) (by omega), show 2 * (i : Int) + 1 = ((2 * i + 1 : Nat) : Int) from by omega, show 2 * (i : Int) + 2 = ((2 * i + 2 : Nat) : Int) from by omega]
  have hb1 : (if 2 * i + 1 < l.length ∧ lt (at' l (2 * i + 1)) (at' l i) then 2 * i + 1 else i) < l.length := by
    split
    · rename_i h; exact h.1
    · exact hi
  let F2 : Int → Int → Option (Int × Bool × Int × Int × (List R75)) := fun p_66 kk => (if (decide (p_66 = (i : Int))) = true then (some (y.x, true, c, kk, l.map ginv)) else ((getIdx (l.map ginv) p_66).bind fun y_68 => ((getIdx (l.map ginv) (i : Int)).bind fun y_69 => ((getIdx (l.map ginv) (i : Int)).bind fun y_70 => ((setIdx (l.map ginv) (i : Int) (R75.mk y_68.x y_68.number)).bind fun l3_71 => ((getIdx l3_71 p_66).bind fun y_72 => ((setIdx l3_71 p_66 (R75.mk y_69.x y_69.number)).bind fun l3_73 => (nx (p_66, kk, l3_73)))))))))
  let F1 : Int → Int → Option (Int × Bool × Int × Int × (List R75)) := fun p_59 k1 => (jn (fun p_64 : Bool × Int => (jn (fun p_66 : Int => F2 p_66 p_64.2) fun k_67 => (if p_64.1 = true then (k_67 ((2 * i + 2 : Nat) : Int)) else (k_67 p_59)))) fun k_65 => (if (decide (((2 * i + 2 : Nat) : Int) < (l.length : Int))) = true then ((m35 n k1 (l.map ginv) c ((2 * i + 2 : Nat) : Int) p_59).bind fun y_63 => (k_65 (y_63.1, y_63.2))) else (k_65 (false, k1))))
  have c1 : 0 ≤ cnt l (2 * i + 1) ∧ cnt l (2 * i + 1) ≤ 1 := by unfold cnt; split <;> omega
  refine (pickC (n := n) (c := c) (j := 2 * i + 1) hi k0 (by omega) F1).trans ?_
  refine (pickC (n := n) (c := c) (j := 2 * i + 2) hb1 (by omega) (by omega) F2).trans ?_
  show (if (decide (((best l i : Nat) : Int) = (i : Int))) = true then _ else _) = _
  have hbl := (best_ok hi).1
  by_cases hb : best l i = i
  · rw [if_pos (by simp [hb]), if_pos hb]
  · rw [if_neg (by simp; omega), if_neg hb]
    exact swap75 hi hbl fun l2 => nx (((best l i : Nat) : Int), _, l2)
theorem popC_loop {n : Nat} {z : R68} {mid : List R68} {c k : Int} {y : R75} (hd : down (z :: mid) 0) (hl : mid.length + 1 ≤ 1000) (hn : mid.length + 1 < n) (hk : 0 ≤ k ∧ k ≤ 90000) :
    ∃ k' t', loopM (m27_L1 n c y ((mid.length + 1 : Nat) : Int)) n ((0 : Int), k, (z :: mid).map ginv) = some (y.x, true, c, k', t'.map ginv) ∧ hp t' ∧ t'.Perm (z :: mid) ∧ k ≤ k' ∧ k' ≤ k + 20 := by
  refine loopM_ind (fun m s => ∃ (i d : Nat) (kk : Int) (l : List R68), s = ((i : Int), kk, l.map ginv) ∧ m = mid.length + 1 - i ∧ i < l.length ∧ l.length = mid.length + 1 ∧ k ≤ kk ∧ kk ≤ k + 2 * (d : Int) ∧ 2 ^ d ≤ i + 1 ∧ down l i ∧ l.Perm (z :: mid)) (fun o => ∃ k' t', o = some (y.x, true, c, k', t'.map ginv) ∧ hp t' ∧ t'.Perm (z :: mid) ∧ k ≤ k' ∧ k' ≤ k + 20) ?_ n (mid.length + 1) _
    ⟨0, 0, k, _, rfl, rfl, by simp, by simp, by omega, by omega, by omega, hd, List.Perm.refl _⟩ hn
  rintro m s ⟨i, d, kk, l, rfl, rfl, hi, hll, q0, q1, q2, hdn, hq⟩
  have d9 : d ≤ 9 := pow_small (by omega)
  have cb : ∀ j, 0 ≤ cnt l j ∧ cnt l j ≤ 1 := fun j => by unfold cnt; split <;> omega
  have cb1 := cb (2 * i + 1)
  have cb2 := cb (2 * i + 2)
  obtain ⟨b1, b2, b3⟩ := best_ok hi
  by_cases hb : best l i = i
  · rw [hb] at b3
    refine .inr ⟨_, ⟨kk + cnt l (2 * i + 1) + cnt l (2 * i + 2), l, rfl, down_done hdn b3, hq, by omega, by omega⟩, fun nx => ?_⟩
    rw [← hll, m27_L1_val hi (by omega) (by omega) (by omega), if_pos hb]
  · rcases b2 with b2 | ⟨p1, p2, p3⟩
    · exact absurd b2 hb
    · refine .inl ⟨mid.length + 1 - best l i, (((best l i : Nat) : Int), kk + cnt l (2 * i + 1) + cnt l (2 * i + 2), (sw l i (best l i)).map ginv), by omega, ⟨best l i, d + 1, _, _, rfl, rfl, by rw [sw_len]; exact b1, by rw [sw_len]; exact hll, by omega, by omega, by rw [Nat.pow_succ]; omega, down_step b1 ⟨p1, p2⟩ hdn p3 b3, (sw_perm hi b1).trans hq⟩, fun nx => ?_⟩
      rw [← hll, m27_L1_val hi (by omega) (by omega) (by omega), if_neg hb]
theorem m27_val {n : Nat} {t : List R68} {c k : Int} (hh : hp t) (hm : nums t) (h0 : 0 < t.length) (hl : t.length ≤ 1000) (hn : t.length < n) (hk : 0 ≤ k ∧ k ≤ 90000) :
    ∃ a k' t', m27 n k (t.map ginv) c = some (a.x.Key, true, c, k', t'.map ginv) ∧ hp t' ∧ (a :: t').Perm t ∧ nums t' ∧ (∀ b, b ∈ t → ¬ lt b a) ∧ k ≤ k' ∧ k' ≤ k + 20 := by
  have hmin : ∀ b, b ∈ t → ¬ lt b (at' t 0) := by
    intro b hb
    obtain ⟨j, hj, rfl⟩ := List.getElem_of_mem hb
    rw [at_get hj]
    exact root_min hh j hj
  have fin : ∀ {a : R68} {t' : List R68}, (a :: t').Perm t → nums t' := by
    intro a t' hq
    have hm' := nums_perm hq.symm hm
    unfold nums at hm'
    rw [List.map_cons, List.nodup_cons] at hm'
    exact hm'.2
  unfold m27
  rw [show m28 n k (t.map ginv) c = some ((t.map ginv).length : Int) from rfl, Option.bind_some, List.length_map, if_neg (by simp; intro h; subst h; simp at h0)]
  match t, h0 with
  | [a], _ =>
    refine ⟨a, k, [], ?_, fun j _ h => absurd h (by simp), List.Perm.refl _, by simp [nums], hmin, by omega, by omega⟩
    obtain ⟨n, rfl⟩ : ∃ n', n = n' + 1 := ⟨n - 1, by omega⟩
    rfl
  | a :: x :: r, _ =>
    obtain ⟨mid, z, hz⟩ : ∃ mid z, x :: r = mid ++ [z] := ⟨(x :: r).dropLast, (x :: r).getLast (by simp), (List.dropLast_concat_getLast _).symm⟩
    rw [hz] at hh hl hn hmin fin ⊢
    have e1 : (a :: (mid ++ [z])).length = mid.length + 2 := by simp
    rw [e1] at hl hn ⊢
    have hd : down (z :: mid) 0 := by
      refine ⟨fun j j0 j1 jp => ?_, fun h => absurd h (by omega)⟩
      rw [List.length_cons] at j1
      have := hh j j0 (by rw [e1]; omega)
      rw [at_cons (b := z) j0 (by omega), at_cons (b := z) (by omega) (by omega)] at this
      exact this
    obtain ⟨k', t', q1, q2, q3, q4, q5⟩ := popC_loop (n := n) (c := c) (y := ginv a) hd (by omega) (by omega) hk
    have hq : (a :: t').Perm (a :: (mid ++ [z])) := List.Perm.cons _ (q3.trans (List.perm_append_singleton z mid).symm)
    refine ⟨a, k', t', ?_, q2, hq, fin hq, hmin, q4, q5⟩
    have e2 : (a :: (mid ++ [z])).map ginv = ginv a :: (mid.map ginv ++ [ginv z]) := by simp
    rw [e2]
    rw [show getIdx (ginv a :: (mid.map ginv ++ [ginv z])) 0 = some (ginv a) from rfl, Option.bind_some, letM_eq, wrap64 (by omega) (by omega), show ((mid.length + 2 : Nat) : Int) - 1 = ((mid.length + 1 : Nat) : Int) from by omega]
    rw [getIdx_q (k := mid.length + 1) (y := ginv z) rfl (by simp), Option.bind_some, Option.bind_some, setIdx_at (i := 0) (k := 0) rfl (by simp), Option.bind_some, List.set_cons_zero]
    rw [getIdx_q (k := mid.length + 1) (y := ginv z) rfl (by simp), Option.bind_some, setIdx_at (k := mid.length + 1) rfl (by simp), Option.bind_some]
    rw [slc_val (l := 0) (i := 0) (j := mid.length + 1) rfl rfl (by omega) (by simp), Option.bind_some]
    rw [show (((R75.mk (ginv z).x (ginv z).number :: (mid.map ginv ++ [ginv z])).set (mid.length + 1) (R75.mk 0 0)).drop 0).take (mid.length + 1 - 0) = (z :: mid).map ginv from by simp [ginv]]
    exact q1
theorem m7_gen {n : Nat} {a0 : List Int} (h10 : m10 n = some true) (hn : 200001 < n) (hk : ∀ y, y ∈ a0 → 0 ≤ y) : m7 n a0 = some true := by
  unfold m7 jn
  rw [h10, Option.bind_some, if_neg (by simp)]
  by_cases h : a0.length ≤ 1000
  · rw [if_neg (by simp; omega), show m24 n 0 = some (R73.mk [] 0) from rfl, Option.bind_some]
    dsimp only
    let L : List R27 := a0.map fun y => R27.mk y 0
    have hL : L.length = a0.length := by simp [L]
    refine loopM_ind (fun m x => ∃ (j : Nat) (k : Int) (t : List R68), j ≤ a0.length ∧ x = ((j : Int), k, (j : Int), t.map ginv) ∧ m = a0.length - j ∧ t.Perm (ent (L.take j) 0) ∧ hp t ∧ 0 ≤ k ∧ k ≤ 10 * (j : Int)) (fun o => o = some true) ?_ n a0.length _
      ⟨0, 0, [], Nat.zero_le _, rfl, rfl, List.Perm.refl _, fun j _ h => absurd h (by simp), by omega, by omega⟩ (by omega)
    rintro m x ⟨j, k, t, hj, rfl, rfl, hq, hh, k0, k1⟩
    have htl : t.length = j := by rw [hq.length_eq, ent_len, List.length_take]; omega
    rcases Nat.lt_or_ge j a0.length with h1 | h1
    · obtain ⟨k', t', e, q1, q2, q3, q4⟩ := m26_val (n := n) (x := a0[j]) (c := (j : Int)) (k := k) hh (by omega) (by omega) (by omega) (by omega)
      refine .inl ⟨a0.length - (j + 1), (((j + 1 : Nat) : Int), k', ((j + 1 : Nat) : Int), t'.map ginv), by omega, ⟨j + 1, k', t', h1, rfl, rfl, ?_, q2, by omega, by omega⟩, fun nx => ?_⟩
      · rw [ent_take L 0 j (by omega), Int.zero_add]
        have : L[j]'(by omega) = R27.mk a0[j] 0 := by simp [L]
        rw [this]
        exact q1.trans (hq.append_right _)
      · rw [m7_L1, if_pos (by simp; omega), getIdx_at rfl h1, Option.bind_some, e, Option.bind_some, letM_eq, wrap64 (by omega) (by omega)]
        rfl
    · have : j = a0.length := by omega
      subst this
      refine .inr ⟨_, ?_, fun nx => by rw [m7_L1, if_neg (by simp)]⟩
      rw [← hL, List.take_length] at hq
      have ht0 : ∀ b, b ∈ t → (0 : Int) ≤ b.x.Key := by
        have key : ∀ (l : List R27) (c : Int), (∀ y, y ∈ l → 0 ≤ y.Key) → ∀ b, b ∈ ent l c → 0 ≤ b.x.Key := by
          intro l
          induction l with
          | nil => intro c _ b hb; simp [ent] at hb
          | cons y l ih =>
            intro c hy b hb
            rw [ent] at hb
            rcases List.mem_cons.1 hb with rfl | hb
            · exact hy y (by simp)
            · exact ih _ (fun z hz => hy z (by simp [hz])) b hb
        intro b hb
        refine key L 0 ?_ b (hq.subset hb)
        intro y hy
        simp only [L, List.mem_map] at hy
        obtain ⟨z, hz, rfl⟩ := hy
        exact hk z hz
      refine loopM_ind (fun m x => ∃ (j : Nat) (la kk : Int) (u : List R68), j ≤ a0.length ∧ x = (la, (j : Int), kk, (a0.length : Int), u.map ginv) ∧ m = a0.length - j ∧ hp u ∧ nums u ∧ u.length = a0.length - j ∧ (∀ b, b ∈ u → la ≤ b.x.Key) ∧ 0 ≤ kk ∧ kk ≤ 10 * (a0.length : Int) + 20 * (j : Int)) (fun o => o = some true) ?_ n a0.length _
        ⟨0, 0, k, t, Nat.zero_le _, rfl, rfl, hh, nums_perm hq.symm (nums_ent _ 0).1, by omega, ht0, k0, by omega⟩ (by omega)
      rintro m x ⟨j, la, kk, u, hj', rfl, rfl, hu, nu, ul, hla, kk0, kk1⟩
      rcases Nat.lt_or_ge j a0.length with h2 | h2
      · obtain ⟨a, k', u', e, q1, q2, q3, q4, q5, q6⟩ := m27_val (n := n) (c := (a0.length : Int)) (k := kk) hu nu (by omega) (by omega) (by omega) (by omega)
        have hl2 := q2.length_eq
        rw [List.length_cons] at hl2
        refine .inl ⟨a0.length - (j + 1), (a.x.Key, ((j + 1 : Nat) : Int), k', (a0.length : Int), u'.map ginv), by omega, ⟨j + 1, _, k', u', h2, rfl, rfl, q1, q3, by omega, fun b hb => ?_, by omega, by omega⟩, fun nx => ?_⟩
        · have := q4 b (q2.subset (by simp [hb]))
          unfold lt at this
          omega
        · have ha := hla a (q2.subset (by simp))
          rw [m7_L2, if_pos (by simp; omega)]
          dsimp only
          rw [e, Option.bind_some]
          dsimp only
          rw [if_neg (by simp; omega), letM_eq, wrap64 (by omega) (by omega)]
          rfl
      · have : j = a0.length := by omega
        subst this
        have : u = [] := List.eq_nil_of_length_eq_zero (by omega)
        subst this
        refine .inr ⟨_, ?_, fun nx => by rw [m7_L2, if_neg (by simp)]⟩
        dsimp only
        rw [wrap64 (x := 40 * (a0.length : Int)) (by omega) (by omega), wrap64 (x := 40 * (a0.length : Int) + 40) (by omega) (by omega), decide_eq_true (by omega), gdO_true]
        rfl
  · rw [if_pos (by simp; omega)]
theorem m7_true (a0 : List Int) (h : ∀ y, y ∈ a0 → 0 ≤ y) : m7 300000 a0 = some true := m7_gen m10_big (by decide) h
theorem u16_nonneg {y : Int} (h : (Lit.int .u16 y).wf = true) : 0 ≤ y := by
  simp [Lit.wf, IntKind.min, IntKind.max, IntKind.signed, IntKind.bits] at h
  omega
end Go.AB

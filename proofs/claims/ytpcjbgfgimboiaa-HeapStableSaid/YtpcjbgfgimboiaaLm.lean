import Derived.Test.YtpcjbgfgimboiaaLj
namespace Go.AB
open Go

/-- the entries that are pushed for keys -/
def kE (a0 : List UInt8) (i : Nat) : R68 := R68.mk (R27.mk ((a0.getD i 0).toNat : Int) (i : Int)) (i : Int)
def kI (a0 : List UInt8) : List R27 := (List.range a0.length).map fun i => (kE a0 i).x
theorem mem_ent : ∀ (l : List R27) (c : Int) (e : R68), e ∈ ent l c → ∃ i, ∃ h : i < l.length, e = R68.mk l[i] (c + (i : Int))
  | [], _, _, h => by simp [ent] at h
  | x :: l, c, e, h => by
    rw [ent] at h
    rcases List.mem_cons.1 h with rfl | h
    · exact ⟨0, by simp, by simp⟩
    · obtain ⟨i, hi, rfl⟩ := mem_ent l (c + 1) e h
      exact ⟨i + 1, by simpa using hi, by simp; omega⟩
theorem mem_kent {a0 : List UInt8} {e : R68} (h : e ∈ ent (kI a0) 0) : ∃ i, i < a0.length ∧ e = kE a0 i := by
  obtain ⟨i, hi, rfl⟩ := mem_ent _ _ _ h
  refine ⟨i, by simpa [kI] using hi, ?_⟩
  simp [kI, kE]
theorem m4_l2 {n : Nat} {a0 : List UInt8} {s : List R68} {c : Int} {t' : List R68} (hn : a0.length < n) (hl : a0.length ≤ 300) (hp : s.Perm (ent (kI a0) 0)) (hs : s.Pairwise lt) (K : Unit → Option Bool) (hK : K () = some true) :
    loopM (m4_L2 n a0 (s.map (·.x), c, t') K) n ((0 : Int), List.replicate a0.length false) = some true := by
  have sl : s.length = a0.length := by rw [hp.length_eq, ent_len]; simp [kI]
  have hnum : nums s := nums_perm hp.symm (nums_ent _ 0).1
  have hE : ∀ q (h : q < s.length), ∃ i, i < a0.length ∧ s[q] = kE a0 i := fun q h => mem_kent (hp.subset (List.getElem_mem h))
  refine loopM_ind (fun m x => ∃ (j : Nat) (seen : List Bool), j ≤ s.length ∧ x = ((j : Int), seen) ∧ m = s.length - j ∧ seen.length = a0.length ∧ ∀ i : Nat, seen[i]? = some true → ∃ q, ∃ h : q < s.length, q < j ∧ s[q].x.Tag = (i : Int)) (fun o => o = some true) ?_ n s.length _
    ⟨0, _, Nat.zero_le _, rfl, rfl, by simp, fun i h => by
      rw [List.getElem?_replicate] at h
      split at h <;> simp at h⟩ (by omega)
  rintro m x ⟨j, seen, hj, rfl, rfl, hsl, hseen⟩
  rcases Nat.lt_or_ge j s.length with h1 | h1
  · obtain ⟨i, hi, ei⟩ := hE j h1
    have hfresh : seen[i]? = some false := by
      have h2 : i < seen.length := by omega
      rw [List.getElem?_eq_getElem h2]
      cases hv : seen[i] with
      | false => rfl
      | true =>
        obtain ⟨q, hq, hqj, ht⟩ := hseen i (by rw [List.getElem?_eq_getElem h2, hv])
        obtain ⟨i', hi', ei'⟩ := hE q hq
        rw [ei'] at ht
        have : i' = i := by simp only [kE] at ht; omega
        subst this
        have hnd := hnum
        unfold nums at hnd
        have := List.pairwise_iff_getElem.1 hnd q j (by simpa using hq) (by simpa using h1) hqj
        rw [List.getElem_map, List.getElem_map, ei, ei'] at this
        exact absurd rfl this
    have a0i : a0[i]? = some (a0.getD i 0) := by simp [hi]
    have hxl : (s.map (·.x)).length = s.length := by simp
    refine .inl ⟨s.length - (j + 1), (((j + 1 : Nat) : Int), seen.set i true), by omega, ⟨j + 1, _, h1, rfl, rfl, by simpa using hsl, fun i' h => ?_⟩, fun nx => ?_⟩
    · rw [List.getElem?_set] at h
      by_cases e : i = i'
      · subst e
        exact ⟨j, h1, by omega, by rw [ei]; rfl⟩
      · rw [if_neg e] at h
        obtain ⟨q, hq, hqj, ht⟩ := hseen i' h
        exact ⟨q, hq, by omega, ht⟩
    · rw [m4_L2, if_pos (by simp; omega)]
      dsimp only
      rw [getIdx_q (k := j) (y := (kE a0 i).x) rfl (by rw [List.getElem?_map, List.getElem?_eq_getElem h1, ei]; rfl), Option.bind_some]
      have et : (kE a0 i).x.Tag = (i : Int) := rfl
      have ek : (kE a0 i).x.Key = ((a0.getD i 0).toNat : Int) := rfl
      rw [et, ek]
      rw [decide_eq_false (show ¬ ((i : Int) < 0) from by omega), decide_eq_false (show ¬ ((a0.length : Int) ≤ (i : Int)) from by omega)]
      rw [show (!(false || false)) = true from rfl, gdO_true, getIdx_q rfl hfresh, Option.bind_some]
      rw [show (!((false || false) || false)) = true from rfl, gdO_true, getIdx_q rfl a0i, Option.bind_some]
      have hb : (a0.getD i 0).toNat < 256 := UInt8.toNat_lt _
      rw [wrap64 (x := ((a0.getD i 0).toNat : Int)) (by omega) (by omega), decide_eq_true rfl, if_neg (by simp), Option.bind_some, setIdx_at rfl (by omega), Option.bind_some]
      rcases Nat.eq_zero_or_pos j with h0 | h0
      · subst h0
        rw [decide_eq_false (show ¬ ((0 : Int) < ((0 : Nat) : Int)) from by omega), gdO_false, Option.bind_some]
        rw [show ∀ b : Bool, (false && b) = false from fun _ => rfl, gdO_false, Option.bind_some]
        rw [show ∀ b : Bool, (false && b) = false from fun _ => rfl, gdO_false, Option.bind_some]
        rw [show ∀ b : Bool, (false && b) = false from fun _ => rfl, if_neg (by simp), letM_eq, wrap64 (by omega) (by omega)]
        rfl
      · have hj1 : j - 1 < s.length := by omega
        obtain ⟨p, hpl, ep⟩ := hE (j - 1) hj1
        have hlt := List.pairwise_iff_getElem.1 hs (j - 1) j hj1 h1 (by omega)
        rw [ei, ep] at hlt
        have gp : getIdx (s.map (·.x)) ((j : Int) - 1) = some (kE a0 p).x := getIdx_q (k := j - 1) (by omega) (by rw [List.getElem?_map, List.getElem?_eq_getElem hj1, ep]; rfl)
        have ept : (kE a0 p).x.Tag = (p : Int) := rfl
        have epk : (kE a0 p).x.Key = ((a0.getD p 0).toNat : Int) := rfl
        unfold lt at hlt
        rw [epk, ek] at hlt
        have hlt' : ((a0.getD p 0).toNat : Int) < ((a0.getD i 0).toNat : Int) ∨ ((a0.getD p 0).toNat : Int) = ((a0.getD i 0).toNat : Int) ∧ (p : Int) < (i : Int) := hlt
        rw [decide_eq_true (show (0 : Int) < (j : Int) from by omega), gdO_true, wrap64 (x := (j : Int) - 1) (by omega) (by omega), gp, Option.bind_some, epk]
        rw [decide_eq_false (show ¬ (((a0.getD i 0).toNat : Int) < ((a0.getD p 0).toNat : Int)) from by omega)]
        rw [show (true && !false) = true from rfl, gdO_true, Option.bind_some, epk, Bool.true_and]
        by_cases hk : ((a0.getD p 0).toNat : Int) = ((a0.getD i 0).toNat : Int)
        · rw [decide_eq_true hk, gdO_true, Option.bind_some, ept, decide_eq_false (show ¬ ((i : Int) < (p : Int)) from by omega), if_neg (by simp), letM_eq, wrap64 (by omega) (by omega)]
          rfl
        · rw [decide_eq_false hk, gdO_false, Option.bind_some, if_neg (by simp), letM_eq, wrap64 (by omega) (by omega)]
          rfl
  · refine .inr ⟨_, hK, fun nx => ?_⟩
    rw [m4_L2, if_neg (by simp; omega)]
theorem m4_gen {n : Nat} {a0 : List UInt8} (h10 : m10 n = some true) (hn : 200001 < n) : m4 n a0 = some true := by
  unfold m4 jn
  rw [h10, Option.bind_some, if_neg (by simp)]
  by_cases h : a0.length ≤ 300
  · rw [if_neg (by simp; omega), show m18 n = some (R66.mk [] 0) from rfl, Option.bind_some]
    dsimp only
    have kl : (kI a0).length = a0.length := by simp [kI]
    refine loopM_ind (fun m x => ∃ (j : Nat) (t : List R68), j ≤ a0.length ∧ x = ((j : Int), (j : Int), t) ∧ m = a0.length - j ∧ t.Perm (ent ((kI a0).take j) 0) ∧ hp t) (fun o => o = some true) ?_ n a0.length _
      ⟨0, [], Nat.zero_le _, rfl, rfl, List.Perm.refl _, fun j _ h => absurd h (by simp)⟩ (by omega)
    rintro m x ⟨j, t, hj, rfl, rfl, hq, hh⟩
    have htl : t.length = j := by rw [hq.length_eq, ent_len, List.length_take]; omega
    rcases Nat.lt_or_ge j a0.length with h1 | h1
    · obtain ⟨t', e, q1, q2⟩ := m19_val (n := n) (x := (kE a0 j).x) (c := (j : Int)) hh (by omega) (by omega) (by omega)
      refine .inl ⟨a0.length - (j + 1), (((j + 1 : Nat) : Int), ((j + 1 : Nat) : Int), t'), by omega, ⟨j + 1, t', h1, rfl, rfl, ?_, q2⟩, fun nx => ?_⟩
      · rw [ent_take _ 0 j (by omega), Int.zero_add]
        have : (kI a0)[j]'(by omega) = (kE a0 j).x := by simp [kI]
        rw [this]
        exact q1.trans (hq.append_right _)
      · have hb : a0[j].toNat < 256 := UInt8.toNat_lt _
        have e2 : R27.mk (a0[j].toNat : Int) (j : Int) = (kE a0 j).x := by simp [kE, h1]
        rw [m4_L1, if_pos (by simp; omega)]
        dsimp only
        rw [getIdx_at rfl h1, Option.bind_some, wrap64 (x := (a0[j].toNat : Int)) (by omega) (by omega), e2, e, Option.bind_some, letM_eq, wrap64 (by omega) (by omega)]
        rfl
    · have : j = a0.length := by omega
      subst this
      rw [← kl, List.take_length] at hq
      refine .inr ⟨_, ?_, fun nx => by rw [m4_L1, if_neg (by simp)]⟩
      dsimp only
      obtain ⟨s, t', e, p1, p2⟩ := m17_val (n := n) (c := (a0.length : Int)) hh (nums_perm hq.symm (nums_ent _ 0).1) (by omega) (by omega)
      have sl : s.length = a0.length := by rw [p1.length_eq, htl]
      rw [e, Option.bind_some, mk_val rfl rfl (by omega), Option.bind_some]
      exact m4_l2 (by omega) h (p1.trans hq) p2 _ (by simp [sl])
  · rw [if_pos (by simp; omega)]
theorem m4_true (a0 : List UInt8) : m4 300000 a0 = some true := m4_gen m10_big (by decide)
end Go.AB

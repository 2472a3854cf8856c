import Derived.Test.YtpcjbgfgimboiaaLh
namespace Go.AB
open Go

/-- a loop that pops a number of times -/
def popL (n : Nat) (k : Int) (K : (Int × (List R68)) → Option Bool) (nx : (Int × Int × (List R68)) → Option Bool) (x : (Int × Int × (List R68))) : Option Bool :=
  (if (decide (x.1 < k)) = true then ((m21 n x.2.2 x.2.1).bind fun y => (letM ((IntKind.wrap .i64 (x.1 + (1 : Int)))) fun t => (nx (t, y.2.2.1, y.2.2.2)))) else (K (x.2.1, x.2.2)))
theorem pop_sorted {n : Nat} {c : Int} {u S : List R68} (hu : hp u) (hn : nums u) (hp' : u.Perm S) (hS : S.Pairwise lt) (hl : u.length ≤ 100000) (hf : u.length < n) :
    ∃ y, m21 n u c = some y ∧ y.2.2.1 = c ∧ hp y.2.2.2 ∧ nums y.2.2.2 ∧ y.2.2.2.Perm (S.drop 1) := by
  rcases Nat.eq_zero_or_pos u.length with h0 | h0
  · have : u = [] := List.eq_nil_of_length_eq_zero h0
    subst this
    have hs : S = [] := List.nil_perm.1 hp'
    subst hs
    exact ⟨_, rfl, rfl, hu, hn, List.Perm.refl _⟩
  · obtain ⟨a, u', e, w1, w2, w3, w4, w5⟩ := pops (n := n) (c := c) u hu hn h0 hl hf
    refine ⟨_, e, rfl, w1, w3, ?_⟩
    match S, hp', hS with
    | [], hp', _ => have := hp'.length_eq; rw [List.length_nil] at this; omega
    | b :: S, hp', hS =>
      have hq : (a :: u').Perm (b :: S) := w2.trans hp'
      rw [List.pairwise_cons] at hS
      have : a = b := by
        rcases List.mem_cons.1 (hq.subset (List.mem_cons_self ..)) with e | h1
        · exact e
        · rcases List.mem_cons.1 (hq.symm.subset (List.mem_cons_self ..)) with e | h2
          · exact e.symm
          · exact absurd (hS.1 _ h1) (w4 _ h2).asymm
      subst this
      exact List.Perm.cons_inv hq
theorem popL_val {n k : Nat} {c : Int} {t S : List R68} (ht : hp t) (hn : nums t) (hq : t.Perm S) (hS : S.Pairwise lt) (hl : t.length ≤ 100000) (hf : t.length < n) (hk : k < n) (hk2 : k ≤ 1000) (K : (Int × (List R68)) → Option Bool) :
    ∃ u, loopM (popL n (k : Int) K) n ((0 : Int), c, t) = K (c, u) ∧ hp u ∧ nums u ∧ u.Perm (S.drop k) := by
  refine loopM_ind (fun m x => ∃ (j : Nat) (u : List R68), j ≤ k ∧ x = ((j : Int), c, u) ∧ m = k - j ∧ hp u ∧ nums u ∧ u.Perm (S.drop j)) (fun o => ∃ u, o = K (c, u) ∧ hp u ∧ nums u ∧ u.Perm (S.drop k)) ?_ n k _ ⟨0, t, Nat.zero_le _, rfl, rfl, ht, hn, by simpa using hq⟩ hk
  rintro m x ⟨j, u, hj, rfl, rfl, hu, hnu, hq'⟩
  have hul : u.length ≤ t.length := by rw [hq'.length_eq, List.length_drop, hq.length_eq]; omega
  rcases Nat.lt_or_ge j k with h1 | h1
  · obtain ⟨y, e, y1, y2, y3, y4⟩ := pop_sorted (n := n) (c := c) hu hnu hq' (hS.sublist (List.drop_sublist j S)) (by omega) (by omega)
    rw [List.drop_drop] at y4
    refine .inl ⟨k - (j + 1), (((j + 1 : Nat) : Int), c, y.2.2.2), by omega, ⟨j + 1, _, h1, rfl, rfl, y2, y3, y4⟩, fun nx => ?_⟩
    rw [popL, if_pos (by simp; omega)]
    dsimp only
    rw [e, Option.bind_some, letM_eq, wrap64 (by omega) (by omega), y1]
    rfl
  · have : j = k := by omega
    subst this
    refine .inr ⟨_, ⟨u, rfl, hu, hnu, hq'⟩, fun nx => ?_⟩
    rw [popL, if_neg (by simp)]
theorem drain_sorted {n : Nat} {c : Int} {u S : List R68} (hu : hp u) (hn : nums u) (hq : u.Perm S) (hS : S.Pairwise lt) (hl : u.length ≤ 100000) (hf : u.length < n) : ∃ t', m17 n u c = some (S.map (·.x), c, t') := by
  obtain ⟨s, t', e, p, o⟩ := m17_val (n := n) (c := c) hu hn hl hf
  have : s = S := sorted_eq (p.trans hq) o hS
  subst this
  exact ⟨t', e⟩
end Go.AB

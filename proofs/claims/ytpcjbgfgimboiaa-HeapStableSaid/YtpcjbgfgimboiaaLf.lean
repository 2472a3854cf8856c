import Derived.Test.YtpcjbgfgimboiaaLe
namespace Go.AB
open Go

theorem sorted_eq : ∀ {l l' : List R68}, l.Perm l' → l.Pairwise lt → l'.Pairwise lt → l = l'
  | [], l', h, _, _ => by rw [List.nil_perm.1 h]
  | a :: l, [], h, _, _ => by simpa using h.length_eq
  | a :: l, b :: l', h, p, q => by
    rw [List.pairwise_cons] at p q
    have e : a = b := by
      have h1 : a ∈ b :: l' := h.subset (by simp)
      have h2 : b ∈ a :: l := h.symm.subset (by simp)
      rcases List.mem_cons.1 h1 with e | h1
      · exact e
      · rcases List.mem_cons.1 h2 with e | h2
        · exact e.symm
        · exact absurd (q.1 _ h1) (p.1 _ h2).asymm
    subst e
    rw [sorted_eq (List.Perm.cons_inv h) p.2 q.2]
def nums (l : List R68) : Prop := (l.map (·.number)).Nodup
theorem nums_perm {l l' : List R68} (h : l.Perm l') (hn : nums l) : nums l' := (h.map _).nodup_iff.1 hn
theorem lt_of {a b : R68} (hn : a.number ≠ b.number) (h : ¬ lt b a) : lt a b := by unfold lt at *; omega
/-- all is popped in order -/
theorem pops {n : Nat} {c : Int} (t : List R68) (hh : hp t) (hn : nums t) (h0 : 0 < t.length) (hl : t.length ≤ 100000) (hf : t.length < n) :
    ∃ a t', m21 n t c = some (a.x, true, c, t') ∧ hp t' ∧ (a :: t').Perm t ∧ nums t' ∧ (∀ b, b ∈ t' → lt a b) ∧ t'.length + 1 = t.length := by
  obtain ⟨a, t', e, q1, q2, q3⟩ := m21_val (n := n) (c := c) hh h0 hl hf
  have hn' := nums_perm q2.symm hn
  unfold nums at hn'
  rw [List.map_cons, List.nodup_cons] at hn'
  refine ⟨a, t', e, q1, q2, hn'.2, fun b hb => ?_, by have := q2.length_eq; simpa using this⟩
  refine lt_of (fun e => hn'.1 (List.mem_map.2 ⟨b, hb, e.symm⟩)) (q3 b (q2.subset (by simp [hb])))
theorem m17_val {n : Nat} {c : Int} {t : List R68} (hh : hp t) (hn : nums t) (hl : t.length ≤ 100000) (hf : t.length < n) :
    ∃ (s t' : List R68), m17 n t c = some (s.map (·.x), c, t') ∧ s.Perm t ∧ s.Pairwise lt := by
  unfold m17 jn
  rw [show m16 n t c = some (t.length : Int) from rfl, Option.bind_some]
  refine loopM_ind (fun m x => ∃ (u s : List R68), x = ((u.length : Int), c, u, s.map (·.x)) ∧ m = u.length ∧ hp u ∧ nums u ∧ (s ++ u).Perm t ∧ s.Pairwise lt ∧ ∀ a, a ∈ s → ∀ b, b ∈ u → lt a b) (fun o => ∃ (s t' : List R68), o = some (s.map (·.x), c, t') ∧ s.Perm t ∧ s.Pairwise lt) ?_ n t.length _
    ⟨t, [], rfl, rfl, hh, hn, List.Perm.refl _, List.Pairwise.nil, fun a h => absurd h (by simp)⟩ hf
  rintro m x ⟨u, s, rfl, rfl, hu, hnu, hq, hs, hsu⟩
  have hul : u.length ≤ t.length := by have := hq.length_eq; rw [List.length_append] at this; omega
  have hsl : s.length ≤ t.length := by have := hq.length_eq; rw [List.length_append] at this; omega
  rcases Nat.eq_zero_or_pos u.length with h0 | h0
  · have : u = [] := List.eq_nil_of_length_eq_zero h0
    subst this
    rw [List.append_nil] at hq
    refine .inr ⟨_, ⟨s, [], rfl, hq, hs⟩, fun nx => ?_⟩
    rw [m17_L1, if_neg (by simp)]
  · obtain ⟨a, u', e, w1, w2, w3, w4, w5⟩ := pops (n := n) (c := c) u hu hnu h0 (by omega) (by omega)
    refine .inl ⟨u'.length, ((u'.length : Int), c, u', (s ++ [a]).map (·.x)), by omega, ⟨u', s ++ [a], rfl, rfl, w1, w3, ?_, ?_, ?_⟩, fun nx => ?_⟩
    · rw [List.append_assoc]
      exact (List.Perm.append_left s w2).trans hq
    · rw [List.pairwise_append]
      exact ⟨hs, by simp, fun x hx y hy => by rw [List.mem_singleton.1 hy]; exact hsu x hx a (w2.subset (by simp))⟩
    · intro x hx b hb
      rcases List.mem_append.1 hx with hx | hx
      · exact hsu x hx b (w2.subset (by simp [hb]))
      · rw [List.mem_singleton.1 hx]; exact w4 b hb
    · rw [m17_L1, if_pos (by simp; omega)]
      dsimp only
      rw [e, Option.bind_some]
      dsimp only
      rw [if_neg (by simp), apd_val (by simp; omega), Option.bind_some, letM_eq, wrap64 (by omega) (by omega), show ((u.length : Int) - 1) = (u'.length : Int) from by omega, List.map_append]
      rfl
end Go.AB

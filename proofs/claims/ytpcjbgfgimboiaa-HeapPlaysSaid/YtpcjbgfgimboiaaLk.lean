import Derived.Test.YtpcjbgfgimboiaaLj
namespace Go.AB
open Go

theorem pop_cons {n : Nat} {c : Int} {u S : List R68} {s : R68} (hu : hp u) (hn : nums u) (hp' : u.Perm (s :: S)) (hS : (s :: S).Pairwise lt) (hl : u.length ≤ 100000) (hf : u.length < n) :
    ∃ t', m21 n u c = some (s.x, true, c, t') ∧ hp t' ∧ nums t' ∧ t'.Perm S := by
  have h0 : 0 < u.length := by rw [hp'.length_eq]; simp
  obtain ⟨a, u', e, w1, w2, w3, w4, w5⟩ := pops (n := n) (c := c) u hu hn h0 hl hf
  have hq : (a :: u').Perm (s :: S) := w2.trans hp'
  rw [List.pairwise_cons] at hS
  have : a = s := by
    rcases List.mem_cons.1 (hq.subset (List.mem_cons_self ..)) with e | h1
    · exact e
    · rcases List.mem_cons.1 (hq.symm.subset (List.mem_cons_self ..)) with e | h2
      · exact e.symm
      · exact absurd (hS.1 _ h1) (w4 _ h2).asymm
  subst this
  exact ⟨u', e, w1, w3, List.Perm.cons_inv hq⟩
theorem peek_cons {n : Nat} {c : Int} {u S : List R68} {s : R68} (hu : hp u) (hp' : u.Perm (s :: S)) (hS : (s :: S).Pairwise lt) : m29 n u c = some (s.x, true) := by
  have h0 : 0 < u.length := by rw [hp'.length_eq]; simp
  have hs : s ∈ u := hp'.symm.subset (List.mem_cons_self ..)
  obtain ⟨j, hj, ej⟩ := List.getElem_of_mem hs
  have h1 := root_min hu j hj
  rw [← at_get hj, ej] at h1
  have h2 : u[0] ∈ s :: S := hp'.subset (List.getElem_mem h0)
  have e : u[0] = s := by
    rcases List.mem_cons.1 h2 with e | h2
    · exact e
    · rw [← at_get h0] at h1
      exact absurd ((List.pairwise_cons.1 hS).1 _ h2) h1
  unfold m29
  rw [show m16 n u c = some (u.length : Int) from rfl, Option.bind_some, if_neg (by simp; intro h; subst h; simp at h0), show getIdx u 0 = some u[0] from getIdx_at (k := 0) rfl h0, Option.bind_some, e]
def inv (w : List R27) (c : Int) (t : List R68) (j : Nat) : Prop := ∃ S : List R68, w = S.map (·.x) ∧ hp t ∧ nums t ∧ t.Perm S ∧ S.Pairwise lt ∧ t.length ≤ j ∧ 0 ≤ c ∧ c ≤ (j : Int) ∧ ∀ e, e ∈ t → e.number < c
theorem inv_push {c : Int} {t l' : List R68} {j : Nat} {x : R27} {S : List R68} (nt : nums t) (hq : t.Perm S) (hS : S.Pairwise lt) (hl : t.length ≤ j) (c0 : 0 ≤ c) (c1 : c ≤ (j : Int)) (hb : ∀ e, e ∈ t → e.number < c)
    (hl' : hp l') (hp' : l'.Perm (t ++ [R68.mk x c])) : inv (insR (S.map (·.x)) x) (c + 1) l' (j + 1) := by
  have ne : nums (t ++ [R68.mk x c]) := by
    unfold nums at nt ⊢
    rw [List.map_append, List.nodup_append]
    refine ⟨nt, by simp, ?_⟩
    intro a ha b hb'
    obtain ⟨e, he, rfl⟩ := List.mem_map.1 ha
    simp at hb'
    subst hb'
    have := hb e he
    omega
  refine ⟨insE S (R68.mk x c), (ins_map S (R68.mk x c)).symm, hl', nums_perm hp'.symm ne, hp'.trans ((hq.append_right _).trans (insE_perm _ _).symm), insE_sorted _ _ hS fun y hy => hb y (hq.symm.subset hy), ?_, by omega, by omega, fun e he => ?_⟩
  · rw [hp'.length_eq]; simp; omega
  · rcases List.mem_append.1 (hp'.subset he) with h | h
    · have := hb e h; omega
    · rw [List.mem_singleton.1 h]; dsimp only; omega
theorem m8_gen {n : Nat} {a0 : List R59} (h10 : m10 n = some true) (hn : 200001 < n) : m8 n a0 = some true := by
  unfold m8 jn
  rw [h10, Option.bind_some, if_neg (by simp)]
  by_cases h : a0.length ≤ 200
  · rw [if_neg (by simp; omega), show m18 n = some (R66.mk [] 0) from rfl, Option.bind_some]
    refine loopM_ind (fun m x => ∃ (j : Nat) (w : List R27) (c : Int) (t : List R68), j ≤ a0.length ∧ x = (w, (j : Int), c, t) ∧ m = a0.length - j ∧ inv w c t j) (fun o => o = some true) ?_ n a0.length _
      ⟨0, [], 0, [], Nat.zero_le _, rfl, rfl, [], rfl, fun j _ h => absurd h (by simp), List.nodup_nil, List.Perm.refl _, List.Pairwise.nil, by simp, by omega, by omega, by simp⟩ (by omega)
    rintro m x ⟨j, w, c, t, hj, rfl, rfl, S, rfl, ht, nt, hq, hS, hl, c0, c1, hb⟩
    have hle := hq.length_eq
    rcases Nat.lt_or_ge j a0.length with h1 | h1
    · have tail : ∀ (w' : List R27) (c' : Int) (t' : List R68), t'.length = w'.length → ∀ nx : ((List R27) × Int × Int × (List R68)) → Option Bool, ((m16 n t' c').bind fun y_69 => (if (!decide (y_69 = (w'.length : Int))) = true then (some false) else (letM ((IntKind.wrap .i64 ((j : Int) + (1 : Int)))) fun t19_70 => (nx (w', t19_70, c', t'))))) = nx (w', ((j + 1 : Nat) : Int), c', t') := by
        intro w' c' t' hw nx
        rw [show m16 n t' c' = some (t'.length : Int) from rfl, Option.bind_some, if_neg (by simp; omega), letM_eq, wrap64 (by omega) (by omega)]
        rfl
      by_cases k3 : a0[j].Kind.tmod (6 : Int) = 3
      · match S, hq, hS, hle with
        | [], hq, hS, hle =>
          have : t = [] := List.perm_nil.1 hq
          subst this
          refine .inl ⟨a0.length - (j + 1), ([], ((j + 1 : Nat) : Int), c, []), by omega, ⟨j + 1, _, _, _, h1, rfl, rfl, [], rfl, ht, nt, hq, hS, by simp, by omega, by omega, hb⟩, fun nx => ?_⟩
          rw [m8_L1, if_pos (by simp; omega), getIdx_at rfl h1, Option.bind_some]
          unfold jn
          dsimp only
          rw [if_pos (decide_eq_true k3), show m21 n [] c = some (R27.mk 0 0, false, c, []) from rfl, Option.bind_some]
          exact tail [] c [] rfl nx
        | s :: S, hq, hS, hle =>
          obtain ⟨t', e, q1, q2, q3⟩ := pop_cons (n := n) (c := c) ht nt hq hS (by omega) (by omega)
          have hl3 := q3.length_eq
          rw [List.length_cons] at hle
          refine .inl ⟨a0.length - (j + 1), (S.map (·.x), ((j + 1 : Nat) : Int), c, t'), by omega, ⟨j + 1, _, _, _, h1, rfl, rfl, S, rfl, q1, q2, q3, (List.pairwise_cons.1 hS).2, by omega, by omega, by omega, fun e he => hb e (hq.symm.subset (List.mem_cons_of_mem _ (q3.subset he)))⟩, fun nx => ?_⟩
          rw [m8_L1, if_pos (by simp; omega), getIdx_at rfl h1, Option.bind_some]
          unfold jn
          dsimp only
          rw [if_pos (decide_eq_true k3), e, Option.bind_some, List.map_cons]
          rw [show decide ((0 : Int) < ((s.x :: S.map (·.x)).length : Int)) = true from by simp]
          dsimp only
          rw [show (!(true != true) && true) = true from rfl, gdO_true, show getIdx (s.x :: S.map (·.x)) 0 = some s.x from rfl, Option.bind_some, letM_eq]
          rw [if_neg (by simp), if_pos rfl, slc_val (l := 1) (i := 1) (j := (s.x :: S.map (·.x)).length) rfl rfl (by simp) (Nat.le_refl _), Option.bind_some]
          rw [show ((s.x :: S.map (·.x)).drop 1).take ((s.x :: S.map (·.x)).length - 1) = S.map (·.x) from List.take_of_length_le (by simp)]
          exact tail _ c t' (by simp; omega) nx
      · by_cases k4 : a0[j].Kind.tmod (6 : Int) = 4
        · refine .inl ⟨a0.length - (j + 1), (S.map (·.x), ((j + 1 : Nat) : Int), c, t), by omega, ⟨j + 1, _, _, _, h1, rfl, rfl, S, rfl, ht, nt, hq, hS, by omega, by omega, by omega, hb⟩, fun nx => ?_⟩
          rw [m8_L1, if_pos (by simp; omega), getIdx_at rfl h1, Option.bind_some]
          unfold jn
          dsimp only
          rw [if_neg (by simpa using k3), if_pos (decide_eq_true k4)]
          match S, hq, hS, hle with
          | [], hq, hS, hle =>
            have : t = [] := List.perm_nil.1 hq
            subst this
            rw [show m29 n [] c = some (R27.mk 0 0, false) from rfl, Option.bind_some]
            exact tail [] c [] rfl nx
          | s :: S, hq, hS, hle =>
            rw [peek_cons (n := n) (c := c) ht hq hS, Option.bind_some, List.map_cons]
            rw [show decide ((0 : Int) < ((s.x :: S.map (·.x)).length : Int)) = true from by simp]
            dsimp only
            rw [show (!(true != true) && true) = true from rfl, gdO_true, show getIdx (s.x :: S.map (·.x)) 0 = some s.x from rfl, Option.bind_some, letM_eq]
            rw [if_neg (by simp)]
            exact tail _ c t (by simp at hle ⊢; omega) nx
        · by_cases k5 : a0[j].Kind.tmod (6 : Int) = 5
          · refine .inl ⟨a0.length - (j + 1), (S.map (·.x), ((j + 1 : Nat) : Int), c, t), by omega, ⟨j + 1, _, _, _, h1, rfl, rfl, S, rfl, ht, nt, hq, hS, by omega, by omega, by omega, hb⟩, fun nx => ?_⟩
            rw [m8_L1, if_pos (by simp; omega), getIdx_at rfl h1, Option.bind_some]
            unfold jn
            dsimp only
            rw [if_neg (by simpa using k3), if_neg (by simpa using k4), if_pos (decide_eq_true k5), m23_val (by omega), Option.bind_some]
            exact tail _ c t (by simp; omega) nx
          · obtain ⟨l', e, q1, q2⟩ := m19_val (n := n) (x := a0[j].Item) (c := c) ht (by omega) (by omega) (by omega)
            have hl' := q1.length_eq
            rw [List.length_append, List.length_singleton] at hl'
            refine .inl ⟨a0.length - (j + 1), (insR (S.map (·.x)) a0[j].Item, ((j + 1 : Nat) : Int), c + 1, l'), by omega, ⟨j + 1, _, _, _, h1, rfl, rfl, inv_push nt hq hS hl c0 c1 hb q2 q1⟩, fun nx => ?_⟩
            rw [m8_L1, if_pos (by simp; omega), getIdx_at rfl h1, Option.bind_some]
            unfold jn
            dsimp only
            rw [if_neg (by simpa using k3), if_neg (by simpa using k4), if_neg (by simpa using k5), show m19 n t c (R27.mk a0[j].Item.Key a0[j].Item.Tag) = _ from e, Option.bind_some, m22_val (by simp; omega) (by simp; omega), Option.bind_some]
            exact tail _ (c + 1) l' (by rw [← ins_map (e := R68.mk a0[j].Item 0), List.length_map, (insE_perm _ _).length_eq]; simp; omega) nx
    · have : j = a0.length := by omega
      subst this
      refine .inr ⟨_, rfl, fun nx => ?_⟩
      rw [m8_L1, if_neg (by simp)]
      dsimp only
      obtain ⟨t', e⟩ := drain_sorted (n := n) (c := c) ht nt hq hS (by omega) (by omega)
      rw [e, Option.bind_some]
      dsimp only
      rw [m14_self (by simp; omega) (by simp; omega), Option.bind_some]
  · rw [if_pos (by simp; omega)]
theorem m8_true (a0 : List R59) : m8 300000 a0 = some true := m8_gen m10_big (by decide)
end Go.AB

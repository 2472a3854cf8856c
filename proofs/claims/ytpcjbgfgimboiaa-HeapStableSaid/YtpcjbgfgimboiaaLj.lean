import Derived.Test.YtpcjbgfgimboiaaLi
namespace Go.AB
open Go

theorem ent_snoc : ∀ (l : List R27) (c : Int) (x : R27), ent (l ++ [x]) c = ent l c ++ [R68.mk x (c + (l.length : Int))]
  | [], c, x => by simp [ent]
  | y :: l, c, x => by
    rw [List.cons_append, ent, ent_snoc l (c + 1) x, ent, List.cons_append, List.length_cons]
    congr 4
    omega
theorem m6_l1 {n : Nat} {a0 a1 : List R27} {t : List R68} (h0 : a0.length ≤ 100) (h1 : a1.length ≤ 100) (hn : 100000 < n) (ht : hp t) (hq : t.Perm (ent a0 0)) (K : (Int × (List R68)) → Option Bool) :
    ∃ u, loopM (m6_L1 n a1 K) n ((0 : Int), (a0.length : Int), t) = K (((a0.length + a1.length : Nat) : Int), u) ∧ hp u ∧ u.Perm (ent (a0 ++ a1) 0) := by
  refine loopM_ind (fun m x => ∃ (j : Nat) (u : List R68), j ≤ a1.length ∧ x = ((j : Int), ((a0.length + j : Nat) : Int), u) ∧ m = a1.length - j ∧ hp u ∧ u.Perm (ent (a0 ++ a1.take j) 0)) (fun o => ∃ u, o = K (((a0.length + a1.length : Nat) : Int), u) ∧ hp u ∧ u.Perm (ent (a0 ++ a1) 0)) ?_ n a1.length _
    ⟨0, t, Nat.zero_le _, rfl, rfl, ht, by simpa using hq⟩ (by omega)
  rintro m x ⟨j, u, hj, rfl, rfl, hu, hq'⟩
  have hul : u.length = a0.length + j := by rw [hq'.length_eq, ent_len, List.length_append, List.length_take]; omega
  rcases Nat.lt_or_ge j a1.length with hlt | hge
  · obtain ⟨u', e, p1, p2⟩ := m19_val (n := n) (x := a1[j]) (c := ((a0.length + j : Nat) : Int)) hu (by omega) (by omega) (by omega)
    refine .inl ⟨a1.length - (j + 1), (((j + 1 : Nat) : Int), ((a0.length + (j + 1) : Nat) : Int), u'), by omega, ⟨j + 1, u', hlt, rfl, rfl, p2, ?_⟩, fun nx => ?_⟩
    · rw [List.take_succ_eq_append_getElem hlt, ← List.append_assoc, ent_snoc, List.length_append, List.length_take, Nat.min_eq_left hj, Int.zero_add]
      exact p1.trans (hq'.append_right _)
    · rw [m6_L1, if_pos (by simp; omega)]
      dsimp only
      rw [getIdx_at rfl hlt, Option.bind_some, show m19 n u ((a0.length + j : Nat) : Int) (R27.mk a1[j].Key a1[j].Tag) = _ from e, Option.bind_some, letM_eq, wrap64 (by omega) (by omega)]
      rfl
  · have : j = a1.length := by omega
    subst this
    rw [List.take_length] at hq'
    refine .inr ⟨_, ⟨u, rfl, hu, hq'⟩, fun nx => ?_⟩
    rw [m6_L1, if_neg (by simp)]
theorem m23_val {n : Nat} {t : List R68} {c : Int} (hl : t.length ≤ 100000) : m23 n t c = some (R66.mk t c) := by
  unfold m23 m34
  rw [apd_val (by simp; omega)]
  rfl
theorem slc_min {S : List R68} {k len : Nat} (h : S.length = len) : slc (S.map (·.x)) (if ((len : Nat) : Int) < (k : Int) then ((len : Nat) : Int) else (k : Int)) ((S.map (·.x)).length : Int) = some ((S.drop k).map (·.x)) := by
  have hm : (S.map (·.x)).length = len := by rw [List.length_map, h]
  by_cases hc : len < k
  · have a1 : (S.map (·.x)).drop len = [] := List.drop_eq_nil_of_le (by omega)
    have a2 : S.drop k = [] := List.drop_eq_nil_of_le (by omega)
    rw [if_pos (by omega), slc_val (i := len) (j := (S.map (·.x)).length) rfl rfl (by omega) (Nat.le_refl _), a1, a2]
    simp
  · rw [if_neg (by omega), slc_val (i := k) (j := (S.map (·.x)).length) rfl rfl (by omega) (Nat.le_refl _), List.map_drop, List.take_of_length_le (by rw [List.length_drop]; omega)]
theorem m6_gen {n A : Nat} {a0 a1 : List R27} (h10 : m10 n = some true) (hn : 200001 < n) (hA : A < 256) : m6 n a0 a1 (A : Int) = some true := by
  unfold m6 jn
  rw [h10, Option.bind_some, if_neg (by simp)]
  by_cases h : a0.length ≤ 100 ∧ a1.length ≤ 100
  · obtain ⟨h0, h1⟩ := h
    rw [if_neg (by simp; omega)]
    obtain ⟨s0, e1, p1, o1⟩ := m11_val (n := n) (l := a0) (by omega) (by omega)
    obtain ⟨s1, e2, p2, o2⟩ := m11_val (n := n) (l := a0 ++ a1) (by simp; omega) (by omega)
    obtain ⟨t, e3, p3, ht⟩ := m12_val (n := n) (l := a0) (by omega) (by omega)
    have l0 : s0.length = a0.length := by rw [p1.length_eq, ent_len]
    have l1 : s1.length = a0.length + a1.length := by rw [p2.length_eq, ent_len, List.length_append]
    have htl : t.length = a0.length := by rw [p3.length_eq, ent_len]
    have nt : nums t := nums_perm p3.symm (nums_ent a0 0).1
    rw [e3, Option.bind_some, m23_val (t := t) (by omega), Option.bind_some]
    dsimp only
    have hk : (IntKind.wrap .i64 (A : Int)).tmod (50 : Int) = ((A % 50 : Nat) : Int) := by
      rw [wrap64 (by omega) (by omega), show (50 : Int) = ((50 : Nat) : Int) from rfl, tmod_nat]
    simp only [letM_eq, hk]
    obtain ⟨t', f1, ht', p4⟩ := m6_l1 (n := n) (a0 := a0) (a1 := a1) h0 h1 (by omega) ht p3 _
    refine f1.trans ?_
    have nt' : nums t' := nums_perm p4.symm (nums_ent _ 0).1
    have htl' : t'.length = a0.length + a1.length := by rw [p4.length_eq, ent_len, List.length_append]
    dsimp only
    obtain ⟨u, f2, hu, nu, p5⟩ := popL_val (n := n) (k := A % 50) (c := (a0.length : Int)) ht nt (p3.trans p1.symm) o1 (by omega) (by omega) (by omega) (by omega) _
    rw [show ∀ k K, m6_L2 n k K = popL n k K from fun _ _ => rfl]
    refine f2.trans ?_
    dsimp only
    rw [m23_val (t := t') (by omega), Option.bind_some]
    obtain ⟨u', f3, hu', nu', p6⟩ := popL_val (n := n) (k := A % 50) (c := ((a0.length + a1.length : Nat) : Int)) ht' nt' (p4.trans p2.symm) o2 (by omega) (by omega) (by omega) (by omega) _
    rw [show ∀ k K, m6_L3 n k K = popL n k K from fun _ _ => rfl]
    refine f3.trans ?_
    dsimp only
    have ul : u.length ≤ 100 := by rw [p5.length_eq, List.length_drop]; omega
    have ul' : u'.length ≤ 200 := by rw [p6.length_eq, List.length_drop]; omega
    obtain ⟨v1, g1⟩ := drain_sorted (n := n) (c := (a0.length : Int)) hu nu p5 (o1.sublist (List.drop_sublist _ _)) (by omega) (by omega)
    obtain ⟨v2, g2⟩ := drain_sorted (n := n) (c := ((a0.length + a1.length : Nat) : Int)) ht' nt' (p4.trans p2.symm) o2 (by omega) (by omega)
    obtain ⟨v3, g3⟩ := drain_sorted (n := n) (c := ((a0.length + a1.length : Nat) : Int)) hu' nu' p6 (o2.sublist (List.drop_sublist _ _)) (by omega) (by omega)
    rw [apd_val (by simp; omega), Option.bind_some, List.nil_append, apd_val (by omega), Option.bind_some, e2, Option.bind_some, g1, Option.bind_some, e1, Option.bind_some, slc_min l0, Option.bind_some]
    dsimp only
    rw [m14_self (by simp; omega) (by simp; omega), Option.bind_some, if_pos rfl, g2, Option.bind_some]
    dsimp only
    rw [m14_self (by simp; omega) (by simp; omega), Option.bind_some, if_pos rfl, g3, Option.bind_some]
    have e9 : ((s1.map (·.x)).length : Int) = ((a0.length + a1.length : Nat) : Int) := by simp [l1]
    have sl := slc_min (S := s1) (k := A % 50) l1
    rw [e9] at sl ⊢
    rw [sl, Option.bind_some]
    dsimp only
    rw [m14_self (by simp; omega) (by simp; omega)]
    rfl
  · rw [if_pos (by simp; omega)]
theorem m6_true (a0 a1 : List R27) (a2 : Int) (h2 : (Lit.int .u8 a2).wf = true) : m6 300000 a0 a1 a2 = some true := by
  have hu : 0 ≤ a2 ∧ a2 < 256 := by
    simp [Lit.wf, IntKind.min, IntKind.max, IntKind.signed, IntKind.bits] at h2
    omega
  obtain ⟨A, rfl⟩ : ∃ A : Nat, a2 = (A : Int) := ⟨a2.toNat, by omega⟩
  exact m6_gen m10_big (by decide) (by omega)
end Go.AB

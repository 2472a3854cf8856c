import Derived.Test.YtpdllokejgpnoaaLo
set_option linter.unusedVariables false
namespace Go.AB
open Go

theorem split_covers {x : R27} {m : Int} {r : List R27} (h0 : 0 ≤ m) (h1 : m ≤ x.Most) : covers (x :: r) ({ x with Most := m } :: { x with Most := x.Most - m } :: r) := by
  intro D y hD hf
  cases y with
  | nil => simp [fd] at hf
  | cons n s =>
    obtain ⟨f1, f2, f3⟩ := hf
    have h2 := Int.mul_nonneg hD h0
    have e : D * (x.Most - m) = D * x.Most - D * m := Int.mul_sub _ _ _
    by_cases h : n ≤ D * m
    · refine ⟨n :: 0 :: s, ⟨f1, h, Int.le_refl _, by simp only; have := Int.mul_nonneg hD (show 0 ≤ x.Most - m by omega); exact this, f3⟩, ?_, ?_⟩
      · simp only [vi]; omega
      · simp only [si]; omega
    · refine ⟨D * m :: (n - D * m) :: s, ⟨h2, Int.le_refl _, by omega, by simp only; omega, f3⟩, ?_, ?_⟩
      · simp only [vi]; grind
      · simp only [si]; grind
theorem join_covers {x : R27} {m : Int} {r : List R27} : covers ({ x with Most := m } :: { x with Most := x.Most - m } :: r) (x :: r) := by
  intro D y hD hf
  match y, hf with
  | [], hf => simp [fd] at hf
  | [n], hf => simp [fd] at hf
  | n :: n' :: s, hf =>
    obtain ⟨f1, f2, f3, f4, f5⟩ := hf
    simp only at f2 f4
    have e : D * (x.Most - m) = D * x.Most - D * m := Int.mul_sub _ _ _
    refine ⟨(n + n') :: s, ⟨by omega, by omega, f5⟩, ?_, ?_⟩
    · simp only [vi]; grind
    · simp only [si]; grind
theorem low_grd {l l' : List R27} {cap : Nat} (hl : okL l) (hl' : okL l') (h : covers l l') (h' : covers l' l) :
    low (grd (srt l) cap).1.toNat (grd (srt l) cap).2.toNat = low (grd (srt l') cap).1.toNat (grd (srt l') cap).2.toNat := by
  have e := grd_eq (C := (cap : Int)) (okL_srt hl) (okL_srt hl') (srt_srtd hl) (srt_srtd hl') (by omega)
    ((covers_perm (srt_perm l)).trans (h.trans (covers_perm (srt_perm l').symm))) ((covers_perm (srt_perm l')).trans (h'.trans (covers_perm (srt_perm l).symm)))
  obtain ⟨a1, a2⟩ := grd_nn (C := (cap : Int)) (okL_srt hl) (by omega)
  obtain ⟨b1, b2⟩ := grd_nn (C := (cap : Int)) (okL_srt hl') (by omega)
  have a3 : 0 < (grd (srt l) (cap : Int)).2 := grd_pos (okL_srt hl)
  have b3 : 0 < (grd (srt l') (cap : Int)).2 := grd_pos (okL_srt hl')
  generalize grd (srt l) (cap : Int) = g at *
  generalize grd (srt l') (cap : Int) = g' at *
  obtain ⟨a, d⟩ := g
  obtain ⟨a', d'⟩ := g'
  simp only at *
  refine low_eq ?_ (by omega) (by omega)
  obtain ⟨a, rfl⟩ : ∃ m : Nat, a = (m : Int) := ⟨a.toNat, by omega⟩
  obtain ⟨d, rfl⟩ : ∃ m : Nat, d = (m : Int) := ⟨d.toNat, by omega⟩
  obtain ⟨a', rfl⟩ : ∃ m : Nat, a' = (m : Int) := ⟨a'.toNat, by omega⟩
  obtain ⟨d', rfl⟩ : ∃ m : Nat, d' = (m : Int) := ⟨d'.toNat, by omega⟩
  simp only [Int.toNat_natCast]
  exact_mod_cast e

theorem m9_true (l : List R27) (c : Int) (u : List UInt8) (hu : u.length = 2) : m9 5000 l c u = some true := by
  unfold m9
  rw [m11_true]
  simp only [Option.bind_some, Bool.not_true, Bool.not_false, Bool.false_or, gdO_true, m12_val]
  cases hf : fewB l c with
  | false => simp [gdO]
  | true =>
    obtain ⟨h30, hfew⟩ := fewB_ok hf
    have h13 := m13_val (n := 5000) (l := l) (c := c) (by omega) (by omega)
    simp only [Bool.not_true, Bool.not_false, gdO_true, h13, Option.bind_some, Bool.false_or]
    cases hv : vldB l c with
    | false => simp
    | true =>
      obtain ⟨hl, _, cap, rfl, hcap⟩ := vldB_ok hv
      obtain ⟨h8, h200⟩ := hfew hv
      simp only [Bool.not_true, Bool.false_or]
      by_cases h0 : l.length = 0 ∨ 7 < l.length
      · refine if_pos ?_
        rcases h0 with h | h
        · rw [decide_eq_true (show (l.length : Int) = 0 by omega)]; rfl
        · rw [decide_eq_true (show (7 : Int) < (l.length : Int) by omega)]; simp
      · rw [decide_eq_false (show ¬ (l.length : Int) = 0 by omega), decide_eq_false (show ¬ (7 : Int) < (l.length : Int) by omega), if_neg (by simp), asrt_pos hu, getIdx_at (i := 0) (k := 0) rfl (by omega)]
        simp only [Option.bind_some]
        rw [asrt_pos (by omega)]
        simp only [letM_eq]
        have hb := u[0].toNat_lt
        rw [wrap64 (x := (u[0].toNat : Int)) (by omega) (by omega), tmod_nat]
        have hk : u[0].toNat % l.length < l.length := Nat.mod_lt _ (by omega)
        generalize u[0].toNat % l.length = k at *
        obtain ⟨a, x, b, rfl, rfl⟩ : ∃ a x b, l = a ++ x :: b ∧ a.length = k := ⟨l.take k, l[k], l.drop (k + 1), by simp, by simp; omega⟩
        have hx : okI x := hl x (by simp)
        have ⟨s1, s2, v1, v2, w1, w2⟩ := hx
        simp only [List.length_append, List.length_cons] at h0 h30 h8
        rw [slc_val (i := a.length) (j := (a ++ x :: b).length) rfl rfl (by simp) (Nat.le_refl _)]
        simp only [Option.bind_some]
        rw [show ((a ++ x :: b).drop a.length).take ((a ++ x :: b).length - a.length) = x :: b by simp, apd_val (by simp; omega)]
        simp only [Option.bind_some]
        rw [slc_val (l := 0) (i := 0) (j := a.length) rfl rfl (by simp) (by simp)]
        simp only [Option.bind_some]
        rw [show ((a ++ x :: b).drop 0).take (a.length - 0) = a by simp, apd_val (by simp; omega)]
        simp only [Option.bind_some]
        rw [apd_val (by simp; omega)]
        simp only [Option.bind_some]
        rw [asrt_pos hu, getIdx_at (i := 1) (k := 1) rfl (by omega)]
        simp only [Option.bind_some]
        rw [get_mid rfl]
        simp only [Option.bind_some]
        have hb1 := u[1].toNat_lt
        rw [wrap64 (x := x.Most + 1) (by omega) (by omega), asrt_pos (by omega), wrap64 (x := (u[1].toNat : Int)) (by omega) (by omega)]
        obtain ⟨m, hm0, hm1, hm⟩ : ∃ m : Int, 0 ≤ m ∧ m ≤ x.Most ∧ (u[1].toNat : Int).tmod (x.Most + 1) = m := by
          refine ⟨_, ?_, ?_, rfl⟩
          · exact Int.tmod_nonneg _ (by omega)
          · have := Int.tmod_lt_of_pos (u[1].toNat : Int) (show 0 < x.Most + 1 by omega); omega
        rw [hm]
        simp only [List.nil_append]
        rw [get_mid rfl]
        simp only [Option.bind_some]
        rw [put_mid rfl]
        simp only [Option.bind_some]
        rw [wrap64 (x := x.Most - m) (by omega) (by omega), apd_val (by simp; omega)]
        simp only [Option.bind_some]
        have ho : okL (x :: b ++ a) := fun z hz => hl z (by simp at hz ⊢; rcases hz with h | h | h <;> simp [h])
        have hp : okL (a ++ { x with Most := m } :: b ++ [R27.mk x.Size x.Value (x.Most - m)]) := by
          intro z hz
          simp at hz
          rcases hz with h | h | h | h
          · exact hl z (by simp [h])
          · subst h; exact ⟨s1, s2, v1, v2, hm0, by simp only; omega⟩
          · exact hl z (by simp [h])
          · subst h; exact ⟨s1, s2, v1, v2, by simp only; omega, by simp only; omega⟩
        have c1 : covers (a ++ x :: b) (x :: b ++ a) := covers_perm (by
          refine List.perm_append_comm.trans ?_
          exact .refl _)
        have c2 : covers (x :: b ++ a) (a ++ x :: b) := covers_perm List.perm_append_comm
        have pp : (a ++ { x with Most := m } :: b ++ [R27.mk x.Size x.Value (x.Most - m)]).Perm ({ x with Most := m } :: { x with Most := x.Most - m } :: (a ++ b)) := by
          refine List.perm_append_comm.trans ?_
          simp only [List.singleton_append]
          exact ((List.perm_middle (l₁ := a) (l₂ := b) (a := { x with Most := m })).cons _).trans (.swap _ _ _)
        have pl : (a ++ x :: b).Perm (x :: (a ++ b)) := List.perm_middle
        have c3 : covers (a ++ x :: b) (a ++ { x with Most := m } :: b ++ [R27.mk x.Size x.Value (x.Most - m)]) := (covers_perm pl).trans ((split_covers hm0 hm1).trans (covers_perm pp.symm))
        have c4 : covers (a ++ { x with Most := m } :: b ++ [R27.mk x.Size x.Value (x.Most - m)]) (a ++ x :: b) := (covers_perm pp).trans (join_covers.trans (covers_perm pl.symm))
        have t1 : T (a ++ x :: b) cap = T (x :: b ++ a) cap := Int.le_antisymm (T_covers hl ho c1) (T_covers ho hl c2)
        have t2 : T (a ++ x :: b) cap = T (a ++ { x with Most := m } :: b ++ [R27.mk x.Size x.Value (x.Most - m)]) cap := Int.le_antisymm (T_covers hl hp c3) (T_covers hp hl c4)
        have t3 := low_grd (cap := cap) hl hp c3 c4
        have l1 : (a ++ x :: b).length ≤ 20 := by simp; omega
        have l2 : (x :: b ++ a).length ≤ 20 := by simp; omega
        have l3 : (a ++ { x with Most := m } :: b ++ [R27.mk x.Size x.Value (x.Most - m)]).length ≤ 20 := by simp; omega
        generalize (a ++ { x with Most := m } :: b ++ [R27.mk x.Size x.Value (x.Most - m)]) = lp at *
        generalize x :: b ++ a = lo at *
        generalize (a ++ x :: b) = l at *
        rw [m14_val (l := l) (by omega) (by omega)]
        simp only [Option.bind_some]
        rw [m16_val hl hcap (by omega) (by omega)]
        simp only [Option.bind_some]
        rw [m14_val (l := lo) (by omega) (by omega)]
        simp only [Option.bind_some]
        rw [m16_val ho hcap (by omega) (by omega)]
        simp only [Option.bind_some]
        rw [m14_val (l := lp) (by omega) (by omega)]
        simp only [Option.bind_some]
        rw [m16_val hp hcap (by omega) (by omega)]
        simp only [Option.bind_some]
        rw [m23_val hl hcap (by omega)]
        simp only [Option.bind_some]
        rw [m23_val hp hcap (by omega)]
        simp only [Option.bind_some, ← t1, ← t2, ← t3]
        simp
end Go.AB

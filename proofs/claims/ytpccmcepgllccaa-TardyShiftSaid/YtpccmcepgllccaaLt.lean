import Derived.Test.YtpccmcepgllccaaLq
set_option linter.unusedVariables false
namespace Go.AB
open Go

theorem m31_val {n : Nat} {l : List R38} {m : Int} (hl : l.length ≤ 1000) (hn : 1000 < n) : m31 n l m = some (if vld l = true then (if m < 1 ∨ 6 < m then (0, 2) else (par l m, 0)) else (0, 1)) := by
  unfold m31
  rw [m14_val (by omega) (by omega), Option.bind_some]
  by_cases hv : vld l = true
  · have hb := (bd_vld hv).1
    rw [hv, if_neg (by simp), if_pos rfl]
    by_cases hm : m < 1 ∨ 6 < m
    · rw [if_pos (by simpa using hm), if_pos hm]
    · rw [if_neg (by simpa using hm), if_neg hm]
      unfold jn
      dsimp only
      refine (loop_fold (S := Int × Bool) (fun i s => (s.1, s.2, (i : Int))) l.length (fun i s => foldN (fun k s => parStep l m i k s) l.length s) (fun i s => True) (fun s => some (s.1, 0)) ?_ ?_ (s0 := (0, false)) trivial (by omega)).trans rfl
      · rintro i ⟨best, some_⟩ hi _
        refine ⟨trivial, fun nx => ?_⟩
        rw [m31_L9, if_pos (by simp; omega)]
        unfold jn
        dsimp only
        refine (loop_fold (S := Int × Bool) (fun k s => (s.1, s.2, (k : Int))) l.length (fun k s => parStep l m i k s) (fun k s => True) (fun s => letM (IntKind.wrap .i64 ((i : Int) + 1)) fun t => nx (s.1, s.2, t)) ?_ ?_ (s0 := (best, some_)) trivial (by omega)).trans ?_
        · rintro k ⟨best, some_⟩ hk _
          refine ⟨trivial, fun nx => ?_⟩
          rw [m31_L12, if_pos (by simp; omega)]
          dsimp only
          rw [Jn_get hi, Option.bind_some, Jn_get hk, Option.bind_some]
          unfold jn
          dsimp only
          have hs := spanSum_bd hb i k
          have hd := tdiv_bd (m := m) hs.1 (by omega)
          have h3 := hb _ (Jn_mem hi)
          have h4 := hb _ (Jn_mem hk)
          have hB := spanBd_bd hb (m := m) (by omega) hi hk
          refine (loop_fold (S := Int) (fun j s => (s, (j : Int))) l.length (fun j s => s + (if within l i k j = true then (Jn l j).Length else 0)) (fun j s => 0 ≤ s ∧ s ≤ 10000 * (j : Int)) (fun p_262 => (asrt (m ≠ 0) (letM ((IntKind.wrap .i64 ((IntKind.wrap .i64 ((Jn l i).Release + (IntKind.wrap .i64 ((IntKind.wrap .i64 ((IntKind.wrap .i64 (p_262 + m)) - (1 : Int))).tdiv m)))) - (Jn l k).Due))) fun t14_265 => if ((decide ((0 : Int) < p_262)) && ((!some_) || (decide (best < t14_265)))) = true then letM (IntKind.wrap .i64 ((k : Int) + 1)) fun t => nx (t14_265, true, t) else letM (IntKind.wrap .i64 ((k : Int) + 1)) fun t => nx (best, some_, t)))) ?_ ?_ (s0 := 0) ⟨by omega, by omega⟩ (by omega)).trans ?_
          · rintro j s hj ⟨s0, s1⟩
            have h5 := hb _ (Jn_mem hj)
            refine ⟨by split <;> omega, fun nx => ?_⟩
            rw [m31_L13, if_pos (by simp; omega)]
            dsimp only
            rw [Jn_get hj, Option.bind_some]
            unfold jn
            dsimp only
            by_cases w1 : (Jn l i).Release ≤ (Jn l j).Release
            · rw [decide_eq_true w1, gdO_true, Option.bind_some, Bool.true_and, Option.bind_some]
              by_cases w2 : (Jn l j).Due ≤ (Jn l k).Due
              · have hw : within l i k j = true := by unfold within; rw [decide_eq_true w1, decide_eq_true w2]; rfl
                rw [if_pos (decide_eq_true w2), if_pos hw, letM_eq, wrap64 (by omega) (by omega), letM_eq, wrap64 (by omega) (by omega)]
                rfl
              · have hw : ¬ within l i k j = true := by unfold within; rw [decide_eq_true w1, decide_eq_false w2]; simp
                rw [if_neg (by simpa using w2), if_neg hw, letM_eq, wrap64 (by omega) (by omega), Int.add_zero]
                rfl
            · have hw : ¬ within l i k j = true := by unfold within; rw [decide_eq_false w1]; simp
              rw [decide_eq_false w1, gdO_false, Option.bind_some, Bool.false_and, if_neg (by simp), if_neg hw, letM_eq, wrap64 (by omega) (by omega), Int.add_zero]
              rfl
          · rintro s _ nx
            rw [m31_L13, if_neg (by simp)]
          · rw [sumN_fold]
            rw [show sumN (fun j => if within l i k j = true then (Jn l j).Length else 0) l.length = spanSum l i k from rfl]
            rw [wrap64 (x := spanSum l i k + m) (by omega) (by omega), wrap64 (x := spanSum l i k + m - 1) (by omega) (by omega), wrap64 (x := (spanSum l i k + m - 1).tdiv m) (by omega) (by omega), wrap64 (x := (Jn l i).Release + _) (by omega) (by omega)]
            rw [show (Jn l i).Release + (spanSum l i k + m - 1).tdiv m - (Jn l k).Due = spanBd l m i k from rfl, wrap64 (x := spanBd l m i k) (by omega) (by omega), letM_eq, letM_eq, letM_eq, wrap64 (x := (k : Int) + 1) (by omega) (by omega)]
            unfold asrt parStep
            rw [if_pos (by omega)]
            by_cases c : 0 < spanSum l i k ∧ (some_ = false ∨ best < spanBd l m i k)
            · rw [if_pos c, if_pos (by simpa using c)]
              rfl
            · rw [if_neg c, if_neg (by simpa using c)]
              rfl
        · rintro ⟨best, some_⟩ _ nx
          rw [m31_L12, if_neg (by simp)]
        · rw [letM_eq, wrap64 (by omega) (by omega)]
          rfl
      · rintro ⟨best, some_⟩ _ nx
        rw [m31_L9, if_neg (by simp)]
  · rw [(Bool.not_eq_true _).mp hv]; rfl
theorem m20_val {n : Nat} {l : List R38} (hn : 1000 < n) : m20 n l = some (if vld l = true then (par l 1, 0) else (0, 1)) := by
  unfold m20
  rw [m28_val (by omega), Option.bind_some]
  by_cases hv : vld l = true
  · have := bd_vld hv
    rw [hv, if_neg (by simp), if_pos rfl, m43_val this.1 (by omega) (by omega) (by omega)]
    rfl
  · rw [(Bool.not_eq_true _).mp hv]; rfl
theorem m21_val {n : Nat} {l : List R38} {m : Int} (hn : 1000 < n) : m21 n l m = some (if vld l = true then (if m < 1 ∨ 6 < m then (0, 2) else (par l m, 0)) else (0, 1)) := by
  unfold m21
  rw [m28_val (by omega), Option.bind_some]
  by_cases hv : vld l = true
  · have := bd_vld hv
    rw [hv, if_neg (by simp), if_pos rfl]
    by_cases hm : m < 1 ∨ 6 < m
    · rw [if_pos (by simpa using hm), if_pos hm]
    · rw [if_neg (by simpa using hm), if_neg hm, m43_val this.1 (by omega) (by omega) (by omega)]
      rfl
  · rw [(Bool.not_eq_true _).mp hv]; rfl
/-- the bound of the specification on the total tardiness -/
theorem m34_val {n : Nat} {l : List R38} (hN : l.length ≤ 12) (hn : 6000 < n) : (vld l = true → ∃ o, m34 n l = some (sumB l o, 0) ∧ m33 n l = some (o, 0) ∧ Runs l 0 (lens l) [] o ∧ o.length = l.length) ∧ (vld l = false → m34 n l = some (0, 1)) := by
  obtain ⟨m1, m2⟩ := m33_val (n := n) (l := l) (by omega) (by omega)
  constructor
  · intro hv
    obtain ⟨o, e, hr, hol⟩ := m1 hv
    have hb := (bd_vld hv).1
    have hob := hr.bd hb (WF.start (vld_pos' hv)) (fun x hx => absurd hx (by simp))
    have dl := (ds_facts l hb).1
    refine ⟨o, ?_, e, hr, hol⟩
    unfold m34
    rw [e, Option.bind_some, if_neg (by simp)]
    unfold jn
    dsimp only
    refine (dues_loop (l := l) (n := n) (by omega) (fun p_14 => ((m51 n p_14).bind fun y_17 => loopM (m34_L2 n (o, 0) y_17 fun p => some (p, 0)) n ((0 : Int), (0 : Int)))) ?_ ?_).trans ?_
    · intro i s hi hs nx
      rw [m34_L1, if_pos (by simp; omega)]
      dsimp only
      rw [Jn_get hi, Option.bind_some, apd_val (by simp; omega), Option.bind_some, letM_eq, wrap64 (by omega) (by omega)]
      rfl
    · intro s nx
      rw [m34_L1, if_neg (by simp)]
    · rw [m51_val (by simp [dues]; omega) (by omega), Option.bind_some]
      refine sumB_loop hb (by omega) (by omega) (o := o) (fun k hk => hob _ (getD_mem (by omega))) (fun p => some (p, 0)) ?_ ?_
      · intro k s hk h1 h2 h3 h4 nx
        have q1 := hob _ (getD_mem (show k < o.length from by omega))
        have q2 := (ds_facts l hb).2 k hk
        rw [m34_L2, if_pos (by simp; omega)]
        dsimp only
        rw [get_getD (d := 0) (by omega), Option.bind_some, get_getD (d := 0) (by omega), Option.bind_some, wrap64 (x := o.getD k 0 - _) (by omega) (by omega), iteMax, letM_eq, wrap64 (by omega) (by omega), letM_eq, wrap64 (by omega) (by omega)]
        rfl
      · intro s nx
        rw [m34_L2, if_neg (by simp; omega)]
  · intro hv
    unfold m34
    rw [m2 hv]
    rfl
theorem m29_val {n : Nat} {l : List R38} (hN : l.length ≤ 12) (hn : 6000 < n) : (vld l = true → ∃ o, m29 n l = some (sumB l o, 0) ∧ m50 n l = some o ∧ Runs l 0 (lens l) [] o ∧ o.length = l.length) ∧ (vld l = false → m29 n l = some (0, 1)) := by
  unfold m29
  rw [m28_val (by omega), Option.bind_some]
  constructor
  · intro hv
    obtain ⟨o, e, e2, hr, hol⟩ := m49_val (n := n) (bd_vld hv).1 (vld_pos' hv) hN (by omega)
    exact ⟨o, by rw [hv, if_neg (by simp), e]; rfl, e2, hr, hol⟩
  · intro hv
    rw [hv]; rfl
/-! TardyBounds -/
theorem m8_gen {n : Nat} {l : List R38} {m : Int} (h10 : m10 n = some true) (hn : 6000 < n) : m8 n l m = some true := by
  unfold m8
  rw [h10, Option.bind_some, show (!(!true)) = true from rfl, gdO_true, m11, Option.bind_some]
  by_cases h : l.length ≤ 10
  · rw [decide_eq_true (show (l.length : Int) ≤ 10 from by omega), if_neg (by simp), m13_val (by omega) (by omega), Option.bind_some, m20_val (by omega), Option.bind_some]
    have e30 : m30 n l = some (if vld l = true then (par l 1, 0) else (0, 1)) := by
      unfold m30
      rw [m31_val (by omega) (by omega), Option.bind_some]
      by_cases hv : vld l = true <;> simp [hv]
    rw [e30, Option.bind_some, m21_val (by omega), Option.bind_some, m31_val (by omega) (by omega), Option.bind_some]
    by_cases hv : vld l = true
    · obtain ⟨o, e29, e50, hr, hol⟩ := (m29_val (n := n) (l := l) (by omega) hn).1 hv
      obtain ⟨o', e34, e33, hr', _⟩ := (m34_val (n := n) (l := l) (by omega) hn).1 hv
      have eo := hr.uniq hr'
      subst eo
      have e32 : m32 n l = some (o, 0) := by
        unfold m32
        rw [m28_val (by omega), Option.bind_some, hv, if_neg (by simp), e50]
        rfl
      rw [e32, Option.bind_some, e33, Option.bind_some, e29, Option.bind_some, e34, Option.bind_some]
      generalize (if vld l = true then (if m < 1 ∨ 6 < m then ((0 : Int), (2 : Int)) else (par l m, 0)) else (0, 1)) = a
      generalize (if vld l = true then (par l 1, (0 : Int)) else (0, 1)) = b
      rw [show ((((decide (b.1 = b.1)) && (decide (b.2 = b.2))) && (decide (a.1 = a.1))) && (decide (a.2 = a.2))) = true from by simp, gdO_true]
      dsimp only
      rw [m19_self (by omega) (by omega), Option.bind_some, letM_eq]
      simp
    · have hv' := (Bool.not_eq_true _).mp hv
      have e32 : m32 n l = some ([], 1) := by
        unfold m32
        rw [m28_val (by omega), Option.bind_some, hv']
        rfl
      rw [e32, Option.bind_some, (m33_val (n := n) (l := l) (by omega) (by omega)).2 hv', Option.bind_some, (m29_val (n := n) (l := l) (by omega) hn).2 hv', Option.bind_some, (m34_val (n := n) (l := l) (by omega) hn).2 hv', Option.bind_some]
      generalize (if vld l = true then (if m < 1 ∨ 6 < m then ((0 : Int), (2 : Int)) else (par l m, 0)) else (0, 1)) = a
      generalize (if vld l = true then (par l 1, (0 : Int)) else (0, 1)) = b
      rw [show ((((decide (b.1 = b.1)) && (decide (b.2 = b.2))) && (decide (a.1 = a.1))) && (decide (a.2 = a.2))) = true from by simp, gdO_true, m19_self (by simp) (by simp; omega), Option.bind_some, letM_eq]
      simp
  · rw [decide_eq_false (show ¬ (l.length : Int) ≤ 10 from by omega)]
    rfl
theorem m10_7 : m10 7000 = some true := by kernel_rfl
theorem m8_true (l : List R38) (m : Int) : m8 7000 l m = some true := m8_gen m10_7 (by decide)
end Go.AB

import Derived.Test.YtnmglighdhaccaaLb
import Derived.KernelRfl
set_option linter.unusedVariables false
namespace Go.AB
open Go Go.Proofs

theorem useP_nonneg {p : R23} (h : Vp p) {a : List Int} (hl : a.length = p.Lengths.length) (h0 : ∀ i, i < a.length → 0 ≤ a.getD i 0) : 0 ≤ useP p a a.length := by
  have := useP_mono h hl h0 (Nat.zero_le a.length)
  simpa [useP, sumN] using this
/-- no number of a pattern that fits is great -/
theorem Fit.small {p : R23} (h : Vp p) {a : List Int} (hf : Fit p a) : ∀ i, i < a.length → 0 ≤ a.getD i 0 ∧ a.getD i 0 ≤ 2000 := by
  obtain ⟨hl, h0, hu⟩ := hf
  intro i hi
  refine ⟨h0 i hi, ?_⟩
  have h1 := useP_mono h hl h0 (show i + 1 ≤ a.length by omega)
  have h2 : 0 ≤ useP p a i := by
    have := sumN_mono (g := fun i => a.getD i 0 * szP p i) (m := 0) (k := i) (fun j hj => Int.mul_nonneg (h0 j (by omega)) (by have := (h.sz (hl ▸ (show j < a.length by omega))).1; have := h.k1; omega)) (Nat.zero_le _)
    simpa [useP, sumN] using this
  have h3 : useP p a (i + 1) = useP p a i + a.getD i 0 * szP p i := rfl
  have h4 := h.sz (hl ▸ hi)
  have h5 := h.k1; have h6 := h.s2
  apply Classical.byContradiction
  intro hn
  have h7 : 2001 * (1 + p.Kerf) ≤ a.getD i 0 * szP p i := Int.mul_le_mul (by omega) h4.1 (by omega) (by omega)
  unfold capP at hu
  omega
theorem m27_val {n : Nat} {p : R23} {a : List Int} (ha : a.length ≤ 25) (hn : 30 < n) : m27 n p a = some (decide (vP p = true ∧ Fit p a)) := by
  unfold m27
  rw [mkP, m12_val (by omega), Option.bind_some]
  by_cases hv : vP p = true
  · have h := vP_iff.1 hv
    have := h.s1; have := h.s2; have := h.k1; have := h.k2; have := h.l2
    by_cases hl : a.length = p.Lengths.length
    · rw [if_neg (by simp [hv, hl])]
      unfold jn
      refine (loop_all (fun i => (i : Int)) a.length (fun i => decide (0 ≤ a.getD i 0 ∧ a.getD i 0 ≤ 2000)) (some false) ((m49 n p a).bind fun y => some (decide (y ≤ IntKind.wrap .i64 (p.Stock + p.Kerf)))) ?_ ?_ ?_ (by omega)).trans ?_
      rotate_left 3
      · by_cases hq : ∀ i, i < a.length → decide (0 ≤ a.getD i 0 ∧ a.getD i 0 ≤ 2000) = true
        · have hq' : ∀ i, i < a.length → 0 ≤ a.getD i 0 ∧ a.getD i 0 ≤ 2000 := fun i hi => of_decide_eq_true (hq i hi)
          rw [if_pos hq, m49_val h hl hq' hn, Option.bind_some, wrap64 (by omega) (by omega)]
          congr 1
          rw [decide_eq_decide]
          exact ⟨fun h1 => ⟨hv, hl, fun i hi => (hq' i hi).1, h1⟩, fun h1 => h1.2.2.2⟩
        · rw [if_neg hq, decide_eq_false]
          rintro ⟨_, hf⟩
          exact hq fun i hi => decide_eq_true (hf.small h i hi)
      · intro i hi hp nx
        have hp := of_decide_eq_true hp
        rw [m27_L1, if_pos (by simp; omega), getIdx_D rfl hi, Option.bind_some, decide_eq_false (by omega), Bool.not_false, gdO_true, Option.bind_some, if_neg (by rw [decide_eq_false (by omega : ¬ (2000 : Int) < a.getD i 0)]; simp), letM_eq, wrap64 (by omega) (by omega)]
        rfl
      · intro i hi hp nx
        have hp := of_decide_eq_false hp
        rw [m27_L1, if_pos (by simp; omega), getIdx_D rfl hi, Option.bind_some]
        by_cases h1 : a.getD i 0 < 0
        · rw [decide_eq_true h1, Bool.not_true, gdO_false, Option.bind_some, if_pos (by simp)]
        · rw [decide_eq_false h1, Bool.not_false, gdO_true, Option.bind_some, if_pos (by rw [decide_eq_true (by omega : (2000 : Int) < a.getD i 0)]; simp)]
      · intro nx
        rw [m27_L1, if_neg (by simp)]
    · rw [if_pos (by simp [hv]; omega), decide_eq_false (fun h2 => hl h2.2.1)]
  · have hv' : vP p = false := by simpa using hv
    rw [if_pos (by simp [hv']), decide_eq_false (fun h2 => hv h2.1)]
theorem m26_val {n : Nat} {p : R23} {a : List Int} (ha : a.length ≤ 25) (hn : 30 < n) : m26 n p a = some (decide (vP p = true ∧ Fit p a)) := by
  unfold m26
  rw [mkP, m48_val ha hn, Option.bind_some]
  by_cases h : vP p = true ∧ Fit p a
  · rw [if_pos h, decide_eq_true h]
  · rw [if_neg h, decide_eq_false h]
/-- a pattern is proper -/
def Prop_ (p : R23) (a : List Int) : Prop := vP p = true ∧ Fit p a ∧ ∀ i, i < a.length → a.getD i 0 ≤ p.Demand.getD i 0
instance (p : R23) (a : List Int) : Decidable (Prop_ p a) := inferInstanceAs (Decidable (_ ∧ _ ∧ _))
theorem m28_val {n : Nat} {p : R23} {a : List Int} (ha : a.length ≤ 25) (hn : 30 < n) : m28 n p a = some (decide (Prop_ p a)) := by
  unfold m28
  rw [mkP, m26_val ha hn, Option.bind_some]
  by_cases hf : vP p = true ∧ Fit p a
  · have h := vP_iff.1 hf.1
    have hd := h.dl
    have hl := hf.2.1
    rw [decide_eq_true hf, if_neg (by simp)]
    unfold jn
    refine (loop_all (fun i => (i : Int)) a.length (fun i => decide (a.getD i 0 ≤ p.Demand.getD i 0)) (some false) (some true) ?_ ?_ ?_ (by omega)).trans ?_
    rotate_left 3
    · by_cases hq : ∀ i, i < a.length → decide (a.getD i 0 ≤ p.Demand.getD i 0) = true
      · rw [if_pos hq, decide_eq_true (show Prop_ p a from ⟨hf.1, hf.2, fun i hi => of_decide_eq_true (hq i hi)⟩)]
      · rw [if_neg hq, decide_eq_false (show ¬ Prop_ p a from fun hp => hq fun i hi => decide_eq_true (hp.2.2 i hi))]
    · intro i hi hp nx
      have hp := of_decide_eq_true hp
      rw [m28_L1, if_pos (by simp; omega), getIdx_D rfl hi, Option.bind_some, getIdx_D rfl (by omega), Option.bind_some, if_neg (by rw [decide_eq_false (by omega)]; simp), letM_eq, wrap64 (by omega) (by omega)]
      rfl
    · intro i hi hp nx
      have hp := of_decide_eq_false hp
      rw [m28_L1, if_pos (by simp; omega), getIdx_D rfl hi, Option.bind_some, getIdx_D rfl (by omega), Option.bind_some, if_pos (by rw [decide_eq_true (by omega)])]
    · intro nx
      rw [m28_L1, if_neg (by simp)]
  · rw [decide_eq_false hf, if_pos (by simp), decide_eq_false (show ¬ Prop_ p a from fun hp => hf ⟨hp.1, hp.2.1⟩)]
theorem m14_val {n : Nat} {p : R23} {a : List Int} (ha : a.length ≤ 25) (hn : 30 < n) : m14 n p a = some (decide (Prop_ p a)) := by
  unfold m14
  rw [mkP, m27_val ha hn, Option.bind_some]
  by_cases hf : vP p = true ∧ Fit p a
  · have h := vP_iff.1 hf.1
    have hd := h.dl
    have hl := hf.2.1
    rw [decide_eq_true hf, if_neg (by simp)]
    unfold jn
    refine (loop_all (fun i => (i : Int)) a.length (fun i => decide (a.getD i 0 ≤ p.Demand.getD i 0)) (some false) (some true) ?_ ?_ ?_ (by omega)).trans ?_
    rotate_left 3
    · by_cases hq : ∀ i, i < a.length → decide (a.getD i 0 ≤ p.Demand.getD i 0) = true
      · rw [if_pos hq, decide_eq_true (show Prop_ p a from ⟨hf.1, hf.2, fun i hi => of_decide_eq_true (hq i hi)⟩)]
      · rw [if_neg hq, decide_eq_false (show ¬ Prop_ p a from fun hp => hq fun i hi => decide_eq_true (hp.2.2 i hi))]
    · intro i hi hp nx
      have hp := of_decide_eq_true hp
      rw [m14_L1, if_pos (by simp; omega), getIdx_D rfl hi, Option.bind_some, getIdx_D rfl (by omega), Option.bind_some, if_neg (by rw [decide_eq_false (by omega)]; simp), letM_eq, wrap64 (by omega) (by omega)]
      rfl
    · intro i hi hp nx
      have hp := of_decide_eq_false hp
      rw [m14_L1, if_pos (by simp; omega), getIdx_D rfl hi, Option.bind_some, getIdx_D rfl (by omega), Option.bind_some, if_pos (by rw [decide_eq_true (by omega)])]
    · intro nx
      rw [m14_L1, if_neg (by simp)]
  · rw [decide_eq_false hf, if_pos (by simp), decide_eq_false (show ¬ Prop_ p a from fun hp => hf ⟨hp.1, hp.2.1⟩)]
theorem m23_val {n : Nat} {p : R23} {a : List Int} (ha : a.length ≤ 25) (hn : 30 < n) :
    m23 n p a = some (if vP p = true ∧ Fit p a then (if 0 < p.Stock - useP p a a.length then p.Stock - useP p a a.length else 0, 0) else (0, 1)) := by
  unfold m23
  rw [mkP, m48_val ha hn, Option.bind_some]
  by_cases hf : vP p = true ∧ Fit p a
  · have h := vP_iff.1 hf.1
    have := useP_nonneg h hf.2.1 hf.2.2.1
    have := hf.2.2.2
    have := h.s1; have := h.s2; have := h.k1; have := h.k2
    have e1 : capP p - useP p a a.length - p.Kerf = p.Stock - useP p a a.length := by unfold capP; omega
    rw [if_pos hf, if_pos hf, if_neg (by simp), letM_eq]
    simp only [e1]
    rw [wrap64 (by unfold capP at *; omega) (by omega)]
  · rw [if_neg hf, if_neg hf, if_pos (by simp)]
theorem m24_val {n : Nat} {p : R23} {a : List Int} (ha : a.length ≤ 25) (hn : 30 < n) :
    m24 n p a = some (if vP p = true ∧ Fit p a then (if 0 < p.Stock - useP p a a.length then p.Stock - useP p a a.length else 0, 0) else (0, 1)) := by
  unfold m24
  rw [mkP, m27_val ha hn, Option.bind_some]
  by_cases hf : vP p = true ∧ Fit p a
  · have h := vP_iff.1 hf.1
    have := useP_nonneg h hf.2.1 hf.2.2.1
    have := hf.2.2.2
    have := h.s1; have := h.s2; have := h.k1; have := h.k2
    rw [if_pos hf, decide_eq_true hf, if_neg (by simp), m49_val h hf.2.1 (hf.2.small h) hn, Option.bind_some, letM_eq, wrap64 (by unfold capP at *; omega) (by omega)]
  · rw [if_neg hf, decide_eq_false hf, if_pos (by simp)]
def matP (p : R23) : Int := (useP p p.Demand p.Demand.length + capP p - 1) / capP p
theorem dem_bd {p : R23} (h : Vp p) : ∀ i, i < p.Demand.length → 0 ≤ p.Demand.getD i 0 ∧ p.Demand.getD i 0 ≤ 2000 := fun i hi => by
  have := h.li i (h.dl ▸ hi)
  omega
theorem useP_bd {p : R23} (h : Vp p) {a : List Int} (hl : a.length = p.Lengths.length) (hb : ∀ i, i < a.length → 0 ≤ a.getD i 0 ∧ a.getD i 0 ≤ 2000) {m : Nat} (hm : m ≤ a.length) : 0 ≤ useP p a m ∧ useP p a m ≤ 84000000 := by
  have hg : ∀ i, i < m → 0 ≤ a.getD i 0 * szP p i ∧ a.getD i 0 * szP p i ≤ 2000 * 2100 := fun i hi => by
    have := h.sz (hl ▸ (show i < a.length by omega))
    have := h.k1
    exact mulB (hb i (by omega)).1 (hb i (by omega)).2 (by omega) (by omega)
  have h1 := sumN_bd hg
  have := h.l2
  unfold useP
  omega
theorem m25_val {n : Nat} {p : R23} (hn : 30 < n) : m25 n p = some (if vP p = true then (matP p, 0) else (0, 1)) := by
  unfold m25
  rw [mkP, m12_val (by omega), Option.bind_some]
  by_cases hv : vP p = true
  · have h := vP_iff.1 hv
    have := h.s1; have := h.s2; have := h.k1; have := h.k2
    have hu := useP_bd h h.dl (dem_bd h) (Nat.le_refl _)
    have e1 : p.Stock + p.Kerf = capP p := rfl
    rw [if_pos hv, if_neg (by simp [hv]), letM_eq, m49_val h h.dl (dem_bd h) hn, Option.bind_some, wrap64 (x := p.Stock + p.Kerf) (by omega) (by omega), e1]
    have hc : 1 ≤ capP p ∧ capP p ≤ 2100 := by unfold capP; omega
    unfold asrt matP
    have h0 : 0 ≤ (useP p p.Demand p.Demand.length + capP p - 1) / capP p := Int.ediv_nonneg (by omega) (by omega)
    have h2 : (useP p p.Demand p.Demand.length + capP p - 1) / capP p ≤ useP p p.Demand p.Demand.length + capP p - 1 := Int.ediv_le_self _ (by omega)
    rw [if_pos (by omega), letM_eq, wrap64 (x := useP p p.Demand p.Demand.length + capP p) (by omega) (by omega), wrap64 (x := useP p p.Demand p.Demand.length + capP p - 1) (by omega) (by omega), Int.tdiv_eq_ediv_of_nonneg (by omega), wrap64 (by omega) (by omega)]
  · rw [if_neg hv, if_pos (by simp at hv; simp [hv])]
theorem m22_val {n : Nat} {p : R23} (hn : 30 < n) : m22 n p = some (if vP p = true then (matP p, 0) else (0, 1)) := by
  unfold m22
  rw [mkP, m21_val (by omega), Option.bind_some]
  by_cases hv : vP p = true
  · have h := vP_iff.1 hv
    have := h.s1; have := h.s2; have := h.k1; have := h.k2; have := h.l2; have := h.dl
    have hu := useP_bd h h.dl (dem_bd h) (Nat.le_refl _)
    have e1 : p.Stock + p.Kerf = capP p := rfl
    have hc : 1 ≤ capP p ∧ capP p ≤ 2100 := by unfold capP; omega
    rw [if_pos hv, if_neg (by simp [hv])]
    unfold jn
    refine (loop_fold (fun i s => ((s, (i : Int)) : Int × Int)) p.Demand.length (fun i s => s + p.Demand.getD i 0 * szP p i) (fun i s => s = useP p p.Demand i) (fun q => letM (IntKind.wrap .i64 (p.Stock + p.Kerf)) fun t7 => asrt (t7 ≠ 0) (letM (IntKind.wrap .i64 ((IntKind.wrap .i64 ((IntKind.wrap .i64 (q + t7)) - (1 : Int))).tdiv t7)) fun t2 => some (t2, (0 : Int)))) (fun i s hi hs => ?_) (fun s hs nx => ?_) (s0 := 0) rfl (by omega)).trans ?_
    · subst hs
      refine ⟨rfl, fun nx => ?_⟩
      have h1 := useP_bd h h.dl (dem_bd h) (show i ≤ p.Demand.length by omega)
      have h2 := mulB (dem_bd h i hi).1 (dem_bd h i hi).2 (show 0 ≤ szP p i by have := h.sz (h.dl ▸ hi); omega) (h.sz (h.dl ▸ hi)).2
      rw [m22_L1, if_pos (by simp; omega), getIdx_D rfl hi, Option.bind_some, mkP, m47_val h rfl (h.dl ▸ hi), Option.bind_some, letM_eq, wrap64 (x := p.Demand.getD i 0 * szP p i) (by omega) (by omega), wrap64 (by omega) (by omega), letM_eq, wrap64 (by omega) (by omega)]
      rfl
    · rw [m22_L1, if_neg (by simp)]
    · rw [show foldN (fun i s => s + p.Demand.getD i 0 * szP p i) p.Demand.length 0 = useP p p.Demand p.Demand.length from sumN_fold _, letM_eq, wrap64 (x := p.Stock + p.Kerf) (by omega) (by omega), e1]
      unfold asrt matP
      have h0 : 0 ≤ (useP p p.Demand p.Demand.length + capP p - 1) / capP p := Int.ediv_nonneg (by omega) (by omega)
      have h2 : (useP p p.Demand p.Demand.length + capP p - 1) / capP p ≤ useP p p.Demand p.Demand.length + capP p - 1 := Int.ediv_le_self _ (by omega)
      rw [if_pos (by omega), letM_eq, wrap64 (x := useP p p.Demand p.Demand.length + capP p) (by omega) (by omega), wrap64 (x := useP p p.Demand p.Demand.length + capP p - 1) (by omega) (by omega), Int.tdiv_eq_ediv_of_nonneg (by omega), wrap64 (by omega) (by omega)]
  · rw [if_neg hv, if_pos (by simp at hv; simp [hv])]
theorem m10_3 : m10 3000 = some true := by kernel_rfl
theorem m6_true (p : R23) (a : List Int) : m6 3000 p a = some true := by
  unfold m6
  rw [m10_3, Option.bind_some, letM_eq]
  by_cases hs : (((!true || decide ((25 : Int) < (p.Lengths.length : Int))) || decide ((25 : Int) < (p.Demand.length : Int))) || decide ((25 : Int) < (a.length : Int))) = true
  · rw [if_pos hs]; rfl
  · rw [if_neg hs]
    simp only [Bool.not_true, Bool.false_or, Bool.or_eq_true, decide_eq_true_eq, not_or] at hs
    have ha : a.length ≤ 25 := by omega
    simp only [mkP]
    rw [m23_val ha (by decide), m24_val ha (by decide), Option.bind_some, Option.bind_some, m22_val (by decide), m25_val (by decide), Option.bind_some, Option.bind_some, m21_val (by decide), m12_val (by decide), Option.bind_some, Option.bind_some, m26_val ha (by decide), m27_val ha (by decide), m28_val ha (by decide), m14_val ha (by decide)]
    simp [gdO, letM]
end Go.AB

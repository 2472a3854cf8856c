import Derived.Test.YtnmglighdhaccaaLb
import Derived.KernelRfl
set_option linter.unusedVariables false
namespace Go.AB
open Go Go.Proofs
theorem Fit.small {p : R23} (h : Vp p) {a : List Int} (hf : Fit p a) : ∀ i,i < a.length → 0 ≤ a.getD i 0 ∧ a.getD i 0 ≤ 2000 := by
  obtain ⟨hl,h0,hu⟩ := hf
  intro i hi
  refine ⟨h0 i hi,?_⟩
  have h1 := useP_mono h hl h0 (show i + 1 ≤ a.length by omega)
  have h2 : 0 ≤ useP p a i := by
    have := sumN_mono (g := fun i => a.getD i 0 * szP p i) (m := 0) (k := i) (fun j hj => Int.mul_nonneg (h0 j (by omega)) (by have := (h.sz (hl ▸ (show j < a.length by omega))).1; have := h.k1; omega)) (Nat.zero_le _)
    simpa [useP,sumN] using this
  have h3 : useP p a (i + 1) = useP p a i + a.getD i 0 * szP p i := rfl
  have h4 := h.sz (hl ▸ hi)
  have h5 := h.k1; have h6 := h.s2
  apply Classical.byContradiction
  intro hn
  have h7 : 2001 * (1 + p.Kq) ≤ a.getD i 0 * szP p i := Int.mul_le_mul (by omega) h4.1 (by omega) (by omega)
  unfold capP at hu
  omega
theorem m27_val {n : Nat} {p : R23} {a : List Int} (ha : a.length ≤ 25) (hn : 30 < n) : m27 n p a = some (decide (vP p = true ∧ Fit p a)) := by
  unfold m27
  rw [mkP,m12_val (by omega),oB]
  by_cases hv : vP p = true
  · have h := vP_iff.1 hv
    have := h.s1; have := h.s2; have := h.k1; have := h.k2; have := h.l2
    by_cases hl : a.length = p.Lq.length
    · rw [if_neg (by simp [hv,hl])]
      unfold jn
      refine (loop_all (fun i => (i : Int)) a.length (fun i => decide (0 ≤ a.getD i 0 ∧ a.getD i 0 ≤ 2000)) (some false) ((m49 n p a).bind fun y => some (decide (y ≤ IntKind.wrap .i64 (p.Sq + p.Kq)))) ?_ ?_ ?_ (by omega)).trans ?_
      rotate_left 3
      · by_cases hq : ∀ i,i < a.length → decide (0 ≤ a.getD i 0 ∧ a.getD i 0 ≤ 2000) = true
        · have hq' : ∀ i,i < a.length → 0 ≤ a.getD i 0 ∧ a.getD i 0 ≤ 2000 := fun i hi => of_decide_eq_true (hq i hi)
          rw [if_pos hq,m49_val h hl hq' hn,oB,wrap64 (by omega) (by omega)]
          congr 1
          rw [decide_eq_decide]
          exact ⟨fun h1 => ⟨hv,hl,fun i hi => (hq' i hi).1,h1⟩,fun h1 => h1.2.2.2⟩
        · rw [if_neg hq,decide_eq_false]
          rintro ⟨_,hf⟩
          exact hq fun i hi => decide_eq_true (hf.small h i hi)
      · intro i hi hp nx
        have hp := of_decide_eq_true hp
        rw [m27_L1,if_pos (by simp; omega),getIdx_D rfl hi,oB,decide_eq_false (by omega),Bool.not_false,gdO_true,oB,if_neg (by rw [decide_eq_false (by omega : ¬ (2000 : Int) < a.getD i 0)]; simp),letM_eq,wrap64 (by omega) (by omega)]
        rfl
      · intro i hi hp nx
        have hp := of_decide_eq_false hp
        rw [m27_L1,if_pos (by simp; omega),getIdx_D rfl hi,oB]
        by_cases h1 : a.getD i 0 < 0
        · rw [decide_eq_true h1,Bool.not_true,gdO_false,oB,if_pos (by simp)]
        · rw [decide_eq_false h1,Bool.not_false,gdO_true,oB,if_pos (by rw [decide_eq_true (by omega : (2000 : Int) < a.getD i 0)]; simp)]
      · intro nx
        rw [m27_L1,if_neg (by simp)]
    · rw [if_pos (by simp [hv]; omega),decide_eq_false (fun h2 => hl h2.2.1)]
  · have hv' : vP p = false := by simpa using hv
    rw [if_pos (by simp [hv']),decide_eq_false (fun h2 => hv h2.1)]
theorem m26_val {n : Nat} {p : R23} {a : List Int} (ha : a.length ≤ 25) (hn : 30 < n) : m26 n p a = some (decide (vP p = true ∧ Fit p a)) := by
  unfold m26
  rw [mkP,m48_val ha hn,oB]
  by_cases h : vP p = true ∧ Fit p a
  · rw [if_pos h,decide_eq_true h]
  · rw [if_neg h,decide_eq_false h]
def Prop_ (p : R23) (a : List Int) : Prop := vP p = true ∧ Fit p a ∧ ∀ i,i < a.length → a.getD i 0 ≤ p.Dq.getD i 0
instance (p : R23) (a : List Int) : Decidable (Prop_ p a) := inferInstanceAs (Decidable (_ ∧ _ ∧ _))
def matP (p : R23) : Int := (useP p p.Dq p.Dq.length + capP p - 1) / capP p
theorem dem_bd {p : R23} (h : Vp p) : ∀ i,i < p.Dq.length → 0 ≤ p.Dq.getD i 0 ∧ p.Dq.getD i 0 ≤ 2000 := fun i hi => by
  have := h.li i (h.dl ▸ hi)
  omega
theorem useP_bd {p : R23} (h : Vp p) {a : List Int} (hl : a.length = p.Lq.length) (hb : ∀ i,i < a.length → 0 ≤ a.getD i 0 ∧ a.getD i 0 ≤ 2000) {m : Nat} (hm : m ≤ a.length) : 0 ≤ useP p a m ∧ useP p a m ≤ 84000000 := by
  have hg : ∀ i,i < m → 0 ≤ a.getD i 0 * szP p i ∧ a.getD i 0 * szP p i ≤ 2000 * 2100 := fun i hi => by
    have := h.sz (hl ▸ (show i < a.length by omega))
    have := h.k1
    exact mulB (hb i (by omega)).1 (hb i (by omega)).2 (by omega) (by omega)
  have h1 := sumN_bd hg
  have := h.l2
  unfold useP
  omega
theorem m22_val {n : Nat} {p : R23} (hn : 30 < n) : m22 n p = some (if vP p = true then (matP p,0) else (0,1)) := by
  unfold m22
  rw [mkP,m21_val (by omega),oB]
  by_cases hv : vP p = true
  · have h := vP_iff.1 hv
    have := h.s1; have := h.s2; have := h.k1; have := h.k2; have := h.l2; have := h.dl
    have hu := useP_bd h h.dl (dem_bd h) (Nat.le_refl _)
    have e1 : p.Sq + p.Kq = capP p := rfl
    have hc : 1 ≤ capP p ∧ capP p ≤ 2100 := by unfold capP; omega
    rw [if_pos hv,if_neg (by simp [hv])]
    unfold jn
    refine (loop_fold (fun i s => ((s,(i : Int)) : Int × Int)) p.Dq.length (fun i s => s + p.Dq.getD i 0 * szP p i) (fun i s => s = useP p p.Dq i) (fun q => letM (IntKind.wrap .i64 (p.Sq + p.Kq)) fun t7 => asrt (t7 ≠ 0) (letM (IntKind.wrap .i64 ((IntKind.wrap .i64 ((IntKind.wrap .i64 (q + t7)) - (1 : Int))).tdiv t7)) fun t2 => some (t2,(0 : Int)))) (fun i s hi hs => ?_) (fun s hs nx => ?_) (s0 := 0) rfl (by omega)).trans ?_
    · subst hs
      refine ⟨rfl,fun nx => ?_⟩
      have h1 := useP_bd h h.dl (dem_bd h) (show i ≤ p.Dq.length by omega)
      have h2 := mulB (dem_bd h i hi).1 (dem_bd h i hi).2 (show 0 ≤ szP p i by have := h.sz (h.dl ▸ hi); omega) (h.sz (h.dl ▸ hi)).2
      rw [m22_L1,if_pos (by simp; omega),getIdx_D rfl hi,oB,mkP,m47_val h rfl (h.dl ▸ hi),oB,letM_eq,wrap64 (x := p.Dq.getD i 0 * szP p i) (by omega) (by omega),wrap64 (by omega) (by omega),letM_eq,wrap64 (by omega) (by omega)]
      rfl
    · rw [m22_L1,if_neg (by simp)]
    · rw [show foldN (fun i s => s + p.Dq.getD i 0 * szP p i) p.Dq.length 0 = useP p p.Dq p.Dq.length from sumN_fold _,letM_eq,wrap64 (x := p.Sq + p.Kq) (by omega) (by omega),e1]
      unfold asrt matP
      have h0 : 0 ≤ (useP p p.Dq p.Dq.length + capP p - 1) / capP p := Int.ediv_nonneg (by omega) (by omega)
      have h2 : (useP p p.Dq p.Dq.length + capP p - 1) / capP p ≤ useP p p.Dq p.Dq.length + capP p - 1 := Int.ediv_le_self _ (by omega)
      rw [if_pos (by omega),letM_eq,wrap64 (x := useP p p.Dq p.Dq.length + capP p) (by omega) (by omega),wrap64 (x := useP p p.Dq p.Dq.length + capP p - 1) (by omega) (by omega),Int.tdiv_eq_ediv_of_nonneg (by omega),wrap64 (by omega) (by omega)]
  · rw [if_neg hv,if_pos (by simp at hv; simp [hv])]
end Go.AB

import Derived.Test.YtnmglighdhaccaaLb
import Derived.KernelRfl
set_option linter.unusedVariables false
namespace Go.AB
open Go Go.Proofs
theorem Fit.small {p : R23} (h : Vp p) {a : List Int} (hf : Fit p a) : ∀ i,i < a.length → 0 ≤ a.getD i 0 ∧ a.getD i 0 ≤ 2000 := by
  obtain ⟨hl,h0,hu⟩ := hf
  intro i hi
  refine ⟨h0 i hi,?_⟩
  have h1 := useP_mono h hl h0 (show i + 1 ≤ a.length by omega)
  have h2 : 0 ≤ useP p a i := by
    have := sumN_mono (g := fun i => a.getD i 0 * szP p i) (m := 0) (k := i) (fun j hj => Int.mul_nonneg (h0 j (by omega)) (by have := (h.sz (hl ▸ (show j < a.length by omega))).1; have := h.k1; omega)) (Nat.zero_le _)
    simpa [useP,sumN] using this
  have h3 : useP p a (i + 1) = useP p a i + a.getD i 0 * szP p i := rfl
  have h4 := h.sz (hl ▸ hi)
  have h5 := h.k1; have h6 := h.s2
  apply Classical.byContradiction
  intro hn
  have h7 : 2001 * (1 + p.Kerf) ≤ a.getD i 0 * szP p i := Int.mul_le_mul (by omega) h4.1 (by omega) (by omega)
  unfold capP at hu
  omega
theorem m26_val {n : Nat} {p : R23} {a : List Int} (ha : a.length ≤ 25) (hn : 30 < n) : m26 n p a = some (decide (vP p = true ∧ Fit p a)) := by
  unfold m26
  rw [mkP,m48_val ha hn,oB]
  by_cases h : vP p = true ∧ Fit p a
  · rw [if_pos h,decide_eq_true h]
  · rw [if_neg h,decide_eq_false h]
def Prop_ (p : R23) (a : List Int) : Prop := vP p = true ∧ Fit p a ∧ ∀ i,i < a.length → a.getD i 0 ≤ p.Demand.getD i 0
instance (p : R23) (a : List Int) : Decidable (Prop_ p a) := inferInstanceAs (Decidable (_ ∧ _ ∧ _))
def matP (p : R23) : Int := (useP p p.Demand p.Demand.length + capP p - 1) / capP p
theorem dem_bd {p : R23} (h : Vp p) : ∀ i,i < p.Demand.length → 0 ≤ p.Demand.getD i 0 ∧ p.Demand.getD i 0 ≤ 2000 := fun i hi => by
  have := h.li i (h.dl ▸ hi)
  omega
theorem useP_bd {p : R23} (h : Vp p) {a : List Int} (hl : a.length = p.Lengths.length) (hb : ∀ i,i < a.length → 0 ≤ a.getD i 0 ∧ a.getD i 0 ≤ 2000) {m : Nat} (hm : m ≤ a.length) : 0 ≤ useP p a m ∧ useP p a m ≤ 84000000 := by
  have hg : ∀ i,i < m → 0 ≤ a.getD i 0 * szP p i ∧ a.getD i 0 * szP p i ≤ 2000 * 2100 := fun i hi => by
    have := h.sz (hl ▸ (show i < a.length by omega))
    have := h.k1
    exact mulB (hb i (by omega)).1 (hb i (by omega)).2 (by omega) (by omega)
  have h1 := sumN_bd hg
  have := h.l2
  unfold useP
  omega
theorem m22_val {n : Nat} {p : R23} (hn : 30 < n) : m22 n p = some (if vP p = true then (matP p,0) else (0,1)) := by
  unfold m22
  rw [mkP,m21_val (by omega),oB]
  by_cases hv : vP p = true
  · have h := vP_iff.1 hv
    have := h.s1; have := h.s2; have := h.k1; have := h.k2; have := h.l2; have := h.dl
    have hu := useP_bd h h.dl (dem_bd h) (Nat.le_refl _)
    have e1 : p.Stock + p.Kerf = capP p := rfl
    have hc : 1 ≤ capP p ∧ capP p ≤ 2100 := by unfold capP; omega
    rw [if_pos hv,if_neg (by simp [hv])]
    unfold jn
    refine (loop_fold (fun i s => ((s,(i : Int)) : Int × Int)) p.Demand.length (fun i s => s + p.Demand.getD i 0 * szP p i) (fun i s => s = useP p p.Demand i) (fun q => letM (IntKind.wrap .i64 (p.Stock + p.Kerf)) fun t7 => asrt (t7 ≠ 0) (letM (IntKind.wrap .i64 ((IntKind.wrap .i64 ((IntKind.wrap .i64 (q + t7)) - (1 : Int))).tdiv t7)) fun t2 => some (t2,(0 : Int)))) (fun i s hi hs => ?_) (fun s hs nx => ?_) (s0 := 0) rfl (by omega)).trans ?_
    · subst hs
      refine ⟨rfl,fun nx => ?_⟩
      have h1 := useP_bd h h.dl (dem_bd h) (show i ≤ p.Demand.length by omega)
      have h2 := mulB (dem_bd h i hi).1 (dem_bd h i hi).2 (show 0 ≤ szP p i by have := h.sz (h.dl ▸ hi); omega) (h.sz (h.dl ▸ hi)).2
      rw [m22_L1,if_pos (by simp; omega),getIdx_D rfl hi,oB,mkP,m47_val h rfl (h.dl ▸ hi),oB,letM_eq,wrap64 (x := p.Demand.getD i 0 * szP p i) (by omega) (by omega),wrap64 (by omega) (by omega),letM_eq,wrap64 (by omega) (by omega)]
      rfl
    · rw [m22_L1,if_neg (by simp)]
    · rw [show foldN (fun i s => s + p.Demand.getD i 0 * szP p i) p.Demand.length 0 = useP p p.Demand p.Demand.length from sumN_fold _,letM_eq,wrap64 (x := p.Stock + p.Kerf) (by omega) (by omega),e1]
      unfold asrt matP
      have h0 : 0 ≤ (useP p p.Demand p.Demand.length + capP p - 1) / capP p := Int.ediv_nonneg (by omega) (by omega)
      have h2 : (useP p p.Demand p.Demand.length + capP p - 1) / capP p ≤ useP p p.Demand p.Demand.length + capP p - 1 := Int.ediv_le_self _ (by omega)
      rw [if_pos (by omega),letM_eq,wrap64 (x := useP p p.Demand p.Demand.length + capP p) (by omega) (by omega),wrap64 (x := useP p p.Demand p.Demand.length + capP p - 1) (by omega) (by omega),Int.tdiv_eq_ediv_of_nonneg (by omega),wrap64 (by omega) (by omega)]
  · rw [if_neg hv,if_pos (by simp at hv; simp [hv])]
end Go.AB

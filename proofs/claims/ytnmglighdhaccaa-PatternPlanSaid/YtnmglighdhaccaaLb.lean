import Derived.Test.YtnmglighdhaccaaLa
set_option linter.unusedVariables false
namespace Go.AB
open Go
def szP (p : R23) (i : Nat) : Int := p.Lq.getD i 0 + p.Kq
def useP (p : R23) (a : List Int) (k : Nat) : Int := sumN (fun i => a.getD i 0 * szP p i) k
def capP (p : R23) : Int := p.Sq + p.Kq
structure Vp (p : R23) : Prop where
  l1 : 1 ≤ p.Lq.length
  l2 : p.Lq.length ≤ 20
  dl : p.Dq.length = p.Lq.length
  s1 : 1 ≤ p.Sq
  s2 : p.Sq ≤ 2000
  k1 : 0 ≤ p.Kq
  k2 : p.Kq ≤ 100
  li : ∀ i,i < p.Lq.length → 1 ≤ p.Lq.getD i 0 ∧ p.Lq.getD i 0 ≤ p.Sq ∧ (0 < i → p.Lq.getD i 0 < p.Lq.getD (i - 1) 0) ∧ 0 ≤ p.Dq.getD i 0 ∧ p.Dq.getD i 0 ≤ 1000
theorem vP_iff {p : R23} : vP p = true ↔ Vp p := by
  unfold vP
  rw [Bool.and_eq_true,headP_iff,decide_eq_true_eq]
  constructor
  · rintro ⟨⟨h1,h2,h3,h4,h5,h6,h7⟩,h⟩
    exact ⟨h1,h2,h3,h4,h5,h6,h7,fun i hi => okI_iff.1 (h i hi)⟩
  · rintro ⟨h1,h2,h3,h4,h5,h6,h7,h⟩
    exact ⟨⟨h1,h2,h3,h4,h5,h6,h7⟩,fun i hi => okI_iff.2 (h i hi)⟩
theorem Vp.sz {p : R23} (h : Vp p) {i : Nat} (hi : i < p.Lq.length) : 1 + p.Kq ≤ szP p i ∧ szP p i ≤ 2100 := by
  have := h.li i hi
  have := h.k2
  have := h.s2
  unfold szP
  omega
theorem m47_val {n : Nat} {p : R23} (h : Vp p) {i : Int} {k : Nat} (hi : i = (k : Int)) (hk : k < p.Lq.length) : m47 n p i = some (szP p k) := by
  have := h.sz hk
  unfold szP at this
  have := h.k1
  unfold m47
  rw [getIdx_D hi hk,oB,letM_eq,wrap64 (by omega) (by omega)]
  rfl
theorem sumN_mono {g : Nat → Int} {m : Nat} : ∀ {k : Nat},(∀ i,i < k → 0 ≤ g i) → m ≤ k → sumN g m ≤ sumN g k
  | 0,_,h => by simp at h; subst h; exact Int.le_refl _
  | k + 1,hg,h => by
    rcases Nat.lt_or_ge m (k + 1) with h1 | h1
    · have := sumN_mono (k := k) (fun i hi => hg i (by omega)) (show m ≤ k by omega)
      have := hg k (by omega)
      rw [sumN]; omega
    · have : m = k + 1 := by omega
      subst this; exact Int.le_refl _
def Fit (p : R23) (a : List Int) : Prop := a.length = p.Lq.length ∧ (∀ i,i < a.length → 0 ≤ a.getD i 0) ∧ useP p a a.length ≤ capP p
instance (p : R23) (a : List Int) : Decidable (Fit p a) := inferInstanceAs (Decidable (_ ∧ _ ∧ _))
theorem useP_mono {p : R23} (h : Vp p) {a : List Int} (hl : a.length = p.Lq.length) (h0 : ∀ i,i < a.length → 0 ≤ a.getD i 0) {m : Nat} (hm : m ≤ a.length) : useP p a m ≤ useP p a a.length :=
  sumN_mono (fun i hi => Int.mul_nonneg (h0 i hi) (by have := (h.sz (hl ▸ hi)).1; have := h.k1; omega)) hm
theorem m48_val {n : Nat} {p : R23} {a : List Int} (ha : a.length ≤ 25) (hn : 30 < n) :
    m48 n p a = some (if vP p = true ∧ Fit p a then (capP p - useP p a a.length,true) else (0,false)) := by
  unfold m48
  rw [mkP,m21_val (by omega),oB]
  by_cases hv : vP p = true
  · have h := vP_iff.1 hv
    have := h.s1; have := h.s2; have := h.k1; have := h.k2
    by_cases hl : a.length = p.Lq.length
    · rw [if_neg (by simp [hv,hl]),letM_eq,wrap64 (by omega) (by omega)]
      unfold jn
      have e0 : ((p.Sq + p.Kq,(0 : Int)) : Int × Int) = (capP p - useP p a 0,((0 : Nat) : Int)) := by simp [capP,useP,sumN]
      rw [e0]
      refine loopM_ind (fun m x => ∃ i : Nat,i ≤ a.length ∧ x = (capP p - useP p a i,(i : Int)) ∧ m = a.length - i ∧ (∀ j,j < i → 0 ≤ a.getD j 0) ∧ 0 ≤ useP p a i ∧ useP p a i ≤ capP p)
        (fun o => o = some (if vP p = true ∧ Fit p a then (capP p - useP p a a.length,true) else (0,false))) ?_ n a.length _ ⟨0,by omega,rfl,rfl,fun j hj => absurd hj (Nat.not_lt_zero _),by simp [useP,sumN],by simp [useP,sumN,capP]; omega⟩ (by omega)
      rintro m x ⟨i,hi,rfl,rfl,h0,hu0,hu⟩
      have hc : capP p ≤ 2100 := by unfold capP; omega
      rcases Nat.lt_or_ge i a.length with h1 | h1
      · have hil : i < p.Lq.length := by omega
        have hsz := h.sz hil
        have hus : useP p a (i + 1) = useP p a i + a.getD i 0 * szP p i := rfl
        by_cases hneg : a.getD i 0 < 0
        · refine .inr ⟨_,rfl,fun nx => ?_⟩
          rw [m48_L1,if_pos (by simp; omega),getIdx_D rfl h1,oB,decide_eq_true hneg,Bool.not_true,gdO_false,oB]
          unfold asrtG
          rw [if_neg (by simp),if_pos (by simp),if_neg]
          rintro ⟨_,_,h2,_⟩
          have := h2 i h1
          omega
        · have hd : (capP p - useP p a i).tdiv (szP p i) = (capP p - useP p a i) / szP p i := Int.tdiv_eq_ediv_of_nonneg (by omega)
          have hd0 : 0 ≤ (capP p - useP p a i) / szP p i := Int.ediv_nonneg (by omega) (by omega)
          have hd1 : (capP p - useP p a i) / szP p i ≤ capP p - useP p a i := Int.ediv_le_self _ (by omega)
          have hlt : (capP p - useP p a i) / szP p i < a.getD i 0 ↔ capP p - useP p a i < a.getD i 0 * szP p i := Int.ediv_lt_iff_lt_mul (by omega)
          have hpn : 0 ≤ a.getD i 0 * szP p i := Int.mul_nonneg (by omega) (by omega)
          by_cases hbig : capP p - useP p a i < a.getD i 0 * szP p i
          · refine .inr ⟨_,rfl,fun nx => ?_⟩
            rw [m48_L1,if_pos (by simp; omega),getIdx_D rfl h1,oB,decide_eq_false hneg,Bool.not_false,gdO_true,mkP,m47_val h rfl hil,oB]
            unfold asrtG asrt
            rw [if_pos rfl,if_pos (by omega),hd,wrap64 (by omega) (by omega),decide_eq_true (hlt.2 hbig),if_pos (by simp),if_neg]
            rintro ⟨_,_,h2,h3⟩
            have := useP_mono h hl h2 (show i + 1 ≤ a.length by omega)
            omega
          · refine .inl ⟨a.length - (i + 1),(capP p - useP p a (i + 1),((i + 1 : Nat) : Int)),by omega,⟨i + 1,h1,rfl,rfl,fun j hj => ?_,by omega,by omega⟩,fun nx => ?_⟩
            · rcases Nat.lt_or_ge j i with h2 | h2
              · exact h0 j h2
              · have : j = i := by omega
                subst this; omega
            · rw [m48_L1,if_pos (by simp; omega),getIdx_D rfl h1,oB,decide_eq_false hneg,Bool.not_false,gdO_true,mkP,m47_val h rfl hil,oB]
              unfold asrtG asrt
              rw [if_pos rfl,if_pos (by omega),hd,wrap64 (by omega) (by omega),decide_eq_false (fun h2 => hbig (hlt.1 h2)),if_neg (by simp),oB,letM_eq,wrap64 (x := a.getD i 0 * szP p i) (by omega) (by omega),wrap64 (by omega) (by omega),letM_eq,wrap64 (by omega) (by omega),hus]
              congr 2
              omega
      · have : i = a.length := by omega
        subst this
        refine .inr ⟨_,rfl,fun nx => ?_⟩
        rw [m48_L1,if_neg (by simp),if_pos ⟨hv,hl,h0,hu⟩]
    · rw [if_pos (by simp [hv]; omega),if_neg (fun h2 => hl h2.2.1)]
  · have hv' : vP p = false := by simpa using hv
    rw [if_pos (by simp [hv']),if_neg (fun h2 => hv h2.1)]
theorem m49_val {n : Nat} {p : R23} (h : Vp p) {a : List Int} (hl : a.length = p.Lq.length) (hb : ∀ i,i < a.length → 0 ≤ a.getD i 0 ∧ a.getD i 0 ≤ 2000) (hn : 30 < n) : m49 n p a = some (useP p a a.length) := by
  have := h.l2
  have hg : ∀ i,i < a.length → 0 ≤ a.getD i 0 * szP p i ∧ a.getD i 0 * szP p i ≤ 2000 * 2100 := fun i hi => by
    have := h.sz (hl ▸ hi)
    have := h.k1
    exact mulB (hb i hi).1 (hb i hi).2 (by omega) (by omega)
  unfold m49 jn
  refine (loop_fold (fun i s => ((s,(i : Int)) : Int × Int)) a.length (fun i s => s + a.getD i 0 * szP p i) (fun i s => s = useP p a i) (fun s => some s) (fun i s hi hs => ?_) (fun s hs nx => ?_) (s0 := 0) rfl (by omega)).trans ?_
  · subst hs
    refine ⟨rfl,fun nx => ?_⟩
    have h1 := sumN_bd (g := fun i => a.getD i 0 * szP p i) (B := 2000 * 2100) (k := i) fun j hj => hg j (by omega)
    have h2 := hg i hi
    have h3 := h.sz (hl ▸ hi)
    have hk := h.k1
    unfold szP at h3
    have hu : useP p a i = sumN (fun i => a.getD i 0 * szP p i) i := rfl
    have hi25 : (i : Int) ≤ 20 := by omega
    rw [← hu] at h1
    rw [m49_L1,if_pos (by simp; omega),getIdx_D rfl hi,oB,getIdx_D rfl (hl ▸ hi),oB,letM_eq]
    rw [wrap64 (x := p.Lq.getD i 0 + p.Kq) (by omega) (by omega)]
    have e1 : p.Lq.getD i 0 + p.Kq = szP p i := rfl
    rw [e1,wrap64 (x := a.getD i 0 * szP p i) (by omega) (by omega),wrap64 (by omega) (by omega),letM_eq,wrap64 (by omega) (by omega)]
    rfl
  · rw [m49_L1,if_neg (by simp; omega)]
  · rw [show foldN (fun i s => s + a.getD i 0 * szP p i) a.length 0 = useP p a a.length from sumN_fold _]
end Go.AB

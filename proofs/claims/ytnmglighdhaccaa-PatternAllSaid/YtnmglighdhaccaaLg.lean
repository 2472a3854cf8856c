import Derived.Test.YtnmglighdhaccaaLf
set_option linter.unusedVariables false
namespace Go.AB
open Go

theorem loop_foldB {σ R S τ : Type} {B : (τ → Option R) → (σ → Option R) → σ → Option R} {K : τ → Option R} (enc : Nat → S → σ) (len : Nat) (f : Nat → S → S) (I : Nat → S → Prop) (out : S → τ)
    (step : ∀ i s, i < len → I i s → I (i + 1) (f i s) ∧ ∀ nx, B K nx (enc i s) = nx (enc (i + 1) (f i s)))
    (fin : ∀ s, I len s → ∀ nx, B K nx (enc len s) = K (out s)) {n : Nat} {s0 : S} (h0 : I 0 s0) (hn : len < n) : loopM (B K) n (enc 0 s0) = K (out (foldN f len s0)) :=
  loop_fold enc len f I (fun s => K (out s)) step fin h0 hn
theorem m34_refl {n : Nat} {a : List Int} (hl : a.length ≤ 1000000) (hn : a.length < n) : m34 n a a = some true := by
  unfold m34
  rw [if_neg (by simp)]
  unfold jn
  refine (loop_all (fun i => (i : Int)) a.length (fun _ => true) (some false) (some true) ?_ (fun i _ h => by cases h) ?_ hn).trans (if_pos fun _ _ => rfl)
  · intro i hi _ nx
    rw [m34_L1, if_pos (by simp; omega), getIdx_D rfl hi, Option.bind_some, Option.bind_some, if_neg (by simp), letM_eq, wrap64 (by omega) (by omega)]
    rfl
  · intro nx
    rw [m34_L1, if_neg (by simp)]
theorem m20_refl {n : Nat} {a : List (List Int)} (hl : a.length ≤ 1000000) (hn : a.length < n) (hb : ∀ x, x ∈ a → x.length ≤ 25) (hn2 : 30 < n) : m20 n a a = some true := by
  unfold m20
  rw [if_neg (by simp)]
  unfold jn
  refine (loop_all (fun i => (i : Int)) a.length (fun _ => true) (some false) (some true) ?_ (fun i _ h => by cases h) ?_ hn).trans (if_pos fun _ _ => rfl)
  · intro i hi _ nx
    have := hb _ (List.getElem_mem hi)
    rw [m20_L1, if_pos (by simp; omega), getIdx_at rfl hi, Option.bind_some, Option.bind_some, m34_refl (by omega) (by omega), Option.bind_some, if_neg (by simp), letM_eq, wrap64 (by omega) (by omega)]
    rfl
  · intro nx
    rw [m20_L1, if_neg (by simp)]
theorem m11_tot {n : Nat} {p : R23} (hn : 30 < n) : ∃ b, m11 n p = some b := by
  unfold m11
  by_cases h0 : ((decide ((25 : Int) < (p.Lengths.length : Int))) || (decide ((25 : Int) < (p.Demand.length : Int)))) = true
  · rw [if_pos h0]; exact ⟨_, rfl⟩
  · rw [if_neg h0, mkP, m12_val (by omega), Option.bind_some]
    by_cases hv : vP p = true
    · have h := vP_iff.1 hv
      have := h.l1; have := h.l2; have := h.dl
      rw [if_neg (by simp [hv])]
      unfold jn
      have hlast := h.li (p.Lengths.length - 1) (by omega)
      have hs := h.s2
      refine ⟨if (∀ i, i < p.Demand.length → decide (p.Demand.getD i 0 ≤ 30) = true) then ((decide ((p.Lengths.length : Int) ≤ (6 : Int))) && (decide (p.Stock ≤ (IntKind.wrap .i64 ((12 : Int) * (if (decide ((p.Lengths.length : Int) ≤ (6 : Int))) = true then p.Lengths.getD (p.Lengths.length - 1) 0 else 0)))))) else false, (loop_all (fun i => (i : Int)) p.Demand.length (fun i => decide (p.Demand.getD i 0 ≤ 30)) (some false)
        (some ((decide ((p.Lengths.length : Int) ≤ (6 : Int))) && (decide (p.Stock ≤ (IntKind.wrap .i64 ((12 : Int) * (if (decide ((p.Lengths.length : Int) ≤ (6 : Int))) = true then p.Lengths.getD (p.Lengths.length - 1) 0 else 0))))))) ?_ ?_ ?_ (by omega)).trans ?_⟩
      · intro i hi hp nx
        have hp := of_decide_eq_true hp
        rw [m11_L1, if_pos (by simp; omega), getIdx_D rfl hi, Option.bind_some, if_neg (by rw [decide_eq_false (by omega)]; simp), letM_eq, wrap64 (by omega) (by omega)]
        rfl
      · intro i hi hp nx
        have hp := of_decide_eq_false hp
        rw [m11_L1, if_pos (by simp; omega), getIdx_D rfl hi, Option.bind_some, if_pos (by rw [decide_eq_true (by omega)])]
      · intro nx
        rw [m11_L1, if_neg (by simp)]
        rw [gdO_if (v := p.Lengths.getD (p.Lengths.length - 1) 0) (fun _ => by rw [wrap64 (by omega) (by omega)]; exact getIdx_D (by omega) (by omega)), Option.bind_some]
      · exact (apply_ite some _ _ _).symm
    · exact ⟨true, by rw [if_pos (by simp at hv; simp [hv])]⟩

/-! the problem without Kerf -/
def noK (p : R23) : R23 := ⟨(List.range p.Lengths.length).map fun i => p.Lengths.getD i 0 + p.Kerf, p.Demand, capP p, 0⟩
theorem noK_len {p : R23} : (noK p).Lengths.length = p.Lengths.length := by simp [noK]
theorem noK_at {p : R23} {i : Nat} (hi : i < p.Lengths.length) : (noK p).Lengths.getD i 0 = p.Lengths.getD i 0 + p.Kerf := by
  rw [← getD_at (by rw [noK_len]; exact hi)]
  simp [noK]
theorem noK_sz {p : R23} {i : Nat} (hi : i < p.Lengths.length) : szP (noK p) i = szP p i := by
  unfold szP
  rw [noK_at hi]
  show p.Lengths.getD i 0 + p.Kerf + 0 = _
  omega
theorem noK_dem {p : R23} {i : Nat} : demP (noK p) i = demP p i := rfl
theorem noK_cap {p : R23} : capP (noK p) = capP p := by show capP p + 0 = capP p; omega
theorem noK_v {p : R23} (h : Vp p) : vP (noK p) = true ↔ capP p ≤ 2000 := by
  rw [vP_iff]
  constructor
  · exact fun hq => hq.s2
  · intro hc
    have h1 := h.l1; have h2 := h.l2; have h3 := h.dl; have h4 := h.s1; have h6 := h.k1
    refine ⟨by rw [noK_len]; exact h1, by rw [noK_len]; exact h2, by rw [noK_len]; exact h3, h.cap.1, hc, Int.le_refl _, by show (0 : Int) ≤ 100; omega, fun i hi => ?_⟩
    rw [noK_len] at hi
    have hl := h.li i hi
    rw [noK_at hi]
    refine ⟨by omega, by show _ ≤ capP p; unfold capP; omega, fun h0 => ?_, hl.2.2.2⟩
    rw [noK_at (by omega)]
    have := hl.2.2.1 h0
    omega
theorem ext_congr {p q : R23} {must : Int} {len : Nat} (hs : ∀ i, i < len → szP p i = szP q i) (hd : ∀ i, i < len → demP p i = demP q i) : ∀ (m i : Nat) (left : Int), i + m ≤ len → ext p must m i left = ext q must m i left
  | 0, _, _, _ => rfl
  | m + 1, i, left, h => by
    have e1 := hs i (by omega)
    have e2 := hd i (by omega)
    rw [ext, ext]
    have e3 : topK p i left = topK q i left := by unfold topK; rw [e1, e2]
    rw [e3]
    congr 1
    funext k
    rw [e1, ext_congr hs hd m (i + 1) _ (by omega)]
theorem okE_congr {p q : R23} {len : Nat} (hs : ∀ i, i < len → szP p i = szP q i) (hd : ∀ i, i < len → demP p i = demP q i) : ∀ (s : List Int) (i : Nat) (left need : Int), i + s.length ≤ len → okE p i left need s = okE q i left need s
  | [], _, _, _, _ => rfl
  | k :: s, i, left, need, h => by
    simp only [List.length_cons] at h
    have e1 := hs i (by omega)
    have e2 := hd i (by omega)
    show okE p (i + 1) (left - k * szP p i) (if k < demP p i then min need (szP p i) else need) s = okE q (i + 1) (left - k * szP q i) (if k < demP q i then min need (szP q i) else need) s
    rw [e1, e2]
    exact okE_congr hs hd s (i + 1) _ _ (by omega)
theorem maxL_noK {p : R23} (must : Int) : maxL (noK p) must = maxL p must := by
  unfold maxL
  rw [noK_len, noK_cap, ext_congr (len := p.Lengths.length) (fun i hi => noK_sz hi) (fun i _ => noK_dem) _ _ _ (by omega)]
  congr 1
  refine List.filter_congr fun s hs => ?_
  exact okE_congr (len := p.Lengths.length) (fun i hi => noK_sz hi) (fun i _ => noK_dem) s 0 _ _ (by rw [ext_len hs]; omega)
theorem allR_noK {p : R23} (must : Int) : allR (noK p) must = allR p must := by unfold allR; rw [maxL_noK]
theorem useP_noK {p : R23} (a : List Int) : ∀ m, m ≤ p.Lengths.length → useP (noK p) a m = useP p a m := fun m hm => sumN_congr fun i hi => by rw [noK_sz (by omega)]
theorem matP_noK {p : R23} (h : Vp p) : matP (noK p) = matP p := by
  unfold matP
  rw [noK_cap, show (noK p).Demand = p.Demand from rfl, useP_noK _ _ (by rw [h.dl]; omega)]
theorem maxL_len {p : R23} {must : Int} {a : List Int} (h : a ∈ maxL p must) : a.length = p.Lengths.length := by
  unfold maxL at h
  exact ext_len (List.mem_filter.1 (List.mem_filter.1 h).1).1
theorem allR_small {p : R23} (h : Vp p) (must : Int) : (allR p must).1.length ≤ 300 ∧ ∀ x, x ∈ (allR p must).1 → x.length ≤ 25 := by
  unfold allR
  split
  · rename_i h1
    refine ⟨h1, fun x hx => ?_⟩
    rw [maxL_len hx]
    have := h.l2
    omega
  · simp
theorem foldN_snoc {g : Nat → Int} : ∀ k, foldN (fun i (l : List Int) => l ++ [g i]) k [] = (List.range k).map g
  | 0 => rfl
  | k + 1 => by rw [foldN, foldN_snoc k, List.range_succ]; simp
theorem m5_gen {n : Nat} (p : R23) (at_ : Int) (h10 : m10 n = some true) (hn : 1100 < n) (ha : 0 ≤ at_ ∧ at_ ≤ 255) : m5 n p at_ = some true := by
  unfold m5
  obtain ⟨b, hb⟩ := m11_tot (p := p) (show 30 < n by omega)
  rw [h10, Option.bind_some, mkP, hb]
  cases b with
  | false => simp [gdO]
  | true =>
    simp only [Bool.not_true, Bool.not_false, gdO_true, Option.bind_some, Bool.or_self]
    rw [m12_val (by omega), Option.bind_some]
    by_cases hv : vP p = true
    · have h := vP_iff.1 hv
      have hc := h.cap
      have hl1 := h.l1; have hl2 := h.l2; have hk1 := h.k1; have hs2 := h.s2; have hk2 := h.k2
      rw [if_neg (by simp [hv]), letM_eq, show p.Stock + p.Kerf = capP p from rfl, wrap64 (by omega) (by omega)]
      unfold jn
      refine (loop_foldB (B := m5_L1 n p) (fun i s => (((i : Int), s) : Int × List Int)) p.Lengths.length (fun i s => s ++ [p.Lengths.getD i 0 + p.Kerf]) (fun i s => s.length = i) (fun s => s) (fun i s hi hs => ?_) (fun s hs nx => ?_) (s0 := []) rfl (by omega)).trans ?_
      rotate_left 1
      · rw [m5_L1, if_neg (by simp)]
      · rw [foldN_snoc]
        have eq : R23.mk ((List.range p.Lengths.length).map fun i => p.Lengths.getD i 0 + p.Kerf) p.Demand (capP p) 0 = noK p := rfl
        rw [eq, m21_val (by omega), Option.bind_some]
        by_cases hq : vP (noK p) = true
        · rw [if_neg (by simp [hq])]
          unfold asrt
          have hmod : (IntKind.wrap .i64 at_).tmod (p.Lengths.length : Int) = ((at_.toNat % p.Lengths.length : Nat) : Int) := by
            rw [wrap64 (by omega) (by omega)]
            obtain ⟨k, rfl⟩ := Int.eq_ofNat_of_zero_le ha.1
            exact tmod_nat k p.Lengths.length
          have hlt : at_.toNat % p.Lengths.length < p.Lengths.length := Nat.mod_lt _ (by omega)
          rw [if_pos (by omega), letM_eq, hmod, m13_val hn, m13_val hn, m18_val hn, m18_val hn, m22_val (by omega), m22_val (by omega), if_pos hv, if_pos hq, if_pos hv, if_pos hq, if_pos hv, if_pos hq, noK_len, if_pos (by omega), if_pos (by omega), allR_noK, allR_noK, matP_noK h]
          have s1 := allR_small h (-1)
          have s2 := allR_small h ((at_.toNat % p.Lengths.length : Nat) : Int)
          simp only [Option.bind_some]
          rw [m20_refl (by omega) (by omega) s1.2 (by omega), m20_refl (by omega) (by omega) s2.2 (by omega)]
          simp [gdO, letM]
        · rw [if_pos (by simp at hq; simp [hq])]
          congr 1
          rw [decide_eq_true_eq]
          have := mt (noK_v h).2 hq
          omega
      · refine ⟨by simp [hs], fun nx => ?_⟩
        have hl := h.li i hi
        rw [m5_L1, if_pos (by simp; omega)]
        dsimp only
        rw [getIdx_D rfl hi, Option.bind_some, wrap64 (x := p.Lengths.getD i 0 + p.Kerf) (by omega) (by omega), apd_val (by simp [hs]; omega), Option.bind_some, letM_eq, wrap64 (by omega) (by omega)]
        rfl
    · rw [if_pos (by simp at hv; simp [hv])]
theorem m5_true (p : R23) (at_ : Int) (hc : (Lit.int .u8 at_).wf = true) : m5 3000 p at_ = some true := by
  have : 0 ≤ at_ ∧ at_ ≤ 255 := by
    simp [Lit.wf, IntKind.min, IntKind.max, IntKind.signed, IntKind.bits] at hc
    omega
  exact m5_gen p at_ m10_3 (by decide) this
end Go.AB

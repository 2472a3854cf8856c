import Derived.Test.YtnmglighdhaccaaLe
set_option linter.unusedVariables false
namespace Go.AB
open Go
theorem latS_at {p : R23} {i : Nat} (hi : i < p.Lq.length) : latS p i (p.Lq.length - i) = latS p (i + 1) (p.Lq.length - (i + 1)) + demP p i * szP p i := by
  rw [show p.Lq.length - i = (p.Lq.length - (i + 1)) + 1 from by omega,latS]
theorem m63_val {n : Nat} {p : R23} (h : Vp p) (a1 : Int) (hn : 30 < n) : ∃ l,m63 n p a1 = some l ∧ l.length = p.Lq.length + 1 ∧ ∀ i,i ≤ p.Lq.length → l.getD i 0 = latS p i (p.Lq.length - i) := by
  have hl1 := h.l1; have hl2 := h.l2; have hdl := h.dl
  unfold m63
  rw [mk_val (k := p.Lq.length + 1) (by rw [wrap64 (by omega) (by omega)]; omega) (by rw [wrap64 (by omega) (by omega)]; omega) (by omega),oB,letM_eq,wrap64 (by omega) (by omega)]
  unfold jn
  refine loopM_ind (fun m x => ∃ (k : Nat) (l : List Int),x = ((k : Int) - 1,l) ∧ m = k ∧ k ≤ p.Lq.length ∧ l.length = p.Lq.length + 1 ∧ ∀ i,k ≤ i → i ≤ p.Lq.length → l.getD i 0 = latS p i (p.Lq.length - i))
    (fun o => ∃ l : List Int,o = some l ∧ l.length = p.Lq.length + 1 ∧ ∀ i,i ≤ p.Lq.length → l.getD i 0 = latS p i (p.Lq.length - i)) ?_ n p.Lq.length _ ⟨p.Lq.length,List.replicate (p.Lq.length + 1) 0,rfl,rfl,Nat.le_refl _,by simp,fun i h1 h2 => ?_⟩ (by omega)
  · rintro m x ⟨k,l,rfl,rfl,hk,hll,hl⟩
    rcases Nat.eq_zero_or_pos m with h0 | h0
    · subst h0
      refine .inr ⟨some l,⟨l,rfl,hll,fun i hi => hl i (by omega) hi⟩,fun nx => ?_⟩
      rw [m63_L1,if_neg (by simp)]
    · have hkl : m - 1 < p.Lq.length := by omega
      have hd := h.dem hkl
      have hz := h.sz hkl
      have hk1 := h.k1
      have hb := latS_bd h (m := p.Lq.length - m) (i := m) (by omega)
      have hm := mulB hd.1 hd.2 (show 0 ≤ szP p (m - 1) by omega) hz.2
      have e1 : ((m : Int) - 1) = ((m - 1 : Nat) : Int) := by omega
      refine .inl ⟨m - 1,(((m - 1 : Nat) : Int) - 1,l.set (m - 1) (latS p (m - 1) (p.Lq.length - (m - 1)))),by omega,⟨m - 1,_,rfl,rfl,by omega,by simp [hll],fun i h1 h2 => ?_⟩,fun nx => ?_⟩
      · by_cases e : i = m - 1
        · subst e
          rw [← getD_at (by rw [List.length_set]; omega)]
          simp
        · have := hl i (by omega) h2
          rw [← getD_at (by omega)] at this
          rw [← getD_at (by rw [List.length_set]; omega),List.getElem_set_ne (by omega)]
          exact this
      · have ed : p.Dq.getD (m - 1) 0 = demP p (m - 1) := rfl
        have el := hl m (Nat.le_refl _) hk
        have es := latS_at hkl
        rw [show m - 1 + 1 = m from by omega] at es
        rw [m63_L1,if_pos (by simp; omega)]
        dsimp only
        rw [getIdx_D (k := m) (by rw [wrap64 (by omega) (by omega)]; omega) (by omega),oB,getIdx_D (k := m - 1) e1 (by omega),oB,mkP,m47_val h (k := m - 1) e1 hkl,oB,getIdx_at (k := m - 1) e1 (by omega),oB,setIdx_at (k := m - 1) e1 (by omega),oB,letM_eq,ed,el]
        rw [wrap64 (x := demP p (m - 1) * szP p (m - 1)) (by omega) (by omega),wrap64 (x := latS p m (p.Lq.length - m) + demP p (m - 1) * szP p (m - 1)) (by omega) (by omega),wrap64 (x := (m : Int) - 1 - 1) (by omega) (by omega),← es,e1]
  · have : i = p.Lq.length := by omega
    subst this
    rw [← getD_at (by simp)]
    simp [latS]
def maxL (p : R23) (must : Int) : List (List Int) := ((ext p must p.Lq.length 0 (capP p)).filter (okE p 0 (capP p) (capP p + 1))).filter posL
theorem Vp.cap {p : R23} (h : Vp p) : 1 ≤ capP p ∧ capP p ≤ 2100 := by
  have := h.s1; have := h.s2; have := h.k1; have := h.k2
  unfold capP; omega
theorem m72_val {n : Nat} {p : R23} (h : Vp p) {must : Int} {later : List Int} (hlat : ∀ i,i ≤ p.Lq.length → later.getD i 0 = latS p i (p.Lq.length - i)) (hll : later.length = p.Lq.length + 1) (hn : 1100 < n) :
    m72 n (p.Lq.length : Int) later must p.Lq p.Dq p.Sq p.Kq = some (maxL p must) := by
  have hc := h.cap
  have hl2 := h.l2
  have e1 : p.Sq + p.Kq = capP p := rfl
  unfold m72 m72Y
  rw [mk_val (k := p.Lq.length) rfl rfl (by omega),oB,e1,wrap64 (x := capP p) (by omega) (by omega),wrap64 (x := capP p + 1) (by omega) (by omega)]
  have key := m73F_val h (must := must) hlat hll hn p.Lq.length n 0 (capP p) (capP p + 1) [] (by omega) (by omega) rfl (by omega) (by omega) (by omega) (by omega)
  rw [List.nil_append] at key
  have e0 : ((0 : Nat) : Int) = 0 := rfl
  rw [e0] at key
  unfold m73
  rw [key]
  unfold yldsM
  rw [oB,Option.map_some,Option.map_some]
  simp [maxL]
theorem range45 {n : Nat} {K : Int × List (List Int) → Option (List (List Int) × Int)} (hK : ∀ out,K (0,out) = some (out,0)) : ∀ (xs out : List (List Int)),out.length ≤ 300 →
    rangeL (m45_R1 n fun q => some ([],q.1)) xs K (0,out) = some (if out.length + xs.length ≤ 300 then (out ++ xs,0) else ([],9))
  | [],out,h => by
    rw [rangeL,hK,if_pos (by simp; omega)]; simp
  | x :: xs,out,h => by
    rw [rangeL,m45_R1]
    by_cases h1 : (out.length : Int) = 300
    · rw [if_pos (decide_eq_true h1),if_neg (by simp; omega)]
    · rw [if_neg (by simpa using h1),apd_val (by simp; omega),oB]
      dsimp only
      rw [range45 hK xs (out ++ [x]) (by simp; omega)]
      simp only [List.length_append,List.length_cons,List.length_nil,List.append_assoc,List.singleton_append]
      rw [show out.length + (0 + 1) + xs.length = out.length + (xs.length + 1) from by omega]
def allR (p : R23) (must : Int) : List (List Int) × Int := if (maxL p must).length ≤ 300 then (maxL p must,0) else ([],9)
theorem m45_val {n : Nat} {p : R23} (h : Vp p) (must : Int) (hn : 1100 < n) : m45 n p must = some (allR p must) := by
  unfold m45
  obtain ⟨l,e1,hl1,hl2⟩ := m63_val h must (show 30 < n by omega)
  rw [mkP,e1,oB,letM_eq,letM_eq,letM_eq,letM_eq,letM_eq,m72_val h hl2 hl1 hn,oB]
  unfold jn
  dsimp only
  rw [range45 (fun out => rfl) _ [] (by simp)]
  simp [allR]
theorem m13_val {n : Nat} {p : R23} (hn : 1100 < n) : m13 n p = some (if vP p = true then allR p (-1) else ([],1)) := by
  unfold m13
  rw [mkP,m21_val (by omega),oB]
  by_cases hv : vP p = true
  · rw [if_neg (by simp [hv]),m45_val (vP_iff.1 hv) _ hn,oB,if_pos hv]
  · rw [if_pos (by simp at hv; simp [hv]),if_neg hv]
end Go.AB

import Derived.Test.YtnmglighdhaccaaLh
set_option linter.unusedVariables false
namespace Go.AB
open Go

theorem m16_val {n : Nat} {a b : List Int} (hl : b.length ≤ a.length) (hb : b.length ≤ 25) (hn : 30 < n) : m16 n a b = some (decide (∀ i, i < b.length → decide (b.getD i 0 ≤ a.getD i 0) = true)) := by
  unfold m16 jn
  refine (loop_all (fun i => (i : Int)) b.length (fun i => decide (b.getD i 0 ≤ a.getD i 0)) (some false) (some true) ?_ ?_ ?_ (by omega)).trans ?_
  · intro i hi hp nx
    have hp := of_decide_eq_true hp
    rw [m16_L1, if_pos (by simp; omega), getIdx_D rfl (by omega), Option.bind_some, getIdx_D rfl hi, Option.bind_some, if_neg (by rw [decide_eq_false (by omega)]; simp), letM_eq, wrap64 (by omega) (by omega)]
    rfl
  · intro i hi hp nx
    have hp := of_decide_eq_false hp
    rw [m16_L1, if_pos (by simp; omega), getIdx_D rfl (by omega), Option.bind_some, getIdx_D rfl hi, Option.bind_some, if_pos (by rw [decide_eq_true (by omega)])]
  · intro nx
    rw [m16_L1, if_neg (by simp)]
  · by_cases hq : ∀ i, i < b.length → decide (b.getD i 0 ≤ a.getD i 0) = true
    · rw [if_pos hq, decide_eq_true hq]
    · rw [if_neg hq, decide_eq_false hq]
instance (a b : List Int) : Decidable (Holds a b) := inferInstanceAs (Decidable (∀ i, i < b.length → _))
theorem m16_eq {n : Nat} {a b : List Int} (hl : b.length ≤ a.length) (hb : b.length ≤ 25) (hn : 30 < n) : m16 n a b = some (decide (Holds a b)) := by
  rw [m16_val hl hb hn]
  congr 1
  apply decide_eq_decide.2
  unfold Holds
  simp only [decide_eq_true_eq]
theorem m15_desc {n : Nat} {a b : List Int} (h : Desc a b) (ha : a.length ≤ 25) (hn : 30 < n) : m15 n a b = some true := by
  obtain ⟨k, h1, h2, h3, h4⟩ := h
  unfold m15 jn
  refine loopM_ind (fun m x => ∃ i : Nat, i ≤ k ∧ x = (i : Int) ∧ m = k - i) (fun o => o = some true) ?_ n k _ ⟨0, by omega, rfl, rfl⟩ (by omega)
  rintro m x ⟨i, hi, rfl, rfl⟩
  have h5 : getIdx a (i : Int) = some (a.getD i 0) := getIdx_D rfl (by omega)
  have h6 : getIdx b (i : Int) = some (b.getD i 0) := getIdx_D rfl (by omega)
  by_cases e : i = k
  · subst e
    refine .inr ⟨_, rfl, fun nx => ?_⟩
    rw [m15_L1, if_pos (by simp; omega), h5, Option.bind_some, h6, Option.bind_some, if_pos (by rw [decide_eq_false (by omega)]; rfl), Option.bind_some, Option.bind_some, decide_eq_true (by omega)]
  · refine .inl ⟨k - (i + 1), ((i + 1 : Nat) : Int), by omega, ⟨i + 1, by omega, rfl, rfl⟩, fun nx => ?_⟩
    have := h3 i (by omega)
    rw [m15_L1, if_pos (by simp; omega), h5, Option.bind_some, h6, Option.bind_some, if_neg (by rw [decide_eq_true this]; simp), letM_eq, wrap64 (by omega) (by omega)]
    rfl
/-- the pattern that is drawn -/
structure Some (p : R23) (l : List Int) (i : Nat) (left : Int) (any : Bool) : Prop where
  len : l.length = p.Lengths.length
  lo : ∀ j, j < i → 0 ≤ l.getD j 0 ∧ l.getD j 0 ≤ demP p j
  hi : ∀ j, i ≤ j → l.getD j 0 = 0
  left_ : left = capP p - useP p l i
  l0 : 0 ≤ left
  l1 : left ≤ capP p
  an : any = true ↔ ∃ j, j < i ∧ 0 < l.getD j 0
theorem Some.prop {p : R23} (h : Vp p) {l : List Int} {left : Int} {any : Bool} (hs : Some p l p.Lengths.length left any) : Prop_ p l :=
  ⟨vP_iff.2 h, ⟨hs.len, fun i hi => (hs.lo i (hs.len ▸ hi)).1, by rw [hs.len]; have := hs.left_; have := hs.l0; omega⟩, fun i hi => (hs.lo i (hs.len ▸ hi)).2⟩
theorem getD_set {l : List Int} {i j : Nat} {v : Int} (hi : i < l.length) : (l.set i v).getD j 0 = if j = i then v else l.getD j 0 := by
  simp only [List.getD_eq_getElem?_getD, List.getElem?_set]
  by_cases e : i = j
  · subst e; rw [if_pos rfl, if_pos rfl, if_pos hi]; rfl
  · rw [if_neg e, if_neg (fun e2 => e e2.symm)]
theorem Some.step {p : R23} (h : Vp p) {l : List Int} {i : Nat} {left : Int} {any : Bool} (hs : Some p l i left any) (hi : i < p.Lengths.length) {v : Int} (h0 : 0 ≤ v) (h1 : v ≤ demP p i) (h2 : v * szP p i ≤ left) :
    Some p (l.set i v) (i + 1) (left - v * szP p i) (any || decide (0 < v)) := by
  obtain ⟨s1, s2, s3, s4, s5, s6, s7⟩ := hs
  have hg : ∀ j, (l.set i v).getD j 0 = if j = i then v else l.getD j 0 := fun j => getD_set (by omega)
  have hz := h.sz hi
  have hk := h.k1
  have hm := Int.mul_nonneg h0 (show 0 ≤ szP p i by omega)
  refine ⟨by rw [List.length_set]; exact s1, fun j hj => ?_, fun j hj => ?_, ?_, by omega, by omega, ?_⟩
  · rw [hg]; split
    · rename_i e; subst e; exact ⟨h0, h1⟩
    · exact s2 j (by omega)
  · rw [hg, if_neg (by omega)]; exact s3 j (by omega)
  · show _ = capP p - (sumN (fun i_1 => (l.set i v).getD i_1 0 * szP p i_1) i + (l.set i v).getD i 0 * szP p i)
    rw [hg, if_pos rfl, sumN_congr (g' := fun j => l.getD j 0 * szP p j) (fun j hj => by rw [hg, if_neg (by omega)])]
    have : useP p l i = sumN (fun j => l.getD j 0 * szP p j) i := rfl
    omega
  · rw [Bool.or_eq_true, decide_eq_true_eq, s7]
    constructor
    · rintro (⟨j, h3, h4⟩ | h3)
      · exact ⟨j, by omega, by rw [hg, if_neg (by omega)]; exact h4⟩
      · exact ⟨i, by omega, by rw [hg, if_pos rfl]; exact h3⟩
    · rintro ⟨j, h3, h4⟩
      rw [hg] at h4
      by_cases e : j = i
      · rw [if_pos e] at h4; exact .inr h4
      · rw [if_neg e] at h4; exact .inl ⟨j, by omega, h4⟩
theorem drop16 {l : List (List Int)} {x : List Int} {i : Nat} (hi : i < l.length) : getIdx l (i : Int) = some l[i] := getIdx_at rfl hi
theorem m3_gen {n : Nat} (p : R23) (a : List UInt8) (h10 : m10 n = some true) (hn : 1100 < n) : m3 n p a = some true := by
  unfold m3
  obtain ⟨b, hb⟩ := m11_tot (p := p) (show 30 < n by omega)
  rw [h10, Option.bind_some, mkP, hb]
  cases b with
  | false => simp [gdO]
  | true =>
    simp only [Bool.not_true, Bool.not_false, gdO_true, Option.bind_some, Bool.or_self]
    rw [m12_val (by omega), Option.bind_some]
    by_cases hv : vP p = true
    · have h := vP_iff.1 hv
      have hc := h.cap
      have hl1 := h.l1; have hl2 := h.l2; have hk1 := h.k1; have hs2 := h.s2; have hk2 := h.k2
      rw [if_neg (by simp [hv]), m13_val hn, if_pos hv, Option.bind_some]
      unfold allR
      by_cases hlim : (maxL p (-1)).length ≤ 300
      · rw [if_pos hlim]
        dsimp only
        rw [if_neg (by simp), mk_val (k := p.Lengths.length) rfl rfl (by omega), Option.bind_some, letM_eq, show p.Stock + p.Kerf = capP p from rfl, wrap64 (x := capP p) (by omega) (by omega)]
        unfold jn
        dsimp only
        have hmem : ∀ i (hi : i < (maxL p (-1)).length), (maxL p (-1))[i] ∈ maxL p (-1) := fun i hi => List.getElem_mem hi
        have hln : ∀ i (hi : i < (maxL p (-1)).length), ((maxL p (-1))[i]).length = p.Lengths.length := fun i hi => maxL_len (hmem i hi)
        refine loopM_ind (fun m x => ∃ (i : Nat) (l : List Int) (left : Int) (any : Bool), i ≤ p.Lengths.length ∧ m = p.Lengths.length - i ∧ x = (left, any, (i : Int), l) ∧ Some p l i left any) (fun o => o = some true) ?_ n p.Lengths.length _
          ⟨0, List.replicate p.Lengths.length 0, capP p, false, by omega, rfl, rfl, ⟨by simp, fun j hj => absurd hj (Nat.not_lt_zero _), fun j _ => by simp only [List.getD_eq_getElem?_getD, List.getElem?_replicate]; split <;> rfl, by simp [useP, sumN], by omega, by omega, by simp⟩⟩ (by omega)
        rintro m x ⟨i, l, left, any, hi, rfl, rfl, hs⟩
        have hsl := hs.len
        rcases Nat.lt_or_ge i p.Lengths.length with h1 | h1
        · have hz := h.sz h1
          have hd := h.dem h1
          have hs0 := hs.l0
          have hs1 := hs.l1
          have es : p.Lengths.getD i 0 + p.Kerf = szP p i := rfl
          -- the rest of a round
          have tail : ∀ (v : Int), 0 ≤ v → v ≤ demP p i → v * szP p i ≤ left → ∀ nx : (Int × Bool × Int × List Int) → Option Bool,
              ((getIdx (l.set i v) (i : Int)).bind fun y_46 => ((getIdx p.Lengths (i : Int)).bind fun y_47 => (letM ((IntKind.wrap .i64 (left - (IntKind.wrap .i64 (y_46 * (IntKind.wrap .i64 (y_47 + p.Kerf))))))) fun t8_48 => ((gdO (!any) (getIdx (l.set i v) (i : Int)) default).bind fun y_49 => (letM ((IntKind.wrap .i64 ((i : Int) + (1 : Int)))) fun t51_50 => (nx (t8_48, (any || (decide ((0 : Int) < y_49))), t51_50, (l.set i v)))))))) =
              nx (left - v * szP p i, any || decide (0 < v), ((i + 1 : Nat) : Int), l.set i v) := by
            intro v h3 h4 h5 nx
            have hg : getIdx (l.set i v) (i : Int) = some v := by
              rw [getIdx_D rfl (by rw [List.length_set]; omega), getD_set (by omega), if_pos rfl]
            have hm := Int.mul_nonneg h3 (show 0 ≤ szP p i by omega)
            rw [hg, Option.bind_some, getIdx_D rfl h1, Option.bind_some, letM_eq, es, wrap64 (x := szP p i) (by omega) (by omega), wrap64 (x := v * szP p i) (by omega) (by omega), wrap64 (x := left - v * szP p i) (by omega) (by omega)]
            cases any with
            | true => rw [Bool.not_true, gdO_false, Option.bind_some, letM_eq, wrap64 (by omega) (by omega)]; rfl
            | false => rw [Bool.not_false, gdO_true, Option.bind_some, letM_eq, wrap64 (by omega) (by omega)]; rfl
          by_cases hin : i < a.length
          · have hq0 : 0 ≤ left / szP p i := Int.ediv_nonneg hs0 (by omega)
            have hq1 : left / szP p i ≤ left := Int.ediv_le_self _ hs0
            have hqm : left / szP p i * szP p i ≤ left := Int.ediv_mul_le _ (by omega)
            have hb0 : (0 : Int) ≤ (a[i].toNat : Int) := by omega
            have hb1 : (a[i].toNat : Int) ≤ 255 := by have := a[i].toNat_lt; omega
            have hvv : min (min (demP p i) (a[i].toNat : Int)) (left / szP p i) * szP p i ≤ left := by
              have : min (min (demP p i) (a[i].toNat : Int)) (left / szP p i) * szP p i ≤ left / szP p i * szP p i := Int.mul_le_mul_of_nonneg_right (by omega) (by omega)
              omega
            refine .inl ⟨p.Lengths.length - (i + 1), _, by omega, ⟨i + 1, _, _, _, h1, rfl, rfl, hs.step h h1 (v := min (min (demP p i) (a[i].toNat : Int)) (left / szP p i)) (by omega) (by omega) hvv⟩, fun nx => ?_⟩
            rw [m3_L1, if_pos (by simp; omega)]
            unfold jn
            dsimp only
            rw [if_pos (by simp; omega), getIdx_at rfl hin, Option.bind_some, getIdx_D rfl (by rw [h.dl]; exact h1), Option.bind_some, getIdx_D rfl h1, Option.bind_some, es, wrap64 (x := szP p i) (by omega) (by omega)]
            unfold asrt
            rw [if_pos (by omega), getIdx_D rfl (by omega), Option.bind_some, Int.tdiv_eq_ediv_of_nonneg hs0, wrap64 (x := left / szP p i) (by omega) (by omega), wrap64 (x := (a[i].toNat : Int)) (by omega) (by omega)]
            have e9 : p.Demand.getD i 0 = demP p i := rfl
            rw [e9]
            have e10 : (if demP p i < (a[i].toNat : Int) then demP p i else (a[i].toNat : Int)) = min (demP p i) (a[i].toNat : Int) := by
              split <;> omega
            have e11 : (if left / szP p i < min (demP p i) (a[i].toNat : Int) then left / szP p i else min (demP p i) (a[i].toNat : Int)) = min (min (demP p i) (a[i].toNat : Int)) (left / szP p i) := by
              split <;> omega
            rw [e10, e11, setIdx_at rfl (by omega), Option.bind_some]
            have tl := tail _ (by omega) (by omega) hvv nx
            rw [getIdx_D rfl h1] at tl
            exact tl
          · have hl0 : l.getD i 0 = 0 := hs.hi i (Nat.le_refl _)
            have hset : l.set i 0 = l := by
              have : l[i]'(by omega) = 0 := by rw [getD_at (by omega)]; exact hl0
              rw [← this]; exact List.set_getElem_self _
            have hst := hs.step h h1 (v := 0) (Int.le_refl _) hd.1 (by omega)
            refine .inl ⟨p.Lengths.length - (i + 1), _, by omega, ⟨i + 1, _, _, _, h1, rfl, rfl, hst⟩, fun nx => ?_⟩
            rw [m3_L1, if_pos (by simp; omega)]
            unfold jn
            dsimp only
            rw [if_neg (by simp; omega)]
            have := tail 0 (Int.le_refl _) hd.1 (by omega) nx
            rw [hset] at this ⊢
            exact this
        · have hie : i = p.Lengths.length := by omega
          subst hie
          refine .inr ⟨_, rfl, fun nx => ?_⟩
          rw [m3_L1, if_neg (by simp [hsl])]
          have hpr := hs.prop h
          have han := hs.an
          -- the last loop
          have last : ∀ f : Bool, (any = false → f = true) → loopM (m3_L6 n (maxL p (-1), 0) (any, l) fun p_123 => some (decide ((0 : Int) = 0) && p_123)) n (f, (0 : Int)) = some true := by
            intro f hf
            have hcov : f = true ∨ ∃ j, ∃ hj : j < (maxL p (-1)).length, Holds (maxL p (-1))[j] l := by
              cases hany : any with
              | false => exact .inl (hf hany)
              | true =>
                obtain ⟨j, h3, h4⟩ := han.1 hany
                obtain ⟨x, hx, hh⟩ := covered h hpr ⟨j, by omega, h4⟩
                obtain ⟨q, hq, rfl⟩ := List.getElem_of_mem hx
                exact .inr ⟨q, hq, hh⟩
            refine loopM_ind (fun m x => ∃ (i : Nat) (g : Bool), i ≤ (maxL p (-1)).length ∧ m = (maxL p (-1)).length - i ∧ x = (g, (i : Int)) ∧ (g = true ∨ ∃ j, ∃ hj : j < (maxL p (-1)).length, i ≤ j ∧ Holds (maxL p (-1))[j] l)) (fun o => o = some true) ?_ n (maxL p (-1)).length _
              ⟨0, f, by omega, rfl, rfl, hcov.imp_right fun ⟨j, hj, hh⟩ => ⟨j, hj, Nat.zero_le _, hh⟩⟩ (by omega)
            rintro m x ⟨i, g, hi, rfl, rfl, hg⟩
            rcases Nat.lt_or_ge i (maxL p (-1)).length with h1 | h1
            · have e16 : m16 n (maxL p (-1))[i] l = some (decide (Holds (maxL p (-1))[i] l)) := m16_eq (by rw [hln i h1]; omega) (by omega) (by omega)
              refine .inl ⟨(maxL p (-1)).length - (i + 1), (g || decide (Holds (maxL p (-1))[i] l), ((i + 1 : Nat) : Int)), by omega, ⟨i + 1, _, h1, rfl, rfl, ?_⟩, fun nx => ?_⟩
              · rcases hg with hg | ⟨j, hj, hij, hh⟩
                · exact .inl (by rw [hg]; rfl)
                · by_cases e : i = j
                  · subst e; exact .inl (by rw [decide_eq_true hh]; simp)
                  · exact .inr ⟨j, hj, by omega, hh⟩
              · rw [m3_L6, if_pos (by simp; omega)]
                dsimp only
                cases g with
                | true => rw [Bool.not_true, gdO_false, Option.bind_some, gdO_false, Option.bind_some, letM_eq, wrap64 (by omega) (by omega)]; rfl
                | false => rw [Bool.not_false, gdO_true, getIdx_at rfl h1, Option.bind_some, gdO_true, e16, Option.bind_some, letM_eq, wrap64 (by omega) (by omega)]; rfl
            · refine .inr ⟨_, rfl, fun nx => ?_⟩
              rw [m3_L6, if_neg (by simp; omega)]
              rcases hg with hg | ⟨j, hj, hij, _⟩
              · simp [hg]
              · omega
          dsimp only
          refine loopM_ind (fun m x => ∃ (i : Nat) (g : Bool), i ≤ (maxL p (-1)).length ∧ m = (maxL p (-1)).length - i ∧ x = (g, (i : Int)) ∧ (any = false → g = true)) (fun o => o = some true) ?_ n (maxL p (-1)).length _
            ⟨0, !any, by omega, rfl, rfl, fun e => by rw [e]; rfl⟩ (by omega)
          rintro m x ⟨i, g, hi, rfl, rfl, hg⟩
          rcases Nat.lt_or_ge i (maxL p (-1)).length with h1 | h1
          · have hm1 := (mem_maxL h).1 (hmem i h1)
            have hl25 := hln i h1
            have e14 : m14 n p (maxL p (-1))[i] = some true := by
              rw [m14_val (by omega) (by omega), decide_eq_true hm1.1]
            have e16 : m16 n (maxL p (-1))[i] l = some (decide (Holds (maxL p (-1))[i] l)) := m16_eq (by rw [hl25]; omega) (by omega) (by omega)
            have inner : ∀ k : Unit → Option Bool, loopM (m3_L5 n (maxL p (-1), 0) (g, (i : Int)) (maxL p (-1))[i] k) n (0 : Int) = k () := by
              intro k
              refine loopM_ind (fun m x => ∃ q : Nat, q ≤ (maxL p (-1)).length ∧ m = (maxL p (-1)).length - q ∧ x = (q : Int)) (fun o => o = k ()) ?_ n (maxL p (-1)).length _ ⟨0, by omega, rfl, rfl⟩ (by omega)
              rintro m x ⟨q, hq, rfl, rfl⟩
              rcases Nat.lt_or_ge q (maxL p (-1)).length with h2 | h2
              · refine .inl ⟨(maxL p (-1)).length - (q + 1), ((q + 1 : Nat) : Int), by omega, ⟨q + 1, h2, rfl, rfl⟩, fun nx => ?_⟩
                rw [m3_L5, if_pos (by simp; omega)]
                dsimp only
                rw [getIdx_at rfl h2, Option.bind_some]
                by_cases e : i = q
                · subst e
                  rw [decide_eq_true rfl, Bool.not_true, gdO_false, Option.bind_some, Bool.false_and, if_neg (by simp), letM_eq, wrap64 (by omega) (by omega)]
                  rfl
                · have hnh : ¬ Holds (maxL p (-1))[i] (maxL p (-1))[q] := by
                    intro hh
                    have hm2 := (mem_maxL h).1 (hmem q h2)
                    have heq := not_holds h hm1.1 hm2.1 hm2.2.2.1 hh
                    have hpw := List.pairwise_iff_getElem.1 (maxL_pw (p := p) (must := -1))
                    rcases Nat.lt_or_gt_of_ne e with h3 | h3
                    · obtain ⟨j, h4, _, h5⟩ := desc_ne (hpw i q h1 h2 h3)
                      exact h5 (heq j (by omega))
                    · obtain ⟨j, h4, _, h5⟩ := desc_ne (hpw q i h2 h1 h3)
                      exact h5 (heq j (by have := hln q h2; omega)).symm
                  rw [decide_eq_false (by omega), Bool.not_false, gdO_true, m16_eq (by rw [hln q h2, hl25]; exact Nat.le_refl _) (by rw [hln q h2]; omega) (by omega), Option.bind_some, decide_eq_false hnh, if_neg (by simp), letM_eq, wrap64 (by omega) (by omega)]
                  rfl
              · refine .inr ⟨_, rfl, fun nx => ?_⟩
                rw [m3_L5, if_neg (by simp; omega)]
            have e15 : ∃ y, (gdO ((!(!true)) && (decide ((0 : Int) < (i : Int)))) (getIdx (maxL p (-1)) (IntKind.wrap .i64 ((i : Int) - (1 : Int)))) default) = some y ∧ ((gdO ((!(!true)) && (decide ((0 : Int) < (i : Int)))) (m15 n y (maxL p (-1))[i]) default) = some (decide (0 < i))) := by
              by_cases h0 : 0 < i
              · refine ⟨(maxL p (-1))[i - 1], ?_, ?_⟩
                · rw [decide_eq_true (show (0 : Int) < (i : Int) by omega), wrap64 (by omega) (by omega)]
                  exact getIdx_at (by omega) (by omega)
                · rw [decide_eq_true (show (0 : Int) < (i : Int) by omega), decide_eq_true h0]
                  have hpw := List.pairwise_iff_getElem.1 (maxL_pw (p := p) (must := -1)) (i - 1) i (by omega) h1 (by omega)
                  exact m15_desc hpw (by have := hln (i - 1) (by omega); omega) (by omega)
              · refine ⟨default, ?_, ?_⟩
                · rw [decide_eq_false (show ¬ (0 : Int) < (i : Int) by omega)]; rfl
                · rw [decide_eq_false (show ¬ (0 : Int) < (i : Int) by omega), decide_eq_false h0]; rfl
            obtain ⟨y, ey1, ey2⟩ := e15
            have hgo : ∀ nx : (Bool × Int) → Option Bool, ∀ k : Bool → Option Bool, m3_L4 n p (maxL p (-1), 0) (any, l) k nx (g, (i : Int)) =
                if ((decide ((60 : Int) < ((maxL p (-1)).length : Int))) && (decide ((20 : Int) < (i : Int)))) = true then k (g || (!g && decide (Holds (maxL p (-1))[i] l))) else nx (g || (!g && decide (Holds (maxL p (-1))[i] l)), ((i + 1 : Nat) : Int)) := by
              intro nx k
              rw [m3_L4, if_pos (by simp; omega)]
              dsimp only
              rw [mkP, getIdx_at rfl h1, Option.bind_some, e14, Option.bind_some, ey1, Option.bind_some, ey2, Option.bind_some, if_neg (by by_cases h0 : 0 < i <;> simp [h0])]
              unfold jn
              have eg : (gdO (!g) (m16 n (maxL p (-1))[i] l) default) = some (!g && decide (Holds (maxL p (-1))[i] l)) := by
                cases g with
                | true => rfl
                | false => rw [Bool.not_false, gdO_true, e16, Bool.true_and]
              rw [eg, Option.bind_some]
              refine (inner _).trans ?_
              rw [letM_eq, wrap64 (by omega) (by omega)]
              rfl
            have hg2 : any = false → (g || (!g && decide (Holds (maxL p (-1))[i] l))) = true := fun e => by rw [hg e]; rfl
            by_cases hbr : ((decide ((60 : Int) < ((maxL p (-1)).length : Int))) && (decide ((20 : Int) < (i : Int)))) = true
            · refine .inr ⟨_, rfl, fun nx => ?_⟩
              rw [hgo, if_pos hbr]
              exact last _ hg2
            · refine .inl ⟨(maxL p (-1)).length - (i + 1), _, by omega, ⟨i + 1, _, h1, rfl, rfl, hg2⟩, fun nx => ?_⟩
              rw [hgo, if_neg hbr]
          · refine .inr ⟨_, rfl, fun nx => ?_⟩
            rw [m3_L4, if_neg (by simp; omega)]
            exact last _ hg
      · rw [if_neg hlim]
        dsimp only
        rw [if_pos (by rfl)]
        rfl
    · rw [if_pos (by simp at hv; simp [hv])]
theorem m3_true (p : R23) (a : List UInt8) : m3 3000 p a = some true := m3_gen p a m10_3 (by decide)
end Go.AB

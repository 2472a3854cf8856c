import Derived.Test.YtnmglighdhaccaaLi
set_option linter.unusedVariables false
namespace Go.AB
open Go

/-- a pattern is maximal, as the reference says it -/
def More (p : R23) (a : List Int) : Prop := ∃ j, j < a.length ∧ Prop_ p (a.set j (a.getD j 0 + 1))
instance (p : R23) (a : List Int) : Decidable (More p a) := decidable_of_iff (¬ ∀ j, j < a.length → ¬ Prop_ p (a.set j (a.getD j 0 + 1))) (by
  unfold More
  constructor
  · intro h
    simp only [Classical.not_forall, Classical.not_not] at h
    obtain ⟨j, h1, h2⟩ := h
    exact ⟨j, h1, h2⟩
  · rintro ⟨j, h1, h2⟩ h
    exact h j h1 h2)
def maxB (p : R23) (a : List Int) : Bool := posL a && !decide (More p a)
theorem m64_val {n : Nat} {p : R23} {a : List Int} (ha : a.length ≤ 20) (hb : ∀ j, j < a.length → 0 ≤ a.getD j 0 ∧ a.getD j 0 ≤ 1000) (hn : 30 < n) : m64 n p a = some (maxB p a) := by
  unfold m64 jn
  refine loopM_ind (fun m x => ∃ (i : Nat) (g : Bool), i ≤ a.length ∧ m = a.length - i ∧ x = (g, (i : Int)) ∧ (g = true ↔ ∃ j, j < i ∧ 0 < a.getD j 0) ∧ ∀ j, j < i → ¬ Prop_ p (a.set j (a.getD j 0 + 1))) (fun o => o = some (maxB p a)) ?_ n a.length _
    ⟨0, false, by omega, rfl, rfl, by simp, fun j hj => absurd hj (Nat.not_lt_zero _)⟩ (by omega)
  rintro m x ⟨i, g, hi, rfl, rfl, hg, hm⟩
  rcases Nat.lt_or_ge i a.length with h1 | h1
  · have hbi := hb i h1
    have body : ∀ nx : (Bool × Int) → Option Bool, ∀ k, m64_L1 n p a k nx (g, (i : Int)) = if Prop_ p (a.set i (a.getD i 0 + 1)) then some false else nx (g || (!g && decide (0 < a.getD i 0)), ((i + 1 : Nat) : Int)) := by
      intro nx k
      rw [m64_L1, if_pos (by simp; omega)]
      dsimp only
      have eg : (gdO (!g) (getIdx a (i : Int)) default) = some (if g = true then default else a.getD i 0) := by
        cases g with
        | true => rfl
        | false => rw [Bool.not_false, gdO_true, getIdx_D rfl h1]; rfl
      rw [eg, Option.bind_some, apd_val (by simp; omega), List.nil_append, Option.bind_some, getIdx_D rfl h1, Option.bind_some, Option.bind_some, wrap64 (x := a.getD i 0 + 1) (by omega) (by omega), setIdx_at rfl h1, Option.bind_some, mkP, m14_val (by rw [List.length_set]; omega) (by omega), Option.bind_some]
      by_cases hp : Prop_ p (a.set i (a.getD i 0 + 1))
      · rw [if_pos (decide_eq_true hp), if_pos hp]
      · rw [if_neg (by simpa using hp), if_neg hp, letM_eq, wrap64 (by omega) (by omega)]
        cases g <;> rfl
    by_cases hp : Prop_ p (a.set i (a.getD i 0 + 1))
    · refine .inr ⟨_, ?_, fun nx => by rw [body, if_pos hp]⟩
      have hM : More p a := ⟨i, h1, hp⟩
      unfold maxB
      rw [decide_eq_true hM]; simp
    · refine .inl ⟨a.length - (i + 1), _, by omega, ⟨i + 1, _, h1, rfl, rfl, ?_, fun j hj => ?_⟩, fun nx => by rw [body, if_neg hp]⟩
      · constructor
        · intro h
          cases g with
          | true =>
            obtain ⟨j, h2, h3⟩ := hg.1 rfl
            exact ⟨j, by omega, h3⟩
          | false => exact ⟨i, by omega, by simpa using h⟩
        · rintro ⟨j, h2, h3⟩
          by_cases e : j = i
          · subst e
            cases g with
            | true => rfl
            | false => rw [Bool.false_or, Bool.not_false, Bool.true_and]; exact decide_eq_true h3
          · have : g = true := hg.2 ⟨j, by omega, h3⟩
            rw [this]; rfl
      · rcases Nat.lt_or_ge j i with h2 | h2
        · exact hm j h2
        · have : j = i := by omega
          subst this; exact hp
  · have : i = a.length := by omega
    subst this
    refine .inr ⟨_, rfl, fun nx => ?_⟩
    rw [m64_L1, if_neg (by simp)]
    congr 1
    have hM : ¬ More p a := by
      rintro ⟨j, h2, h3⟩
      exact hm j h2 h3
    unfold maxB
    rw [decide_eq_false hM, Bool.not_false, Bool.and_true]
    have := (posL_iff (a := a)).trans hg.symm
    rw [Bool.eq_iff_iff]
    exact this.symm
theorem take_take_app {α : Type} {n : Nat} {l Y : List α} : (l.take n ++ Y).take n = (l ++ Y).take n := by
  rcases Nat.lt_or_ge n l.length with h | h
  · rw [List.take_append_of_le_length (by rw [List.length_take]; omega), List.take_append_of_le_length (by omega), List.take_take, Nat.min_self]
  · rw [List.take_of_length_le h]
theorem downs_nil {lo : Int} : ∀ {m : Nat} {hi : Int}, hi < lo → downs lo m hi = []
  | 0, _, _ => rfl
  | m + 1, hi, h => by rw [downs, if_neg (by omega)]
/-- the loop over the numbers of pieces, in the reference -/
theorem refLoop {n : Nat} {p : R23} {pre : List Int} {must : Int} {rc : R23 → (List Int) → Int → (List (List Int)) → Option (List (List Int))} {G : Int → List (List Int)} {i : Nat} {top : Int} (hpl : pre.length = i) (hp20 : i ≤ 20)
    (hrc : ∀ k, lowK must i ≤ k → k ≤ top → ∀ out, out.length ≤ 301 → rc p (pre ++ [k]) must out = some ((out ++ G k).take 301)) (ht : top ≤ 1000) :
    ∀ (m N : Nat) (hi : Int) (out : List (List Int)), hi < (m : Int) → hi ≤ top → m < N → out.length ≤ 301 → (-1 : Int) ≤ hi →
      loopM (m46ox1_L2 n p pre must rc some) N (hi, out) = some ((out ++ (downs (lowK must i) m hi).flatMap G).take 301)
  | m, 0, hi, out, _, _, h, _, _ => absurd h (Nat.not_lt_zero _)
  | 0, N + 1, hi, out, h1, h2, h3, h4, h5 => by
    rw [loopM_succ, m46ox1_L2, if_neg (by simp; omega), downs]
    simp [List.take_of_length_le h4]
  | m + 1, N + 1, hi, out, h1, h2, h3, h4, h5 => by
    have hlo := lowK_bd must i
    rw [loopM_succ, m46ox1_L2]
    by_cases h0 : 0 ≤ hi
    · rw [if_pos (by simp; omega)]
      unfold jn
      dsimp only
      by_cases hl : lowK must i ≤ hi
      · rw [if_pos (by
          unfold lowK at hl
          by_cases e : must = (pre.length : Int)
          · rw [if_pos (by omega)] at hl
            simp; right; omega
          · simp; left; exact e), apd_val (by simp; omega), List.nil_append, Option.bind_some, apd_val (by simp; omega), Option.bind_some, mkP, hrc hi hl h2 out h4, Option.bind_some, letM_eq, wrap64 (by omega) (by omega)]
        rw [refLoop hpl hp20 hrc ht m N (hi - 1) _ (by omega) (by omega) (by omega) (by rw [List.length_take]; omega) (by omega), take_take_app, downs, if_pos hl, List.flatMap_cons, List.append_assoc]
      · rw [if_neg (by
          unfold lowK at hl
          by_cases e : (i : Int) = must
          · rw [if_pos e] at hl
            simp; omega
          · rw [if_neg e] at hl; omega), letM_eq, wrap64 (by omega) (by omega)]
        rw [refLoop hpl hp20 hrc ht m N (hi - 1) _ (by omega) (by omega) (by omega) h4 (by omega), downs_nil (by omega), downs_nil (by omega)]
    · rw [if_neg (by simp; omega), downs_nil (by omega)]
      simp [List.take_of_length_le h4]
/-- what is left behind some numbers -/
theorem leftLoop {n : Nat} {p : R23} (h : Vp p) {pre : List Int} {k : Int → Option (List (List Int))} (hl : pre.length ≤ p.Lengths.length) (hb : ∀ j, j < pre.length → 0 ≤ pre.getD j 0 ∧ pre.getD j 0 ≤ demP p j) (hn : 30 < n) :
    loopM (m46ox1_L1 n p pre k) n (capP p, (0 : Int)) = k (capP p - useP p pre pre.length) := by
  have hl2 := h.l2; have hc := h.cap; have hk := h.k1
  have hg : ∀ i, i < pre.length → 0 ≤ pre.getD i 0 * szP p i ∧ pre.getD i 0 * szP p i ≤ 1000 * 2100 := fun i hi => by
    have := h.sz (show i < p.Lengths.length by omega)
    have := h.dem (show i < p.Lengths.length by omega)
    have := hb i hi
    exact mulB this.1 (by omega) (by omega) (by omega)
  refine (loop_fold (fun i s => ((s, (i : Int)) : Int × Int)) pre.length (fun i s => s - pre.getD i 0 * szP p i) (fun i s => s = capP p - useP p pre i) (fun s => k s) (fun i s hi hs => ?_) (fun s hs nx => ?_) (s0 := capP p) (by simp [useP, sumN]) (by omega)).trans ?_
  · subst hs
    have h1 := sumN_bd (g := fun i => pre.getD i 0 * szP p i) (B := 1000 * 2100) (k := i) fun j hj => hg j (by omega)
    have h2 := hg i hi
    have h3 := h.sz (show i < p.Lengths.length by omega)
    have hu : useP p pre i = sumN (fun i => pre.getD i 0 * szP p i) i := rfl
    rw [← hu] at h1
    have hus : useP p pre (i + 1) = useP p pre i + pre.getD i 0 * szP p i := rfl
    refine ⟨by omega, fun nx => ?_⟩
    have es : p.Lengths.getD i 0 + p.Kerf = szP p i := rfl
    rw [m46ox1_L1, if_pos (by simp; omega)]
    dsimp only
    rw [getIdx_D rfl hi, Option.bind_some, getIdx_D rfl (by omega), Option.bind_some, letM_eq, es, wrap64 (x := szP p i) (by omega) (by omega), wrap64 (x := pre.getD i 0 * szP p i) (by omega) (by omega), wrap64 (x := capP p - useP p pre i - pre.getD i 0 * szP p i) (by omega) (by omega), letM_eq, wrap64 (by omega) (by omega)]
    rfl
  · rw [m46ox1_L1, if_neg (by simp)]
  · congr 1
    have key : ∀ k, foldN (fun i s => s - pre.getD i 0 * szP p i) k (capP p) = capP p - useP p pre k := by
      intro k
      induction k with
      | zero => simp [foldN, useP, sumN]
      | succ k ih =>
        have : useP p pre (k + 1) = useP p pre k + pre.getD k 0 * szP p k := rfl
        rw [foldN, ih]; omega
    exact key _
def refL (p : R23) (must : Int) (m i : Nat) (left : Int) (pre : List Int) : List (List Int) := ((ext p must m i left).map (pre ++ ·)).filter (maxB p)
theorem getD_snoc {pre : List Int} {k : Int} {j : Nat} : (pre ++ [k]).getD j 0 = if j < pre.length then pre.getD j 0 else if j = pre.length then k else 0 := by
  simp only [List.getD_eq_getElem?_getD, List.getElem?_append]
  by_cases h : j < pre.length
  · rw [if_pos h, if_pos h]
  · rw [if_neg h, if_neg h]
    by_cases e : j = pre.length
    · subst e; simp
    · rw [if_neg e, List.getElem?_singleton, if_neg (by omega)]; rfl
theorem useP_snoc {p : R23} {pre : List Int} {k : Int} : useP p (pre ++ [k]) (pre.length + 1) = useP p pre pre.length + k * szP p pre.length := by
  show sumN (fun i => (pre ++ [k]).getD i 0 * szP p i) pre.length + (pre ++ [k]).getD pre.length 0 * szP p pre.length = _
  rw [getD_snoc, if_neg (by omega), if_pos rfl, sumN_congr (g' := fun j => pre.getD j 0 * szP p j) (fun j hj => by rw [getD_snoc, if_pos hj])]
  rfl
theorem refL_succ {p : R23} {must : Int} {m i : Nat} {left : Int} {pre : List Int} {top : Int} (ht : topK p i left = top) : refL p must (m + 1) i left pre = (downs (lowK must i) 1002 top).flatMap fun k => refL p must m (i + 1) (left - k * szP p i) (pre ++ [k]) := by
  unfold refL
  rw [ext, List.map_flatMap, List.filter_flatMap, ht]
  congr 1
  funext k
  rw [List.map_map]
  congr 2
  funext s
  simp
structure Begun (p : R23) (must : Int) (pre : List Int) : Prop where
  le : pre.length ≤ p.Lengths.length
  bd : ∀ j, j < pre.length → 0 ≤ pre.getD j 0 ∧ pre.getD j 0 ≤ demP p j
  lo : ∀ j, j < pre.length → lowK must j ≤ pre.getD j 0
  fit : 0 ≤ capP p - useP p pre pre.length
theorem Begun.snoc {p : R23} (h : Vp p) {must : Int} {pre : List Int} (hb : Begun p must pre) {m : Nat} (hm : pre.length + (m + 1) = p.Lengths.length) {k : Int} (h1 : lowK must pre.length ≤ k) (h2 : k ≤ topK p pre.length (capP p - useP p pre pre.length)) :
    Begun p must (pre ++ [k]) ∧ capP p - useP p (pre ++ [k]) (pre ++ [k]).length = capP p - useP p pre pre.length - k * szP p pre.length := by
  have hz := h.sz (show pre.length < p.Lengths.length by omega)
  have hk := h.k1
  have hlo := lowK_bd must pre.length
  have he : capP p - useP p (pre ++ [k]) (pre ++ [k]).length = capP p - useP p pre pre.length - k * szP p pre.length := by
    rw [List.length_append, List.length_singleton, useP_snoc]; omega
  have hkm : k * szP p pre.length ≤ capP p - useP p pre pre.length := (Int.le_ediv_iff_mul_le (show 0 < szP p pre.length by omega)).1 (by unfold topK at h2; omega)
  refine ⟨⟨by simp; omega, fun j hj => ?_, fun j hj => ?_, by rw [he]; omega⟩, he⟩
  · rw [List.length_append, List.length_singleton] at hj
    rw [getD_snoc]
    by_cases hjp : j < pre.length
    · rw [if_pos hjp]; exact hb.bd j hjp
    · have : j = pre.length := by omega
      subst this
      rw [if_neg hjp, if_pos rfl]
      unfold topK at h2; omega
  · rw [List.length_append, List.length_singleton] at hj
    rw [getD_snoc]
    by_cases hjp : j < pre.length
    · rw [if_pos hjp]; exact hb.lo j hjp
    · have : j = pre.length := by omega
      subst this
      rw [if_neg hjp, if_pos rfl]; exact h1
/-- a step of the search, behind the test of its bound -/
theorem ref_step {n : Nat} {p : R23} (h : Vp p) {must : Int} (hmu : must < (p.Lengths.length : Int)) (hn : 1100 < n) {m : Nat} {pre : List Int} (hb : Begun p must pre) (hm : pre.length + (m + 1) = p.Lengths.length) {rc : R23 → (List Int) → Int → (List (List Int)) → Option (List (List Int))}
    (hrc : ∀ k, Begun p must (pre ++ [k]) → ∀ out, out.length ≤ 301 → rc p (pre ++ [k]) must out = some ((out ++ refL p must m (pre.length + 1) (capP p - useP p (pre ++ [k]) (pre ++ [k]).length) (pre ++ [k])).take 301)) {out : List (List Int)} (ho : out.length ≤ 301) :
    (letM ((IntKind.wrap .i64 (p.Stock + p.Kerf))) fun t10_7 => loopM (m46ox1_L1 n p pre fun p_24 => ((getIdx p.Demand (pre.length : Int)).bind fun y_26 => ((getIdx p.Lengths (pre.length : Int)).bind fun y_27 => (asrt ((IntKind.wrap .i64 (y_27 + p.Kerf)) ≠ 0) (letM ((if (IntKind.wrap .i64 (p_24.tdiv (IntKind.wrap .i64 (y_27 + p.Kerf)))) < y_26 then (IntKind.wrap .i64 (p_24.tdiv (IntKind.wrap .i64 (y_27 + p.Kerf)))) else y_26)) fun t12_29 => loopM (m46ox1_L2 n p pre must rc some) n (t12_29, out)))))) n (t10_7, (0 : Int))) =
      some ((out ++ refL p must (m + 1) pre.length (capP p - useP p pre pre.length) pre).take 301) := by
  have hil : pre.length < p.Lengths.length := by omega
  have hl2 := h.l2; have hc := h.cap; have hk := h.k1
  have hz := h.sz hil
  have hd := h.dem hil
  have hf := hb.fit
  have hu0 : 0 ≤ useP p pre pre.length := by
    have := sumN_mono (g := fun i => pre.getD i 0 * szP p i) (m := 0) (k := pre.length) (fun j hj => Int.mul_nonneg (hb.bd j hj).1 (by have := (h.sz (show j < p.Lengths.length by omega)).1; omega)) (Nat.zero_le _)
    simpa [useP, sumN] using this
  have es : p.Lengths.getD pre.length 0 + p.Kerf = szP p pre.length := rfl
  have ed : p.Demand.getD pre.length 0 = demP p pre.length := rfl
  have hd0 : 0 ≤ (capP p - useP p pre pre.length) / szP p pre.length := Int.ediv_nonneg hf (by omega)
  have hd1 : (capP p - useP p pre pre.length) / szP p pre.length ≤ capP p - useP p pre pre.length := Int.ediv_le_self _ hf
  rw [letM_eq, show p.Stock + p.Kerf = capP p from rfl, wrap64 (x := capP p) (by omega) (by omega), leftLoop h (by omega) hb.bd (by omega), getIdx_D rfl (by rw [h.dl]; exact hil), Option.bind_some, getIdx_D rfl hil, Option.bind_some, es, ed, wrap64 (x := szP p pre.length) (by omega) (by omega)]
  unfold asrt
  rw [if_pos (by omega), letM_eq, Int.tdiv_eq_ediv_of_nonneg hf, wrap64 (x := (capP p - useP p pre pre.length) / szP p pre.length) (by omega) (by omega)]
  have htop : (if (capP p - useP p pre pre.length) / szP p pre.length < demP p pre.length then (capP p - useP p pre pre.length) / szP p pre.length else demP p pre.length) = topK p pre.length (capP p - useP p pre pre.length) := by unfold topK; exact iteMin _ _
  rw [htop]
  have htk : topK p pre.length (capP p - useP p pre pre.length) ≤ 1000 ∧ 0 ≤ topK p pre.length (capP p - useP p pre pre.length) := by unfold topK; omega
  rw [refLoop (G := fun k => refL p must m (pre.length + 1) (capP p - useP p pre pre.length - k * szP p pre.length) (pre ++ [k])) (top := topK p pre.length (capP p - useP p pre pre.length)) rfl (by omega) (fun k h1 h2 out ho => ?_) htk.1 1002 n _ out (by omega) (Int.le_refl _) (by omega) ho (by omega), refL_succ rfl]
  obtain ⟨b1, b2⟩ := hb.snoc h hm h1 h2
  rw [hrc k b1 out ho, b2]
theorem m46F_val {n : Nat} {p : R23} (h : Vp p) {must : Int} (hmu : must < (p.Lengths.length : Int)) (hn : 1100 < n) :
    ∀ (m f : Nat) (pre : List Int) (out : List (List Int)), m < f → pre.length + m = p.Lengths.length → Begun p must pre → out.length ≤ 301 →
      m46ox1F n f p pre must out = some ((out ++ refL p must m pre.length (capP p - useP p pre pre.length) pre).take 301)
  | m, 0, pre, out, hf, _, _, _ => absurd hf (Nat.not_lt_zero _)
  | m, f + 1, pre, out, hf, hm, hb, ho => by
    have hl2 := h.l2
    show m46ox1B n (m46ox1F n f) _ _ _ _ = _
    unfold m46ox1B
    by_cases hfull : 300 < out.length
    · rw [if_pos (by simp; omega), List.take_append_of_le_length (by omega), List.take_of_length_le (by omega)]
    · rw [if_neg (by simp; omega)]
      cases m with
      | zero =>
        have hlen : pre.length = p.Lengths.length := by omega
        rw [if_pos (by simp; omega), mkP, m64_val (by omega) (fun j hj => by have := hb.bd j hj; have := h.dem (show j < p.Lengths.length by omega); omega) (by omega), Option.bind_some]
        unfold jn
        dsimp only
        have e1 : ext p must 0 pre.length (capP p - useP p pre pre.length) = [[]] := rfl
        unfold refL
        rw [e1]
        simp only [List.map_cons, List.append_nil, List.map_nil, List.filter_cons, List.filter_nil]
        cases hq : maxB p pre with
        | false =>
          rw [Bool.false_and, gdO_false, Option.bind_some, Bool.false_and, if_neg (by simp), if_neg (by simp), List.append_nil, List.take_of_length_le ho]
        | true =>
          have hw : ∃ y, gdO (true && !(decide (must < 0))) (getIdx pre must) default = some y ∧ ((decide (must < (0 : Int))) || (decide ((0 : Int) < y))) = true := by
            by_cases hm0 : must < 0
            · exact ⟨default, by rw [decide_eq_true hm0]; rfl, by rw [decide_eq_true hm0]; rfl⟩
            · refine ⟨pre.getD must.toNat 0, ?_, ?_⟩
              · rw [decide_eq_false hm0]
                exact getIdx_D (by omega) (by omega)
              · have := hb.lo must.toNat (by omega)
                unfold lowK at this
                rw [if_pos (by omega)] at this
                rw [Bool.or_eq_true, decide_eq_true_eq, decide_eq_true_eq]
                right; omega
          obtain ⟨y, e2, e3⟩ := hw
          rw [e2, Option.bind_some, e3, if_pos (by rfl), apd_val (by simp; omega), List.nil_append, Option.bind_some, apd_val (by simp; omega), Option.bind_some, if_pos rfl, List.take_of_length_le (by simp; omega)]
      | succ m =>
        rw [if_neg (by simp; omega)]
        exact ref_step h hmu hn hb hm (fun k hk out ho => by
          rw [m46F_val h hmu hn m f (pre ++ [k]) out (by omega) (by simp; omega) hk ho]
          simp) ho
theorem m46_val {n : Nat} {p : R23} (h : Vp p) {must : Int} (hmu : must < (p.Lengths.length : Int)) (hn : 1100 < n) : m46 n p [] must = some ((refL p must p.Lengths.length 0 (capP p) []).take 301) := by
  have hl1 := h.l1; have hl2 := h.l2; have hc := h.cap
  unfold m46
  rw [if_neg (by simp; omega)]
  obtain ⟨m, hm⟩ : ∃ m, p.Lengths.length = m + 1 := ⟨p.Lengths.length - 1, by omega⟩
  have hb : Begun p must [] := ⟨Nat.zero_le _, fun j hj => absurd hj (Nat.not_lt_zero _), fun j hj => absurd hj (Nat.not_lt_zero _), by simp [useP, sumN]; omega⟩
  have key := ref_step h hmu hn hb (m := m) (by simp; omega) (rc := m46ox1 n) (fun k hk out ho => by
    show m46ox1F n n _ _ _ _ = _
    rw [m46F_val h hmu hn m n ([] ++ [k]) out (by omega) (by simp; omega) hk ho]
    simp) (out := []) (by simp)
  rw [hm]
  have e0 : useP p [] ([] : List Int).length = 0 := rfl
  rw [e0, Int.sub_zero] at key
  exact key
/-- both name the same patterns -/
theorem refL_eq {p : R23} (h : Vp p) (must : Int) : refL p must p.Lengths.length 0 (capP p) [] = maxL p must := by
  have hc := h.cap
  unfold refL maxL
  simp only [List.nil_append, List.map_id']
  rw [List.filter_filter]
  refine List.filter_congr fun s hs => ?_
  unfold maxB
  congr 1
  obtain ⟨h1, h2, h3⟩ := (mem_ext h (by omega) (by omega)).1 hs
  simp only [Nat.zero_add] at h2
  rw [restE_use] at h3
  have hpos : ∀ i, i < s.length → 0 ≤ s.getD i 0 := fun i hi => by
    have := h2 i (by omega)
    have := lowK_bd must i
    omega
  have hu0 := useP_nonneg h h1 hpos
  have hset : ∀ j, j < s.length → useP p (s.set j (s.getD j 0 + 1)) s.length = useP p s s.length + szP p j := by
    intro j hj
    have hg : ∀ i, (s.set j (s.getD j 0 + 1)).getD i 0 = if i = j then s.getD j 0 + 1 else s.getD i 0 := fun i => getD_set hj
    have key : ∀ k, k ≤ s.length → sumN (fun i => (s.set j (s.getD j 0 + 1)).getD i 0 * szP p i) k = sumN (fun i => s.getD i 0 * szP p i) k + if j < k then szP p j else 0 := by
      intro k
      induction k with
      | zero => intro _; simp [sumN]
      | succ k ih =>
        intro hk2
        have := ih (by omega)
        simp only [sumN, hg]
        simp only [hg] at this
        by_cases e : k = j
        · subst e
          rw [if_pos rfl, if_pos (by omega), Int.add_mul, Int.one_mul]
          rw [if_neg (by omega)] at this
          omega
        · rw [if_neg e]
          by_cases e2 : j < k
          · rw [if_pos (by omega)]; rw [if_pos e2] at this; omega
          · rw [if_neg (by omega)]; rw [if_neg e2] at this; omega
    have := key s.length (Nat.le_refl _)
    rw [if_pos hj] at this
    exact this
  rw [Bool.eq_iff_iff]
  unfold okE
  rw [decide_eq_true_eq, needE_iff, restE_use]
  simp only [Bool.not_eq_true', decide_eq_false_iff_not, Nat.zero_add]
  constructor
  · intro hM
    refine ⟨by omega, fun j hj hd => ?_⟩
    apply Classical.byContradiction
    intro hlt
    refine hM ⟨j, hj, vP_iff.2 h, ⟨by rw [List.length_set]; exact h1, fun i hi => ?_, by rw [List.length_set, hset j hj]; omega⟩, fun i hi => ?_⟩
    · rw [List.length_set] at hi
      have := hpos i hi
      have := hpos j hj
      rw [getD_set hj]; split <;> omega
    · rw [List.length_set] at hi
      have := (h2 i (by omega)).2
      unfold demP at hd this
      rw [getD_set hj]
      split
      · rename_i e; subst e; omega
      · exact this
  · rintro ⟨_, h5⟩ ⟨j, hj, _, ⟨q1, q2, q3⟩, q4⟩
    have e1 : (s.set j (s.getD j 0 + 1)).getD j 0 = s.getD j 0 + 1 := by rw [getD_set hj, if_pos rfl]
    have := q4 j (by rw [List.length_set]; exact hj)
    rw [e1] at this
    have := h5 j hj (by unfold demP; omega)
    rw [List.length_set, hset j hj] at q3
    omega
theorem allR_take {p : R23} (h : Vp p) (must : Int) {f : List (List Int) → Option (List (List Int) × Int)} (hf : ∀ l, f l = if (decide ((300 : Int) < (l.length : Int))) = true then (some (([] : List (List Int)), (9 : Int))) else (some (l, (0 : Int)))) : f ((refL p must p.Lengths.length 0 (capP p) []).take 301) = some (allR p must) := by
  rw [hf, refL_eq h, List.length_take]
  unfold allR
  by_cases hl : (maxL p must).length ≤ 300
  · rw [if_neg (by simp; omega), if_pos hl, List.take_of_length_le (by omega)]
  · rw [if_pos (by simp; omega), if_neg hl]
theorem m17_val {n : Nat} {p : R23} (hn : 1100 < n) : m17 n p = some (if vP p = true then allR p (-1) else ([], 1)) := by
  unfold m17
  rw [mkP, m12_val (by omega), Option.bind_some]
  by_cases hv : vP p = true
  · have h := vP_iff.1 hv
    rw [if_neg (by simp [hv]), m46_val h (by omega) hn, Option.bind_some, if_pos hv]
    exact allR_take h (-1) (f := fun l => if (decide ((300 : Int) < (l.length : Int))) = true then (some (([] : List (List Int)), (9 : Int))) else (some (l, (0 : Int)))) (fun _ => rfl)
  · rw [if_pos (by simp at hv; simp [hv]), if_neg hv]
theorem m19_val {n : Nat} {p : R23} {i : Int} (hn : 1100 < n) : m19 n p i = some (if vP p = true then (if 0 ≤ i ∧ i < (p.Lengths.length : Int) then allR p i else ([], 2)) else ([], 1)) := by
  unfold m19
  rw [mkP, m12_val (by omega), Option.bind_some]
  by_cases hv : vP p = true
  · have h := vP_iff.1 hv
    rw [if_neg (by simp [hv]), if_pos hv]
    by_cases hi : 0 ≤ i ∧ i < (p.Lengths.length : Int)
    · rw [if_neg (by simp; omega), m46_val h hi.2 hn, Option.bind_some, if_pos hi]
      exact allR_take h i (f := fun l => if (decide ((300 : Int) < (l.length : Int))) = true then (some (([] : List (List Int)), (9 : Int))) else (some (l, (0 : Int)))) (fun _ => rfl)
    · rw [if_pos (by simp; omega), if_neg hi]
  · rw [if_pos (by simp at hv; simp [hv]), if_neg hv]
theorem m4_gen {n : Nat} (p : R23) (i : Int) (h10 : m10 n = some true) (hn : 1100 < n) : m4 n p i = some true := by
  unfold m4
  obtain ⟨b, hb⟩ := m11_tot (p := p) (show 30 < n by omega)
  rw [h10, Option.bind_some, mkP, hb]
  cases b with
  | false => simp [gdO]
  | true =>
    simp only [Bool.not_true, Bool.not_false, gdO_true, Option.bind_some, Bool.or_self]
    rw [if_neg (by simp), m13_val hn, m17_val hn, m18_val hn, m19_val hn]
    simp only [Option.bind_some]
    have s : ∀ must, m20 n ((if vP p = true then allR p must else ([], 1)) : List (List Int) × Int).1 ((if vP p = true then allR p must else ([], 1)) : List (List Int) × Int).1 = some true := by
      intro must
      by_cases hv : vP p = true
      · have s1 := allR_small (vP_iff.1 hv) must
        rw [if_pos hv, m20_refl (by omega) (by omega) s1.2 (by omega)]
      · rw [if_neg hv, m20_refl (by simp) (by simp; omega) (by simp) (by omega)]
    have s2 : m20 n ((if vP p = true then (if 0 ≤ i ∧ i < (p.Lengths.length : Int) then allR p i else ([], 2)) else ([], 1)) : List (List Int) × Int).1 ((if vP p = true then (if 0 ≤ i ∧ i < (p.Lengths.length : Int) then allR p i else ([], 2)) else ([], 1)) : List (List Int) × Int).1 = some true := by
      by_cases hi : 0 ≤ i ∧ i < (p.Lengths.length : Int)
      · rw [if_pos hi]; exact s i
      · rw [if_neg hi]
        have : (if vP p = true then (([], 2) : List (List Int) × Int) else ([], 1)).1 = [] := by split <;> rfl
        rw [this, m20_refl (by simp) (by simp; omega) (by simp) (by omega)]
    rw [s (-1), s2]
    simp [gdO]
theorem m4_true (p : R23) (i : Int) : m4 3000 p i = some true := m4_gen p i m10_3 (by decide)
end Go.AB

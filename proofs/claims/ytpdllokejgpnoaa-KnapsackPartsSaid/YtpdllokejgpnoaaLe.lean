import Derived.Test.YtpdllokejgpnoaaLd
set_option linter.unusedVariables false
namespace Go.AB
open Go

theorem gx_ok' {x : R27} {f : Nat → Int} {cap c n : Nat} (hx : okI x) (hf : bdd f cap) (hcap : cap ≤ 4000) (hc : c ≤ cap) (hn : n * x.Size.toNat ≤ c) :
    IntKind.wrap .i64 (f (c - n * x.Size.toNat) + IntKind.wrap .i64 ((n : Int) * x.Value)) = gx x f c n := by
  rw [Int.add_comm]
  exact (gx_ok hx hf hcap hc hn).2.1

theorem divS {c S : Nat} (hS : 1 ≤ S) {n : Nat} : n ≤ c / S ↔ n * S ≤ c := Nat.le_div_iff_mul_le (by omega)

theorem m16_L4_val {n cap i c : Nat} {l : List R27} {o : List Int} (hl : okL l) (hcap : cap ≤ 4000) (hlen : l.length ≤ 20) (hc : c ≤ cap) (hi : i < l.length) (kk : Int → Option (List Int × Int × Int)) (hn : 4010 < n) :
    loopM (m16_L4 n (tab l cap) ((c : Int), (i : Int), o) l[i] kk) n ((min l[i].Most.toNat (c / l[i].Size.toNat) : Nat) : Int) = kk ((ch l[i] (T (l.drop (i + 1))) c : Nat) : Int) := by
  have hx := hl _ (List.getElem_mem hi)
  obtain ⟨S, hS, hSn, hS1, hS4⟩ := size_nat hx
  obtain ⟨M, hM, hMn, hM1⟩ := most_nat hx
  have hf := T_bdd (okL_drop hl (i + 1)) hcap
  have hdrop : l.drop i = l[i] :: l.drop (i + 1) := List.drop_eq_getElem_cons hi
  have hv : T (l.drop i) c = W l[i] (T (l.drop (i + 1))) c := by rw [hdrop]; rfl
  have hdl : c / S ≤ 4000 := Nat.le_trans (Nat.div_le_self _ _) (by omega)
  refine loopM_ind (body := m16_L4 n (tab l cap) ((c : Int), (i : Int), o) l[i] kk)
    (fun q x => ∃ t : Nat, x = (t : Int) ∧ q = t ∧ t ≤ min M (c / S) ∧ lastEq (gx l[i] (T (l.drop (i + 1))) c) (W l[i] (T (l.drop (i + 1))) c) t = ch l[i] (T (l.drop (i + 1))) c)
    (fun oo => oo = kk ((ch l[i] (T (l.drop (i + 1))) c : Nat) : Int)) (fun q x => ?_) n (min M (c / S)) _ ⟨min M (c / S), by rw [hMn, hSn], rfl, Nat.le_refl _, by unfold ch; rw [hMn, hSn]⟩ (by omega)
  rintro ⟨t, rfl, rfl, ht, hch⟩
  have htS : q * S ≤ c := (divS hS1).1 (by omega)
  have hg := gx_ok' (n := q) hx hf hcap hc (by rw [hSn]; exact htS)
  have e1 : IntKind.wrap .i64 ((q : Int) * l[i].Size) = ((q * S : Nat) : Int) := by
    rw [hS, show ((q : Int) * (S : Int)) = ((q * S : Nat) : Int) by simp, wrap64 (by omega) (by omega)]
  have hbody : ∀ nx, m16_L4 n (tab l cap) ((c : Int), (i : Int), o) l[i] kk nx (q : Int) = if (!decide (gx l[i] (T (l.drop (i + 1))) c q = W l[i] (T (l.drop (i + 1))) c)) = true then nx (IntKind.wrap .i64 ((q : Int) - 1)) else kk (q : Int) := by
    intro nx
    unfold m16_L4
    simp only []
    rw [wrap64 (x := (i : Int) + 1) (by omega) (by omega), getIdx_q (i := (i : Int) + 1) (k := i + 1) (by omega) (tab_at (by omega))]
    simp only [Option.bind_some]
    rw [e1, wrap64 (x := (c : Int) - ((q * S : Nat) : Int)) (by omega) (by omega), getIdx_q (i := (c : Int) - ((q * S : Nat) : Int)) (k := c - q * S) (by omega) (row_at (by omega))]
    simp only [Option.bind_some]
    rw [getIdx_q (k := i) rfl (tab_at (by omega))]
    simp only [Option.bind_some]
    rw [getIdx_q (k := c) rfl (row_at hc)]
    simp only [Option.bind_some, letM_eq]
    rw [hSn] at hg
    rw [hg, hv]
  by_cases he : gx l[i] (T (l.drop (i + 1))) c q = W l[i] (T (l.drop (i + 1))) c
  · right
    refine ⟨_, ?_, fun nx => by rw [hbody, if_neg (by simp [he])]⟩
    cases q with
    | zero => rw [← hch]; rfl
    | succ q => rw [← hch, lastEq, if_pos he]
  · left
    cases q with
    | zero =>
      exfalso
      rw [lastEq] at hch
      have := ch_eq (x := l[i]) (f := T (l.drop (i + 1))) (c := c)
      rw [← hch] at this
      exact he this
    | succ q =>
      rw [lastEq, if_neg he] at hch
      refine ⟨q, (q : Int), by omega, ⟨q, rfl, rfl, by omega, hch⟩, fun nx => ?_⟩
      rw [hbody, if_pos (by simp [he]), wrap64 (by omega) (by omega)]
      congr 1
      omega

theorem take_sol {l : List R27} {cap i : Nat} (hi : i < l.length) : casts ((sol l cap).take i) ++ [((ch l[i] (T (l.drop (i + 1))) (lft l cap i) : Nat) : Int)] = casts ((sol l cap).take (i + 1)) := by
  rw [List.take_add_one, (sol_at hi).1, casts_append]
  rfl

theorem m16_L3_val {n cap : Nat} {l : List R27} (hl : okL l) (hcap : cap ≤ 4000) (hlen : l.length ≤ 20) (kk : List Int → Option (List Int × Int × Int)) (hn : 4010 < n) :
    loopM (m16_L3 n l (tab l cap) kk) n ((cap : Int), (0 : Int), ([] : List Int)) = kk (casts (sol l cap)) := by
  refine loopM_ind (body := m16_L3 n l (tab l cap) kk)
    (fun q st => ∃ i : Nat, st = (((lft l cap i : Nat) : Int), (i : Int), casts ((sol l cap).take i)) ∧ q = l.length - i ∧ i ≤ l.length)
    (fun oo => oo = kk (casts (sol l cap))) (fun q st => ?_) n l.length _ ⟨0, by cases l <;> rfl, rfl, Nat.zero_le _⟩ (by omega)
  rintro ⟨i, rfl, rfl, hi⟩
  by_cases hlt : i < l.length
  · left
    have hcond : (decide ((i : Int) < (l.length : Int))) = true := by simpa using hlt
    have hx := hl _ (List.getElem_mem hlt)
    obtain ⟨S, hS, hSn, hS1, hS4⟩ := size_nat hx
    obtain ⟨M, hM, hMn, hM1⟩ := most_nat hx
    have hcl := lft_le l cap i
    have hchm := ch_mul (f := T (l.drop (i + 1))) (c := lft l cap i) hx
    have hdl : lft l cap i / S ≤ 4000 := Nat.le_trans (Nat.div_le_self _ _) (by omega)
    have hsl : ((sol l cap).take i).length ≤ 20 := by rw [List.length_take]; omega
    refine ⟨l.length - (i + 1), (((lft l cap (i + 1) : Nat) : Int), ((i + 1 : Nat) : Int), casts ((sol l cap).take (i + 1))), by omega, ⟨i + 1, rfl, rfl, by omega⟩, fun nx => ?_⟩
    unfold m16_L3
    simp only []
    rw [if_pos hcond, getIdx_at (k := i) rfl hlt]
    simp only [Option.bind_some]
    have e1 : (if (IntKind.wrap .i64 (((lft l cap i : Nat) : Int).tdiv l[i].Size)) < l[i].Most then (IntKind.wrap .i64 (((lft l cap i : Nat) : Int).tdiv l[i].Size)) else l[i].Most) = ((min l[i].Most.toNat (lft l cap i / l[i].Size.toNat) : Nat) : Int) := by
      rw [hSn, hS, show ((lft l cap i : Nat) : Int).tdiv (S : Int) = ((lft l cap i / S : Nat) : Int) by rw [Int.tdiv_eq_ediv_of_nonneg (by omega)]; rfl]
      generalize lft l cap i / S = q at hdl
      rw [wrap64 (by omega) (by omega), hMn, hM]
      split <;> omega
    rw [asrt_pos (by omega), letM_eq, e1, jn, m16_L4_val hl hcap hlen hcl hlt _ hn, apd_val (by rw [casts_len]; simp; omega), take_sol hlt]
    simp only [Option.bind_some, letM_eq]
    have hch4 : ch l[i] (T (l.drop (i + 1))) (lft l cap i) ≤ 4000 := le_of_mul hS1 (by rw [hSn] at hchm; omega)
    rw [hSn] at hchm
    have e2 : IntKind.wrap .i64 (((lft l cap i : Nat) : Int) - IntKind.wrap .i64 (((ch l[i] (T (l.drop (i + 1))) (lft l cap i) : Nat) : Int) * l[i].Size)) = ((lft l cap (i + 1) : Nat) : Int) := by
      rw [(sol_at hlt).2, hSn, hS, show (((ch l[i] (T (l.drop (i + 1))) (lft l cap i) : Nat) : Int) * (S : Int)) = ((ch l[i] (T (l.drop (i + 1))) (lft l cap i) * S : Nat) : Int) by simp,
        wrap64 (x := ((ch l[i] (T (l.drop (i + 1))) (lft l cap i) * S : Nat) : Int)) (by omega) (by omega), wrap64 (by omega) (by omega)]
      omega
    rw [e2, wrap64 (by omega) (by omega)]
    rfl
  · right
    refine ⟨_, ?_, fun nx => by
      have hcond : ¬ (decide ((i : Int) < (l.length : Int))) = true := by simpa using hlt
      unfold m16_L3
      simp only []
      rw [if_neg hcond]⟩
    rw [List.take_of_length_le (by rw [sol_len]; omega)]

theorem m16_val {n cap : Nat} {l : List R27} (hl : okL l) (hcap : cap ≤ 4000) (hlen : l.length ≤ 20) (hn : 4010 < n) : m16 n l (cap : Int) = some (casts (sol l cap), T l cap, 0) := by
  unfold m16
  rw [m15_val (by omega) (by omega), vldB_mk hl hlen hcap]
  simp only [Option.bind_some, Bool.not_true, Bool.false_eq_true, if_false]
  rw [m31_val hl hcap (by omega) hn]
  simp only [Option.bind_some, jn]
  rw [m16_L3_val hl hcap hlen _ hn]
  rw [getIdx_q (i := 0) (k := 0) rfl (tab_at (Nat.zero_le _))]
  simp only [Option.bind_some, List.drop_zero]
  rw [getIdx_q (k := cap) rfl (row_at (Nat.le_refl _))]
  rfl
theorem m16_no {n : Nat} {l : List R27} {c : Int} (hv : vldB l c = false) (hl : l.length ≤ 1000) (hn : 1000 < n) : m16 n l c = some ([], 0, 1) := by
  unfold m16
  rw [m15_val hl hn, hv]
  rfl

theorem m18_L4_val {n cap i c : Nat} {l : List R27} {o : List Int} (hl : okL l) (hcap : cap ≤ 4000) (hlen : l.length ≤ 20) (hc : c ≤ cap) (hi : i < l.length) (kk : Int → Option (List Int × Int × Int)) (hn : 4010 < n) :
    loopM (m18_L4 n (tab l cap) ((c : Int), (i : Int), o) l[i] kk) n ((0 : Int), (0 : Int)) = kk ((ch l[i] (T (l.drop (i + 1))) c : Nat) : Int) := by
  have hx := hl _ (List.getElem_mem hi)
  obtain ⟨S, hS, hSn, hS1, hS4⟩ := size_nat hx
  obtain ⟨M, hM, hMn, hM1⟩ := most_nat hx
  have hf := T_bdd (okL_drop hl (i + 1)) hcap
  have hdrop : l.drop i = l[i] :: l.drop (i + 1) := List.drop_eq_getElem_cons hi
  have hv : T (l.drop i) c = W l[i] (T (l.drop (i + 1))) c := by rw [hdrop]; rfl
  have hdl : c / S ≤ 4000 := Nat.le_trans (Nat.div_le_self _ _) (by omega)
  refine loopM_ind (body := m18_L4 n (tab l cap) ((c : Int), (i : Int), o) l[i] kk)
    (fun q x => ∃ t : Nat, x = (((if t = 0 then 0 else lastEq (gx l[i] (T (l.drop (i + 1))) c) (W l[i] (T (l.drop (i + 1))) c) (t - 1) : Nat) : Int), (t : Int)) ∧ q = min M (c / S) + 1 - t ∧ t ≤ min M (c / S) + 1)
    (fun oo => oo = kk ((ch l[i] (T (l.drop (i + 1))) c : Nat) : Int)) (fun q x => ?_) n (min M (c / S) + 1) _ ⟨0, rfl, rfl, Nat.zero_le _⟩ (by omega)
  rintro ⟨t, rfl, rfl, ht⟩
  have htb : t * S ≤ 4001 * 4000 := Nat.mul_le_mul (by omega) hS4
  have e1 : IntKind.wrap .i64 ((t : Int) * l[i].Size) = ((t * S : Nat) : Int) := by
    rw [hS, show ((t : Int) * (S : Int)) = ((t * S : Nat) : Int) by simp, wrap64 (by omega) (by omega)]
  by_cases hlt : t ≤ min M (c / S)
  · left
    have htS : t * S ≤ c := (divS hS1).1 (by omega)
    have hg := (gx_ok (n := t) hx hf hcap hc (by rw [hSn]; exact htS)).2.1
    have hcond : ((decide ((t : Int) ≤ l[i].Most)) && (decide ((IntKind.wrap .i64 ((t : Int) * l[i].Size)) ≤ (c : Int)))) = true := by
      rw [e1, hM]
      simp only [Bool.and_eq_true, decide_eq_true_eq]
      omega
    refine ⟨min M (c / S) + 1 - (t + 1), (((lastEq (gx l[i] (T (l.drop (i + 1))) c) (W l[i] (T (l.drop (i + 1))) c) t : Nat) : Int), ((t + 1 : Nat) : Int)), by omega, ⟨t + 1, by rw [if_neg (by omega)]; rfl, rfl, by omega⟩, fun nx => ?_⟩
    unfold m18_L4
    simp only []
    rw [if_pos hcond, wrap64 (x := (i : Int) + 1) (by omega) (by omega), getIdx_q (i := (i : Int) + 1) (k := i + 1) (by omega) (tab_at (by omega))]
    simp only [Option.bind_some]
    rw [e1, wrap64 (x := (c : Int) - ((t * S : Nat) : Int)) (by omega) (by omega), getIdx_q (i := (c : Int) - ((t * S : Nat) : Int)) (k := c - t * S) (by omega) (row_at (by omega))]
    simp only [Option.bind_some]
    rw [getIdx_q (k := i) rfl (tab_at (by omega))]
    simp only [Option.bind_some]
    rw [getIdx_q (k := c) rfl (row_at hc)]
    rw [hSn] at hg
    simp only [Option.bind_some, letM_eq, jn]
    rw [hg, hv, wrap64 (x := (t : Int) + 1) (by omega) (by omega)]
    cases t with
    | zero =>
      simp only [lastEq, if_true]
      split <;> rfl
    | succ t =>
      rw [lastEq]
      by_cases he : gx l[i] (T (l.drop (i + 1))) c (t + 1) = W l[i] (T (l.drop (i + 1))) c
      · rw [if_pos (by simp [he]), if_pos he]
        rfl
      · rw [if_neg (by simp [he]), if_neg he]
        rfl
  · right
    have hte : t = min M (c / S) + 1 := by omega
    have hkS : ¬ (t ≤ M ∧ t * S ≤ c) := by
      rintro ⟨g1, g2⟩
      have := (divS hS1).2 g2
      omega
    refine ⟨_, ?_, fun nx => by
      have hcond : ¬ ((decide ((t : Int) ≤ l[i].Most)) && (decide ((IntKind.wrap .i64 ((t : Int) * l[i].Size)) ≤ (c : Int)))) = true := by
        rw [e1, hM]
        simp only [Bool.and_eq_true, decide_eq_true_eq]
        omega
      unfold m18_L4
      simp only []
      rw [if_neg hcond]⟩
    have ht0 : t ≠ 0 := by rw [hte]; exact Nat.succ_ne_zero _
    rw [if_neg ht0, hte]
    unfold ch
    rw [hMn, hSn]
    rfl

theorem m18_L3_val {n cap : Nat} {l : List R27} (hl : okL l) (hcap : cap ≤ 4000) (hlen : l.length ≤ 20) (kk : List Int → Option (List Int × Int × Int)) (hn : 4010 < n) :
    loopM (m18_L3 n l (tab l cap) kk) n ((cap : Int), (0 : Int), ([] : List Int)) = kk (casts (sol l cap)) := by
  refine loopM_ind (body := m18_L3 n l (tab l cap) kk)
    (fun q st => ∃ i : Nat, st = (((lft l cap i : Nat) : Int), (i : Int), casts ((sol l cap).take i)) ∧ q = l.length - i ∧ i ≤ l.length)
    (fun oo => oo = kk (casts (sol l cap))) (fun q st => ?_) n l.length _ ⟨0, by cases l <;> rfl, rfl, Nat.zero_le _⟩ (by omega)
  rintro ⟨i, rfl, rfl, hi⟩
  by_cases hlt : i < l.length
  · left
    have hcond : (decide ((i : Int) < (l.length : Int))) = true := by simpa using hlt
    have hx := hl _ (List.getElem_mem hlt)
    obtain ⟨S, hS, hSn, hS1, hS4⟩ := size_nat hx
    have hcl := lft_le l cap i
    have hchm := ch_mul (f := T (l.drop (i + 1))) (c := lft l cap i) hx
    have hsl : ((sol l cap).take i).length ≤ 20 := by rw [List.length_take]; omega
    refine ⟨l.length - (i + 1), (((lft l cap (i + 1) : Nat) : Int), ((i + 1 : Nat) : Int), casts ((sol l cap).take (i + 1))), by omega, ⟨i + 1, rfl, rfl, by omega⟩, fun nx => ?_⟩
    unfold m18_L3
    simp only []
    rw [if_pos hcond, getIdx_at (k := i) rfl hlt]
    simp only [Option.bind_some]
    rw [jn, m18_L4_val hl hcap hlen hcl hlt _ hn, apd_val (by rw [casts_len]; simp; omega), take_sol hlt]
    simp only [Option.bind_some, letM_eq]
    have hch4 : ch l[i] (T (l.drop (i + 1))) (lft l cap i) ≤ 4000 := le_of_mul hS1 (by rw [hSn] at hchm; omega)
    rw [hSn] at hchm
    have e2 : IntKind.wrap .i64 (((lft l cap i : Nat) : Int) - IntKind.wrap .i64 (((ch l[i] (T (l.drop (i + 1))) (lft l cap i) : Nat) : Int) * l[i].Size)) = ((lft l cap (i + 1) : Nat) : Int) := by
      rw [(sol_at hlt).2, hSn, hS, show (((ch l[i] (T (l.drop (i + 1))) (lft l cap i) : Nat) : Int) * (S : Int)) = ((ch l[i] (T (l.drop (i + 1))) (lft l cap i) * S : Nat) : Int) by simp,
        wrap64 (x := ((ch l[i] (T (l.drop (i + 1))) (lft l cap i) * S : Nat) : Int)) (by omega) (by omega), wrap64 (by omega) (by omega)]
      omega
    rw [e2, wrap64 (by omega) (by omega)]
    rfl
  · right
    refine ⟨_, ?_, fun nx => by
      have hcond : ¬ (decide ((i : Int) < (l.length : Int))) = true := by simpa using hlt
      unfold m18_L3
      simp only []
      rw [if_neg hcond]⟩
    rw [List.take_of_length_le (by rw [sol_len]; omega)]
theorem m18_val {n cap : Nat} {l : List R27} (hl : okL l) (hcap : cap ≤ 4000) (hlen : l.length ≤ 20) (hn : 4010 < n) : m18 n l (cap : Int) = some (casts (sol l cap), T l cap, 0) := by
  unfold m18
  rw [m13_val (by omega) (by omega), vldB_mk hl hlen hcap]
  simp only [Option.bind_some, Bool.not_true, Bool.false_eq_true, if_false]
  rw [m32_val hl hcap (by omega) hn]
  simp only [Option.bind_some, jn]
  rw [m18_L3_val hl hcap hlen _ hn]
  rw [getIdx_q (i := 0) (k := 0) rfl (tab_at (Nat.zero_le _))]
  simp only [Option.bind_some, List.drop_zero]
  rw [getIdx_q (k := cap) rfl (row_at (Nat.le_refl _))]
  rfl
theorem m18_no {n : Nat} {l : List R27} {c : Int} (hv : vldB l c = false) (hl : l.length ≤ 1000) (hn : 1000 < n) : m18 n l c = some ([], 0, 1) := by
  unfold m18
  rw [m13_val hl hn, hv]
  rfl
theorem m19_val {n cap : Nat} {l : List R27} (hl : okL l) (hcap : cap ≤ 4000) (hlen : l.length ≤ 20) (hn : 4010 < n) : m19 n l (cap : Int) = some (row (T l) cap, 0) := by
  unfold m19
  rw [m15_val (by omega) (by omega), vldB_mk hl hlen hcap]
  simp only [Option.bind_some, Bool.not_true, Bool.false_eq_true, if_false]
  rw [m31_val hl hcap (by omega) hn]
  simp only [Option.bind_some]
  rw [getIdx_q (i := 0) (k := 0) rfl (tab_at (Nat.zero_le _))]
  rfl
theorem m19_no {n : Nat} {l : List R27} {c : Int} (hv : vldB l c = false) (hl : l.length ≤ 1000) (hn : 1000 < n) : m19 n l c = some ([], 1) := by
  unfold m19
  rw [m15_val hl hn, hv]
  rfl
theorem m20_val {n cap : Nat} {l : List R27} (hl : okL l) (hcap : cap ≤ 4000) (hlen : l.length ≤ 20) (hn : 4010 < n) : m20 n l (cap : Int) = some (row (T l) cap, 0) := by
  unfold m20
  rw [m13_val (by omega) (by omega), vldB_mk hl hlen hcap]
  simp only [Option.bind_some, Bool.not_true, Bool.false_eq_true, if_false]
  rw [m32_val hl hcap (by omega) hn]
  simp only [Option.bind_some]
  rw [getIdx_q (i := 0) (k := 0) rfl (tab_at (Nat.zero_le _))]
  rfl
theorem m20_no {n : Nat} {l : List R27} {c : Int} (hv : vldB l c = false) (hl : l.length ≤ 1000) (hn : 1000 < n) : m20 n l c = some ([], 1) := by
  unfold m20
  rw [m13_val hl hn, hv]
  rfl
end Go.AB

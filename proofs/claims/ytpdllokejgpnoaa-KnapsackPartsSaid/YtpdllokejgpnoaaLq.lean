import Derived.Test.YtpdllokejgpnoaaLp
set_option linter.unusedVariables false
namespace Go.AB
open Go

theorem bef_tr {a b c : R27} (ha : okI a) (hb : okI b) (hc : okI c) (h3 : a.Value * b.Size ≤ b.Value * a.Size) (h4 : b.Value * c.Size ≤ c.Value * b.Size) : a.Value * c.Size ≤ c.Value * a.Size := by
  obtain ⟨s1, _, v1, _⟩ := ha
  obtain ⟨s2, _, v2, _⟩ := hb
  obtain ⟨s3, _, v3, _⟩ := hc
  have h5 := Int.mul_le_mul_of_nonneg_right h3 (show 0 ≤ c.Size by omega)
  have h6 := Int.mul_le_mul_of_nonneg_right h4 (show 0 ≤ a.Size by omega)
  have h7 : (a.Value * c.Size) * b.Size ≤ (c.Value * a.Size) * b.Size := by
    have e1 : (a.Value * c.Size) * b.Size = a.Value * b.Size * c.Size := by grind
    have e2 : (c.Value * a.Size) * b.Size = c.Value * b.Size * a.Size := by grind
    have e3 : b.Value * a.Size * c.Size = b.Value * c.Size * a.Size := by grind
    omega
  exact Int.le_of_mul_le_mul_right h7 (by omega)

theorem rest_mid {α : Type} {a b : List α} {x : α} : ((a ++ x :: b).drop (a.length + 1)).take ((a ++ x :: b).length - (a.length + 1)) = b := by
  rw [show a ++ x :: b = (a ++ [x]) ++ b by simp, show a.length + 1 = (a ++ [x]).length by simp, List.drop_left, List.take_of_length_le (by simp; omega)]
theorem m41_val {n a b : Nat} (h : b < n) : m41 n (a : Int) (b : Int) = some ((Nat.gcd a b : Nat) : Int) := m36_val h
theorem m37_val {a d : Nat} (hd : 0 < d) (hd2 : d ≤ 4000) (ha : a ≤ 20000000000000000) : m37 5000 (a : Int) (d : Int) = some (low a d) := by
  have hg : 0 < Nat.gcd a d := Nat.gcd_pos_of_pos_right _ hd
  have hab : a / Nat.gcd a d ≤ a := Nat.div_le_self _ _
  have hdb : d / Nat.gcd a d ≤ d := Nat.div_le_self _ _
  rw [m37, m41_val (by omega)]
  simp only [Option.bind_some]
  rw [asrt_pos (by omega), asrt_pos (by omega)]
  simp only [letM_eq]
  rw [tdiv_nat, tdiv_nat]
  unfold low
  generalize a / Nat.gcd a d = u at *
  generalize d / Nat.gcd a d = v at *
  rw [wrap64 (by omega) (by omega), wrap64 (by omega) (by omega)]

theorem m24_L4_val {y : List R27} {num c : Int} (hy : okL y) (h0 : 0 < y.length) (hlen : y.length ≤ 1000) (kk : Int → Option (R44 × Int)) :
    ∃ (j : Nat) (x : R27), y[j]? = some x ∧ (∀ z, z ∈ y → z.Value * x.Size ≤ x.Value * z.Size) ∧ loopM (m24_L4 5000 (y, num, c) kk) 5000 ((0 : Int), (1 : Int)) = kk (j : Int) := by
  refine loopM_ind (body := m24_L4 5000 (y, num, c) kk) (fun q x => ∃ i j : Nat, x.2 = (i : Int) ∧ x.1 = (j : Int) ∧ q = y.length - i ∧ i ≤ y.length ∧ ∃ b, y[j]? = some b ∧ ∀ z, z ∈ y.take i → z.Value * b.Size ≤ b.Value * z.Size)
    (fun o => ∃ (j : Nat) (x : R27), y[j]? = some x ∧ (∀ z, z ∈ y → z.Value * x.Size ≤ x.Value * z.Size) ∧ o = kk (j : Int)) (fun q x => ?_) 5000 (y.length - 1) (0, 1) ⟨1, 0, rfl, rfl, rfl, h0, y[0], List.getElem?_eq_getElem h0, ?_⟩ (by omega)
  · rintro ⟨i, j, h1, h2, rfl, hi, b, hb, hd⟩
    obtain ⟨x1, x2⟩ := x
    simp only at h1 h2
    subst h1 h2
    have hbm : b ∈ y := List.mem_of_getElem? hb
    by_cases hlt : i < y.length
    · left
      have hcond : (decide ((i : Int) < (y.length : Int))) = true := by simpa using hlt
      have hp := List.getElem?_eq_getElem hlt
      have hpm := List.getElem_mem hlt
      generalize y[i] = p at hp hpm
      have hob := hy b hbm
      have hop := hy p hpm
      have ⟨s1, s2, v1, v2, _⟩ := hob
      have ⟨s3, s4, v3, v4, _⟩ := hop
      obtain ⟨p1, p2⟩ := mulB v1 v2 (show 0 ≤ p.Size by omega) s4
      obtain ⟨p3, p4⟩ := mulB v3 v4 (show 0 ≤ b.Size by omega) s2
      have htk : ∀ {z}, z ∈ y.take (i + 1) → z ∈ y.take i ∨ z = p := by
        intro z hz
        rw [List.take_succ_eq_append_getElem hlt, List.mem_append] at hz
        rcases hz with hz | hz
        · exact .inl hz
        · right
          rw [List.getElem?_eq_getElem hlt] at hp
          simp at hz
          rw [hz]; exact Option.some.inj hp
      have body : ∀ nx, m24_L4 5000 (y, num, c) kk nx ((j : Int), (i : Int)) = nx ((if b.Value * p.Size < p.Value * b.Size then (i : Int) else (j : Int)), ((i + 1 : Nat) : Int)) := by
        intro nx
        rw [m24_L4]
        simp only
        rw [if_pos hcond, getIdx_q (k := i) rfl hp]
        simp only [Option.bind_some]
        rw [getIdx_q (k := j) rfl hb]
        simp only [Option.bind_some, jn, letM_eq]
        rw [wrap64 (x := b.Value * p.Size) (by omega) (by omega), wrap64 (x := p.Value * b.Size) (by omega) (by omega), wrap64 (x := (i : Int) + 1) (by omega) (by omega)]
        by_cases h : b.Value * p.Size < p.Value * b.Size <;> simp [h]
      by_cases h : b.Value * p.Size < p.Value * b.Size
      · refine ⟨y.length - (i + 1), ((i : Int), ((i + 1 : Nat) : Int)), by omega, ⟨i + 1, i, rfl, rfl, rfl, by omega, p, hp, fun z hz => ?_⟩, fun nx => by rw [body, if_pos h]⟩
        rcases htk hz with hz | rfl
        · exact bef_tr (hy z (List.mem_of_mem_take hz)) hob hop (hd z hz) (by omega)
        · exact Int.le_refl _
      · refine ⟨y.length - (i + 1), ((j : Int), ((i + 1 : Nat) : Int)), by omega, ⟨i + 1, j, rfl, rfl, rfl, by omega, b, hb, fun z hz => ?_⟩, fun nx => by rw [body, if_neg h]⟩
        rcases htk hz with hz | rfl
        · exact hd z hz
        · omega
    · right
      refine ⟨_, ⟨j, b, hb, ?_, rfl⟩, fun nx => by
        have hcond : ¬ (decide ((i : Int) < (y.length : Int))) = true := by simpa using hlt
        rw [m24_L4, if_neg hcond]⟩
      rw [List.take_of_length_le (by omega)] at hd
      exact hd
  · intro z hz
    have : z = y[0] := by
      obtain ⟨i, hi, e⟩ := List.getElem_of_mem hz
      simp at hi
      have : i = 0 := by omega
      subst this
      simp at e
      exact e.symm
    subst this
    exact Int.le_refl _

theorem m24_L3_val : ∀ (m : Nat) (y : List R27) (num C : Int) (n : Nat), y.length = m → m ≤ 1000 → okL y → 0 ≤ C → C ≤ 4000 → 0 ≤ num → num ≤ (4000 - C) * 1073741824 → m < n →
    ∃ xs, xs.Perm y ∧ srtd xs ∧ loopM (m24_L3 5000 (fun p_112 : Int => ((m37 5000 p_112 (1 : Int)).bind fun y_114 => (some ((R44.mk y_114.Num y_114.Den), (0 : Int)))))) n (y, num, C) = some (low (num * (grd xs C).2 + (grd xs C).1).toNat (grd xs C).2.toNat, 0)
  | 0, y, num, C, n, hm, _, hy, hC, hC2, h0, hb, hn => by
    have : y = [] := List.eq_nil_of_length_eq_zero hm
    subst this
    obtain ⟨n, rfl⟩ : ∃ k, n = k + 1 := ⟨n - 1, by omega⟩
    refine ⟨[], .refl _, .nil, ?_⟩
    obtain ⟨num, rfl⟩ : ∃ k : Nat, num = (k : Int) := ⟨num.toNat, by omega⟩
    rw [loopM_succ, m24_L3, if_neg (by simp)]
    simp only
    rw [show (1 : Int) = ((1 : Nat) : Int) from rfl, m37_val (by omega) (by omega) (by omega)]
    simp only [Option.bind_some, grd]
    simp [low]
  | m + 1, y, num, C, n, hm, hm2, hy, hC, hC2, h0, hb, hn => by
    obtain ⟨n, rfl⟩ : ∃ k, n = k + 1 := ⟨n - 1, by omega⟩
    rw [loopM_succ, m24_L3, if_pos (by simp; omega), jn]
    obtain ⟨j, x, hj, hd, hk⟩ := m24_L4_val (num := num) (c := C) hy (by omega) (by omega) (fun p_102 : Int => ((getIdx y p_102).bind fun y_104 => ((slc y (0 : Int) p_102).bind fun s_105 => ((apd ([] : List R27) s_105).bind fun l4_106 => ((slc y (IntKind.wrap .i64 (p_102 + (1 : Int))) (y.length : Int)).bind fun s_107 => ((apd l4_106 s_107).bind fun l4_108 => (if (decide (C < (IntKind.wrap .i64 (y_104.Size * y_104.Most)))) = true then ((m37 5000 (IntKind.wrap .i64 ((IntKind.wrap .i64 (num * y_104.Size)) + (IntKind.wrap .i64 (C * y_104.Value)))) y_104.Size).bind fun y_109 => (some ((R44.mk y_109.Num y_109.Den), (0 : Int)))) else (letM ((IntKind.wrap .i64 (num + (IntKind.wrap .i64 (y_104.Value * y_104.Most))))) fun t7_110 => (letM ((IntKind.wrap .i64 (C - (IntKind.wrap .i64 (y_104.Size * y_104.Most))))) fun t8_111 => (loopM (m24_L3 5000 (fun p_112 : Int => ((m37 5000 p_112 (1 : Int)).bind fun y_114 => (some ((R44.mk y_114.Num y_114.Den), (0 : Int)))))) n (l4_108, t7_110, t8_111)))))))))))
    simp only
    obtain ⟨hjl, hjx⟩ := List.getElem?_eq_some_iff.1 hj
    obtain ⟨a, b, rfl, rfl⟩ : ∃ a b, y = a ++ x :: b ∧ a.length = j := ⟨y.take j, y.drop (j + 1), by rw [← hjx]; simp, by simp; omega⟩
    simp only [List.length_append, List.length_cons] at hm hjl
    have ⟨s1, s2, v1, v2, w1, w2⟩ := hy x (by simp)
    obtain ⟨p1, p2⟩ := mulB (a := x.Size) (by omega) s2 w1 w2
    obtain ⟨p3, p4⟩ := mulB v1 v2 w1 w2
    have hrest : okL (a ++ b) := fun z hz => hy z (by simp at hz ⊢; rcases hz with h | h <;> simp [h])
    have pp : (a ++ x :: b).Perm (x :: (a ++ b)) := List.perm_middle
    have p9 : (4000 - C) * 1073741824 = 4000 * 1073741824 - C * 1073741824 := by grind
    have red : ∀ q : R27 → Option (R44 × Int), (getIdx (a ++ x :: b) (a.length : Int)).bind q = q x := fun q => by rw [get_mid rfl]; rfl
    by_cases hlt : C < x.Most * x.Size
    · -- the rest, in an order of its own
      have hs := srt_srtd hrest
      refine ⟨x :: srt (a ++ b), ((srt_perm _).cons _).trans pp.symm, List.pairwise_cons.2 ⟨fun z hz => ?_, hs⟩, hk.trans ?_⟩
      · exact hd z (pp.symm.mem_iff.1 (List.mem_cons_of_mem _ ((srt_perm _).mem_iff.1 hz)))
      · show ((getIdx (a ++ x :: b) (a.length : Int)).bind _) = _
        rw [red]
        rw [slc_val (l := 0) (i := 0) (j := a.length) rfl rfl (by simp) (by simp)]
        simp only [Option.bind_some]
        rw [show ((a ++ x :: b).drop 0).take (a.length - 0) = a by simp, apd_val (by simp; omega)]
        simp only [Option.bind_some]
        rw [wrap64 (x := (a.length : Int) + 1) (by omega) (by omega), slc_val (l := (a.length : Int) + 1) (i := a.length + 1) (j := (a ++ x :: b).length) rfl rfl (by simp) (Nat.le_refl _)]
        simp only [Option.bind_some]
        rw [rest_mid, apd_val (by simp; omega)]
        simp only [Option.bind_some]
        obtain ⟨p5, p6⟩ := mulB h0 (show num ≤ 4294967296000 by omega) (show 0 ≤ x.Size by omega) s2
        obtain ⟨p7, p8⟩ := mulB hC hC2 v1 v2
        rw [wrap64 (x := x.Size * x.Most) (by omega) (by omega), if_pos (by rw [Int.mul_comm]; simpa using hlt)]
        rw [wrap64 (x := num * x.Size) (by omega) (by omega), wrap64 (x := C * x.Value) (by omega) (by omega), wrap64 (by omega) (by omega)]
        simp only [grd, if_pos hlt]
        obtain ⟨q, hq⟩ : ∃ k : Nat, num * x.Size + C * x.Value = (k : Int) := ⟨(num * x.Size + C * x.Value).toNat, by omega⟩
        obtain ⟨S, hS⟩ : ∃ k : Nat, x.Size = (k : Int) := ⟨x.Size.toNat, by omega⟩
        rw [hq, hS, m37_val (by omega) (by omega) (by omega)]
        simp only [Option.bind_some, Int.toNat_natCast]
    · have hmul : x.Size * x.Most = x.Most * x.Size := Int.mul_comm _ _
      have hmul2 : x.Value * x.Most = x.Most * x.Value := Int.mul_comm _ _
      have p0 : x.Most ≤ x.Most * x.Size := by
        have := Int.mul_le_mul_of_nonneg_left s1 w1
        omega
      obtain ⟨p5, p6⟩ := mulB w1 (show x.Most ≤ x.Most * x.Size from p0) v1 v2
      have p7 : (4000 - (C - x.Most * x.Size)) * 1073741824 = (4000 - C) * 1073741824 + x.Most * x.Size * 1073741824 := by grind
      obtain ⟨xs, x1, x2, x3⟩ := m24_L3_val m (a ++ b) (num + x.Most * x.Value) (C - x.Most * x.Size) n (by simp; omega) (by omega) hrest (by omega) (by omega) (by omega) (by omega) (by omega)
      refine ⟨x :: xs, (x1.cons _).trans pp.symm, List.pairwise_cons.2 ⟨fun z hz => ?_, x2⟩, hk.trans ?_⟩
      · exact hd z (pp.symm.mem_iff.1 (List.mem_cons_of_mem _ (x1.mem_iff.1 hz)))
      · show ((getIdx (a ++ x :: b) (a.length : Int)).bind _) = _
        rw [red]
        rw [slc_val (l := 0) (i := 0) (j := a.length) rfl rfl (by simp) (by simp)]
        simp only [Option.bind_some]
        rw [show ((a ++ x :: b).drop 0).take (a.length - 0) = a by simp, apd_val (by simp; omega)]
        simp only [Option.bind_some]
        rw [wrap64 (x := (a.length : Int) + 1) (by omega) (by omega), slc_val (l := (a.length : Int) + 1) (i := a.length + 1) (j := (a ++ x :: b).length) rfl rfl (by simp) (Nat.le_refl _)]
        simp only [Option.bind_some]
        rw [rest_mid, apd_val (by simp; omega)]
        simp only [Option.bind_some, List.nil_append]
        rw [hmul, hmul2, wrap64 (x := x.Most * x.Size) (by omega) (by omega), if_neg (by simpa using hlt)]
        simp only [letM_eq]
        rw [wrap64 (x := x.Most * x.Value) (by omega) (by omega), wrap64 (x := num + x.Most * x.Value) (by omega) (by omega), wrap64 (x := C - x.Most * x.Size) (by omega) (by omega), x3]
        simp only [grd, if_neg hlt]
        congr 3
        grind
theorem m24_val {l : List R27} {cap : Nat} (hl : okL l) (hcap : cap ≤ 4000) (hlen : l.length ≤ 20) : m24 5000 l (cap : Int) = some (low (grd (srt l) cap).1.toNat (grd (srt l) cap).2.toNat, 0) := by
  rw [m24, m13_val (by omega) (by omega), vldB_mk hl hlen hcap]
  simp only [Option.bind_some, Bool.not_true, Bool.false_eq_true, if_false]
  rw [apd_val (by simp; omega)]
  simp only [Option.bind_some, List.nil_append, jn]
  obtain ⟨xs, x1, x2, x3⟩ := m24_L3_val l.length l 0 (cap : Int) 5000 rfl (by omega) hl (by omega) (by omega) (by omega) (by omega) (by omega)
  rw [x3]
  simp only [Int.zero_mul, Int.zero_add]
  have hxs : okL xs := fun z hz => hl z (x1.mem_iff.1 hz)
  have e := grd_eq (C := (cap : Int)) hxs (okL_srt hl) x2 (srt_srtd hl) (by omega) (covers_perm (x1.trans (srt_perm l).symm)) (covers_perm ((srt_perm l).trans x1.symm))
  obtain ⟨a1, a2⟩ := grd_nn (C := (cap : Int)) hxs (by omega)
  obtain ⟨b1, b2⟩ := grd_nn (C := (cap : Int)) (okL_srt hl) (by omega)
  have a3 : 0 < (grd xs (cap : Int)).2 := grd_pos hxs
  have b3 : 0 < (grd (srt l) (cap : Int)).2 := grd_pos (okL_srt hl)
  generalize grd xs (cap : Int) = g at *
  generalize grd (srt l) (cap : Int) = g' at *
  obtain ⟨a, d⟩ := g
  obtain ⟨a', d'⟩ := g'
  simp only at *
  rw [low_eq (a := a.toNat) (d := d.toNat) (a' := a'.toNat) (d' := d'.toNat) ?_ (by omega) (by omega)]
  obtain ⟨a, rfl⟩ : ∃ m : Nat, a = (m : Int) := ⟨a.toNat, by omega⟩
  obtain ⟨d, rfl⟩ : ∃ m : Nat, d = (m : Int) := ⟨d.toNat, by omega⟩
  obtain ⟨a', rfl⟩ : ∃ m : Nat, a' = (m : Int) := ⟨a'.toNat, by omega⟩
  obtain ⟨d', rfl⟩ : ∃ m : Nat, d' = (m : Int) := ⟨d'.toNat, by omega⟩
  simp only [Int.toNat_natCast]
  exact_mod_cast e
theorem m24_no {l : List R27} {c : Int} (hv : vldB l c = false) (hl : l.length ≤ 1000) : m24 5000 l c = some (R44.mk 0 0, 1) := by
  rw [m24, m13_val (by omega) (by omega), hv]
  rfl
end Go.AB

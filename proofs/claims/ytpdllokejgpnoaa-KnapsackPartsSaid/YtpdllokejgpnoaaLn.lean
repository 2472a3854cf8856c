import Derived.Test.YtpdllokejgpnoaaLm
set_option linter.unusedVariables false
namespace Go.AB
open Go

theorem m36_L1_val {N : Nat} (k : Int → Option Int) : ∀ (n a b : Nat), b < n → loopM (m36_L1 N k) n ((a : Int), (b : Int)) = k ((Nat.gcd a b : Nat) : Int)
  | 0, _, _, h => absurd h (Nat.not_lt_zero _)
  | n + 1, a, b, h => by
    rw [loopM_succ, m36_L1]
    by_cases hb : b = 0
    · subst hb
      rw [if_neg (by simp)]
      simp
    · have hb' : (b : Int) ≠ 0 := by omega
      rw [if_pos (by simpa using hb), asrt_pos hb']
      simp only
      rw [tmod_nat]
      have := Nat.mod_lt a (Nat.pos_of_ne_zero hb)
      refine (m36_L1_val k n b (a % b) (by omega)).trans ?_
      rw [Nat.gcd_comm a b, Nat.gcd_rec b a, Nat.gcd_comm]
theorem m36_val {n a b : Nat} (h : b < n) : m36 n (a : Int) (b : Int) = some ((Nat.gcd a b : Nat) : Int) := by
  rw [m36, jn]
  exact m36_L1_val _ n a b h

def low (a d : Nat) : R44 := R44.mk ((a / Nat.gcd a d : Nat) : Int) ((d / Nat.gcd a d : Nat) : Int)
theorem low_eq {a d a' d' : Nat} (h : a * d' = a' * d) (hd : 0 < d) (hd' : 0 < d') : low a d = low a' d' := by
  have hg : 0 < Nat.gcd a d := Nat.gcd_pos_of_pos_right _ hd
  have hg' : 0 < Nat.gcd a' d' := Nat.gcd_pos_of_pos_right _ hd'
  have e1 : Nat.gcd a d * d' = Nat.gcd a' d' * d := by
    rw [← Nat.gcd_mul_right, ← Nat.gcd_mul_right, h, Nat.mul_comm d d']
  have e2 : Nat.gcd a d * a' = Nat.gcd a' d' * a := by
    rw [← Nat.gcd_mul_right, ← Nat.gcd_mul_right, Nat.mul_comm d a', ← h, Nat.mul_comm a' a, Nat.mul_comm d' a]
  have key : ∀ {g g' u u' : Nat}, 0 < g → 0 < g' → g ∣ u → g' ∣ u' → g * u' = g' * u → u / g = u' / g' := by
    intro g g' u u' h1 h2 ⟨q, hq⟩ ⟨q', hq'⟩ e
    subst hq hq'
    rw [Nat.mul_div_cancel_left _ h1, Nat.mul_div_cancel_left _ h2]
    have e' : g * g' * q' = g * g' * q := by grind
    exact (Nat.eq_of_mul_eq_mul_left (Nat.mul_pos h1 h2) e').symm
  unfold low
  rw [key hg hg' (Nat.gcd_dvd_left _ _) (Nat.gcd_dvd_left _ _) e2, key hg hg' (Nat.gcd_dvd_right _ _) (Nat.gcd_dvd_right _ _) e1]

theorem m23_L1_val {N : Nat} {y : List R27} (k : (Int × Int) → Option (R44 × Int)) : ∀ (xs pre : List R27) (C num : Int) (n : Nat), okL xs → y = pre ++ xs → y.length ≤ 1000 → 0 ≤ C → C ≤ 4000 → 0 ≤ num → num ≤ (4000 - C) * 1073741824 → xs.length < n →
    loopM (m23_L1 N y k) n (C, num, (pre.length : Int)) = k (num * (grd xs C).2 + (grd xs C).1, (grd xs C).2) := by
  intro xs
  induction xs with
  | nil =>
    intro pre C num n _ hy _ _ _ _ _ hn
    obtain ⟨n, rfl⟩ : ∃ m, n = m + 1 := ⟨n - 1, by omega⟩
    rw [loopM_succ, m23_L1, if_neg (by simp [hy])]
    simp [grd]
  | cons x xs ih =>
    intro pre C num n hl hy hy1 hC hC2 hn0 hnb hn
    obtain ⟨n, rfl⟩ : ∃ m, n = m + 1 := ⟨n - 1, by omega⟩
    have hx := hl x (by simp)
    have hl' : okL xs := fun z hz => hl z (List.mem_cons_of_mem _ hz)
    obtain ⟨s1, s2, v1, v2, w1, w2⟩ := hx
    have hyl : y.length = pre.length + (xs.length + 1) := by rw [hy]; simp
    rw [loopM_succ, m23_L1, if_pos (by simp; omega), getIdx_q (k := pre.length) (y := x) rfl (by rw [hy]; simp)]
    simp only [Option.bind_some]
    rw [asrt_pos (by omega)]
    simp only [letM_eq]
    rw [Int.tdiv_eq_ediv_of_nonneg hC]
    have hq0 : 0 ≤ C / x.Size := Int.ediv_nonneg hC (by omega)
    have hqS : C / x.Size * x.Size ≤ C := Int.ediv_mul_le C (by omega)
    have hqC : C / x.Size ≤ C := Int.ediv_le_self _ hC
    have hiff : C / x.Size < x.Most ↔ C < x.Most * x.Size := Int.ediv_lt_iff_lt_mul (by omega)
    generalize C / x.Size = q at *
    rw [wrap64 (x := q) (by omega) (by omega)]
    simp only [grd]
    by_cases hlt : C < x.Most * x.Size
    · have hqm := hiff.2 hlt
      obtain ⟨p1, p2⟩ := mulB hq0 hqC v1 v2
      obtain ⟨p3, p4⟩ := mulB hq0 (show q ≤ 4000 by omega) (show 0 ≤ x.Size by omega) s2
      have p5 : (4000 - C) * 1073741824 = 4000 * 1073741824 - C * 1073741824 := by grind
      obtain ⟨p6, p7⟩ := mulB (show 0 ≤ num + q * x.Value by omega) (show num + q * x.Value ≤ 4294967296000 by omega) (show 0 ≤ x.Size by omega) s2
      obtain ⟨p8, p9⟩ := mulB (show 0 ≤ C - q * x.Size by omega) (show C - q * x.Size ≤ 4000 by omega) v1 v2
      rw [if_pos hqm, if_pos hlt, if_pos (by simpa using hqm)]
      rw [wrap64 (x := q * x.Value) (by omega) (by omega), wrap64 (x := q * x.Size) (by omega) (by omega), wrap64 (x := num + q * x.Value) (by omega) (by omega), wrap64 (x := C - q * x.Size) (by omega) (by omega)]
      rw [wrap64 (x := (num + q * x.Value) * x.Size) (by omega) (by omega), wrap64 (x := (C - q * x.Size) * x.Value) (by omega) (by omega), wrap64 (by omega) (by omega)]
      congr 2
      grind
    · have hqm : ¬ q < x.Most := fun h => hlt (hiff.1 h)
      have p0 : x.Most ≤ x.Most * x.Size := by
        have := Int.mul_le_mul_of_nonneg_left s1 w1
        omega
      obtain ⟨p1, p2⟩ := mulB w1 (show x.Most ≤ x.Most * x.Size from p0) v1 v2
      have p5 : (4000 - (C - x.Most * x.Size)) * 1073741824 = (4000 - C) * 1073741824 + x.Most * x.Size * 1073741824 := by grind
      have hmul : 0 ≤ x.Most * x.Size := Int.mul_nonneg w1 (by omega)
      have p6 : (4000 - C) * 1073741824 ≤ 4294967296000 := by omega
      rw [if_neg hqm, if_neg hlt, if_neg (by simp)]
      rw [wrap64 (x := x.Most * x.Value) (by omega) (by omega), wrap64 (x := x.Most * x.Size) (by omega) (by omega), wrap64 (x := num + x.Most * x.Value) (by omega) (by omega), wrap64 (x := C - x.Most * x.Size) (by omega) (by omega), wrap64 (x := (pre.length : Int) + 1) (by omega) (by omega)]
      have := ih (pre ++ [x]) (C - x.Most * x.Size) (num + x.Most * x.Value) n hl' (by simp [hy]) hy1 (by omega) (by omega) (by omega) (by rw [p5]; omega) (by simp at hn; omega)
      rw [show (((pre ++ [x]).length : Nat) : Int) = (pre.length : Int) + 1 by simp] at this
      refine this.trans ?_
      congr 2
      grind

theorem grd_bd : ∀ {l : List R27} {C : Int}, okL l → 0 ≤ C → (grd l C).1 ≤ C * 1073741824 * (grd l C).2
  | [], C, _, hC => by simp [grd]; omega
  | x :: l, C, hl, hC => by
    obtain ⟨s1, s2, v1, v2, w1, w2⟩ := hl x (by simp)
    have hl' : okL l := fun y hy => hl y (List.mem_cons_of_mem _ hy)
    simp only [grd]
    split
    · simp only
      have h1 := Int.mul_le_mul_of_nonneg_left v2 hC
      have h2 := Int.mul_le_mul_of_nonneg_left s1 (show 0 ≤ C * 1073741824 by omega)
      omega
    · have ih := grd_bd (C := C - x.Most * x.Size) hl' (by omega)
      have hp : 0 < (grd l (C - x.Most * x.Size)).2 := grd_pos hl'
      generalize grd l (C - x.Most * x.Size) = g at *
      obtain ⟨a, d⟩ := g
      simp only at *
      have h1 := Int.mul_le_mul_of_nonneg_left v2 w1
      have h2 := Int.mul_le_mul_of_nonneg_left s1 w1
      have h3 := Int.mul_le_mul_of_nonneg_right (show x.Most * x.Value ≤ x.Most * x.Size * 1073741824 by omega) (show 0 ≤ d by omega)
      have e : C * 1073741824 * d - (x.Most * x.Value * d + a) = ((C - x.Most * x.Size) * 1073741824 * d - a) + (x.Most * x.Size * 1073741824 * d - x.Most * x.Value * d) := by grind
      omega

theorem m23_val {l : List R27} {cap : Nat} (hl : okL l) (hcap : cap ≤ 4000) (hlen : l.length ≤ 20) : m23 5000 l (cap : Int) = some (low (grd (srt l) cap).1.toNat (grd (srt l) cap).2.toNat, 0) := by
  have hs := okL_srt hl
  obtain ⟨g1, g2⟩ := grd_nn (C := (cap : Int)) hs (by omega)
  have g3 : 0 < (grd (srt l) (cap : Int)).2 := grd_pos hs
  have g4 := grd_bd (C := (cap : Int)) hs (by omega)
  rw [m23, m15_val (by omega) (by omega), vldB_mk hl hlen hcap]
  simp only [Option.bind_some, Bool.not_true, Bool.false_eq_true, if_false]
  rw [m33o_val (by omega)]
  simp only [Option.bind_some]
  rw [m34_val hl hlen]
  simp only [Option.bind_some]
  rw [asrt_pos (srt_len l).symm, jn]
  refine (m23_L1_val _ (srt l) [] (cap : Int) 0 5000 hs rfl (by rw [List.nil_append, srt_len]; omega) (by omega) (by omega) (by omega) (by omega) (by rw [srt_len]; omega)).trans ?_
  simp only [Int.zero_mul, Int.zero_add]
  generalize grd (srt l) (cap : Int) = g at *
  obtain ⟨a, d⟩ := g
  simp only at *
  obtain ⟨a, rfl⟩ : ∃ m : Nat, a = (m : Int) := ⟨a.toNat, by omega⟩
  obtain ⟨d, rfl⟩ : ∃ m : Nat, d = (m : Int) := ⟨d.toNat, by omega⟩
  have hg : 0 < Nat.gcd a d := Nat.gcd_pos_of_pos_right _ (by omega)
  have hab : a / Nat.gcd a d ≤ a := Nat.div_le_self _ _
  have hdb : d / Nat.gcd a d ≤ d := Nat.div_le_self _ _
  rw [m36_val (by omega)]
  simp only [Option.bind_some]
  rw [asrt_pos (by omega), asrt_pos (by omega)]
  simp only [letM_eq]
  obtain ⟨b1, b2⟩ := mulB (a := (cap : Int) * 1073741824) (A := 4294967296000) (b := (d : Int)) (B := 4000) (by omega) (by omega) (by omega) (by omega)
  rw [tdiv_nat, tdiv_nat]
  unfold low
  simp only [Int.toNat_natCast]
  generalize a / Nat.gcd a d = u at *
  generalize d / Nat.gcd a d = v at *
  rw [wrap64 (by omega) (by omega), wrap64 (by omega) (by omega)]
theorem m23_no {l : List R27} {c : Int} (hv : vldB l c = false) (hl : l.length ≤ 1000) : m23 5000 l c = some (R44.mk 0 0, 1) := by
  rw [m23, m15_val (by omega) (by omega), hv]
  rfl

/-! solutions in whole numbers -/
theorem fea_fd : ∀ {l : List R27} {s : List Nat} {c : Nat}, okL l → fea l s c → fd 1 l (casts s) ∧ vi l (casts s) = vl l s ∧ si l (casts s) ≤ (c : Int)
  | [], [], c, _, _ => by simp [fd, vi, si, vl, casts]
  | [], n :: s, c, _, h => by simp [fea] at h
  | x :: l, [], c, _, h => by simp [fea] at h
  | x :: l, n :: s, c, hl, h => by
    obtain ⟨s1, s2, v1, v2, w1, w2⟩ := hl x (by simp)
    obtain ⟨h1, h2, h3⟩ := h
    obtain ⟨i1, i2, i3⟩ := fea_fd (fun z hz => hl z (List.mem_cons_of_mem _ hz)) h3
    have e : ((n * x.Size.toNat : Nat) : Int) = (n : Int) * x.Size := by
      rw [Int.natCast_mul, Int.toNat_of_nonneg (by omega)]
    refine ⟨⟨by simp, by simp; omega, i1⟩, ?_, ?_⟩
    · show (n : Int) * x.Value + vi l (casts s) = _
      rw [i2]; rfl
    · show (n : Int) * x.Size + si l (casts s) ≤ _
      omega
theorem fd_fea : ∀ {l : List R27} {y : List Int} {c : Nat}, okL l → fd 1 l y → si l y ≤ (c : Int) → ∃ s, fea l s c ∧ vl l s = vi l y
  | [], [], c, _, _, _ => ⟨[], by simp [fea], rfl⟩
  | [], n :: s, c, _, h, _ => by simp [fd] at h
  | x :: l, [], c, _, h, _ => by simp [fd] at h
  | x :: l, n :: y, c, hl, h, hc => by
    have hl' : okL l := fun z hz => hl z (List.mem_cons_of_mem _ hz)
    obtain ⟨s1, s2, v1, v2, w1, w2⟩ := hl x (by simp)
    obtain ⟨h1, h2, h3⟩ := h
    simp only [si] at hc
    have hnn : ∀ {l : List R27} {y : List Int}, okL l → fd 1 l y → 0 ≤ si l y := by
      intro l
      induction l with
      | nil =>
        intro y _ hy
        cases y with
        | nil => simp [si]
        | cons n y => simp [fd] at hy
      | cons x l ih =>
        intro y hl hy
        cases y with
        | nil => simp [fd] at hy
        | cons n y =>
          obtain ⟨q1, _⟩ := hl x (by simp)
          have := Int.mul_nonneg hy.1 (show 0 ≤ x.Size by omega)
          have := ih (y := y) (fun z hz => hl z (List.mem_cons_of_mem _ hz)) hy.2.2
          simp only [si]
          omega
    obtain ⟨n, rfl⟩ : ∃ m : Nat, n = (m : Int) := ⟨n.toNat, by omega⟩
    have e : ((n * x.Size.toNat : Nat) : Int) = (n : Int) * x.Size := by
      rw [Int.natCast_mul, Int.toNat_of_nonneg (by omega)]
    have := hnn hl' h3
    obtain ⟨s, t1, t2⟩ := fd_fea (c := c - n * x.Size.toNat) hl' h3 (by omega)
    exact ⟨n :: s, ⟨by omega, by omega, t1⟩, by simp only [vl, vi, t2]⟩
theorem T_covers {l l' : List R27} {cap : Nat} (hl : okL l) (hl' : okL l') (h : covers l l') : T l cap ≤ T l' cap := by
  obtain ⟨f1, f2, f3⟩ := fea_fd hl (fea_sol (c := cap) hl)
  obtain ⟨y', q1, q2, q3⟩ := h 1 _ (by omega) f1
  obtain ⟨s, t1, t2⟩ := fd_fea (c := cap) hl' q1 (by omega)
  have := T_ub hl' t1
  rw [t2, q2, f2, vl_sol] at this
  exact this
/-- the bound against the best value -/
theorem T_grd {l : List R27} {cap : Nat} (hl : okL l) : T l cap * (grd (srt l) cap).2 ≤ (grd (srt l) cap).1 := by
  obtain ⟨f1, f2, f3⟩ := fea_fd hl (fea_sol (c := cap) hl)
  obtain ⟨y', q1, q2, q3⟩ := fd_perm (srt_perm l).symm f1
  have := grd_ub (E := 0) (V := 1073741824) (S := 1) (C := (cap : Int)) (okL_srt hl) (srt_srtd hl) (by omega) (by omega) (by omega) (by omega) (by omega) (dom_ok (okL_srt hl)) q1 (by omega)
  rw [q2, f2, vl_sol] at this
  omega
theorem grd_T {l : List R27} {cap : Nat} {mv : Int} (hl : okL l) (hv : ∀ x, x ∈ l → x.Value ≤ mv) (hmv : 0 ≤ mv) : (grd (srt l) cap).1 ≤ (T l cap + mv) * (grd (srt l) cap).2 := by
  obtain ⟨y, y1, y2, y3⟩ := grd_int (C := (cap : Int)) (okL_srt hl) (fun x hx => hv x ((srt_perm l).mem_iff.1 hx)) hmv (by omega)
  obtain ⟨y', q1, q2, q3⟩ := fd_perm (srt_perm l) y1
  obtain ⟨s, t1, t2⟩ := fd_fea (c := cap) hl q1 (by omega)
  have h1 := T_ub hl t1
  have h2 : 0 < (grd (srt l) (cap : Int)).2 := grd_pos (okL_srt hl)
  have := Int.mul_le_mul_of_nonneg_right (show vi (srt l) y + mv ≤ T l cap + mv by omega) (show 0 ≤ (grd (srt l) (cap : Int)).2 by omega)
  omega
end Go.AB

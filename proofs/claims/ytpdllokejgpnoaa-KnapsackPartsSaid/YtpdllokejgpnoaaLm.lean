import Derived.Test.YtpdllokejgpnoaaLk
set_option linter.unusedVariables false
namespace Go.AB
open Go

/-! ITEMS THAT MAY BE DIVIDED: solutions in D-ths. -/
def vi : List R27 → List Int → Int
  | x :: l, n :: s => n * x.Value + vi l s
  | _, _ => 0
def si : List R27 → List Int → Int
  | x :: l, n :: s => n * x.Size + si l s
  | _, _ => 0
def fd (D : Int) : List R27 → List Int → Prop
  | [], [] => True
  | x :: l, n :: s => 0 ≤ n ∧ n ≤ D * x.Most ∧ fd D l s
  | _, _ => False
def grd : List R27 → Int → Int × Int
  | [], _ => (0, 1)
  | x :: l, C => if C < x.Most * x.Size then (C * x.Value, x.Size) else (x.Most * x.Value * (grd l (C - x.Most * x.Size)).2 + (grd l (C - x.Most * x.Size)).1, (grd l (C - x.Most * x.Size)).2)

def domr (V S : Int) (l : List R27) : Prop := ∀ z, z ∈ l → z.Value * S ≤ V * z.Size
def srtd (l : List R27) : Prop := l.Pairwise fun a b => b.Value * a.Size ≤ a.Value * b.Size

theorem srt_srtd {l : List R27} (hl : okL l) : srtd (srt l) := by
  have h := isr_sorted (lt := ltI) (ok := okI) (fun a b c ha hb hc h1 h2 => ?_) (fun a b ha hb h => ?_) l [] (by simp) hl .nil
  · refine h.imp fun {a b} h => ?_
    simp [ltI] at h
    omega
  · simp only [ltI, decide_eq_false_iff_not] at h1 h2 ⊢
    obtain ⟨s1, _, v1, _⟩ := ha
    obtain ⟨s2, _, v2, _⟩ := hb
    obtain ⟨s3, _, v3, _⟩ := hc
    have h3 : a.Value * b.Size ≤ b.Value * a.Size := by omega
    have h4 : b.Value * c.Size ≤ c.Value * b.Size := by omega
    have h5 := Int.mul_le_mul_of_nonneg_right h3 (show 0 ≤ c.Size by omega)
    have h6 := Int.mul_le_mul_of_nonneg_right h4 (show 0 ≤ a.Size by omega)
    have h7 : (a.Value * c.Size) * b.Size ≤ (c.Value * a.Size) * b.Size := by
      have e1 : (a.Value * c.Size) * b.Size = a.Value * b.Size * c.Size := by grind
      have e2 : (c.Value * a.Size) * b.Size = c.Value * b.Size * a.Size := by grind
      have e3 : b.Value * a.Size * c.Size = b.Value * c.Size * a.Size := by grind
      omega
    have := Int.le_of_mul_le_mul_right h7 (by omega)
    omega
  · simp only [ltI, decide_eq_false_iff_not, decide_eq_true_eq] at h ⊢
    omega

theorem dom_le {V S : Int} : ∀ {l : List R27} {y : List Int} {D : Int}, domr V S l → fd D l y → vi l y * S ≤ V * si l y
  | [], [], D, _, _ => by simp [vi, si]
  | [], n :: s, D, _, h => by simp [fd] at h
  | x :: l, [], D, _, h => by simp [fd] at h
  | x :: l, n :: s, D, hd, h => by
    obtain ⟨h1, h2, h3⟩ := h
    have ih := dom_le (fun z hz => hd z (List.mem_cons_of_mem _ hz)) h3
    have hx := Int.mul_le_mul_of_nonneg_left (hd x (by simp)) h1
    have e : V * si (x :: l) (n :: s) - vi (x :: l) (n :: s) * S = (n * (V * x.Size) - n * (x.Value * S)) + (V * si l s - vi l s * S) := by
      simp only [vi, si]; grind
    omega

theorem grd_pos : ∀ {l : List R27} {C : Int}, okL l → 0 < (grd l C).2
  | [], C, _ => by simp [grd]
  | x :: l, C, hl => by
    have hx := hl x (by simp)
    simp only [grd]
    split
    · obtain ⟨s1, _⟩ := hx; simp only; omega
    · exact grd_pos fun y hy => hl y (List.mem_cons_of_mem _ hy)

theorem grd_ub : ∀ {l : List R27} {y : List Int} {C E V S D : Int}, okL l → srtd l → 0 ≤ C → 0 ≤ E → 0 < S → 0 ≤ V → 0 ≤ D → domr V S l → fd D l y → si l y ≤ D * C + E →
    vi l y * (grd l C).2 * S ≤ (grd l C).1 * D * S + E * V * (grd l C).2
  | [], [], C, E, V, S, D, _, _, _, hE, _, hV, _, _, _, _ => by
    have := Int.mul_nonneg hE hV
    simp [vi, grd]; exact this
  | [], n :: s, C, E, V, S, D, _, _, _, _, _, _, _, _, h, _ => by simp [fd] at h
  | x :: l, [], C, E, V, S, D, _, _, _, _, _, _, _, _, h, _ => by simp [fd] at h
  | x :: l, n :: s, C, E, V, S, D, hl, hs, hC, hE, hS, hV, hD, hd, hf, hsi => by
    have hx := hl x (by simp)
    have hl' : okL l := fun y hy => hl y (List.mem_cons_of_mem _ hy)
    obtain ⟨s1, s2, v1, v2, w1, w2⟩ := hx
    have hs' := List.pairwise_cons.1 hs
    have hdx := hd x (by simp)
    have hdl : domr x.Value x.Size l := fun z hz => hs'.1 z hz
    simp only [grd]
    split
    · rename_i hlt
      simp only
      have hdx' : domr x.Value x.Size (x :: l) := fun z hz => by
        rcases List.mem_cons.1 hz with rfl | hz
        · exact Int.le_refl _
        · exact hdl z hz
      have h1 := dom_le hdx' hf
      have h2 := Int.mul_le_mul_of_nonneg_left hsi v1
      have h3 := Int.mul_le_mul_of_nonneg_right (Int.le_trans h1 h2) (show 0 ≤ S by omega)
      have h4 := Int.mul_le_mul_of_nonneg_left hdx hE
      generalize vi (x :: l) (n :: s) = w at *
      have e : C * x.Value * D * S + E * V * x.Size - w * x.Size * S = (x.Value * (D * C + E) * S - w * x.Size * S) + (E * (V * x.Size) - E * (x.Value * S)) := by grind
      omega
    · rename_i hge
      obtain ⟨f1, f2, f3⟩ := hf
      simp only [si, vi] at hsi ⊢
      have hC' : 0 ≤ C - x.Most * x.Size := by omega
      have hF : 0 ≤ (D * x.Most - n) * x.Size := Int.mul_nonneg (by omega) (by omega)
      have hsi' : si l s ≤ D * (C - x.Most * x.Size) + (E + (D * x.Most - n) * x.Size) := by
        have e : D * (C - x.Most * x.Size) + (E + (D * x.Most - n) * x.Size) - si l s = D * C + E - (n * x.Size + si l s) := by grind
        omega
      have ih := grd_ub (V := x.Value) (S := x.Size) hl' hs'.2 hC' (show 0 ≤ E + (D * x.Most - n) * x.Size by omega) (by omega) v1 hD hdl f3 hsi'
      have hg : 0 < (grd l (C - x.Most * x.Size)).2 := grd_pos hl'
      generalize grd l (C - x.Most * x.Size) = g at *
      obtain ⟨a, d⟩ := g
      simp only at *
      generalize vi l s = w at *
      have h3 := Int.mul_le_mul_of_nonneg_right ih (show 0 ≤ S by omega)
      have h4 := Int.mul_le_mul_of_nonneg_left hdx (show 0 ≤ E * d from Int.mul_nonneg hE (by omega))
      refine Int.le_of_mul_le_mul_right (a := x.Size) ?_ (by omega)
      have e : ((x.Most * x.Value * d + a) * D * S + E * V * d) * x.Size - (n * x.Value + w) * d * S * x.Size = ((a * D * x.Size + (E + (D * x.Most - n) * x.Size) * x.Value * d) * S - w * d * x.Size * S) + (E * d * (V * x.Size) - E * d * (x.Value * S)) := by grind
      omega

def zs (l : List R27) : List Int := l.map fun _ => 0
theorem zs_ok {D : Int} (hD : 0 ≤ D) : ∀ {l : List R27}, okL l → fd D l (zs l) ∧ si l (zs l) = 0 ∧ vi l (zs l) = 0
  | [], _ => by simp [zs, fd, si, vi]
  | x :: l, hl => by
    have ih := zs_ok hD fun y hy => hl y (List.mem_cons_of_mem _ hy)
    obtain ⟨_, _, _, _, w1, w2⟩ := hl x (by simp)
    have := Int.mul_nonneg hD w1
    refine ⟨⟨Int.le_refl _, this, ih.1⟩, ?_, ?_⟩
    · show 0 * x.Size + si l (zs l) = 0
      omega
    · show 0 * x.Value + vi l (zs l) = 0
      omega

theorem grd_at : ∀ {l : List R27} {C : Int}, okL l → 0 ≤ C → ∃ y, fd (grd l C).2 l y ∧ si l y ≤ (grd l C).2 * C ∧ vi l y = (grd l C).1
  | [], C, _, hC => ⟨[], by simp [fd], by simp [si, grd]; exact hC, by simp [vi, grd]⟩
  | x :: l, C, hl, hC => by
    have hx := hl x (by simp)
    have hl' : okL l := fun y hy => hl y (List.mem_cons_of_mem _ hy)
    obtain ⟨s1, s2, v1, v2, w1, w2⟩ := hx
    simp only [grd]
    split
    · rename_i hlt
      obtain ⟨z1, z2, z3⟩ := zs_ok (D := x.Size) (by omega) hl'
      refine ⟨C :: zs l, ⟨hC, by simp only; rw [Int.mul_comm]; omega, z1⟩, ?_, ?_⟩
      · simp only [si, z2]; rw [Int.mul_comm]; omega
      · simp only [vi, z3]; omega
    · rename_i hge
      have hg : 0 < (grd l (C - x.Most * x.Size)).2 := grd_pos hl'
      obtain ⟨y, y1, y2, y3⟩ := grd_at (C := C - x.Most * x.Size) hl' (by omega)
      generalize grd l (C - x.Most * x.Size) = g at *
      obtain ⟨a, d⟩ := g
      simp only at *
      refine ⟨(d * x.Most) :: y, ⟨Int.mul_nonneg (by omega) w1, Int.le_refl _, y1⟩, ?_, ?_⟩
      · simp only [si]
        have e : d * C - (d * x.Most * x.Size + si l y) = d * (C - x.Most * x.Size) - si l y := by grind
        omega
      · simp only [vi, y3]
        grind

theorem grd_int {mv : Int} : ∀ {l : List R27} {C : Int}, okL l → (∀ x, x ∈ l → x.Value ≤ mv) → 0 ≤ mv → 0 ≤ C → ∃ y, fd 1 l y ∧ si l y ≤ C ∧ (grd l C).1 ≤ (vi l y + mv) * (grd l C).2
  | [], C, _, _, hmv, hC => ⟨[], by simp [fd], by simp [si]; exact hC, by simp [vi, grd]; exact hmv⟩
  | x :: l, C, hl, hv, hmv, hC => by
    have hx := hl x (by simp)
    have hvx := hv x (by simp)
    have hl' : okL l := fun y hy => hl y (List.mem_cons_of_mem _ hy)
    obtain ⟨s1, s2, v1, v2, w1, w2⟩ := hx
    simp only [grd]
    split
    · rename_i hlt
      obtain ⟨z1, z2, z3⟩ := zs_ok (D := 1) (by omega) hl'
      have hq : x.Size * (C / x.Size) + C % x.Size = C := Int.mul_ediv_add_emod C x.Size
      have hr := Int.emod_nonneg C (show x.Size ≠ 0 by omega)
      have hr2 := Int.emod_lt_of_pos C (show 0 < x.Size by omega)
      have hq0 : 0 ≤ C / x.Size := Int.ediv_nonneg hC (by omega)
      have hle : C / x.Size ≤ x.Most := Int.le_of_lt_add_one (by
        refine Int.ediv_lt_of_lt_mul (by omega) ?_
        rw [Int.add_mul]; omega)
      generalize C / x.Size = q at *
      generalize C % x.Size = r at *
      refine ⟨q :: zs l, ⟨hq0, by omega, z1⟩, ?_, ?_⟩
      · simp only [si, z2]; rw [Int.mul_comm]; omega
      · simp only [vi, z3]
        have h1 := Int.mul_le_mul_of_nonneg_right (show r ≤ x.Size by omega) v1
        have h2 := Int.mul_le_mul_of_nonneg_left hvx (show 0 ≤ x.Size by omega)
        have e : (q * x.Value + 0 + mv) * x.Size - C * x.Value = (x.Size * mv - x.Size * x.Value) + (x.Size * x.Value - r * x.Value) := by
          rw [← hq]; grind
        omega
    · rename_i hge
      have hg : 0 < (grd l (C - x.Most * x.Size)).2 := grd_pos hl'
      obtain ⟨y, y1, y2, y3⟩ := grd_int (C := C - x.Most * x.Size) hl' (fun z hz => hv z (List.mem_cons_of_mem _ hz)) hmv (by omega)
      generalize grd l (C - x.Most * x.Size) = g at *
      obtain ⟨a, d⟩ := g
      simp only at *
      refine ⟨x.Most :: y, ⟨w1, by omega, y1⟩, ?_, ?_⟩
      · simp only [si]; omega
      · simp only [vi]
        have e : (x.Most * x.Value + vi l y + mv) * d - (x.Most * x.Value * d + a) = (vi l y + mv) * d - a := by grind
        omega

theorem fd_perm {l l' : List R27} (h : l.Perm l') : ∀ {D : Int} {y : List Int}, fd D l y → ∃ y', fd D l' y' ∧ vi l' y' = vi l y ∧ si l' y' = si l y := by
  induction h with
  | nil => intro D y hf; exact ⟨y, hf, rfl, rfl⟩
  | cons x h ih =>
    intro D y hf
    cases y with
    | nil => simp [fd] at hf
    | cons n s =>
      obtain ⟨h1, h2, h3⟩ := hf
      obtain ⟨y', q1, q2, q3⟩ := ih h3
      exact ⟨n :: y', ⟨h1, h2, q1⟩, by simp only [vi, q2], by simp only [si, q3]⟩
  | swap x z l =>
    intro D y hf
    match y, hf with
    | [], hf => simp [fd] at hf
    | [n], hf => simp [fd] at hf
    | n :: m :: s, hf =>
      obtain ⟨h1, h2, h3, h4, h5⟩ := hf
      exact ⟨m :: n :: s, ⟨h3, h4, h1, h2, h5⟩, by simp only [vi]; omega, by simp only [si]; omega⟩
  | trans _ _ ih1 ih2 =>
    intro D y hf
    obtain ⟨y1, a1, a2, a3⟩ := ih1 hf
    obtain ⟨y2, b1, b2, b3⟩ := ih2 a1
    exact ⟨y2, b1, b2.trans a2, b3.trans a3⟩

/-- what one row's solutions are worth, the other's are -/
def covers (l l' : List R27) : Prop := ∀ (D : Int) (y : List Int), 0 ≤ D → fd D l y → ∃ y', fd D l' y' ∧ vi l' y' = vi l y ∧ si l' y' = si l y
theorem covers_perm {l l' : List R27} (h : l.Perm l') : covers l l' := fun D y _ hf => fd_perm h hf
theorem covers.trans {l l' l2 : List R27} (h : covers l l') (h' : covers l' l2) : covers l l2 := fun D y hD hf => by
  obtain ⟨y1, a1, a2, a3⟩ := h D y hD hf
  obtain ⟨y2, b1, b2, b3⟩ := h' D y1 hD a1
  exact ⟨y2, b1, b2.trans a2, b3.trans a3⟩
theorem dom_ok {l : List R27} (hl : okL l) : domr 1073741824 1 l := fun z hz => by
  obtain ⟨s1, s2, v1, v2, _⟩ := hl z hz
  omega
theorem grd_le {l l' : List R27} {C : Int} (hl : okL l) (hl' : okL l') (hs : srtd l') (hC : 0 ≤ C) (h : covers l l') : (grd l C).1 * (grd l' C).2 ≤ (grd l' C).1 * (grd l C).2 := by
  obtain ⟨y, y1, y2, y3⟩ := grd_at hl hC
  have hp : 0 < (grd l C).2 := grd_pos hl
  obtain ⟨y', q1, q2, q3⟩ := h _ y (by omega) y1
  have := grd_ub (E := 0) (V := 1073741824) (S := 1) hl' hs hC (by omega) (by omega) (by omega) (by omega) (dom_ok hl') q1 (by omega)
  rw [q2, y3] at this
  omega
theorem grd_eq {l l' : List R27} {C : Int} (hl : okL l) (hl' : okL l') (hs : srtd l) (hs' : srtd l') (hC : 0 ≤ C) (h : covers l l') (h' : covers l' l) :
    (grd l C).1 * (grd l' C).2 = (grd l' C).1 * (grd l C).2 := Int.le_antisymm (grd_le hl hl' hs' hC h) (grd_le hl' hl hs hC h')
theorem grd_nn : ∀ {l : List R27} {C : Int}, okL l → 0 ≤ C → 0 ≤ (grd l C).1 ∧ (grd l C).2 ≤ 4000
  | [], C, _, _ => by simp [grd]
  | x :: l, C, hl, hC => by
    obtain ⟨s1, s2, v1, v2, w1, w2⟩ := hl x (by simp)
    have hl' : okL l := fun y hy => hl y (List.mem_cons_of_mem _ hy)
    simp only [grd]
    split
    · exact ⟨Int.mul_nonneg hC v1, s2⟩
    · have ih := grd_nn (C := C - x.Most * x.Size) hl' (by omega)
      have hp : 0 < (grd l (C - x.Most * x.Size)).2 := grd_pos hl'
      have := Int.mul_nonneg (Int.mul_nonneg w1 v1) (show 0 ≤ (grd l (C - x.Most * x.Size)).2 by omega)
      simp only
      omega
end Go.AB

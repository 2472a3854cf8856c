import Derived.Test.YtpdllokejgpnoaaLn
set_option linter.unusedVariables false
namespace Go.AB
open Go

theorem m8_L1_val {l : List R27} (hl : okL l) (hlen : l.length ≤ 1000) (kk : Int → Option Bool) : ∃ mv, (∀ x, x ∈ l → x.Value ≤ mv) ∧ 0 ≤ mv ∧ mv ≤ 1073741824 ∧ loopM (m8_L1 5000 l kk) 5000 ((0 : Int), (0 : Int)) = kk mv := by
  refine loopM_ind (body := m8_L1 5000 l kk) (fun q x => ∃ i : Nat, x.2 = (i : Int) ∧ q = l.length - i ∧ i ≤ l.length ∧ 0 ≤ x.1 ∧ x.1 ≤ 1073741824 ∧ ∀ x', x' ∈ l.take i → x'.Value ≤ x.1)
    (fun o => ∃ mv, (∀ x, x ∈ l → x.Value ≤ mv) ∧ 0 ≤ mv ∧ mv ≤ 1073741824 ∧ o = kk mv) (fun q x => ?_) 5000 l.length (0, 0) ⟨0, rfl, rfl, Nat.zero_le _, Int.le_refl _, by omega, by simp⟩ (by omega)
  rintro ⟨i, h1, rfl, hi, h2, h3, h4⟩
  obtain ⟨m, i'⟩ := x
  simp only at h1 h2 h3 h4
  subst h1
  by_cases hlt : i < l.length
  · left
    have hcond : (decide ((i : Int) < (l.length : Int))) = true := by simpa using hlt
    obtain ⟨_, _, v1, v2, _⟩ := hl _ (List.getElem_mem hlt)
    refine ⟨l.length - (i + 1), ((if l[i].Value > m then l[i].Value else m), ((i + 1 : Nat) : Int)), by omega, ⟨i + 1, rfl, rfl, by omega, ?_, ?_, ?_⟩, fun nx => ?_⟩
    · simp only; split <;> omega
    · simp only; split <;> omega
    · intro x' hx'
      rw [List.take_succ_eq_append_getElem hlt, List.mem_append] at hx'
      simp only
      rcases hx' with hx' | hx'
      · have := h4 x' hx'
        split <;> omega
      · simp at hx'
        subst hx'
        split <;> omega
    · rw [m8_L1]
      simp only
      rw [if_pos hcond, getIdx_at (k := i) rfl hlt]
      simp only [Option.bind_some, letM_eq]
      rw [wrap64 (x := (i : Int) + 1) (by omega) (by omega)]
      rfl
  · right
    refine ⟨_, ⟨m, ?_, h2, h3, rfl⟩, fun nx => by
      have hcond : ¬ (decide ((i : Int) < (l.length : Int))) = true := by simpa using hlt
      rw [m8_L1, if_neg hcond]⟩
    intro x hx
    refine h4 x ?_
    rw [List.take_of_length_le (by omega)]
    exact hx

theorem low_bd {a d : Nat} (hd : 0 < d) : ∃ g A B : Nat, 0 < g ∧ a = g * A ∧ d = g * B ∧ 0 < B ∧ B ≤ d ∧ A ≤ a ∧ low a d = R44.mk (A : Int) (B : Int) := by
  have hg : 0 < Nat.gcd a d := Nat.gcd_pos_of_pos_right _ hd
  have e2 : d = Nat.gcd a d * (d / Nat.gcd a d) := (Nat.mul_div_cancel' (Nat.gcd_dvd_right _ _)).symm
  refine ⟨Nat.gcd a d, a / Nat.gcd a d, d / Nat.gcd a d, hg, (Nat.mul_div_cancel' (Nat.gcd_dvd_left _ _)).symm, e2, ?_, Nat.div_le_self _ _, Nat.div_le_self _ _, rfl⟩
  exact Nat.div_pos (Nat.le_of_dvd hd (Nat.gcd_dvd_right _ _)) hg

theorem m8_true (l : List R27) (c : Int) : m8 5000 l c = some true := by
  unfold m8
  rw [m11_true]
  simp only [Option.bind_some, Bool.not_true, Bool.not_false, Bool.false_or, gdO_true, m12_val]
  cases hf : fewB l c with
  | false => simp [gdO]
  | true =>
    obtain ⟨h30, hfew⟩ := fewB_ok hf
    have h13 := m13_val (n := 5000) (l := l) (c := c) (by omega) (by omega)
    simp only [Bool.not_true, Bool.not_false, gdO_true, h13, Option.bind_some, Bool.false_or]
    cases hv : vldB l c with
    | false => simp
    | true =>
      obtain ⟨hl, _, cap, rfl, hcap⟩ := vldB_ok hv
      obtain ⟨h8, h200⟩ := hfew hv
      simp only [Bool.not_true, Bool.false_eq_true, if_false]
      rw [m14_val (by omega) (by omega)]
      simp only [Option.bind_some]
      rw [m16_val hl hcap (by omega) (by omega)]
      simp only [Option.bind_some]
      rw [m23_val hl hcap (by omega)]
      simp only [Option.bind_some]
      obtain ⟨mv, q1, q2, q3, q4⟩ := m8_L1_val hl (by omega) (fun p_23 : Int => (some (decide ((low (grd (srt l) (cap : Int)).1.toNat (grd (srt l) (cap : Int)).2.toNat).Num ≤ (IntKind.wrap .i64 ((IntKind.wrap .i64 (T l cap + p_23)) * (low (grd (srt l) (cap : Int)).1.toNat (grd (srt l) (cap : Int)).2.toNat).Den))))))
      have b1 := T_grd (cap := cap) hl
      have b2 := grd_T (cap := cap) hl q1 q2
      obtain ⟨g1, g2⟩ := grd_nn (C := (cap : Int)) (okL_srt hl) (by omega)
      have g3 : 0 < (grd (srt l) (cap : Int)).2 := grd_pos (okL_srt hl)
      obtain ⟨t1, t2⟩ := T_bound hl cap
      rw [jn, q4]
      generalize grd (srt l) (cap : Int) = g at *
      obtain ⟨a, d⟩ := g
      simp only at *
      obtain ⟨a, rfl⟩ : ∃ m : Nat, a = (m : Int) := ⟨a.toNat, by omega⟩
      obtain ⟨d, rfl⟩ : ∃ m : Nat, d = (m : Int) := ⟨d.toNat, by omega⟩
      simp only [Int.toNat_natCast] at *
      obtain ⟨g, A, B, hg, ea, ed, hB, hBd, hAa, e⟩ := low_bd (a := a) (d := d) (by omega)
      simp only [e, letM_eq]
      have c1 : T l cap * B ≤ A := by
        refine Int.le_of_mul_le_mul_left (a := (g : Int)) ?_ (by omega)
        have e1 : (g : Int) * (T l cap * B) = T l cap * (d : Int) := by rw [ed]; grind
        have e2 : (g : Int) * (A : Int) = (a : Int) := by rw [ea]; grind
        omega
      have c2 : (A : Int) ≤ (T l cap + mv) * B := by
        refine Int.le_of_mul_le_mul_left (a := (g : Int)) ?_ (by omega)
        have e1 : (g : Int) * ((T l cap + mv) * B) = (T l cap + mv) * (d : Int) := by rw [ed]; grind
        have e2 : (g : Int) * (A : Int) = (a : Int) := by rw [ea]; grind
        omega
      obtain ⟨p1, p2⟩ := mulB (b := (B : Int)) (B := 4000) t1 (show T l cap ≤ 4294967296000 by omega) (by omega) (by omega)
      obtain ⟨p3, p4⟩ := mulB (b := (B : Int)) (B := 4000) (show 0 ≤ T l cap + mv by omega) (show T l cap + mv ≤ 4294967296000 + 1073741824 by omega) (by omega) (by omega)
      rw [wrap64 (x := T l cap * B) (by omega) (by omega), wrap64 (x := T l cap + mv) (by omega) (by omega), wrap64 (x := (T l cap + mv) * B) (by omega) (by omega)]
      have d1 : decide ((B : Int) < 1) = false := by simp; omega
      have d2 : decide ((A : Int) < T l cap * B) = false := by simp; omega
      simp [d1, d2, c2]
end Go.AB

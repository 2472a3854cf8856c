import Derived.Test.YtcahghigmlibjaaLg
import Derived.Test.YtcahghigmlibjaaFb
namespace Go.AB
open Go

theorem rd_of (b : List UInt8) : ∃ rs, RdT 1 b rs := rd_ex b.length 1 b (Nat.le_refl _)
theorem m3_true (a0 : R23) (a1 : List UInt8) (a2 : Int) : m3 5000 a0 a1 a2 = some true := by
  unfold m3
  rw [m10_true]
  simp only [Option.bind_some, Bool.not_true, Bool.false_eq_true, if_false, letM]
  split
  · rfl
  · rename_i h
    have hl : a0.File.length ≤ 900 := by
      simp at h; omega
    obtain ⟨rs, hrs⟩ := rd_of a0.File
    rw [m11_val (l := ⟨a0.File, a0.Synced⟩) (by simp only []; omega) (by decide), m12_val (l := ⟨a0.File, a0.Synced⟩) (by simp only []; omega) (by decide)]
    simp [m13_val, m14_val, m15_val (n := 5000) (l := a0) (by omega), m16_val (n := 5000) (l := a0) (by omega), m17_val, m18_val (n := 5000) (l := a0) (k := a2) (by omega), m19_val (n := 5000) (l := a0) (k := a2) (by omega),
      m20_val (n := 5000) (l := a0) (by omega) (by decide) hrs, m21_val (n := 5000) (l := a0) (by omega) (by decide) hrs, gdO]

theorem m6_true (a0 : List UInt8) : m6 5000 a0 = some true := by
  unfold m6
  rw [m10_true]
  simp only [Option.bind_some, Bool.not_true, Bool.false_eq_true, if_false]
  split
  · rfl
  · rename_i h
    have hl : a0.length ≤ 900 := by simp at h; omega
    obtain ⟨rs, hrs⟩ := rd_of a0
    have h1 := hrs.len
    have h2 := cat_ge 1 rs
    simp [m24_val (n := 5000) (by omega) (by decide) hrs, m26_val (n := 5000) (by omega) (by decide) hrs, m27_val (n := 5000) (by omega) (by decide) hrs, m28_val (n := 5000) (by omega) (by decide) hrs,
      m25_val (n := 5000) (a := rs) (by omega) (by omega), m14_val, m13_val, gdO, opn]

theorem fnd_at : ∀ (c i : Nat) (rs : List (List UInt8)) (j : Nat), 1 ≤ j → j ≤ rs.length → fnd ((i + (cat c (rs.take j)).length : Nat) : Int) i rs = true
  | c, i, [], j, h1, h2 => by simp at h2; omega
  | c, i, r :: rs, 0, h1, _ => absurd h1 (by decide)
  | c, i, r :: rs, j + 1, _, h2 => by
    rw [List.take_succ_cons, cat_len_cons]
    unfold fnd
    rw [outs, List.any_cons, Bool.or_eq_true]
    match j with
    | 0 => left; simp [cat]; omega
    | j + 1 =>
      right
      have := fnd_at (nx c r) (i + 13 + r.length) rs (j + 1) (by omega) (by simpa using h2)
      unfold fnd at this
      rw [show i + (13 + r.length + (cat (nx c r) (rs.take (j + 1))).length) = i + 13 + r.length + (cat (nx c r) (rs.take (j + 1))).length from by omega]
      exact this
/-- a log whose synced bytes end with a frame is valid -/
theorem valid_at (rs : List (List UInt8)) (j : Nat) (h : j ≤ rs.length) : validB ⟨cat 1 rs, (((cat 1 (rs.take j)).length : Nat) : Int)⟩ rs = true := by
  unfold validB
  simp only [Bool.and_eq_true, Bool.or_eq_true, decide_eq_true_eq, and_true]
  rcases Nat.eq_zero_or_pos j with h0 | h0
  · subst h0; left; rfl
  · right
    have := fnd_at 1 0 rs j h0 h
    rwa [Nat.zero_add] at this

theorem m7_true (a0 : List UInt8) : m7 5000 a0 = some true := by
  unfold m7
  rw [m10_true]
  simp only [Option.bind_some, Bool.not_true, Bool.false_eq_true, if_false]
  split
  · rfl
  · rename_i h
    have hl : a0.length ≤ 900 := by simp at h; omega
    obtain ⟨rs, hrs⟩ := rd_of a0
    have h1 := hrs.len
    have h2 := cat_ge 1 rs
    have hc := RdT.cat (c := 1) hrs.1
    have hv := valid_at rs rs.length (Nat.le_refl _)
    rw [List.take_length] at hv
    rw [m27_val (n := 5000) (by omega) (by decide) hrs, Option.bind_some]
    unfold opn
    dsimp only
    rw [m20_val (n := 5000) (l := ⟨cat 1 rs, (((cat 1 rs).length : Nat) : Int)⟩) (by simp only []; omega) (by decide) hc, hv]
    rw [wrap64 (x := (a0.length : Int) - (((cat 1 rs).length : Nat) : Int)) (by omega) (by omega), wrap64 (by omega) (by omega)]
    have hs : slc a0 0 ((a0.length : Int) - ((a0.length : Int) - (((cat 1 rs).length : Nat) : Int))) = some (cat 1 rs) := by
      rw [slc0 (k := (cat 1 rs).length) (by omega) h1]
      obtain ⟨_, u, rfl, _⟩ := hrs
      rw [List.take_left' rfl]
    rw [hs]
    have hneg : decide ((a0.length : Int) - (((cat 1 rs).length : Nat) : Int) < 0) = false := by simp; omega
    simp only [Option.bind_some, Bool.not_true, decide_true, Bool.false_or, hneg, Bool.not_false, gdO_true, m17_val, letM, Bool.false_eq_true, if_false]
    rw [m27_val (n := 5000) (by omega) (by decide) hc]
    simp [opn, m25_val (n := 5000) (a := rs) (by omega) (by omega), m14_val, m13_val, gdO]
end Go.AB

import Derived.Test.YtcahghigmlibjaaLf
namespace Go.AB
open Go

theorem m10_true : m10 5000 = some true := by kernel_rfl

theorem slc0 {α : Type} {b : List α} {h : Int} {k : Nat} (hh : h = (k : Int)) (hk : k ≤ b.length) : slc b 0 h = some (b.take k) := by
  have := slc_val (b := b) (l := 0) (h := h) (i := 0) (j := k) rfl hh (by omega) hk
  rwa [List.drop_zero, Nat.sub_zero] at this
def fnd (s : Int) (i : Nat) (rs : List (List UInt8)) : Bool := (outs i rs).any fun e => decide (s = e.1)
def validB (l : R23) (rs : List (List UInt8)) : Bool := (decide (l.Synced = 0) || fnd l.Synced 0 rs) && decide ((((cat 1 rs).length : Nat) : Int) = (l.File.length : Int))

theorem m20_val {n : Nat} {l : R23} {rs : List (List UInt8)} (hb : l.File.length ≤ 50000) (hn : 4010 < n) (h : RdT 1 l.File rs) : m20 n l = some (validB l rs) := by
  unfold m20
  rw [show m34 n l.File = some () from rfl, m40_val hb hn h, Option.bind_some, Option.bind_some]
  have key : ∀ (rs : List (List UInt8)) (c i : Nat) (acc : Bool) (k : Int × Bool → Option Bool),
      rangeL (m20_R1 n l) (outs i rs) k ((i : Int), acc) = k (((i + (cat c rs).length : Nat) : Int), acc || fnd l.Synced i rs) := by
    intro rs
    induction rs with
    | nil => intro c i acc k; simp [outs, rangeL, cat, fnd]
    | cons r rs ih =>
      intro c i acc k
      rw [outs, rangeL, m20_R1]
      dsimp only
      rw [ih (nx c r), cat_len_cons]
      simp only [fnd, outs, List.any_cons, Bool.or_assoc]
      congr 2
      omega
  have := key rs 1 0 (decide (l.Synced = 0)) (fun p_8 : Int × Bool => (some (p_8.2 && (decide (p_8.1 = (l.File.length : Int))))))
  rw [show ((0 : Nat) : Int) = 0 from rfl] at this
  rw [this, Nat.zero_add]
  rfl

theorem m21_val {n : Nat} {l : R23} {rs : List (List UInt8)} (hb : l.File.length ≤ 50000) (hn : 4010 < n) (h : RdT 1 l.File rs) : m21 n l = some (validB l rs) := by
  unfold m21 jn
  rw [m26_val hb hn h, Option.bind_some]
  dsimp only
  have h1 := h.len
  have h2 := cat_ge 1 rs
  have key : ∀ (m j : Nat) (c i : Nat) (acc : Bool) (k : Bool → Option Bool), j ≤ rs.length → rs.length - j < m → i + (cat c (rs.drop j)).length ≤ 100000 →
      loopM (m21_L1 n l (rs, (((cat 1 rs).length : Nat) : Int)) k) m ((i : Int), acc, (j : Int)) = k (acc || fnd l.Synced i (rs.drop j)) := by
    intro m
    induction m with
    | zero => intro j c i acc k _ h; exact absurd h (Nat.not_lt_zero _)
    | succ m ih =>
      intro j c i acc k hj hm hl
      rw [loopM_succ, m21_L1]
      dsimp only
      rcases Nat.lt_or_ge j rs.length with hlt | hge
      · rw [if_pos (by simpa using hlt), getIdx_at rfl hlt, Option.bind_some]
        rw [List.drop_eq_getElem_cons hlt] at hl ⊢
        rw [cat_len_cons] at hl
        rw [letM_eq, letM_eq, wrap64 (x := 13 + (rs[j].length : Int)) (by omega) (by omega), wrap64 (x := (i : Int) + (13 + (rs[j].length : Int))) (by omega) (by omega), wrap64 (by omega) (by omega)]
        rw [show (i : Int) + (13 + (rs[j].length : Int)) = ((i + 13 + rs[j].length : Nat) : Int) from by omega, show (j : Int) + 1 = ((j + 1 : Nat) : Int) from by omega]
        rw [ih (j + 1) (nx c rs[j]) (i + 13 + rs[j].length) _ k hlt (by omega) (by omega)]
        simp only [fnd, outs, List.any_cons, Bool.or_assoc]
      · rw [if_neg (by simpa using hge), List.drop_of_length_le hge]
        simp [fnd, outs]
  have := key n 0 1 0 (decide (l.Synced = 0)) (fun p => some ((decide ((((cat 1 rs).length : Nat) : Int) = (l.File.length : Int))) && p)) (Nat.zero_le _) (by omega) (by simp; omega)
  rw [show ((0 : Nat) : Int) = 0 from rfl] at this
  rw [this, List.drop_zero]
  unfold validB
  rw [Bool.and_comm]

theorem m25_val {n : Nat} {a b : List (List UInt8)} (ha : a.length ≤ 100000) (hn : a.length < n) : m25 n a b = some (decide (a = b)) := by
  unfold m25 jn
  by_cases hl : a.length = b.length
  · rw [if_neg (by simp; omega)]
    refine loopM_ind (fun i s => ∃ k, k ≤ a.length ∧ i = a.length - k ∧ s = (k : Int) ∧ a.take k = b.take k) (fun o => o = some (decide (a = b))) ?_ n a.length _ ⟨0, Nat.zero_le _, rfl, rfl, rfl⟩ hn
    rintro i _ ⟨k, hk, rfl, rfl, he⟩
    rcases Nat.lt_or_ge k a.length with h | h
    · have hb : k < b.length := by omega
      by_cases hab : a[k] = b[k]
      · refine .inl ⟨a.length - (k + 1), ((k + 1 : Nat) : Int), by omega, ⟨k + 1, h, rfl, rfl, by rw [List.take_succ_eq_append_getElem h, List.take_succ_eq_append_getElem hb, he, hab]⟩, fun nx => ?_⟩
        rw [m25_L1, if_pos (by simpa using h), getIdx_at rfl h, getIdx_at rfl hb]
        simp only [Option.bind_some, hab, letM]
        rw [wrap64 (by omega) (by omega)]
        simp
      · refine .inr ⟨some false, ?_, fun nx => ?_⟩
        · rw [decide_eq_false]
          intro e; subst e; exact hab rfl
        · rw [m25_L1, if_pos (by simpa using h), getIdx_at rfl h, getIdx_at rfl hb]
          simp [hab]
    · refine .inr ⟨_, rfl, fun nx => ?_⟩
      rw [m25_L1, if_neg (by simpa using h)]
      rw [List.take_of_length_le h, List.take_of_length_le (by omega)] at he
      simp [he]
  · rw [if_pos (by simp; omega), decide_eq_false]
    intro e; subst e; exact hl rfl

def few (l : List (List UInt8)) : Bool := l.all (fun r => decide (r.length ≤ 200)) && decide (l.length ≤ 12)
theorem m22_val {n : Nat} {a : List (List UInt8)} (ha : a.length ≤ 9223372036854775807) (hn : a.length < n) : m22 n a = some (few a) := by
  unfold m22 jn few
  refine loopM_ind (fun i s => ∃ k, k ≤ a.length ∧ i = a.length - k ∧ s = (k : Int) ∧ (a.take k).all (fun r => decide (r.length ≤ 200)) = true) (fun o => o = some (a.all (fun r => decide (r.length ≤ 200)) && decide (a.length ≤ 12))) ?_ n a.length _ ⟨0, Nat.zero_le _, rfl, rfl, rfl⟩ hn
  rintro i _ ⟨k, hk, rfl, rfl, he⟩
  rcases Nat.lt_or_ge k a.length with h | h
  · by_cases hab : a[k].length ≤ 200
    · refine .inl ⟨a.length - (k + 1), ((k + 1 : Nat) : Int), by omega, ⟨k + 1, h, rfl, rfl, by rw [List.take_succ_eq_append_getElem h, List.all_append, he]; simpa using hab⟩, fun nx => ?_⟩
      rw [m22_L1, if_pos (by simpa using h), getIdx_at rfl h, Option.bind_some, if_neg (by simp; omega), letM_eq, wrap64 (by omega) (by omega)]
      rfl
    · refine .inr ⟨some false, ?_, fun nx => ?_⟩
      · have : a.all (fun r => decide (r.length ≤ 200)) = false := by
          rw [List.all_eq_false]
          exact ⟨a[k], List.getElem_mem h, by simpa using hab⟩
        rw [this]; rfl
      · rw [m22_L1, if_pos (by simpa using h), getIdx_at rfl h, Option.bind_some, if_pos (by simp; omega)]
  · refine .inr ⟨_, rfl, fun nx => ?_⟩
    rw [m22_L1, if_neg (by simpa using h)]
    rw [List.take_of_length_le h] at he
    rw [he]
    simp only [Bool.true_and, Option.some.injEq]
    apply decide_eq_decide.2; omega

theorem m33_val {n : Nat} {b : List UInt8} (h : b.length ≤ 1000000000) : m33 n b = some b := by
  unfold m33; rw [apd_val (by simpa using h)]; rfl
/-- the log with a further record -/
def app (l : R23) (r : List UInt8) : R23 × Int := if 4000 < r.length then (⟨[], 0⟩, 9) else (⟨l.File ++ frm (chainN l.File) r, l.Synced⟩, 0)
theorem m11_val {n : Nat} {l : R23} {r : List UInt8} (hl : l.File.length ≤ 100000) (hn : 4010 < n) : m11 n l r = some (app l r) := by
  unfold m11 app
  by_cases h : 4000 < r.length
  · rw [if_pos (by simp; omega), if_pos h]
  · rw [if_neg (by simp; omega), if_neg h, slc0 rfl (Nat.le_refl _), Option.bind_some, List.take_length,
      m30_val (by omega) (by omega), Option.bind_some, m29_val (chain_lt _) (by omega) hn, Option.bind_some]
    have hf := frm_len (chainN l.File) r
    unfold asrt
    rw [if_pos (by omega), apd_val (by omega)]
    rfl
theorem m12_val {n : Nat} {l : R23} {r : List UInt8} (hl : l.File.length ≤ 100000) (hn : 4010 < n) : m12 n l r = some (app l r) := by
  unfold m12 app
  by_cases h : 4000 < r.length
  · rw [if_pos (by simp; omega), if_pos h]
  · have hf := frm_len (chainN l.File) r
    rw [if_neg (by simp; omega), if_neg h, m32_val (by omega) (by omega), Option.bind_some, m31_val (chain_lt _) (by omega) hn, Option.bind_some, apd_val (by simp; omega), Option.bind_some, List.nil_append, apd_val (by simp only []; omega)]
    rfl
theorem m15_val {n : Nat} {l : R23} (hl : l.File.length ≤ 100000) : m15 n l = some ⟨l.File, (l.File.length : Int)⟩ := by
  unfold m15; rw [m33_val (by omega)]; rfl
theorem m16_val {n : Nat} {l : R23} (hl : l.File.length ≤ 100000) : m16 n l = some ⟨l.File, (l.File.length : Int)⟩ := by
  unfold m16; rw [apd_val (by simp; omega)]; rfl
theorem m14_val {n : Nat} {l : R23} : m14 n l = some l := rfl
theorem m13_val {n : Nat} {a b : R23} : m13 n a b = some (decide (a = b)) := by
  unfold m13
  rcases a with ⟨f, s⟩
  rcases b with ⟨f', s'⟩
  congr 1
  simp only [R23.mk.injEq]
  by_cases h : f = f' <;> by_cases h' : s = s' <;> simp [h, h']
theorem m17_val {n : Nat} {a b : List UInt8} : m17 n a b = some (decide (a = b)) := by
  unfold m17
  congr 1
  by_cases h : a = b <;> simp [h]

/-- how many bytes a crash leaves -/
def crN (l : R23) (k : Int) : Nat := if l.Synced < 0 ∨ (l.File.length : Int) < l.Synced then 0 else (l.Synced + min (max 0 k) ((l.File.length : Int) - l.Synced)).toNat
theorem m18_val {n : Nat} {l : R23} {k : Int} (hl : l.File.length ≤ 100000) : m18 n l k = some (l.File.take (crN l k)) := by
  unfold m18 crN
  by_cases h : l.Synced < 0 ∨ (l.File.length : Int) < l.Synced
  · rw [if_pos (by simpa using h), if_pos h]; rfl
  · rw [if_neg (by simpa using h), if_neg h]
    have h1 : 0 ≤ l.Synced := by omega
    have h2 : l.Synced ≤ l.File.length := by omega
    rw [wrap64 (x := (l.File.length : Int) - l.Synced) (by omega) (by omega)]
    have hk : (if (0 : Int) > k then (0 : Int) else k) = max 0 k := by omega
    rw [hk, iteMin]
    have hm : min (max 0 k) ((l.File.length : Int) - l.Synced) = min (max 0 k) ((l.File.length : Int) - l.Synced) := rfl
    rw [wrap64 (by omega) (by omega), slc0 (k := (l.Synced + min (max 0 k) ((l.File.length : Int) - l.Synced)).toNat) (by omega) (by omega), Option.bind_some, m33_val (by simp; omega)]
    rfl
theorem m19_val {n : Nat} {l : R23} {k : Int} (hl : l.File.length ≤ 100000) : m19 n l k = some (l.File.take (crN l k)) := by
  unfold m19 crN
  by_cases h : l.Synced < 0 ∨ (l.File.length : Int) < l.Synced
  · rw [if_pos (by simpa using h), if_pos h]; rfl
  · rw [if_neg (by simpa using h), if_neg h]
    have h1 : 0 ≤ l.Synced := by omega
    have h2 : l.Synced ≤ l.File.length := by omega
    rw [wrap64 (x := (l.File.length : Int) - l.Synced) (by omega) (by omega)]
    have hk : (if (0 : Int) > k then (0 : Int) else k) = max 0 k := by omega
    rw [hk, iteMin, letM_eq]
    rw [wrap64 (by omega) (by omega), slc0 (k := (l.Synced + min (max 0 k) ((l.File.length : Int) - l.Synced)).toNat) (by omega) (by omega), Option.bind_some, apd_val (by simp; omega)]
    rfl

/-- a log that is recovered -/
def opn (b : List UInt8) (rs : List (List UInt8)) : R23 × List (List UInt8) × Int := (⟨cat 1 rs, (((cat 1 rs).length : Nat) : Int)⟩, rs, (b.length : Int) - (((cat 1 rs).length : Nat) : Int))
theorem m27_val {n : Nat} {b : List UInt8} {rs : List (List UInt8)} (hb : b.length ≤ 50000) (hn : 4010 < n) (h : RdT 1 b rs) : m27 n b = some (opn b rs) := by
  have h1 := h.len
  unfold m27 opn
  rw [m24_val hb hn h, Option.bind_some]
  dsimp only
  rw [slc0 rfl h1, Option.bind_some, m33_val (by simp; omega), Option.bind_some, letM_eq, wrap64 (by omega) (by omega)]
  obtain ⟨_, u, rfl, _⟩ := h
  rw [List.take_left' rfl]
theorem m28_val {n : Nat} {b : List UInt8} {rs : List (List UInt8)} (hb : b.length ≤ 50000) (hn : 4010 < n) (h : RdT 1 b rs) : m28 n b = some (opn b rs) := by
  have h1 := h.len
  unfold m28 opn
  rw [m26_val hb hn h, Option.bind_some]
  dsimp only
  rw [slc0 rfl h1, Option.bind_some, apd_val (by simp; omega), Option.bind_some, letM_eq, wrap64 (by omega) (by omega)]
  obtain ⟨_, u, rfl, _⟩ := h
  rw [List.take_left' rfl]
  rfl
theorem m10_gen {n : Nat} (hn : 4010 < n) : m10 n = some true := by
  unfold m10
  have h0 : app ⟨[], 0⟩ [] = (⟨cat 1 [[]], 0⟩, 0) := rfl
  have hs : small [[]] := fun r hr => by simp at hr; subst hr; decide
  have hc : cat 1 [[]] = [(245 : UInt8), (0 : UInt8), (0 : UInt8), (255 : UInt8), (255 : UInt8), (0 : UInt8), (0 : UInt8), (0 : UInt8), (0 : UInt8), (0 : UInt8), (0 : UInt8), (0 : UInt8), (1 : UInt8)] := by kernel_rfl
  have h20 := m20_val (n := n) (l := ⟨cat 1 [[]], 0⟩) (by rw [hc]; decide) hn (RdT.cat (c := 1) hs)
  have hv : validB ⟨cat 1 [[]], 0⟩ [[]] = true := by simp [validB]
  rw [m11_val (by decide) hn, h0, Option.bind_some]
  dsimp only
  rw [h20, hv, hc, m17_val]
  rfl
end Go.AB

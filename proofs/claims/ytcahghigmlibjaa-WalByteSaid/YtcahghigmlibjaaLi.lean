import Derived.Test.YtcahghigmlibjaaLh
namespace Go.AB
open Go

theorem few_small {l : List (List UInt8)} (h : few l = true) : l.length ≤ 12 ∧ ∀ r, r ∈ l → r.length ≤ 200 := by
  unfold few at h
  simp only [Bool.and_eq_true, List.all_eq_true, decide_eq_true_eq] at h
  exact ⟨h.2, h.1⟩
theorem cat_le (c : Nat) : ∀ rs : List (List UInt8), (∀ r, r ∈ rs → r.length ≤ 200) → (cat c rs).length ≤ 213 * rs.length := by
  intro rs
  induction rs generalizing c with
  | nil => intro _; simp [cat]
  | cons r rs ih =>
    intro h
    have h1 := h r (by simp)
    have h2 := ih (nx c r) fun x hx => h x (by simp [hx])
    rw [cat_len_cons, List.length_cons]
    omega
theorem cat_take {l : List (List UInt8)} {i : Nat} (h : i < l.length) : cat 1 (l.take (i + 1)) = cat 1 (l.take i) ++ frm (chn 1 (l.take i)) l[i] := by
  rw [List.take_succ_eq_append_getElem h, cat_append]
  simp [cat]
theorem app_cat {rs : List (List UInt8)} {r : List UInt8} {s : Int} (h : r.length ≤ 4000) : app ⟨cat 1 rs, s⟩ r = (⟨cat 1 (rs ++ [r]), s⟩, 0) := by
  unfold app
  rw [if_neg (by omega), cat_append, chain_cat]
  simp [cat]
/-- how much is synced behind i records, if the first k were to be -/
def syn (k : Int) (l : List (List UInt8)) (i : Nat) : Int := if 1 ≤ k ∧ k ≤ i then (((cat 1 (l.take k.toNat)).length : Nat) : Int) else 0
theorem m23_val {n : Nat} {l : List (List UInt8)} {k : Int} (hl : l.length ≤ 12) (hr : ∀ r, r ∈ l → r.length ≤ 200) (hn : 4010 < n) : m23 n l k = some (⟨cat 1 l, syn k l l.length⟩, true) := by
  show loopM (m23_L1 n l k fun p => some (R23.mk p.1 p.2, true)) n (0, [], 0) = _
  refine loopM_ind (fun m s => ∃ i, i ≤ l.length ∧ m = l.length - i ∧ s = ((i : Int), cat 1 (l.take i), syn k l i)) (fun o => o = some (R23.mk (cat 1 l) (syn k l l.length), true)) ?_ n l.length _ ⟨0, Nat.zero_le _, rfl, ?_⟩ (by omega)
  · rintro m _ ⟨i, hi, rfl, rfl⟩
    rcases Nat.lt_or_ge i l.length with h | h
    · have hri := hr l[i] (List.getElem_mem h)
      refine .inl ⟨l.length - (i + 1), (((i + 1 : Nat) : Int), cat 1 (l.take (i + 1)), syn k l (i + 1)), by omega, ⟨i + 1, h, rfl, rfl⟩, fun nx => ?_⟩
      have hb := cat_le 1 (l.take i) fun r h => hr r (List.mem_of_mem_take h)
      have hb2 := cat_le 1 (l.take (i + 1)) fun r h => hr r (List.mem_of_mem_take h)
      rw [List.length_take] at hb hb2
      rw [m23_L1]
      dsimp only
      rw [if_pos (by simpa using h), getIdx_at rfl h, Option.bind_some, m11_val (by simp only []; omega) hn, app_cat (by omega), ← List.take_succ_eq_append_getElem h, Option.bind_some]
      dsimp only
      rw [if_neg (by simp)]
      unfold jn
      rw [wrap64 (by omega) (by omega), show (i : Int) + 1 = ((i + 1 : Nat) : Int) from by omega]
      dsimp only
      by_cases hk : ((i + 1 : Nat) : Int) = k
      · rw [if_pos (by simpa using hk), m15_val (by simp only []; omega), Option.bind_some, letM_eq]
        dsimp only
        congr 2
        unfold syn
        rw [if_pos ⟨by omega, by omega⟩, ← hk]
        simp
      · rw [if_neg (by simpa using hk), letM_eq]
        congr 2
        unfold syn
        by_cases h1 : 1 ≤ k ∧ k ≤ (i : Int)
        · rw [if_pos h1, if_pos ⟨h1.1, by omega⟩]
        · rw [if_neg h1, if_neg (fun h => h1 ⟨h.1, by omega⟩)]
    · refine .inr ⟨_, rfl, fun nx => ?_⟩
      have : i = l.length := by omega
      subst this
      rw [m23_L1]
      dsimp only
      rw [if_neg (by simp), List.take_length]
  · congr 2
    unfold syn
    rw [if_neg (by omega)]
theorem syn_cat (k : Int) (l : List (List UInt8)) : ∃ j, j ≤ l.length ∧ syn k l l.length = (((cat 1 (l.take j)).length : Nat) : Int) ∧ (k ≤ l.length → k ≤ j) := by
  unfold syn
  by_cases h : 1 ≤ k ∧ k ≤ (l.length : Int)
  · rw [if_pos h]
    exact ⟨k.toNat, by omega, rfl, fun _ => by omega⟩
  · rw [if_neg h]
    exact ⟨0, Nat.zero_le _, rfl, fun _ => by omega⟩
theorem small_of {l : List (List UInt8)} (h : ∀ r, r ∈ l → r.length ≤ 200) : small l := fun r hr => Nat.le_trans (h r hr) (by decide)

theorem m4_true {n : Nat} (a0 : List (List UInt8)) (a1 : Int) (a2 : List UInt8) (ha : a0.length ≤ 9223372036854775807) (hn : 4010 < n) (hl : a0.length < n) : m4 n a0 a1 a2 = some true := by
  unfold m4
  rw [m10_gen hn]
  simp only [Option.bind_some, Bool.not_true, Bool.false_eq_true, if_false]
  rw [m22_val ha hl, Option.bind_some]
  split
  · rfl
  · rename_i h
    simp only [Bool.or_eq_true, Bool.not_eq_true', decide_eq_true_eq, not_or, Bool.not_eq_false] at h
    obtain ⟨hf, h2⟩ := h
    obtain ⟨hl12, hr⟩ := few_small hf
    have hs := small_of hr
    have hb := cat_le 1 a0 hr
    generalize (IntKind.wrap .i64 a1).tmod 13 = k
    rw [m23_val hl12 hr hn, Option.bind_some]
    dsimp only
    have hrd := RdT.cat (c := 1) hs
    obtain ⟨j, hj, hj2, _⟩ := syn_cat k a0
    have hv := valid_at a0 j hj
    rw [m24_val (by omega) hn hrd, Option.bind_some, m20_val (by simp only []; omega) hn hrd, hj2, hv]
    have hs1 : small (a0 ++ [a2]) := fun r hr' => by
      rcases List.mem_append.1 hr' with h | h
      · exact hs r h
      · simp at h; subst h; omega
    have hs2 : small (a0 ++ [1 :: a2]) := fun r hr' => by
      rcases List.mem_append.1 hr' with h | h
      · exact hs r h
      · simp at h; subst h; simp; omega
    have hb1 : (cat 1 (a0 ++ [a2])).length ≤ 10000 := by rw [cat_append]; simp [cat, frm_len]; omega
    have hb2 : (cat 1 (a0 ++ [1 :: a2])).length ≤ 10000 := by rw [cat_append]; simp [cat, frm_len]; omega
    simp only [m25_val (n := n) (a := a0) (by omega) hl, decide_true, Bool.not_true, Bool.not_false, Bool.or_false, Bool.false_or, gdO_true, Option.bind_some, Bool.false_eq_true, if_false]
    rw [m11_val (by simp only []; omega) hn, app_cat (by omega), Option.bind_some, apd_val (by simp; omega), Option.bind_some, m11_val (by simp only []; omega) hn, List.singleton_append, app_cat (by simp; omega), Option.bind_some]
    dsimp only
    rw [m24_val (by omega) hn (RdT.cat (c := 1) hs1), m24_val (by omega) hn (RdT.cat (c := 1) hs2), Option.bind_some, Option.bind_some]
    unfold jn
    simp only [decide_true, Bool.and_self, if_true]
    rw [apd_val (by simp; omega), Option.bind_some, apd_val (by simp; omega), Option.bind_some, List.nil_append, m25_val (by simp; omega) (by simp; omega), Option.bind_some]
    rw [wrap64 (by omega) (by omega), wrap64 (by omega) (by omega)]
    have e1 : decide ((((a0 ++ [1 :: a2]).length : Nat) : Int) = (a0.length : Int) + 1) = true := by simp
    have e2 : getIdx (a0 ++ [1 :: a2]) (a0.length : Int) = some (1 :: a2) := getIdx_q rfl (by simp)
    simp only [decide_true, e1, Bool.and_self, gdO_true, e2, Option.bind_some, letM]
    simp

theorem m8_true {n : Nat} (a0 : List (List UInt8)) (a1 a2 : Int) (ha : a0.length ≤ 9223372036854775807) (hn : 4010 < n) (hl : a0.length < n) : m8 n a0 a1 a2 = some true := by
  unfold m8
  rw [m10_gen hn]
  simp only [Option.bind_some, Bool.not_true, Bool.false_eq_true, if_false]
  rw [m22_val ha hl, Option.bind_some]
  split
  · rfl
  · rename_i h
    simp only [Bool.not_eq_true', Bool.not_eq_false] at h
    obtain ⟨hl12, hr⟩ := few_small h
    have hs := small_of hr
    have hb := cat_le 1 a0 hr
    rw [letM_eq]
    generalize (IntKind.wrap .i64 a1).tmod 13 = k
    generalize IntKind.wrap .i64 a2 = kp
    rw [m23_val hl12 hr hn, Option.bind_some]
    dsimp only
    obtain ⟨j, hj, hj2, hj3⟩ := syn_cat k a0
    rw [hj2, m18_val (by simp only []; omega), Option.bind_some]
    dsimp only
    generalize hm : crN ⟨cat 1 a0, (((cat 1 (a0.take j)).length : Nat) : Int)⟩ kp = m
    have hjl : (cat 1 (a0.take j)).length ≤ (cat 1 a0).length := by
      have := cat_append 1 (a0.take j) (a0.drop j)
      rw [List.take_append_drop] at this
      rw [this, List.length_append]; omega
    have hm1 : (cat 1 (a0.take j)).length ≤ m := by
      rw [← hm]; unfold crN; simp only; rw [if_neg (by omega)]; omega
    have hm2 : ((cat 1 a0).length : Int) ≤ kp → (cat 1 a0).length ≤ m := by
      intro h
      rw [← hm]; unfold crN; simp only; rw [if_neg (by omega)]; omega
    have hm3 : m ≤ (cat 1 a0).length := by
      rw [← hm]; unfold crN; simp only; rw [if_neg (by omega)]; omega
    obtain ⟨q, hq, hrd, hmax⟩ := rd_take 1 a0 m hs
    rw [m24_val (by simp; omega) hn hrd, Option.bind_some, letM_eq]
    dsimp only
    have hq1 := hmax j hj hm1
    have hlen : (a0.take q).length = q := by simp; omega
    have hlm : ((cat 1 a0).take m).length = m := by simp; omega
    rw [hlen, hlm, if_neg (by
      simp only [Bool.not_true, Bool.false_or, Bool.or_eq_true, Bool.and_eq_true, decide_eq_true_eq, not_or, not_and]
      refine ⟨⟨by omega, fun h => ?_⟩, by omega⟩
      have := hj3 (by omega)
      omega)]
    rw [slc0 rfl hq, Option.bind_some, m25_val (by omega) (by omega), Option.bind_some]
    simp only [decide_true, Bool.true_and, Option.some.injEq, Bool.or_eq_true, decide_eq_true_eq]
    by_cases h : kp < ((cat 1 a0).length : Int)
    · exact .inl h
    · right
      have := hmax a0.length (Nat.le_refl _) (by rw [List.take_length]; exact hm2 (by omega))
      omega
end Go.AB

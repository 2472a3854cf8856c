import Derived.Test.YtcahghigmlibjaaLi
namespace Go.AB
open Go

theorem m9_true {n : Nat} (a0 a1 : List (List UInt8)) (a2 : Int) (ha : a0.length ≤ 9223372036854775807) (ha' : a1.length ≤ 9223372036854775807) (hn : 4010 < n) (hl : a0.length < n) (hl' : a1.length < n) : m9 n a0 a1 a2 = some true := by
  unfold m9
  rw [m10_gen hn]
  simp only [Option.bind_some, Bool.not_true, Bool.false_eq_true, if_false]
  rw [m22_val ha hl, Option.bind_some, m22_val ha' hl']
  by_cases hf : few a0 = true
  · simp only [hf, Bool.not_true, Bool.not_false, gdO_true, Option.bind_some, Bool.false_or]
    by_cases hf' : few a1 = true
    · simp only [hf', Bool.not_true, Bool.false_eq_true, if_false]
      obtain ⟨hl12, hr⟩ := few_small hf
      obtain ⟨hl12', hr'⟩ := few_small hf'
      have hs := small_of hr
      have hs' := small_of hr'
      have hb := cat_le 1 a0 hr
      generalize IntKind.wrap .i64 ((a0.length : Int).tdiv 2) = k
      generalize IntKind.wrap .i64 a2 = kp
      rw [m23_val hl12 hr hn, Option.bind_some]
      dsimp only
      rw [m18_val (by simp only []; omega), Option.bind_some]
      dsimp only
      generalize crN ⟨cat 1 a0, syn k a0 a0.length⟩ kp = m
      obtain ⟨q, hq, hrd, _⟩ := rd_take 1 a0 m hs
      have htl : ((cat 1 a0).take m).length ≤ 2556 := by simp; omega
      rw [m27_val (by omega) hn hrd, Option.bind_some]
      unfold opn
      dsimp only
      generalize hrs : a0.take q = rs
      have hrs12 : rs.length ≤ 12 := by rw [← hrs]; simp; omega
      have hrr : ∀ r, r ∈ rs → r.length ≤ 200 := fun r h => hr r (List.mem_of_mem_take (hrs ▸ h))
      have hall : ∀ i, ∀ r, r ∈ rs ++ a1.take i → r.length ≤ 200 := fun i r h => by
        rcases List.mem_append.1 h with h | h
        · exact hrr r h
        · exact hr' r (List.mem_of_mem_take h)
      have hcl : ∀ i, (cat 1 (rs ++ a1.take i)).length ≤ 6000 := fun i => by
        have := cat_le 1 _ (hall i)
        rw [List.length_append, List.length_take] at this
        omega
      show loopM (m9_L1 n a1 _) n (0, cat 1 rs, (((cat 1 rs).length : Nat) : Int)) = _
      refine loopM_ind (fun m s => ∃ i, i ≤ a1.length ∧ m = a1.length - i ∧ s = ((i : Int), cat 1 (rs ++ a1.take i), (((cat 1 rs).length : Nat) : Int))) (fun o => o = some true) ?_ n a1.length _ ⟨0, Nat.zero_le _, rfl, by simp⟩ hl'
      rintro m' _ ⟨i, hi, rfl, rfl⟩
      rcases Nat.lt_or_ge i a1.length with h | h
      · have hri := hr' a1[i] (List.getElem_mem h)
        have hci := hcl i
        refine .inl ⟨a1.length - (i + 1), (((i + 1 : Nat) : Int), cat 1 (rs ++ a1.take (i + 1)), (((cat 1 rs).length : Nat) : Int)), by omega, ⟨i + 1, h, rfl, rfl⟩, fun nx => ?_⟩
        rw [m9_L1]
        dsimp only
        rw [if_pos (by simpa using h), getIdx_at rfl h, Option.bind_some, m11_val (by simp only []; omega) hn, app_cat (by omega), Option.bind_some]
        dsimp only
        rw [if_neg (by simp), letM_eq, wrap64 (by omega) (by omega), List.append_assoc, ← List.take_succ_eq_append_getElem h]
        rfl
      · refine .inr ⟨_, ?_, fun nx => by
          rw [m9_L1]
          dsimp only
          rw [if_neg (by simpa using h)]⟩
        have : i = a1.length := by omega
        subst this
        have hci := hcl a1.length
        rw [List.take_length] at hci ⊢
        have hall' := hall a1.length
        rw [List.take_length] at hall'
        have hrd' := RdT.cat (c := 1) (small_of hall')
        have hv := valid_at (rs ++ a1) rs.length (by simp)
        rw [List.take_left' rfl] at hv
        rw [m24_val (by omega) hn hrd', Option.bind_some]
        dsimp only
        rw [m20_val (by simp only []; omega) hn hrd', hv]
        unfold jn
        simp only [decide_true, Bool.and_self, gdO_true, Option.bind_some, if_true]
        rw [apd_val (by simp; omega), Option.bind_some, List.nil_append, apd_val (by omega), Option.bind_some, m25_val (by simp; omega) (by simp; omega)]
        simp
    · simp only [hf', Bool.not_false, if_true]
  · simp [hf, gdO]

theorem m5_true {n : Nat} (a0 : List (List UInt8)) (a1 : Int) (a2 : UInt8) (ha : a0.length ≤ 9223372036854775807) (h1 : 0 ≤ a1 ∧ a1 < 65536) (hn : 4010 < n) (hl : a0.length < n) : m5 n a0 a1 (a2.toNat : Int) = some true := by
  unfold m5
  rw [m10_gen hn]
  simp only [Option.bind_some, Bool.not_true, Bool.false_eq_true, if_false]
  rw [m22_val ha hl, Option.bind_some]
  split
  · rfl
  · rename_i h
    simp only [Bool.or_eq_true, Bool.not_eq_true', decide_eq_true_eq, not_or, Bool.not_eq_false] at h
    obtain ⟨⟨hf, h0⟩, h2⟩ := h
    obtain ⟨hl12, hr⟩ := few_small hf
    have hs := small_of hr
    have hb := cat_le 1 a0 hr
    have hpos : 0 < a0.length := by omega
    have hge := cat_ge 1 a0
    rw [m23_val hl12 hr hn, Option.bind_some]
    dsimp only
    rw [if_neg (by simp only [Bool.not_true, Bool.false_or, decide_eq_true_eq]; omega)]
    unfold asrt jn
    rw [if_pos (show (((cat 1 a0).length : Nat) : Int) ≠ 0 by omega), letM_eq, wrap64 (x := a1) (by omega) (by omega)]
    obtain ⟨A, rfl⟩ : ∃ A : Nat, a1 = (A : Int) := ⟨a1.toNat, by omega⟩
    rw [tmod_nat]
    generalize hk : A % (cat 1 a0).length = k
    have hkl : k < (cat 1 a0).length := by rw [← hk]; exact Nat.mod_lt _ (by omega)
    rw [getIdx_at (i := (0 : Int)) (k := 0) rfl hpos, Option.bind_some, letM_eq]
    have hr0 := hr a0[0] (List.getElem_mem hpos)
    have hcl : ∀ i, (cat 1 (a0.take i)).length ≤ 2556 := fun i => by
      have := cat_le 1 (a0.take i) fun r h => hr r (List.mem_of_mem_take h)
      rw [List.length_take] at this
      omega
    have hnext : ∀ i (h : i < a0.length), (cat 1 (a0.take (i + 1))).length = (cat 1 (a0.take i)).length + (13 + a0[i].length) := fun i h => by
      rw [cat_take h, List.length_append, frm_len]
    have he0 : IntKind.wrap .i64 ((13 : Int) + (a0[0].length : Int)) = (((cat 1 (a0.take 1)).length : Nat) : Int) := by
      have := hnext 0 hpos
      simp [cat] at this
      rw [wrap64 (by omega) (by omega)]; omega
    dsimp only
    rw [he0]
    refine loopM_ind (fun m s => ∃ i, i < a0.length ∧ m = a0.length - i ∧ s = ((i : Int), (((cat 1 (a0.take (i + 1))).length : Nat) : Int)) ∧ (cat 1 (a0.take i)).length ≤ k) (fun o => o = some true) ?_ n a0.length _ ⟨0, hpos, rfl, rfl, by simp [cat]⟩ hl
    rintro m _ ⟨i, hi, rfl, rfl, hik⟩
    have hri := hr a0[i] (List.getElem_mem hi)
    have hcn := hcl (i + 1)
    have hcn2 := hcl (i + 1 + 1)
    by_cases hc : (cat 1 (a0.take (i + 1))).length ≤ k ∧ i + 1 < a0.length
    · refine .inl ⟨a0.length - (i + 1), (((i + 1 : Nat) : Int), (((cat 1 (a0.take (i + 1 + 1))).length : Nat) : Int)), by omega, ⟨i + 1, hc.2, rfl, rfl, hc.1⟩, fun nx => ?_⟩
      rw [m5_L1]
      dsimp only
      have hn1 := hnext (i + 1) hc.2
      rw [wrap64 (x := (i : Int) + 1) (by omega) (by omega), show (i : Int) + 1 = ((i + 1 : Nat) : Int) from by omega, if_pos (by simp; omega), letM_eq, getIdx_at rfl hc.2, Option.bind_some, letM_eq,
        wrap64 (x := 13 + (a0[i + 1].length : Int)) (by omega) (by omega), wrap64 (by omega) (by omega)]
      congr 2
      omega
    · refine .inr ⟨_, ?_, fun nx => by
        rw [m5_L1]
        dsimp only
        rw [wrap64 (x := (i : Int) + 1) (by omega) (by omega), if_neg (by simp; omega)]⟩
      have hke : k < (cat 1 (a0.take (i + 1))).length := by
        rcases Nat.lt_or_ge k (cat 1 (a0.take (i + 1))).length with h | h
        · exact h
        · exfalso
          apply hc
          refine ⟨h, ?_⟩
          rcases Nat.lt_or_ge (i + 1) a0.length with h' | h'
          · exact h'
          · rw [List.take_of_length_le h'] at h; omega
      rw [apd_val (by simp; omega), Option.bind_some, List.nil_append, getIdx_at rfl hkl, Option.bind_some, Option.bind_some, setIdx_at rfl hkl, Option.bind_some]
      have ha2 : a2 ≠ 0 := fun e => h2 (by subst e; rfl)
      have hne := xor8_ne (y := (cat 1 a0)[k]) ha2
      generalize b8 (xorI .u8 (((cat 1 a0)[k]).toNat : Int) (a2.toNat : Int)) = e at hne
      have hsplit : cat 1 a0 = cat 1 (a0.take i) ++ (frm (chn 1 (a0.take i)) a0[i] ++ cat (nx (chn 1 (a0.take i)) a0[i]) (a0.drop (i + 1))) := by
        conv => lhs; rw [← List.take_append_drop i a0, List.drop_eq_getElem_cons hi, cat_append, cat]
      have hx : (frm (chn 1 (a0.take i)) a0[i])[k - (cat 1 (a0.take i)).length]? = some (cat 1 a0)[k] := by
        have h3 := List.getElem?_eq_getElem hkl
        rw [← h3]
        conv => rhs; rw [hsplit]
        have hn1 := hnext i hi
        rw [List.getElem?_append_right hik, List.getElem?_append_left (by rw [frm_len]; omega)]
      have hset : (cat 1 a0).set k e = cat 1 (a0.take i) ++ ((frm (chn 1 (a0.take i)) a0[i]).set (k - (cat 1 (a0.take i)).length) e ++ cat (nx (chn 1 (a0.take i)) a0[i]) (a0.drop (i + 1))) := by
        conv => lhs; rw [hsplit]
        have hn1 := hnext i hi
        rw [List.set_append_right _ _ hik, List.set_append_left _ _ (by rw [frm_len]; omega)]
      have hrd : RdT 1 ((cat 1 a0).set k e) (a0.take i) :=
        ⟨fun r h => hs r (List.mem_of_mem_take h), _, hset, parse_set _ (by omega) hx hne _⟩
      rw [m24_val (by simp; omega) hn hrd, Option.bind_some, slc0 rfl (Nat.le_of_lt hi), Option.bind_some, m25_val (by simp; omega) (by simp; omega)]
      simp
end Go.AB

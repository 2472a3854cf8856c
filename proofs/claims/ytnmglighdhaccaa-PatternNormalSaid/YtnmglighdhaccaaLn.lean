import Derived.Test.YtnmglighdhaccaaLm
set_option linter.unusedVariables false
namespace Go.AB
open Go Go.Proofs
theorem m29_tot {n : Nat} {l : List R56} (hl : l.length ≤ 9223372036854775807) (hn : l.length < n) : ∃ b,m29 n l = some b ∧ (b = true → l.length ≤ 12 ∧ ∀ u,u ∈ l → u.Pattern.length ≤ 25 ∧ u.Count ≤ 40) := by
  unfold m29 jn
  have key := loop_all (body := m29_L1 n l fun _ => some (decide ((l.length : Int) ≤ 12))) (fun i => (i : Int)) l.length (fun i => !(decide ((25 : Int) < ((U l i).Pattern.length : Int)) || decide ((40 : Int) < (U l i).Count))) (some false) (some (decide ((l.length : Int) ≤ 12))) (fun i hi hp nx => by
      have hp2 : ¬ (25 : Int) < ((U l i).Pattern.length : Int) ∧ ¬ (40 : Int) < (U l i).Count := by simpa using hp
      rw [m29_L1,if_pos (by simp; omega),getIdx_U rfl hi,Option.bind_some,decide_eq_false hp2.1]
      simp only [Bool.not_false,gdO_true,Option.bind_some,Bool.false_or]
      rw [decide_eq_false hp2.2,if_neg (by simp),letM_eq,wrap64 (by omega) (by omega)]
      rfl) (fun i hi hp nx => by
      rw [m29_L1,if_pos (by simp; omega),getIdx_U rfl hi,Option.bind_some]
      by_cases h1 : (25 : Int) < ((U l i).Pattern.length : Int)
      · rw [decide_eq_true h1]; rfl
      · rw [decide_eq_false h1]
        have h2 : (40 : Int) < (U l i).Count := by
          rw [decide_eq_false h1] at hp
          simpa using hp
        simp only [Bool.not_false,gdO_true,Option.bind_some,Bool.false_or]
        rw [decide_eq_true h2,if_pos rfl]) (fun nx => by rw [m29_L1,if_neg (by simp)]) hn
  refine ⟨if (∀ i,i < l.length → (!(decide ((25 : Int) < ((U l i).Pattern.length : Int)) || decide ((40 : Int) < (U l i).Count))) = true) then decide ((l.length : Int) ≤ 12) else false,?_,?_⟩
  · refine key.trans ?_
    split <;> rfl
  · intro h
    split at h
    · rename_i hq
      refine ⟨by have := of_decide_eq_true h; omega,fun u hu => ?_⟩
      obtain ⟨i,hi,rfl⟩ := List.getElem_of_mem hu
      have := hq i hi
      rw [← U_at hi] at this
      have : ¬ (25 : Int) < (l[i].Pattern.length : Int) ∧ ¬ (40 : Int) < l[i].Count := by simpa using this
      omega
    · cases h
theorem m30_tot {n : Nat} {p : R23} {l : List R56} (hl : l.length ≤ 1000) (hp : ∀ u,u ∈ l → u.Pattern.length ≤ 25) (hn : 1100 < n) : ∃ b,m30 n p l = some b ∧ (b = true → Snd p l) := by
  unfold m30
  rw [mkP,m12_val (by omega),Option.bind_some]
  by_cases hv : vP p = true
  · rw [if_neg (by simp [hv]; omega)]
    unfold jn
    dsimp only
    have key := loop_all (body := m30_L1 n p l fun _ => some true) (fun i => (i : Int)) l.length (fun i => decide (Fit p (U l i).Pattern) && (decide (1 ≤ (U l i).Count) && decide ((U l i).Count ≤ 1000))) (some false) (some true) (fun i hi hp2 nx => by
        simp only [Bool.and_eq_true,decide_eq_true_eq] at hp2
        obtain ⟨q1,q2,q3⟩ := hp2
        rw [m30_L1,if_pos (by simp; omega),getIdx_U rfl hi,Option.bind_some,mkP,m27_val (hp _ (U_mem hi)) (by omega),Option.bind_some,decide_eq_true (show vP p = true ∧ Fit p (U l i).Pattern from ⟨hv,q1⟩)]
        simp only [Bool.not_true,Bool.not_false,gdO_true,Option.bind_some,Bool.false_or]
        rw [decide_eq_false (show ¬ (U l i).Count < 1 by omega)]
        simp only [Bool.not_false,gdO_true,Option.bind_some,Bool.false_or]
        rw [decide_eq_false (show ¬ 1000 < (U l i).Count by omega),if_neg (by simp),letM_eq,wrap64 (by omega) (by omega)]
        rfl) (fun i hi hp2 nx => by
        rw [m30_L1,if_pos (by simp; omega),getIdx_U rfl hi,Option.bind_some,mkP,m27_val (hp _ (U_mem hi)) (by omega),Option.bind_some]
        by_cases q1 : Fit p (U l i).Pattern
        · rw [decide_eq_true (show vP p = true ∧ Fit p (U l i).Pattern from ⟨hv,q1⟩)]
          simp only [Bool.not_true,Bool.not_false,gdO_true,Option.bind_some,Bool.false_or]
          by_cases q2 : (U l i).Count < 1
          · rw [decide_eq_true q2]; rfl
          · rw [decide_eq_false q2]
            simp only [Bool.not_false,gdO_true,Option.bind_some,Bool.false_or]
            have : 1000 < (U l i).Count := by
              simp only [Bool.and_eq_false_iff,decide_eq_false_iff_not] at hp2
              rcases hp2 with h | h | h
              · exact absurd q1 h
              · omega
              · omega
            rw [decide_eq_true this,if_pos rfl]
        · rw [decide_eq_false (show ¬ (vP p = true ∧ Fit p (U l i).Pattern) from fun h => q1 h.2)]; rfl) (fun nx => by rw [m30_L1,if_neg (by simp)]) (show l.length < n by omega)
    refine ⟨if (∀ i,i < l.length → (decide (Fit p (U l i).Pattern) && (decide (1 ≤ (U l i).Count) && decide ((U l i).Count ≤ 1000))) = true) then true else false,?_,?_⟩
    · refine key.trans ?_
      split <;> rfl
    · intro h
      split at h
      · rename_i hq
        have hq2 : ∀ u,u ∈ l → Fit p u.Pattern ∧ 1 ≤ u.Count ∧ u.Count ≤ 1000 := fun u hu => by
          obtain ⟨i,hi,rfl⟩ := List.getElem_of_mem hu
          have := hq i hi
          rw [← U_at hi] at this
          simpa only [Bool.and_eq_true,decide_eq_true_eq] using this
        exact ⟨vP_iff.1 hv,hl,fun u hu => (hq2 u hu).1,fun u hu => (hq2 u hu).2⟩
      · cases h
  · exact ⟨false,by rw [if_pos (by simp at hv; simp [hv])],fun h => by cases h⟩
theorem barsU_mem : ∀ {l : List R56},(∀ u,u ∈ l → 1 ≤ u.Count) → 0 ≤ barsU l ∧ ∀ u,u ∈ l → u.Count ≤ barsU l
  | [],_ => ⟨Int.le_refl _,by simp⟩
  | v :: l,h => by
    obtain ⟨h1,h2⟩ := barsU_mem (l := l) fun u hu => h u (List.mem_cons_of_mem _ hu)
    have hv := h v (by simp)
    have e : barsU (v :: l) = 1 * v.Count + barsU l := rfl
    refine ⟨by omega,fun u hu => ?_⟩
    rcases List.mem_cons.1 hu with rfl | hu
    · omega
    · have := h2 u hu; omega
theorem barsU_le {B : Int} : ∀ {l : List R56},(∀ u,u ∈ l → u.Count ≤ B) → barsU l ≤ B * (l.length : Int)
  | [],_ => by simp [barsU,sumU]
  | v :: l,h => by
    have h1 := barsU_le (l := l) fun u hu => h u (List.mem_cons_of_mem _ hu)
    have hv := h v (by simp)
    have e : barsU (v :: l) = 1 * v.Count + barsU l := rfl
    rw [e,List.length_cons,show B * ((l.length + 1 : Nat) : Int) = B * (l.length : Int) + B from by rw [Int.natCast_succ,Int.mul_add,Int.mul_one]]
    omega
theorem normL_bars (l : List R56) : barsU (normL l) = barsU l := normL_sum l
theorem normL_made {p : R23} (l : List R56) : madeL p (normL l) = madeL p l := by
  unfold madeL
  congr 1
  funext k
  exact normL_sum l
theorem normL_self {l : List R56} (h : Sorted l) (hc : ∀ u,u ∈ l → 1 ≤ u.Count) : normL l = l := sorted_eq (normL_sorted l) h (normL_pos hc) hc fun g => normL_sum l
theorem normL_turn {l m : List R56} (h : l.Perm m) (hc : ∀ u,u ∈ l → 1 ≤ u.Count) : normL m = normL l :=
  sorted_eq (normL_sorted m) (normL_sorted l) (normL_pos fun u hu => hc u (h.mem_iff.2 hu)) (normL_pos hc) fun g => by rw [normL_sum,normL_sum,sumU_perm h]
theorem m7_gen {n : Nat} {p : R23} {l : List R56} {at_ : Int} (hl : l.length ≤ 9223372036854775807) (hn : 1100 < n) (hn2 : l.length < n) (ha : 0 ≤ at_ ∧ at_ ≤ 255) : m7 n p l at_ = some true := by
  unfold m7
  obtain ⟨b,hb⟩ := m11_tot (p := p) (show 30 < n by omega)
  rw [m10_val hn,Option.bind_some,mkP,hb]
  cases b with
  | false => simp [gdO]
  | true =>
    simp only [Bool.not_true,Bool.not_false,gdO_true,Option.bind_some,Bool.or_self]
    obtain ⟨b2,h29,hb2⟩ := m29_tot hl hn2
    rw [h29,Option.bind_some]
    cases b2 with
    | false => simp [gdO]
    | true =>
      obtain ⟨hl12,hu⟩ := hb2 rfl
      obtain ⟨b3,h30,hb3⟩ := m30_tot (p := p) (l := l) (by omega) (fun u h => (hu u h).1) hn
      simp only [Bool.not_true,Bool.not_false,gdO_true,Option.bind_some,Bool.or_self]
      rw [h30,Option.bind_some]
      cases b3 with
      | false => simp
      | true =>
        have hs := hb3 rfl
        have hpos : ∀ u,u ∈ l → 1 ≤ u.Count := fun u h => (hs.cnt u h).1
        have hpl := hs.pl
        have hN : Nrm l := ⟨by omega,hpl,fun u h => by have := hs.cnt u h; omega⟩
        have hnl := normL_len l
        have hnpos := normL_pos hpos
        have hnpat : ∀ u,u ∈ normL l → u.Pattern.length ≤ 25 := normL_pat (Q := fun a => a.length ≤ 25) hpl
        have hncnt : ∀ u,u ∈ normL l → u.Count ≤ 480 := fun u h => by
          have h1 := (barsU_mem hnpos).2 u h
          rw [normL_bars] at h1
          have h2 := barsU_le (B := 40) (l := l) fun u h => (hu u h).2
          omega
        have hNn : Nrm (normL l) := ⟨by omega,hnpat,fun u h => ⟨hnpos u h,by have := hncnt u h; omega⟩⟩
        have hsn : Snd p (normL l) := ⟨hs.vp,by omega,normL_pat (Q := Fit p) hs.fit,fun u h => ⟨hnpos u h,by have := hncnt u h; omega⟩⟩
        have e32 : m32 n l = some l := m32_val (by omega) (by omega)
        have e31 : m31 n l = some (normL l) := m31_val hN hn
        have e31n : m31 n (normL l) = some (normL l) := by rw [m31_val hNn hn,normL_self (normL_sorted l) hnpos]
        have e37 : m37 n (normL l) = some (normL l) := m37_val (by omega) (by omega)
        have e36 : m36 n (normL l) (normL l) = some true := m36_refl (by omega) (by omega) hnpat (by omega)
        have e35 : m35 n (normL l) = some (barsU l) := by rw [m35_val (by omega) (by omega) fun u h => ⟨hnpos u h,by have := hncnt u h; omega⟩,normL_bars]
        have e35l : m35 n l = some (barsU l) := m35_val (by omega) (by omega) fun u h => by have := hs.cnt u h; omega
        have e33 : m33 n p l = some (madeL p l,0) := m33_val hs hn
        have e33n : m33 n p (normL l) = some (madeL p l,0) := by rw [m33_val hsn hn,normL_made]
        have hmade : (madeL p l).length ≤ 20 := by unfold madeL; simp; exact hs.vp.l2
        have e34 : m34 n (madeL p l) (madeL p l) = some true := m34_refl (by omega) (by omega)
        rw [if_neg (by simp),e32,Option.bind_some,e31,Option.bind_some]
        unfold jn
        have e1 : ∀ k,loopM (m7_L1 n (normL l) k) n (1 : Int) = k () := by
          intro k
          refine loopM_ind (fun m x => ∃ i : Nat,1 ≤ i ∧ m = (normL l).length - i ∧ x = (i : Int)) (fun o => o = k ()) ?_ n ((normL l).length - 1) _ ⟨1,by omega,rfl,rfl⟩ (by omega)
          rintro m x ⟨i,hi,rfl,rfl⟩
          rcases Nat.lt_or_ge i (normL l).length with h1 | h1
          · refine .inl ⟨(normL l).length - (i + 1),((i + 1 : Nat) : Int),by omega,⟨i + 1,by omega,rfl,rfl⟩,fun nx => ?_⟩
            have hsr := List.pairwise_iff_getElem.1 (normL_sorted l) (i - 1) i (by omega) h1 (by omega)
            rw [U_at (by omega),U_at h1] at hsr
            have hp1 := hnpat _ (U_mem (show i - 1 < (normL l).length by omega))
            rw [m7_L1,if_pos (by simp; omega),wrap64 (by omega) (by omega),getIdx_U (k := i - 1) (by omega) (by omega),Option.bind_some,getIdx_U rfl h1,Option.bind_some,m15_val (by omega) (by omega),Option.bind_some,decide_eq_true hsr,if_neg (by simp),letM_eq,wrap64 (by omega) (by omega)]
            rfl
          · refine .inr ⟨_,rfl,fun nx => ?_⟩
            rw [m7_L1,if_neg (by simp; omega)]
        dsimp only
        rw [e1,Option.bind_some,e33,Option.bind_some,e33n,Option.bind_some]
        have fin : ∀ k : Nat,k ≤ l.length → m31 n (l.drop k ++ l.take k) = some (normL l) ∧ m32 n (l.drop k ++ l.take k) = some (l.drop k ++ l.take k) := by
          intro k hk
          have hpm : l.Perm (l.drop k ++ l.take k) := by
            have := List.perm_append_comm (l₁ := l.take k) (l₂ := l.drop k)
            rw [List.take_append_drop] at this
            exact this
          have hlen : (l.drop k ++ l.take k).length = l.length := hpm.length_eq.symm
          refine ⟨?_,m32_val (by omega) (by omega)⟩
          rw [m31_val ⟨by omega,fun u h => hpl u (hpm.mem_iff.2 h),fun u h => by have := hs.cnt u (hpm.mem_iff.2 h); omega⟩ hn,normL_turn hpm hpos]
        have go : ∀ k : Nat,k ≤ l.length → ∀ (K : List R56 → Option Bool),((slc l (k : Int) (l.length : Int)).bind fun s_28 => ((apd ([] : List R56) s_28).bind fun l2_29 => ((slc l (0 : Int) (k : Int)).bind fun s_30 => ((apd l2_29 s_30).bind fun l2_31 => K l2_31)))) = K (l.drop k ++ l.take k) := by
          intro k hk K
          rw [slc_val (i := k) (j := l.length) rfl rfl hk (Nat.le_refl _),Option.bind_some,apd_val (by simp; omega),Option.bind_some,slc_val (l := (0 : Int)) (h := (k : Int)) (i := 0) (j := k) rfl rfl (by omega) hk,Option.bind_some,apd_val (by simp; omega),Option.bind_some]
          simp only [List.nil_append,List.drop_zero,Nat.sub_zero]
          rw [List.take_of_length_le (by simp)]
        by_cases h0 : 0 < l.length
        · rw [if_pos (by simp; omega)]
          unfold asrt
          have hmod : (IntKind.wrap .i64 at_).tmod (l.length : Int) = ((at_.toNat % l.length : Nat) : Int) := by
            rw [wrap64 (by omega) (by omega)]
            obtain ⟨k,rfl⟩ := Int.eq_ofNat_of_zero_le ha.1
            exact tmod_nat k l.length
          have hk : at_.toNat % l.length ≤ l.length := Nat.le_of_lt (Nat.mod_lt _ h0)
          obtain ⟨f1,f2⟩ := fin _ hk
          rw [if_pos (by omega),letM_eq,hmod]
          refine (go _ hk _).trans ?_
          simp [gdO,letM,e34,e35,e35l,e32,e31n,e37,e36,f1,f2]
        · obtain ⟨f1,f2⟩ := fin 0 (by omega)
          rw [if_neg (by rw [decide_eq_false (by omega)]; simp)]
          refine (go 0 (by omega) _).trans ?_
          simp [gdO,letM,e34,e35,e35l,e32,e31,e31n,e37,e36]
theorem m7_true (p : R23) (l : List R56) (at_ : Int) (hl : l.length ≤ maxLen) (hc : (Lit.int .u8 at_).wf = true) : m7 (l.length + 3000) p l at_ = some true := by
  have : 0 ≤ at_ ∧ at_ ≤ 255 := by
    simp [Lit.wf,IntKind.min,IntKind.max,IntKind.signed,IntKind.bits] at hc
    omega
  exact m7_gen (by unfold maxLen at hl; omega) (by omega) (by omega) this
end Go.AB

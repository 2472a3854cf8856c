import Derived.Test.YtnmglighdhaccaaLm
set_option linter.unusedVariables false
namespace Go.AB
open Go Go.Proofs
theorem m29_tot {n : Nat} {l : List R56} (hl : l.length ≤ 9223372036854775807) (hn : l.length < n) : ∃ b,m29 n l = some b ∧ (b = true → l.length ≤ 12 ∧ ∀ u,u ∈ l → u.Pq.length ≤ 25 ∧ u.Cq ≤ 40) := by
  unfold m29 jn
  have key := loop_all (body := m29_L1 n l fun _ => some (decide ((l.length : Int) ≤ 12))) (fun i => (i : Int)) l.length (fun i => !(decide ((25 : Int) < ((U l i).Pq.length : Int)) || decide ((40 : Int) < (U l i).Cq))) (some false) (some (decide ((l.length : Int) ≤ 12))) (fun i hi hp nx => by
      have hp2 : ¬ (25 : Int) < ((U l i).Pq.length : Int) ∧ ¬ (40 : Int) < (U l i).Cq := by simpa using hp
      rw [m29_L1,if_pos (by simp; omega),getIdx_U rfl hi,oB,decide_eq_false hp2.1]
      simp only [Bool.not_false,gdO_true,oB,Bool.false_or]
      rw [decide_eq_false hp2.2,if_neg (by simp),letM_eq,wrap64 (by omega) (by omega)]
      rfl) (fun i hi hp nx => by
      rw [m29_L1,if_pos (by simp; omega),getIdx_U rfl hi,oB]
      by_cases h1 : (25 : Int) < ((U l i).Pq.length : Int)
      · rw [decide_eq_true h1]; rfl
      · rw [decide_eq_false h1]
        have h2 : (40 : Int) < (U l i).Cq := by
          rw [decide_eq_false h1] at hp
          simpa using hp
        simp only [Bool.not_false,gdO_true,oB,Bool.false_or]
        rw [decide_eq_true h2,if_pos rfl]) (fun nx => by rw [m29_L1,if_neg (by simp)]) hn
  refine ⟨if (∀ i,i < l.length → (!(decide ((25 : Int) < ((U l i).Pq.length : Int)) || decide ((40 : Int) < (U l i).Cq))) = true) then decide ((l.length : Int) ≤ 12) else false,?_,?_⟩
  · refine key.trans ?_
    split <;> rfl
  · intro h
    split at h
    · rename_i hq
      refine ⟨by have := of_decide_eq_true h; omega,fun u hu => ?_⟩
      obtain ⟨i,hi,rfl⟩ := List.getElem_of_mem hu
      have := hq i hi
      rw [← U_at hi] at this
      have : ¬ (25 : Int) < (l[i].Pq.length : Int) ∧ ¬ (40 : Int) < l[i].Cq := by simpa using this
      omega
    · cases h
theorem barsU_mem : ∀ {l : List R56},(∀ u,u ∈ l → 1 ≤ u.Cq) → 0 ≤ barsU l ∧ ∀ u,u ∈ l → u.Cq ≤ barsU l
  | [],_ => ⟨Int.le_refl _,by simp⟩
  | v :: l,h => by
    obtain ⟨h1,h2⟩ := barsU_mem (l := l) fun u hu => h u (List.mem_cons_of_mem _ hu)
    have hv := h v (by simp)
    have e : barsU (v :: l) = 1 * v.Cq + barsU l := rfl
    refine ⟨by omega,fun u hu => ?_⟩
    rcases List.mem_cons.1 hu with rfl | hu
    · omega
    · have := h2 u hu; omega
theorem barsU_le {B : Int} : ∀ {l : List R56},(∀ u,u ∈ l → u.Cq ≤ B) → barsU l ≤ B * (l.length : Int)
  | [],_ => by simp [barsU,sumU]
  | v :: l,h => by
    have h1 := barsU_le (l := l) fun u hu => h u (List.mem_cons_of_mem _ hu)
    have hv := h v (by simp)
    have e : barsU (v :: l) = 1 * v.Cq + barsU l := rfl
    rw [e,List.length_cons,show B * ((l.length + 1 : Nat) : Int) = B * (l.length : Int) + B from by rw [Int.natCast_succ,Int.mul_add,Int.mul_one]]
    omega
theorem normL_bars (l : List R56) : barsU (normL l) = barsU l := normL_sum l
end Go.AB

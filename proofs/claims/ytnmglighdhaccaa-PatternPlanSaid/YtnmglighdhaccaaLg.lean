import Derived.Test.YtnmglighdhaccaaLf
set_option linter.unusedVariables false
namespace Go.AB
open Go
theorem m34_refl {n : Nat} {a : List Int} (hl : a.length ≤ 1000000) (hn : a.length < n) : m34 n a a = some true := by
  unfold m34
  rw [if_neg (by simp)]
  unfold jn
  refine (loop_all (fun i => (i : Int)) a.length (fun _ => true) (some false) (some true) ?_ (fun i _ h => by cases h) ?_ hn).trans (if_pos fun _ _ => rfl)
  · intro i hi _ nx
    rw [m34_L1,if_pos (by simp; omega),getIdx_D rfl hi,oB,oB,if_neg (by simp),letM_eq,wrap64 (by omega) (by omega)]
    rfl
  · intro nx
    rw [m34_L1,if_neg (by simp)]
theorem m20_refl {n : Nat} {a : List (List Int)} (hl : a.length ≤ 1000000) (hn : a.length < n) (hb : ∀ x,x ∈ a → x.length ≤ 25) (hn2 : 30 < n) : m20 n a a = some true := by
  unfold m20
  rw [if_neg (by simp)]
  unfold jn
  refine (loop_all (fun i => (i : Int)) a.length (fun _ => true) (some false) (some true) ?_ (fun i _ h => by cases h) ?_ hn).trans (if_pos fun _ _ => rfl)
  · intro i hi _ nx
    have := hb _ (List.getElem_mem hi)
    rw [m20_L1,if_pos (by simp; omega),getIdx_at rfl hi,oB,oB,m34_refl (by omega) (by omega),oB,if_neg (by simp),letM_eq,wrap64 (by omega) (by omega)]
    rfl
  · intro nx
    rw [m20_L1,if_neg (by simp)]
theorem m11_tot {n : Nat} {p : R23} (hn : 30 < n) : ∃ b,m11 n p = some b := by
  unfold m11
  by_cases h0 : ((decide ((25 : Int) < (p.Lq.length : Int))) || (decide ((25 : Int) < (p.Dq.length : Int)))) = true
  · rw [if_pos h0]; exact ⟨_,rfl⟩
  · rw [if_neg h0,mkP,m12_val (by omega),oB]
    by_cases hv : vP p = true
    · have h := vP_iff.1 hv
      have := h.l1; have := h.l2; have := h.dl
      rw [if_neg (by simp [hv])]
      unfold jn
      have hlast := h.li (p.Lq.length - 1) (by omega)
      have hs := h.s2
      refine ⟨if (∀ i,i < p.Dq.length → decide (p.Dq.getD i 0 ≤ 30) = true) then ((decide ((p.Lq.length : Int) ≤ (6 : Int))) && (decide (p.Sq ≤ (IntKind.wrap .i64 ((12 : Int) * (if (decide ((p.Lq.length : Int) ≤ (6 : Int))) = true then p.Lq.getD (p.Lq.length - 1) 0 else 0)))))) else false,(loop_all (fun i => (i : Int)) p.Dq.length (fun i => decide (p.Dq.getD i 0 ≤ 30)) (some false)
        (some ((decide ((p.Lq.length : Int) ≤ (6 : Int))) && (decide (p.Sq ≤ (IntKind.wrap .i64 ((12 : Int) * (if (decide ((p.Lq.length : Int) ≤ (6 : Int))) = true then p.Lq.getD (p.Lq.length - 1) 0 else 0))))))) ?_ ?_ ?_ (by omega)).trans ?_⟩
      · intro i hi hp nx
        have hp := of_decide_eq_true hp
        rw [m11_L1,if_pos (by simp; omega),getIdx_D rfl hi,oB,if_neg (by rw [decide_eq_false (by omega)]; simp),letM_eq,wrap64 (by omega) (by omega)]
        rfl
      · intro i hi hp nx
        have hp := of_decide_eq_false hp
        rw [m11_L1,if_pos (by simp; omega),getIdx_D rfl hi,oB,if_pos (by rw [decide_eq_true (by omega)])]
      · intro nx
        rw [m11_L1,if_neg (by simp)]
        rw [gdO_if (v := p.Lq.getD (p.Lq.length - 1) 0) (fun _ => by rw [wrap64 (by omega) (by omega)]; exact getIdx_D (by omega) (by omega)),oB]
      · exact (apply_ite some _ _ _).symm
    · exact ⟨true,by rw [if_pos (by simp at hv; simp [hv])]⟩
end Go.AB

import Derived.Test.YtnmglighdhaccaaD
import Derived.Test.YtnmglighdhaccaaLx
set_option linter.unusedVariables false
namespace Go.AB
open Go
theorem gdO_if {g : Bool} {o : Option Int} {v : Int} (h : g = true → o = some v) : gdO g o default = some (if g = true then v else 0) := by
  cases g with
  | false => rfl
  | true => rw [gdO_true,h rfl]; rfl
theorem getD_at {l : List Int} {i : Nat} (h : i < l.length) : l[i] = l.getD i 0 := by simp [h]
theorem getIdx_D {l : List Int} {i : Int} {k : Nat} (hi : i = (k : Int)) (h : k < l.length) : getIdx l i = some (l.getD k 0) := by rw [getIdx_at hi h,getD_at h]
def headP (p : R23) : Bool := !((((((((decide ((p.Lq.length : Int) < (1 : Int))) || (decide ((20 : Int) < (p.Lq.length : Int)))) || (!decide ((p.Dq.length : Int) = (p.Lq.length : Int)))) || (decide (p.Sq < (1 : Int)))) || (decide ((2000 : Int) < p.Sq))) || (decide (p.Kq < (0 : Int)))) || (decide ((100 : Int) < p.Kq))))
def okI (p : R23) (i : Nat) : Bool := !(((((decide (p.Lq.getD i 0 < 1)) || (decide (p.Sq < p.Lq.getD i 0))) || ((decide ((0 : Int) < i)) && (decide (p.Lq.getD (i - 1) 0 ≤ p.Lq.getD i 0)))) || (decide (p.Dq.getD i 0 < 0))) || (decide (1000 < p.Dq.getD i 0)))
def vP (p : R23) : Bool := headP p && decide (∀ i,i < p.Lq.length → okI p i = true)
theorem headP_iff {p : R23} : headP p = true ↔ 1 ≤ p.Lq.length ∧ p.Lq.length ≤ 20 ∧ p.Dq.length = p.Lq.length ∧ 1 ≤ p.Sq ∧ p.Sq ≤ 2000 ∧ 0 ≤ p.Kq ∧ p.Kq ≤ 100 := by
  unfold headP
  simp only [Bool.not_eq_true',Bool.or_eq_false_iff,decide_eq_false_iff_not,Bool.not_eq_false',decide_eq_true_eq]
  omega
theorem okI_iff {p : R23} {i : Nat} : okI p i = true ↔ 1 ≤ p.Lq.getD i 0 ∧ p.Lq.getD i 0 ≤ p.Sq ∧ (0 < i → p.Lq.getD i 0 < p.Lq.getD (i - 1) 0) ∧ 0 ≤ p.Dq.getD i 0 ∧ p.Dq.getD i 0 ≤ 1000 := by
  unfold okI
  simp only [Bool.not_eq_true',Bool.or_eq_false_iff,Bool.and_eq_false_iff,decide_eq_false_iff_not]
  constructor
  · rintro ⟨⟨⟨⟨h1,h2⟩,h3⟩,h4⟩,h5⟩
    refine ⟨by omega,by omega,fun h => ?_,by omega,by omega⟩
    rcases h3 with h3 | h3 <;> omega
  · rintro ⟨h1,h2,h3,h4,h5⟩
    refine ⟨⟨⟨⟨by omega,by omega⟩,?_⟩,by omega⟩,by omega⟩
    by_cases h : 0 < i
    · have := h3 h; omega
    · omega
theorem mkP (p : R23) : R23.mk p.Lq p.Dq p.Sq p.Kq = p := rfl
theorem m21_val {n : Nat} {p : R23} (hn : 21 < n) : m21 n p = some (vP p) := by
  unfold m21 vP
  rw [letM_eq]
  by_cases hh : headP p = true
  · have h := headP_iff.1 hh
    rw [if_neg (by unfold headP at hh; simpa only [Bool.not_eq_true',Bool.not_eq_true] using hh)]
    unfold jn
    refine (loop_all (fun i => (i : Int)) p.Lq.length (okI p) (some false) (some true) ?_ ?_ ?_ (by omega)).trans ?_
    rotate_left 3
    · rw [hh,Bool.true_and]
      by_cases hq : ∀ i,i < p.Lq.length → okI p i = true
      · rw [if_pos hq,decide_eq_true hq]
      · rw [if_neg hq,decide_eq_false hq]
    · intro i hi hp nx
      rw [okI_iff] at hp
      obtain ⟨h1,h2,h3,h4,h5⟩ := hp
      have hd : i < p.Dq.length := by omega
      rw [m21_L1,if_pos (by simp; omega),getIdx_D rfl hi,oB,gdO_if (v := p.Lq.getD (i - 1) 0) (fun hg => by
        simp only [Bool.and_eq_true,decide_eq_true_eq] at hg
        rw [wrap64 (by omega) (by omega)]
        exact getIdx_D (by omega) (by omega)),oB,gdO_if (v := p.Dq.getD i 0) (fun _ => getIdx_D rfl hd),oB,gdO_if (v := p.Dq.getD i 0) (fun _ => getIdx_D rfl hd),oB,letM_eq,if_neg ?_,letM_eq,wrap64 (by omega) (by omega)]
      · rfl
      · revert h1 h2 h3 h4 h5
        generalize p.Lq.getD (i - 1) 0 = y
        generalize p.Lq.getD i 0 = x
        generalize p.Dq.getD i 0 = z
        intro h1 h2 h3 h4 h5
        have e1 : decide (x < 1) = false := decide_eq_false (by omega)
        have e2 : decide (p.Sq < x) = false := decide_eq_false (by omega)
        by_cases h0 : 0 < i
        · have := h3 h0
          have e3 : decide ((0 : Int) < (i : Int)) = true := decide_eq_true (by omega)
          simp [e1,e2,e3]; omega
        · have e3 : decide ((0 : Int) < (i : Int)) = false := decide_eq_false (by omega)
          simp [e1,e2,e3]; omega
    · intro i hi hp nx
      have hd : i < p.Dq.length := by omega
      rw [m21_L1,if_pos (by simp; omega),getIdx_D rfl hi,oB,gdO_if (v := p.Lq.getD (i - 1) 0) (fun hg => by
        simp only [Bool.and_eq_true,decide_eq_true_eq] at hg
        rw [wrap64 (by omega) (by omega)]
        exact getIdx_D (by omega) (by omega)),oB,gdO_if (v := p.Dq.getD i 0) (fun _ => getIdx_D rfl hd),oB,gdO_if (v := p.Dq.getD i 0) (fun _ => getIdx_D rfl hd),oB,letM_eq,if_pos ?_]
      unfold okI at hp
      rw [Bool.not_eq_false'] at hp
      revert hp
      generalize decide (p.Lq.getD i 0 < 1) = a
      generalize decide (p.Sq < p.Lq.getD i 0) = b
      generalize decide ((0 : Int) < (i : Int)) = c
      generalize p.Lq.getD i 0 = x
      generalize p.Lq.getD (i - 1) 0 = y
      generalize p.Dq.getD i 0 = z
      intro hp
      cases a <;> cases b <;> cases c <;> simp at hp ⊢ <;> by_cases e1 : y ≤ x <;> by_cases e2 : z < 0 <;> simp_all
    · intro nx
      rw [m21_L1,if_neg (by simp)]
  · have hh' : headP p = false := by simpa using hh
    rw [if_pos (by unfold headP at hh'; simpa only [Bool.not_eq_false'] using hh'),hh',Bool.false_and]
theorem m12_val {n : Nat} {p : R23} (hn : 21 < n) : m12 n p = some (vP p) := by
  unfold m12 vP
  rw [letM_eq]
  by_cases hh : headP p = true
  · have h := headP_iff.1 hh
    rw [if_neg (by unfold headP at hh; simpa only [Bool.not_eq_true',Bool.not_eq_true] using hh)]
    unfold jn
    refine (loop_all (fun i => (i : Int)) p.Lq.length (okI p) (some false) (some true) ?_ ?_ ?_ (by omega)).trans ?_
    rotate_left 3
    · rw [hh,Bool.true_and]
      by_cases hq : ∀ i,i < p.Lq.length → okI p i = true
      · rw [if_pos hq,decide_eq_true hq]
      · rw [if_neg hq,decide_eq_false hq]
    · intro i hi hp nx
      rw [okI_iff] at hp
      obtain ⟨h1,h2,h3,h4,h5⟩ := hp
      have hd : i < p.Dq.length := by omega
      rw [m12_L1,if_pos (by simp; omega),getIdx_D rfl hi,oB,gdO_if (v := p.Lq.getD i 0) (fun _ => rfl),oB,gdO_if (v := p.Lq.getD i 0) (fun _ => rfl),oB,gdO_if (v := p.Lq.getD (i - 1) 0) (fun hg => by
        simp only [Bool.and_eq_true,decide_eq_true_eq] at hg
        rw [wrap64 (by omega) (by omega)]
        exact getIdx_D (by omega) (by omega)),oB,gdO_if (v := p.Dq.getD i 0) (fun _ => getIdx_D rfl hd),oB,gdO_if (v := p.Dq.getD i 0) (fun _ => getIdx_D rfl hd),oB,letM_eq,if_neg ?_,letM_eq,wrap64 (by omega) (by omega)]
      · rfl
      · revert h1 h2 h3 h4 h5
        generalize p.Lq.getD (i - 1) 0 = y
        generalize p.Lq.getD i 0 = x
        generalize p.Dq.getD i 0 = z
        intro h1 h2 h3 h4 h5
        have e1 : decide (x < 1) = false := decide_eq_false (by omega)
        have e2 : decide (p.Sq < x) = false := decide_eq_false (by omega)
        by_cases h0 : 0 < i
        · have := h3 h0
          have e3 : decide ((0 : Int) < (i : Int)) = true := decide_eq_true (by omega)
          simp [e1,e2,e3]; omega
        · have e3 : decide ((0 : Int) < (i : Int)) = false := decide_eq_false (by omega)
          simp [e1,e2,e3]; omega
    · intro i hi hp nx
      have hd : i < p.Dq.length := by omega
      rw [m12_L1,if_pos (by simp; omega),getIdx_D rfl hi,oB,gdO_if (v := p.Lq.getD i 0) (fun _ => rfl),oB,gdO_if (v := p.Lq.getD i 0) (fun _ => rfl),oB,gdO_if (v := p.Lq.getD (i - 1) 0) (fun hg => by
        simp only [Bool.and_eq_true,decide_eq_true_eq] at hg
        rw [wrap64 (by omega) (by omega)]
        exact getIdx_D (by omega) (by omega)),oB,gdO_if (v := p.Dq.getD i 0) (fun _ => getIdx_D rfl hd),oB,gdO_if (v := p.Dq.getD i 0) (fun _ => getIdx_D rfl hd),oB,letM_eq,if_pos ?_]
      unfold okI at hp
      rw [Bool.not_eq_false'] at hp
      revert hp
      generalize p.Lq.getD (i - 1) 0 = y
      generalize p.Dq.getD i 0 = z
      generalize p.Lq.getD i 0 = x
      intro hp
      by_cases a : x < 1 <;> by_cases b : p.Sq < x <;> by_cases c : (0 : Int) < (i : Int) <;> simp [a,b,c] at hp ⊢ <;> by_cases e1 : y ≤ x <;> by_cases e2 : z < 0 <;> simp_all
    · intro nx
      rw [m12_L1,if_neg (by simp)]
  · have hh' : headP p = false := by simpa using hh
    rw [if_pos (by unfold headP at hh'; simpa only [Bool.not_eq_false'] using hh'),hh',Bool.false_and]
end Go.AB

import Derived.Test.YtpcjbgfgimboiaaLc
namespace Go.AB
open Go
theorem root_min {l : List R68} (h : hp l) : ∀ j,j < l.length → ¬ lt (at' l j) (at' l 0) := by
  intro j
  induction j using Nat.strongRecOn with
  | _ j ih =>
    intro hj
    rcases Nat.eq_zero_or_pos j with h0 | h0
    · subst h0
      exact fun hh => hh.asymm hh
    · exact le_trans' (ih ((j - 1) / 2) (by omega) (by omega)) (h j h0 hj)
def down (l : List R68) (i : Nat) : Prop := (∀ j,0 < j → j < l.length → (j - 1) / 2 ≠ i → ¬ lt (at' l j) (at' l ((j - 1) / 2))) ∧ (0 < i → ∀ j,0 < j → j < l.length → (j - 1) / 2 = i → ¬ lt (at' l j) (at' l ((i - 1) / 2)))
theorem down_step {l : List R68} {i b : Nat} (hb : b < l.length) (hbi : 0 < b ∧ (b - 1) / 2 = i) (h : down l i) (hl : lt (at' l b) (at' l i)) (hm : ∀ j,0 < j → j < l.length → (j - 1) / 2 = i → ¬ lt (at' l j) (at' l b)) : down (sw l i b) b := by
  obtain ⟨u1,u2⟩ := h
  have hi : i < l.length := by omega
  have hib : i < b := by omega
  refine ⟨fun j j0 j1 jp => ?_,fun p0 j j0 j1 jp => ?_⟩
  · rw [sw_len] at j1
    rw [sw_at hi hb,sw_at hi hb,if_neg jp]
    by_cases q : (j - 1) / 2 = i
    · rw [if_pos q]
      by_cases jb : j = b
      · rw [if_pos jb]
        exact hl.asymm
      · rw [if_neg jb,if_neg (by omega)]
        exact hm j j0 j1 q
    · rw [if_neg q,if_neg (by omega)]
      by_cases ji : j = i
      · rw [if_pos ji,ji]
        exact u2 (by omega) b hbi.1 hb hbi.2
      · rw [if_neg ji]
        exact u1 j j0 j1 q
  · rw [sw_len] at j1
    rw [sw_at hi hb,sw_at hi hb,if_neg (by omega),if_neg (by omega),if_neg (by omega),if_pos hbi.2]
    have := u1 j j0 j1 (by omega)
    rw [jp] at this
    exact this
theorem down_done {l : List R68} {i : Nat} (h : down l i) (hm : ∀ j,0 < j → j < l.length → (j - 1) / 2 = i → ¬ lt (at' l j) (at' l i)) : hp l := by
  intro j j0 j1
  by_cases q : (j - 1) / 2 = i
  · rw [q]; exact hm j j0 j1 q
  · exact h.1 j j0 j1 q
theorem pickB {R : Type} {n : Nat} {l : List R68} {c : Int} {j b : Nat} (hb : b < l.length) (F : Int → Option R) :
    ((gdO (decide ((j : Int) < (l.length : Int))) (m32 n l c (j : Int) (b : Int)) default).bind fun y => if (decide ((j : Int) < (l.length : Int)) && y) = true then F (j : Int) else F (b : Int)) = F ((if j < l.length ∧ lt (at' l j) (at' l b) then j else b : Nat) : Int) := by
  by_cases hj : j < l.length
  · rw [decide_eq_true (by omega),gdO_true,m32_val hj hb,Option.bind_some,Bool.true_and,at_get hj,at_get hb]
    by_cases hl : lt (at' l j) (at' l b)
    · rw [if_pos (decide_eq_true hl),if_pos ⟨hj,hl⟩]
    · rw [if_neg (by simpa using hl),if_neg (fun h => hl h.2)]
  · rw [decide_eq_false (by omega),gdO_false,Option.bind_some,Bool.false_and,if_neg (by simp),if_neg (fun h => hj h.1)]
def best (l : List R68) (i : Nat) : Nat :=
  let b := if 2 * i + 1 < l.length ∧ lt (at' l (2 * i + 1)) (at' l i) then 2 * i + 1 else i
  if 2 * i + 2 < l.length ∧ lt (at' l (2 * i + 2)) (at' l b) then 2 * i + 2 else b
theorem best_ok {l : List R68} {i : Nat} (hi : i < l.length) : best l i < l.length ∧ (best l i = i ∨ (0 < best l i ∧ (best l i - 1) / 2 = i ∧ lt (at' l (best l i)) (at' l i))) ∧ ∀ j,0 < j → j < l.length → (j - 1) / 2 = i → ¬ lt (at' l j) (at' l (best l i)) := by
  unfold best
  dsimp only
  by_cases c1 : 2 * i + 1 < l.length ∧ lt (at' l (2 * i + 1)) (at' l i)
  · rw [if_pos c1]
    by_cases c2 : 2 * i + 2 < l.length ∧ lt (at' l (2 * i + 2)) (at' l (2 * i + 1))
    · rw [if_pos c2]
      refine ⟨c2.1,.inr ⟨by omega,by omega,c2.2.trans c1.2⟩,fun j j0 j1 jp => ?_⟩
      have : j = 2 * i + 1 ∨ j = 2 * i + 2 := by omega
      rcases this with rfl | rfl
      · exact c2.2.asymm
      · exact fun hh => hh.asymm hh
    · rw [if_neg c2]
      refine ⟨c1.1,.inr ⟨by omega,by omega,c1.2⟩,fun j j0 j1 jp => ?_⟩
      have : j = 2 * i + 1 ∨ j = 2 * i + 2 := by omega
      rcases this with rfl | rfl
      · exact fun hh => hh.asymm hh
      · exact fun hh => c2 ⟨j1,hh⟩
  · rw [if_neg c1]
    by_cases c2 : 2 * i + 2 < l.length ∧ lt (at' l (2 * i + 2)) (at' l i)
    · rw [if_pos c2]
      refine ⟨c2.1,.inr ⟨by omega,by omega,c2.2⟩,fun j j0 j1 jp => ?_⟩
      have : j = 2 * i + 1 ∨ j = 2 * i + 2 := by omega
      rcases this with rfl | rfl
      · exact fun hh => c1 ⟨j1,hh.trans c2.2⟩
      · exact fun hh => hh.asymm hh
    · rw [if_neg c2]
      refine ⟨hi,.inl rfl,fun j j0 j1 jp => ?_⟩
      have : j = 2 * i + 1 ∨ j = 2 * i + 2 := by omega
      rcases this with rfl | rfl
      · exact fun hh => c1 ⟨j1,hh⟩
      · exact fun hh => c2 ⟨j1,hh⟩
theorem m21_L1_val {n : Nat} {l : List R68} {c : Int} {y : R68} {i : Nat} (hi : i < l.length) (hl : l.length ≤ 1000000) (nx : (Int × (List R68)) → Option (R27 × Bool × Int × (List R68))) :
    m21_L1 n c y (l.length : Int) nx ((i : Int),l) = if best l i = i then some (y.x,true,c,l) else nx (((best l i : Nat) : Int),sw l i (best l i)) := by
  rw [m21_L1]
  dsimp only
  rw [letM_eq,wrap64 (x := 2 * (i : Int)) (by omega) (by omega),wrap64 (x := 2 * (i : Int) + 1) (by omega) (by omega),wrap64 (x := 2 * (i : Int) + 2) (by omega) (by omega),show 2 * (i : Int) + 1 = ((2 * i + 1 : Nat) : Int) from by omega,show 2 * (i : Int) + 2 = ((2 * i + 2 : Nat) : Int) from by omega]
  have hb1 : (if 2 * i + 1 < l.length ∧ lt (at' l (2 * i + 1)) (at' l i) then 2 * i + 1 else i) < l.length := by
    split
    · rename_i h; exact h.1
    · exact hi
  let F2 : Int → Option (R27 × Bool × Int × (List R68)) := fun p_48 => (if (decide (p_48 = (i : Int))) = true then (some ((R27.mk y.x.Key y.x.Tag),true,c,l)) else ((getIdx l p_48).bind fun y_50 => ((getIdx l (i : Int)).bind fun y_51 => ((getIdx l (i : Int)).bind fun y_52 => ((setIdx l (i : Int) (R68.mk (R27.mk y_50.x.Key y_50.x.Tag) y_50.number)).bind fun l2_53 => ((getIdx l2_53 p_48).bind fun y_54 => ((setIdx l2_53 p_48 (R68.mk (R27.mk y_51.x.Key y_51.x.Tag) y_51.number)).bind fun l2_55 => (nx (p_48,l2_55)))))))))
  let F1 : Int → Option (R27 × Bool × Int × (List R68)) := fun p_44 => (gdO (decide (((2 * i + 2 : Nat) : Int) < (l.length : Int))) (m32 n l c ((2 * i + 2 : Nat) : Int) p_44) default).bind fun y_47 => if (decide (((2 * i + 2 : Nat) : Int) < (l.length : Int)) && y_47) = true then F2 ((2 * i + 2 : Nat) : Int) else F2 p_44
  refine Eq.trans (b := (gdO (decide (((2 * i + 1 : Nat) : Int) < (l.length : Int))) (m32 n l c ((2 * i + 1 : Nat) : Int) (i : Int)) default).bind fun y => if (decide (((2 * i + 1 : Nat) : Int) < (l.length : Int)) && y) = true then F1 ((2 * i + 1 : Nat) : Int) else F1 (i : Int)) rfl ?_
  refine (pickB (n := n) (c := c) (j := 2 * i + 1) hi F1).trans ?_
  refine (pickB (n := n) (c := c) (j := 2 * i + 2) hb1 F2).trans ?_
  show (if (decide (((best l i : Nat) : Int) = (i : Int))) = true then _ else _) = _
  have hbl := (best_ok hi).1
  by_cases hb : best l i = i
  · rw [if_pos (by simp [hb]),if_pos hb]
  · rw [if_neg (by simp; omega),if_neg hb]
    exact swap_model hi hbl fun l2 => nx (((best l i : Nat) : Int),l2)
end Go.AB

import Derived.Test.YtpcjbgfgimboiaaD
import Derived.Test.YtpcjbgfgimboiaaLw
namespace Go.AB
open Go
def lt (a b : R68) : Prop := a.x.Key < b.x.Key ∨ (a.x.Key = b.x.Key ∧ a.number < b.number)
instance (a b : R68) : Decidable (lt a b) := inferInstanceAs (Decidable (_ ∨ _))
theorem lt.asymm {a b : R68} (h : lt a b) : ¬ lt b a := by unfold lt at *; omega
theorem lt.trans {a b c : R68} (h : lt a b) (h' : lt b c) : lt a c := by unfold lt at *; omega
theorem le_trans' {a b c : R68} (h : ¬ lt b a) (h' : ¬ lt c b) : ¬ lt c a := by unfold lt at *; omega
theorem m32_val {n : Nat} {l : List R68} {c : Int} {i j : Nat} (hi : i < l.length) (hj : j < l.length) : m32 n l c (i : Int) (j : Int) = some (decide (lt l[i] l[j])) := by
  unfold m32
  rw [getIdx_at rfl hi,Option.bind_some,getIdx_at rfl hj,Option.bind_some]
  have e : ∀ a b : R27,m13 n a b = some (decide (a.Key < b.Key)) := fun _ _ => rfl
  by_cases h : l[i].number < l[j].number
  · rw [if_pos (by simpa using h),e,Option.bind_some]
    have q : (!decide (l[j].x.Key < l[i].x.Key)) = decide (lt l[i] l[j]) := by
      rw [Bool.eq_iff_iff]
      simp only [Bool.not_eq_true',decide_eq_false_iff_not,decide_eq_true_eq]
      unfold lt
      omega
    exact congrArg some q
  · rw [if_neg (by simpa using h),e,Option.bind_some]
    congr 1
    apply decide_eq_decide.2
    unfold lt
    dsimp only
    omega
def at' (l : List R68) (i : Nat) : R68 := l.getD i default
theorem at_get {l : List R68} {i : Nat} (h : i < l.length) : l[i] = at' l i := by simp [at',h]
theorem at_set {l : List R68} {i j : Nat} {a : R68} (h : i < l.length) : at' (l.set i a) j = if j = i then a else at' l j := by
  unfold at'
  rw [List.getD_eq_getElem?_getD,List.getD_eq_getElem?_getD,List.getElem?_set]
  by_cases e : i = j
  · subst e; simp [h]
  · rw [if_neg e,if_neg (fun h => e h.symm)]
def hp (l : List R68) : Prop := ∀ j,0 < j → j < l.length → ¬ lt (at' l j) (at' l ((j - 1) / 2))
def up (l : List R68) (i : Nat) : Prop := (∀ j,0 < j → j < l.length → j ≠ i → ¬ lt (at' l j) (at' l ((j - 1) / 2))) ∧ (0 < i → ∀ j,0 < j → j < l.length → (j - 1) / 2 = i → ¬ lt (at' l j) (at' l ((i - 1) / 2)))
def sw (l : List R68) (i p : Nat) : List R68 := (l.set i (at' l p)).set p (at' l i)
theorem sw_len (l : List R68) (i p : Nat) : (sw l i p).length = l.length := by simp [sw]
theorem sw_at {l : List R68} {i p j : Nat} (hi : i < l.length) (hp : p < l.length) : at' (sw l i p) j = if j = p then at' l i else if j = i then at' l p else at' l j := by
  rw [sw,at_set (by simpa using hp),at_set hi]
theorem sw_perm {l : List R68} {i p : Nat} (hi : i < l.length) (hp : p < l.length) : (sw l i p).Perm l := by
  have := List.set_set_perm hi hp
  rw [at_get hi,at_get hp] at this
  exact this
theorem up_step {l : List R68} {i : Nat} (hi : i < l.length) (h0 : 0 < i) (h : up l i) (hl : lt (at' l i) (at' l ((i - 1) / 2))) : up (sw l i ((i - 1) / 2)) ((i - 1) / 2) := by
  obtain ⟨u1,u2⟩ := h
  have hp : (i - 1) / 2 < i := by omega
  have hpl : (i - 1) / 2 < l.length := by omega
  refine ⟨fun j j0 j1 jp => ?_,fun p0 j j0 j1 jp => ?_⟩
  · rw [sw_len] at j1
    rw [sw_at hi hpl,sw_at hi hpl,if_neg jp]
    by_cases ji : j = i
    · rw [if_pos ji,ji,if_pos rfl]
      exact hl.asymm
    · rw [if_neg ji]
      by_cases q1 : (j - 1) / 2 = (i - 1) / 2
      · rw [if_pos q1]
        have := u1 j j0 j1 ji
        rw [q1] at this
        exact fun hh => this (hh.trans hl)
      · rw [if_neg q1]
        by_cases q2 : (j - 1) / 2 = i
        · rw [if_pos q2]
          exact u2 h0 j j0 j1 q2
        · rw [if_neg q2]
          exact u1 j j0 j1 ji
  · rw [sw_len] at j1
    have jp' : j ≠ (i - 1) / 2 := by omega
    have pp1 : ((i - 1) / 2 - 1) / 2 ≠ (i - 1) / 2 := by omega
    have pp2 : ((i - 1) / 2 - 1) / 2 ≠ i := by omega
    rw [sw_at hi hpl,sw_at hi hpl,if_neg jp',if_neg pp1,if_neg pp2]
    have hpp := u1 ((i - 1) / 2) p0 hpl (by omega)
    by_cases ji : j = i
    · rw [if_pos ji]
      exact hpp
    · rw [if_neg ji]
      have := u1 j j0 j1 ji
      rw [jp] at this
      exact le_trans' hpp this
theorem up_done {l : List R68} {i : Nat} (h : up l i) (hl : i = 0 ∨ ¬ lt (at' l i) (at' l ((i - 1) / 2))) : hp l := by
  intro j j0 j1
  by_cases ji : j = i
  · subst ji
    rcases hl with e | e
    · omega
    · exact e
  · exact h.1 j j0 j1 ji
end Go.AB

import Derived.Test.YtiginjokbkemcaaLe
set_option linter.unusedVariables false
namespace Go.AB
open Go
def Path (P : R24) (l : List Int) : Prop := l.head? = some 0 ∧ ∀ i (h : i + 1 < l.length),l[i + 1] ∈ rd P (l.take (i + 1))
def pathB (P : R24) (l : List Int) : Bool := decide (l.head? = some 0) && (List.range (l.length - 1)).all fun i => (rd P (l.take (i + 1))).contains (l.getD (i + 1) 0)
theorem pathB_iff {P : R24} {l : List Int} : pathB P l = true ↔ Path P l := by
  unfold pathB Path
  rw [Bool.and_eq_true,decide_eq_true_eq,List.all_eq_true]
  refine and_congr_right fun _ => ⟨fun h i hi => ?_,fun h i hi => ?_⟩
  · have := h i (List.mem_range.2 (by omega))
    rw [List.contains_iff_mem,List.getD_eq_getElem?_getD,List.getElem?_eq_getElem hi] at this
    exact this
  · have hi' := List.mem_range.1 hi
    rw [List.contains_iff_mem,List.getD_eq_getElem?_getD,List.getElem?_eq_getElem (by omega)]
    exact h i (by omega)
theorem mem_rd {P : R24} {q : List Int} {x : Int} : x ∈ rd P q ↔ (0 ≤ x ∧ x < P.Points.length) ∧ x ∉ q ∧ ∀ b ∈ P.Before,b.f1 = x → b.f0 ∈ q := by
  unfold rd
  rw [List.mem_filter,mem_irange]
  refine and_congr_right fun _ => ?_
  unfold okF
  rw [Bool.and_eq_true,Bool.not_eq_true',← Bool.not_eq_true,List.contains_iff_mem,List.all_eq_true]
  refine and_congr_right fun _ => ?_
  constructor
  · intro h b hb e
    have := h b hb
    unfold okB at this
    rw [decide_eq_true e] at this
    simpa using this
  · intro h b hb
    unfold okB
    by_cases e : b.f1 = x
    · rw [decide_eq_true e]
      simpa using h b hb e
    · rw [decide_eq_false e]; rfl
def atR (N : Nat) (l : List Int) (i : Nat) : List Int := frow N fun j => if (l.take i).contains (j : Int) = true then (l.idxOf (j : Int) : Int) else (l.length : Int)
def okAt (P : R24) (l : List Int) (i : Nat) : Bool := (decide (0 ≤ l.getD i 0) && decide (l.getD i 0 < P.Points.length)) && !(l.take i).contains (l.getD i 0)
def atF (l : List Int) (y : Int) : Int := if y ∈ l then (l.idxOf y : Int) else l.length
def wrongB (l : List Int) (b : R93) : Bool := decide (atF l b.f1 < l.length) && decide (atF l b.f1 ≤ atF l b.f0)
def pathO (P : R24) (l : List Int) : Bool := ((List.range l.length).all (okAt P l)) && (decide (l.head? = some 0) && !P.Before.any (wrongB l))
theorem Path.pos {P : R24} {l : List Int} (h : Path P l) : 0 < l.length := by
  cases l with
  | nil => cases h.1
  | cons a t => simp
theorem Path.inP {P : R24} {l : List Int} (hg : Good P) (h : Path P l) : InP P l := fun x hx => by
  obtain ⟨i,hi,rfl⟩ := List.getElem_of_mem hx
  have := hg.one
  cases i with
  | zero =>
    have e : l[0] = 0 := by
      have := h.1
      cases l with
      | nil => cases hi
      | cons a t => simpa using this
    rw [e]; omega
  | succ i => exact (mem_rd.1 (h.2 i hi)).1
theorem Path.nodup {P : R24} {l : List Int} (h : Path P l) : l.Nodup := by
  rw [List.nodup_iff_pairwise_ne,List.pairwise_iff_getElem]
  intro i j hi hj hij e
  obtain ⟨k,rfl⟩ : ∃ k,j = k + 1 := ⟨j - 1,by omega⟩
  have := (mem_rd.1 (h.2 k hj)).2.1
  exact this (List.mem_take_iff_getElem.2 ⟨i,by omega,e⟩)
def permB (P : R24) (l : List Int) : Bool := decide (l.length = P.Points.length) && pathB P l
end Go.AB

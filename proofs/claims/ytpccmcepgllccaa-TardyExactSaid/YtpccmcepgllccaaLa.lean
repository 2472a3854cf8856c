import Derived.Test.YtpccmcepgllccaaD
import Derived.Test.YtpccmcepgllccaaLx
set_option linter.unusedVariables false
namespace Go.AB
open Go

theorem all_range {α : Type} {l : List α} {p : α → Bool} : (∀ i, i < l.length → (l[i]?).all p = true) ↔ l.all p = true := by
  rw [List.all_eq_true]
  constructor
  · intro h y hy
    obtain ⟨i, hi, rfl⟩ := List.getElem_of_mem hy
    have := h i hi
    rw [List.getElem?_eq_getElem hi] at this
    exact this
  · intro h i hi
    rw [List.getElem?_eq_getElem hi]
    exact h _ (List.getElem_mem hi)
def okJ (y : R38) : Bool := !(((((((decide (y.Release < (0 : Int))) || (decide ((100000 : Int) < y.Release))) || (decide (y.Length < (1 : Int)))) || (decide ((10000 : Int) < y.Length))) || (decide (y.Due < (0 : Int)))) || (decide ((1000000 : Int) < y.Due))))
/-- valid jobs -/
def vld (l : List R38) : Bool := decide ((l.length : Int) ≤ 40) && l.all okJ
theorem okJ_iff {y : R38} : okJ y = true ↔ 0 ≤ y.Release ∧ y.Release ≤ 100000 ∧ 1 ≤ y.Length ∧ y.Length ≤ 10000 ∧ 0 ≤ y.Due ∧ y.Due ≤ 1000000 := by
  unfold okJ
  simp only [Bool.not_eq_true', Bool.or_eq_false_iff, decide_eq_false_iff_not]
  omega
theorem m47_val {n : Nat} {y : R38} : m47 n y = some (!okJ y) := by
  unfold m47
  rw [letM_eq]
  unfold okJ
  rw [Bool.not_not]
theorem m28_val {n : Nat} {l : List R38} (hn : 41 < n) : m28 n l = some (vld l) := by
  unfold m28 vld
  by_cases h : (l.length : Int) ≤ 40
  · rw [decide_eq_true h, gdO_true]
    unfold m48 m60 jn
    have key : (loopM (m60_L1 n l fun p => some (-1)) n 0).bind (fun y => some (decide (0 ≤ y))) = some (!l.all okJ) := by
      refine loop_findP (fun i => (i : Int)) l.length (fun i => (l[i]?).any fun y => !okJ y) (fun i => some (i : Int)) (some (-1)) (fun o => o.bind (fun y => some (decide (0 ≤ y))) = some (!l.all okJ)) ?_ ?_ ?_ (by omega) (fun i h1 h2 h3 => ?_) fun h1 => ?_
      rotate_left 3
      · rw [Option.bind_some, decide_eq_true (by omega)]
        rw [List.getElem?_eq_getElem h1] at h2
        congr 1
        symm
        rw [Bool.not_eq_true', ← Bool.not_eq_true]
        intro h
        have := List.all_eq_true.1 h _ (List.getElem_mem h1)
        simp [this] at h2
      · rw [Option.bind_some]
        congr 1
        symm
        rw [show decide ((0 : Int) ≤ -1) = false from rfl, Bool.not_eq_false']
        refine all_range.1 fun i hi => ?_
        have := h1 i hi
        rw [List.getElem?_eq_getElem hi] at this ⊢
        simpa using this
      · intro i hi hp nx
        rw [List.getElem?_eq_getElem hi] at hp
        rw [m60_L1, if_pos (by simp; omega), getIdx_at rfl hi, Option.bind_some, show R38.mk l[i].Release l[i].Length l[i].Due = l[i] from rfl, m47_val, Option.bind_some, if_neg (by simpa using hp), letM_eq, wrap64 (by omega) (by omega)]
        rfl
      · intro i hi hp nx
        rw [List.getElem?_eq_getElem hi] at hp
        rw [m60_L1, if_pos (by simp; omega), getIdx_at rfl hi, Option.bind_some, show R38.mk l[i].Release l[i].Length l[i].Due = l[i] from rfl, m47_val, Option.bind_some, if_pos (by simpa using hp)]
      · intro nx
        rw [m60_L1, if_neg (by simp)]
    rw [key, Option.bind_some]
    simp
  · rw [decide_eq_false h, gdO_false]
    rfl
theorem m14_val {n : Nat} {l : List R38} (hl : l.length ≤ 1000000) (hn : l.length < n) : m14 n l = some (vld l) := by
  unfold m14 jn
  refine (loop_all (fun i => (i : Int)) l.length (fun i => (l[i]?).all okJ) (some false) (some (decide ((l.length : Int) ≤ 40))) ?_ ?_ ?_ hn).trans ?_
  rotate_left 3
  · unfold vld
    by_cases h : l.all okJ = true
    · rw [if_pos (all_range.2 h), h, Bool.and_true]
    · rw [if_neg (fun h' => h (all_range.1 h')), (Bool.not_eq_true _).mp h, Bool.and_false]
  · intro i hi hp nx
    rw [List.getElem?_eq_getElem hi] at hp
    rw [m14_L1, if_pos (by simp; omega), getIdx_at rfl hi, Option.bind_some, letM_eq]
    rw [if_neg (by unfold okJ at hp; simpa only [Option.all_some, Bool.not_eq_true', Bool.not_eq_true] using hp), letM_eq, wrap64 (by omega) (by omega)]
    rfl
  · intro i hi hp nx
    rw [List.getElem?_eq_getElem hi] at hp
    rw [m14_L1, if_pos (by simp; omega), getIdx_at rfl hi, Option.bind_some, letM_eq]
    rw [if_pos (by unfold okJ at hp; simpa only [Option.all_some, Bool.not_eq_false'] using hp)]
  · intro nx
    rw [m14_L1, if_neg (by simp)]
theorem m41_val {n : Nat} {l : List Int} {x : Int} (hl : l.length ≤ 1000000) (hn : l.length < n) : m41 n l x = some (decide (x ∈ l)) := by
  unfold m41 jn
  dsimp only
  refine loop_findP (fun i => (i : Int)) l.length (fun i => decide (l[i]? = some x)) (fun _ => some true) (some false) (fun o => o = some (decide (x ∈ l))) ?_ ?_ ?_ hn (fun i h1 h2 _ => ?_) fun h1 => ?_
  rotate_left 3
  · rw [decide_eq_true (List.mem_of_getElem? (of_decide_eq_true h2))]
  · rw [decide_eq_false]
    intro h
    obtain ⟨i, hi, e⟩ := List.getElem_of_mem h
    have := h1 i hi
    rw [List.getElem?_eq_getElem hi, e] at this
    simp at this
  · intro i hi hp nx
    rw [List.getElem?_eq_getElem hi] at hp
    rw [m41_L1, if_pos (by simp; omega), getIdx_at rfl hi, Option.bind_some, if_neg (by simpa using hp), letM_eq, wrap64 (by omega) (by omega)]
    rfl
  · intro i hi hp nx
    rw [List.getElem?_eq_getElem hi] at hp
    rw [m41_L1, if_pos (by simp; omega), getIdx_at rfl hi, Option.bind_some, if_pos (by simpa using hp)]
  · intro nx
    rw [m41_L1, if_neg (by simp)]
theorem m53_val {n : Nat} {l : List Int} {x : Int} (hl : l.length ≤ 1000000) (hn : l.length < n) : m53 n l x = some (decide (x ∈ l)) := by
  unfold m53 m70 jn
  dsimp only
  refine loop_findP (fun i => (i : Int)) l.length (fun i => decide (l[i]? = some x)) (fun i => some (i : Int)) (some (-1)) (fun o => o.bind (fun y => some (decide (0 ≤ y))) = some (decide (x ∈ l))) ?_ ?_ ?_ hn (fun i h1 h2 _ => ?_) fun h1 => ?_
  rotate_left 3
  · rw [decide_eq_true (List.mem_of_getElem? (of_decide_eq_true h2)), Option.bind_some, decide_eq_true (by omega)]
  · rw [decide_eq_false (p := x ∈ l), Option.bind_some]
    · rfl
    · intro h
      obtain ⟨i, hi, e⟩ := List.getElem_of_mem h
      have := h1 i hi
      rw [List.getElem?_eq_getElem hi, e] at this
      simp at this
  · intro i hi hp nx
    rw [List.getElem?_eq_getElem hi] at hp
    rw [m70_L1, if_pos (by simp; omega), getIdx_at rfl hi, Option.bind_some, if_neg (by simpa [eq_comm] using hp), letM_eq, wrap64 (by omega) (by omega)]
    rfl
  · intro i hi hp nx
    rw [List.getElem?_eq_getElem hi] at hp
    rw [m70_L1, if_pos (by simp; omega), getIdx_at rfl hi, Option.bind_some, if_pos (by simpa [eq_comm] using hp)]
  · intro nx
    rw [m70_L1, if_neg (by simp)]
theorem m19_self {n : Nat} {l : List Int} (hl : l.length ≤ 1000000) (hn : l.length < n) : m19 n l l = some true := by
  unfold m19 jn
  rw [if_neg (by simp)]
  refine (loop_all (fun i => (i : Int)) l.length (fun _ => true) (some false) (some true) ?_ ?_ ?_ hn).trans ?_
  rotate_left 3
  · rw [if_pos fun _ _ => rfl]
  · intro i hi _ nx
    rw [m19_L1, if_pos (by simp; omega), getIdx_at rfl hi, Option.bind_some, Option.bind_some, if_neg (by simp), letM_eq, wrap64 (by omega) (by omega)]
    rfl
  · intro i hi h
    cases h
  · intro nx
    rw [m19_L1, if_neg (by simp)]
theorem foldN_take {α : Type} (l : List α) (d : α) : ∀ k, k ≤ l.length → foldN (fun i (s : List α) => s ++ [l.getD i d]) k [] = l.take k
  | 0, _ => by simp [foldN]
  | k + 1, h => by
    rw [foldN, foldN_take l d k (by omega), List.take_succ_eq_append_getElem (by omega)]
    simp [show k < l.length from by omega]
theorem m13_val {n : Nat} {l : List R38} (hl : l.length ≤ 1000000) (hn : l.length < n) : m13 n l = some l := by
  unfold m13 jn
  refine (loop_fold (S := List R38) (fun i s => ((i : Int), s)) l.length (fun i s => s ++ [l.getD i default]) (fun i s => s.length = i) (fun s => some s) ?_ ?_ rfl hn).trans ?_
  rotate_left 2
  · rw [foldN_take l default _ (Nat.le_refl _), List.take_length]
  · intro i s hi hs
    refine ⟨by simp [hs], fun nx => ?_⟩
    rw [m13_L1, if_pos (by simp; omega)]
    dsimp only
    rw [getIdx_at rfl hi, Option.bind_some, apd_val (by simp; omega), Option.bind_some, letM_eq, wrap64 (by omega) (by omega)]
    simp [hi]
  · intro s hs nx
    rw [m13_L1, if_neg (by simp)]
theorem m13o_val {n : Nat} {l : List R38} (hl : l.length ≤ 1000000) (hn : l.length < n) : m13o n l = some l := m13_val hl hn
end Go.AB

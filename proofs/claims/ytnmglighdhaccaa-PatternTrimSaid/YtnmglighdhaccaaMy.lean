import Derived.Test.YtnmglighdhaccaaMx
import Derived.Test.YtnmglighdhaccaaLn
set_option linter.unusedVariables false
namespace Go.AB
open Go Go.Proofs
def okU (p : R23) (u : R56) : Bool := decide (1 ≤ u.Count ∧ u.Count ≤ 1000 ∧ vP p = true ∧ Fit p u.Pattern)
def sndB (p : R23) (l : List R56) : Bool := vP p && decide (l.length ≤ 1000) && l.all (okU p)
theorem sndB_iff {p : R23} {l : List R56} : sndB p l = true ↔ Snd p l := by
  unfold sndB
  rw [Bool.and_eq_true,Bool.and_eq_true,decide_eq_true_eq,List.all_eq_true]
  constructor
  · rintro ⟨⟨h1,h2⟩,h3⟩
    exact ⟨vP_iff.1 h1,h2,fun u hu => (of_decide_eq_true (h3 u hu)).2.2.2,fun u hu => ⟨(of_decide_eq_true (h3 u hu)).1,(of_decide_eq_true (h3 u hu)).2.1⟩⟩
  · intro h
    exact ⟨⟨vP_iff.2 h.vp,h.len⟩,fun u hu => decide_eq_true ⟨(h.cnt u hu).1,(h.cnt u hu).2,vP_iff.2 h.vp,h.fit u hu⟩⟩
theorem all_U {p : R56 → Bool} {l : List R56} : (∀ i,i < l.length → p (U l i) = true) ↔ l.all p = true := by
  rw [List.all_eq_true]
  constructor
  · intro h u hu
    obtain ⟨i,hi,rfl⟩ := List.getElem_of_mem hu
    have := h i hi
    rwa [← U_at hi] at this
  · exact fun h i hi => h _ (U_mem hi)
theorem m59_all {n : Nat} {p : R23} {l : List R56} (hl : l.length ≤ 100000) (hp : ∀ u,u ∈ l → u.Pattern.length ≤ 25) (hn : 30 < n) (hn2 : l.length < n) : m59 n p l = some (sndB p l) := by
  have e68 : m68 n l p.Lengths p.Demand p.Stock p.Kerf = some (!l.all (okU p)) := by
    unfold m68 m50x2 jn
    dsimp only
    refine loop_findP (body := m50x2_L1 n l p.Lengths p.Demand p.Stock p.Kerf fun _ => some (-1 : Int)) (fun i => (i : Int)) l.length (fun i => !okU p (U l i)) (fun i => some (i : Int)) (some (-1)) (fun o => (o.bind fun y_1 => (some (decide ((0 : Int) ≤ y_1)))) = some (!l.all (okU p))) ?_ ?_ ?_ hn2 (fun i h1 h2 h3 => ?_) fun h1 => ?_
    · intro i hi hp2 nx
      have hm := U_mem hi
      have hp2 : okU p (U l i) = true := by simpa using hp2
      rw [m50x2_L1,if_pos (by simp; omega),getIdx_U rfl hi,Option.bind_some,mkU,m67_val (hp _ hm) (by omega),Option.bind_some,show decide (1 ≤ (U l i).Count ∧ (U l i).Count ≤ 1000 ∧ vP p = true ∧ Fit p (U l i).Pattern) = true from hp2,if_neg (by simp),letM_eq,wrap64 (by omega) (by omega)]
      rfl
    · intro i hi hp2 nx
      have hm := U_mem hi
      have hp2 : okU p (U l i) = false := by simpa using hp2
      rw [m50x2_L1,if_pos (by simp; omega),getIdx_U rfl hi,Option.bind_some,mkU,m67_val (hp _ hm) (by omega),Option.bind_some,show decide (1 ≤ (U l i).Count ∧ (U l i).Count ≤ 1000 ∧ vP p = true ∧ Fit p (U l i).Pattern) = false from hp2,if_pos (by rfl)]
    · intro nx
      rw [m50x2_L1,if_neg (by simp)]
    · have : l.all (okU p) = false := by
        cases h : l.all (okU p) with
        | false => rfl
        | true =>
          have := all_U.2 h i h1
          rw [this] at h2; simp at h2
      rw [this,Option.bind_some,decide_eq_true (by omega)]; rfl
    · have : l.all (okU p) = true := all_U.1 fun i hi => by simpa using h1 i hi
      rw [this]; rfl
  unfold m59 sndB
  rw [mkP,m21_val (by omega),Option.bind_some,e68]
  have e : decide ((l.length : Int) ≤ 1000) = decide (l.length ≤ 1000) := decide_eq_decide.2 (by omega)
  rw [e]
  cases vP p && decide (l.length ≤ 1000) with
  | false => rfl
  | true => simp [gdO]
theorem m33_all {n : Nat} {p : R23} {l : List R56} (hl : l.length ≤ 1000) (hp : ∀ u,u ∈ l → u.Pattern.length ≤ 25) (hn : 1100 < n) : m33 n p l = some (if sndB p l = true then (madeL p l,0) else ([],1)) := by
  cases h : sndB p l with
  | true => rw [if_pos rfl]; exact m33_val (sndB_iff.1 h) hn
  | false =>
    unfold m33
    rw [mkP,m59_all (by omega) hp (by omega) (by omega),h]; rfl
theorem m33o_eq (n : Nat) (p : R23) (l : List R56) : m33o n p l = m33 n p l := rfl
theorem madeL_len (p : R23) (l : List R56) : (madeL p l).length = p.Lengths.length := by simp [madeL]
theorem madeL_at {p : R23} {l : List R56} {k : Nat} (h : k < p.Lengths.length) : (madeL p l).getD k 0 = sumU (fun a => a.getD k 0) l := by simp [madeL,h]
def mtB (p : R23) (l : List R56) : Bool := decide (∀ i,i < p.Lengths.length → p.Demand.getD i 0 ≤ (madeL p l).getD i 0)
theorem m41_val {n : Nat} {p : R23} {l : List R56} (hl : l.length ≤ 1000) (hp : ∀ u,u ∈ l → u.Pattern.length ≤ 25) (hn : 1100 < n) : m41 n p l = some (sndB p l && mtB p l) := by
  unfold m41
  rw [mkP,m33_all hl hp hn,Option.bind_some]
  unfold jn
  dsimp only
  cases h : sndB p l with
  | false =>
    rw [if_neg (by simp)]
    obtain ⟨n,rfl⟩ : ∃ m,n = m + 1 := ⟨n - 1,by omega⟩
    rw [loopM_succ,m41_L1,if_neg (by simp)]
    rfl
  | true =>
    have hv := (sndB_iff.1 h).vp
    rw [if_pos rfl]
    refine (loop_all (fun i => (i : Int)) p.Lengths.length (fun i => decide (p.Demand.getD i 0 ≤ (madeL p l).getD i 0)) (some false) (some true) (fun i hi hp2 nx => ?_) (fun i hi hp2 nx => ?_) (fun nx => ?_) (by have := hv.l2; omega)).trans ?_
    · have hp2 := of_decide_eq_true hp2
      have := hv.l2
      rw [m41_L1,if_pos (by rw [madeL_len]; simp; omega)]
      dsimp only
      rw [getIdx_D rfl (by rw [madeL_len]; exact hi),Option.bind_some,getIdx_D rfl (by rw [hv.dl]; exact hi),Option.bind_some,if_neg (by rw [decide_eq_true_eq]; omega),letM_eq,wrap64 (by omega) (by omega)]
      rfl
    · have hp2 := of_decide_eq_false hp2
      rw [m41_L1,if_pos (by rw [madeL_len]; simp; omega)]
      dsimp only
      rw [getIdx_D rfl (by rw [madeL_len]; exact hi),Option.bind_some,getIdx_D rfl (by rw [hv.dl]; exact hi),Option.bind_some,if_pos (by rw [decide_eq_true_eq]; omega)]
    · rw [m41_L1,if_neg (by rw [madeL_len]; simp)]
      rfl
    · unfold mtB
      simp only [decide_eq_true_eq]
      split
      · rename_i q; rw [decide_eq_true q]; rfl
      · rename_i q; rw [decide_eq_false q]; rfl
end Go.AB

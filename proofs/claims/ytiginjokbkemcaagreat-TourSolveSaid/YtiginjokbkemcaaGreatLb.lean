import Derived.Test.YtiginjokbkemcaaGreatLa
import Derived.Test.YtiginjokbkemcaaGreatTa
set_option linter.unusedVariables false
namespace Go.AB
open Go
def okV (v : R50) : Bool := !((((decide (v.X < (-8000 : Int))) || (decide ((8000 : Int) < v.X))) || (decide (v.Y < (-8000 : Int)))) || (decide ((8000 : Int) < v.Y)))
theorem okV_iff {v : R50} : okV v = true ↔ -8000 ≤ v.X ∧ v.X ≤ 8000 ∧ -8000 ≤ v.Y ∧ v.Y ≤ 8000 := by
  unfold okV
  simp only [Bool.not_eq_true',Bool.or_eq_false_iff,decide_eq_false_iff_not]
  omega
def dst (a b : R50) : Int := max (max (a.X - b.X) (b.X - a.X)) (max (a.Y - b.Y) (b.Y - a.Y))
theorem dst_comm (a b : R50) : dst a b = dst b a := by
  unfold dst
  rw [Int.max_comm (a.X - b.X),Int.max_comm (a.Y - b.Y)]
theorem dst_bd {a b : R50} (ha : okV a = true) (hb : okV b = true) : 0 ≤ dst a b ∧ dst a b ≤ 16000 := by
  have h1 := okV_iff.1 ha
  have h2 := okV_iff.1 hb
  unfold dst
  omega
theorem m77_val {n : Nat} {a b : R50} (ha : okV a = true) (hb : okV b = true) : m77 n a b = some (dst a b) := by
  have h1 := okV_iff.1 ha
  have h2 := okV_iff.1 hb
  unfold m77 m94 letM
  rw [wrap64 (x := a.X - b.X) (by omega) (by omega),wrap64 (x := a.Y - b.Y) (by omega) (by omega),wrap64 (x := 0 - (a.X - b.X)) (by omega) (by omega),wrap64 (x := 0 - (a.Y - b.Y)) (by omega) (by omega)]
  simp only [oB]
  congr 1
  unfold dst
  split <;> split <;> split <;> omega
theorem m83_val {n : Nat} {a b : R50} (ha : okV a = true) (hb : okV b = true) : m83 n a b = some (dst a b) := by
  have h1 := okV_iff.1 ha
  have h2 := okV_iff.1 hb
  unfold m83 letM
  rw [wrap64 (x := a.X - b.X) (by omega) (by omega),wrap64 (x := a.Y - b.Y) (by omega) (by omega),wrap64 (x := b.X - a.X) (by omega) (by omega),wrap64 (x := b.Y - a.Y) (by omega) (by omega)]
  congr 1
  unfold dst
  generalize e1 : a.X - b.X = x
  generalize e2 : a.Y - b.Y = y
  generalize e3 : b.X - a.X = x'
  generalize e4 : b.Y - a.Y = y'
  clear e1 e2 e3 e4
  rcases Int.lt_or_le x x' with c1 | c1
  · rw [if_pos (show x' > x from c1),Int.max_eq_right (a := x) (b := x') (by omega)]
    split <;> split <;> omega
  · rw [if_neg (show ¬ x' > x from by omega),Int.max_eq_left (a := x) (b := x') (by omega)]
    split <;> split <;> omega
def pt (P : R24) (i : Int) : R50 := P.Pq.getD i.toNat ⟨0,0⟩
def D (P : R24) (i j : Int) : Int := dst (pt P i) (pt P j)
def VecP (P : R24) : Prop := ∀ v ∈ P.Pq,okV v = true
theorem pt_ok {P : R24} (h : VecP P) (i : Int) : okV (pt P i) = true := by
  unfold pt
  rw [List.getD_eq_getElem?_getD]
  cases e : P.Pq[i.toNat]? with
  | none => rfl
  | some v => exact h v (List.mem_of_getElem? e)
theorem D_comm (P : R24) (i j : Int) : D P i j = D P j i := dst_comm _ _
theorem D_bd {P : R24} (h : VecP P) (i j : Int) : 0 ≤ D P i j ∧ D P i j ≤ 16000 := dst_bd (pt_ok h i) (pt_ok h j)
def inN (P : R24) (i : Int) : Prop := 0 ≤ i ∧ i < P.Pq.length
theorem pt_at {P : R24} {i : Int} (h : inN P i) : getIdx P.Pq i = some (pt P i) := by
  obtain ⟨h0,h1⟩ := h
  refine getIdx_q (k := i.toNat) (by omega) ?_
  unfold pt
  rw [List.getD_eq_getElem?_getD,List.getElem?_eq_getElem (by omega)]; rfl
theorem m48_val {n : Nat} {P : R24} {i j : Int} (h : VecP P) (hi : inN P i) (hj : inN P j) : m48 n P i j = some (D P i j) := by
  unfold m48
  rw [pt_at hi,oB,pt_at hj,oB,m77_val (pt_ok h i) (pt_ok h j),oB]; rfl
theorem segC_bd {P : R24} (h : VecP P) : ∀ l : List Int,0 ≤ segC (D P) l ∧ segC (D P) l ≤ 16000 * (l.length : Int)
  | [] => by simp [segC]
  | [a] => by simp [segC]
  | a :: b :: t => by
    have h1 := segC_bd h (b :: t)
    have h2 := D_bd h a b
    simp only [segC,List.length_cons] at h1 ⊢
    omega
def lastP (l : List Int) : Int := l.getD (l.length - 1) 0
def tourL (P : R24) (l : List Int) : Int := segC (D P) l + D P (lastP l) 0
theorem lastP_at {l : List Int} (h : 0 < l.length) (hb : l.length ≤ 1000000) : getIdx l (IntKind.wrap .i64 ((l.length : Int) - 1)) = some (lastP l) := by
  rw [wrap64 (by omega) (by omega)]
  refine getIdx_q (k := l.length - 1) (by omega) ?_
  unfold lastP
  rw [List.getD_eq_getElem?_getD,List.getElem?_eq_getElem (by omega)]; rfl
theorem lastP_mem {l : List Int} (h : 0 < l.length) : lastP l ∈ l := by
  unfold lastP
  rw [List.getD_eq_getElem?_getD,List.getElem?_eq_getElem (by omega)]
  exact List.getElem_mem _
theorem segC_take (c : Int → Int → Int) {l : List Int} {i : Nat} (h0 : 0 < i) (hi : i < l.length) : segC c (l.take (i + 1)) = segC c (l.take i) + c (l[i - 1]'(by omega)) l[i] := by
  obtain ⟨k,rfl⟩ : ∃ k,i = k + 1 := ⟨i - 1,by omega⟩
  rw [List.take_succ_eq_append_getElem hi,List.take_succ_eq_append_getElem (by omega : k < l.length),List.append_assoc]
  have := segC_cut c (l[k]'(by omega)) l[k + 1] [] (l.take k)
  simp only [segC,Int.add_zero] at this
  exact this
theorem wDec {i : Nat} (h0 : 0 < i) (h : i ≤ 1000000000) : IntKind.wrap .i64 ((i : Int) - 1) = ((i - 1 : Nat) : Int) := by
  rw [wrap64 (by omega) (by omega)]; omega
theorem m49_val {n : Nat} {P : R24} {l : List Int} (hV : VecP P) (hI : InP P l) (h0 : 0 < l.length) (hl : l.length ≤ 1000) (hn : 2000 < n) : m49 n P l = some (segC (D P) l) := by
  unfold m49
  rw [jn]
  have := loop_cntA (fun i => (segC (D P) (l.take i),(i : Int))) 1 l.length (some (segC (D P) l)) h0 (fun i h1 hi nx => ?_) (fun nx => ?_) (n := n) (body := m49_L1 n P l fun p => some p) (by omega)
  · obtain ⟨a,t,rfl⟩ : ∃ a t,l = a :: t := by
      cases l with
      | nil => cases h0
      | cons a t => exact ⟨a,t,rfl⟩
    exact this
  · have b1 := segC_bd hV (l.take i)
    have b2 := D_bd hV (l[i - 1]'(by omega)) l[i]
    have b3 : (l.take i).length ≤ 1000 := by simp; omega
    rw [m49_L1,if_pos (by simp; omega)]
    dsimp only [letM]
    rw [wDec h1 (by omega),getIdx_at (k := i - 1) rfl (by omega),oB,getIdx_at (k := i) rfl hi,oB,m48_val hV (hI _ (List.getElem_mem _)) (hI _ (List.getElem_mem _)),oB,
      wInc (by omega),wrap64 (by omega) (by omega),segC_take (D P) h1 hi]
  · rw [m49_L1,if_neg (by simp),List.take_length]
theorem m82_val {n : Nat} {P : R24} {l : List Int} (hV : VecP P) (hI : InP P l) (h0 : 0 < l.length) (hl : l.length ≤ 1000) (hn : 2000 < n) : m82 n P l = some (segC (D P) l) := by
  unfold m82
  rw [jn]
  have := loop_cntA (fun i => (segC (D P) (l.take i),(i : Int))) 1 l.length (some (segC (D P) l)) h0 (fun i h1 hi nx => ?_) (fun nx => ?_) (n := n) (body := m82_L1 n P l fun p => some p) (by omega)
  · obtain ⟨a,t,rfl⟩ : ∃ a t,l = a :: t := by
      cases l with
      | nil => cases h0
      | cons a t => exact ⟨a,t,rfl⟩
    exact this
  · have b1 := segC_bd hV (l.take i)
    have b2 := D_bd hV (l[i - 1]'(by omega)) l[i]
    have b3 : (l.take i).length ≤ 1000 := by simp; omega
    rw [m82_L1,if_pos (by simp; omega)]
    dsimp only [letM]
    rw [wDec h1 (by omega),getIdx_at (k := i - 1) rfl (by omega),oB,pt_at (hI _ (List.getElem_mem _)),oB,getIdx_at (k := i) rfl hi,oB,pt_at (hI _ (List.getElem_mem _)),oB,
      m83_val (pt_ok hV _) (pt_ok hV _),oB,wInc (by omega),segC_take (D P) h1 hi]
    have b4 : dst (pt P (l[i - 1]'(by omega))) (pt P l[i]) = D P (l[i - 1]'(by omega)) l[i] := rfl
    rw [b4,wrap64 (by omega) (by omega)]
  · rw [m82_L1,if_neg (by simp),List.take_length]
theorem tour_bd {P : R24} (hV : VecP P) (l : List Int) : 0 ≤ tourL P l ∧ tourL P l ≤ 16000 * (l.length : Int) + 16000 := by
  have b1 := segC_bd hV l
  have b2 := D_bd hV (lastP l) 0
  unfold tourL
  omega
theorem m19_val {n : Nat} {P : R24} {l : List Int} (hV : VecP P) (hI : InP P l) (h0 : 0 < l.length) (hl : l.length ≤ 1000) (hn : 2000 < n) : m19 n P l = some (tourL P l) := by
  have b := tour_bd hV l
  have h1 := hI _ (lastP_mem h0)
  unfold m19
  rw [eta24,m49_val hV hI h0 hl hn,oB,lastP_at h0 (by omega),oB,m48_val hV h1 ⟨by omega,by omega⟩,oB,letM]
  unfold tourL at b ⊢
  rw [wrap64 (by omega) (by omega)]
theorem m59_val {n : Nat} {P : R24} {l : List Int} (hV : VecP P) (hI : InP P l) (h0 : 0 < l.length) (hl : l.length ≤ 1000) (hn : 2000 < n) : m59 n P l = some (tourL P l) := by
  have b := tour_bd hV l
  have h1 := hI _ (lastP_mem h0)
  unfold m59
  rw [eta24,m82_val hV hI h0 hl hn,oB,lastP_at h0 (by omega),oB,pt_at h1,oB,pt_at ⟨by omega,by omega⟩,oB]
  rw [show m83 n (R50.mk (pt P (lastP l)).X (pt P (lastP l)).Y) (R50.mk (pt P 0).X (pt P 0).Y) = some (D P (lastP l) 0) from m83_val (pt_ok hV _) (pt_ok hV _),oB,letM]
  unfold tourL at b ⊢
  rw [wrap64 (by omega) (by omega)]
end Go.AB

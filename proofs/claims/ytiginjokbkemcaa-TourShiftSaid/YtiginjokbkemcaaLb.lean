import Derived.Test.YtiginjokbkemcaaLa
import Derived.Test.YtiginjokbkemcaaTa
set_option linter.unusedVariables false
namespace Go.AB
open Go
def okV (v : R45) : Bool := !((((decide (v.X < (-8000 : Int))) || (decide ((8000 : Int) < v.X))) || (decide (v.Y < (-8000 : Int)))) || (decide ((8000 : Int) < v.Y)))
theorem okV_iff {v : R45} : okV v = true ↔ -8000 ≤ v.X ∧ v.X ≤ 8000 ∧ -8000 ≤ v.Y ∧ v.Y ≤ 8000 := by
  unfold okV
  simp only [Bool.not_eq_true',Bool.or_eq_false_iff,decide_eq_false_iff_not]
  omega
def dst (a b : R45) : Int := max (max (a.X - b.X) (b.X - a.X)) (max (a.Y - b.Y) (b.Y - a.Y))
theorem dst_comm (a b : R45) : dst a b = dst b a := by
  unfold dst
  rw [Int.max_comm (a.X - b.X),Int.max_comm (a.Y - b.Y)]
theorem dst_bd {a b : R45} (ha : okV a = true) (hb : okV b = true) : 0 ≤ dst a b ∧ dst a b ≤ 16000 := by
  have h1 := okV_iff.1 ha
  have h2 := okV_iff.1 hb
  unfold dst
  omega
theorem m35_val {n : Nat} {a b : R45} (ha : okV a = true) (hb : okV b = true) : m35 n a b = some (dst a b) := by
  have h1 := okV_iff.1 ha
  have h2 := okV_iff.1 hb
  unfold m35 m72 letM
  rw [wrap64 (x := a.X - b.X) (by omega) (by omega),wrap64 (x := a.Y - b.Y) (by omega) (by omega),wrap64 (x := 0 - (a.X - b.X)) (by omega) (by omega),wrap64 (x := 0 - (a.Y - b.Y)) (by omega) (by omega)]
  simp only [Option.bind_some]
  congr 1
  unfold dst
  split <;> split <;> split <;> omega
def pt (P : R24) (i : Int) : R45 := P.Points.getD i.toNat ⟨0,0⟩
def D (P : R24) (i j : Int) : Int := dst (pt P i) (pt P j)
def VecP (P : R24) : Prop := ∀ v ∈ P.Points,okV v = true
theorem pt_ok {P : R24} (h : VecP P) (i : Int) : okV (pt P i) = true := by
  unfold pt
  rw [List.getD_eq_getElem?_getD]
  cases e : P.Points[i.toNat]? with
  | none => rfl
  | some v => exact h v (List.mem_of_getElem? e)
theorem D_comm (P : R24) (i j : Int) : D P i j = D P j i := dst_comm _ _
theorem D_bd {P : R24} (h : VecP P) (i j : Int) : 0 ≤ D P i j ∧ D P i j ≤ 16000 := dst_bd (pt_ok h i) (pt_ok h j)
def inN (P : R24) (i : Int) : Prop := 0 ≤ i ∧ i < P.Points.length
theorem pt_at {P : R24} {i : Int} (h : inN P i) : getIdx P.Points i = some (pt P i) := by
  obtain ⟨h0,h1⟩ := h
  refine getIdx_q (k := i.toNat) (by omega) ?_
  unfold pt
  rw [List.getD_eq_getElem?_getD,List.getElem?_eq_getElem (by omega)]; rfl
theorem m79_val {n : Nat} {P : R24} {i j : Int} (h : VecP P) (hi : inN P i) (hj : inN P j) : m79 n P i j = some (D P i j) := by
  unfold m79
  rw [pt_at hi,Option.bind_some,pt_at hj,Option.bind_some,m35_val (pt_ok h i) (pt_ok h j),Option.bind_some]; rfl
theorem segC_bd {P : R24} (h : VecP P) : ∀ l : List Int,0 ≤ segC (D P) l ∧ segC (D P) l ≤ 16000 * (l.length : Int)
  | [] => by simp [segC]
  | [a] => by simp [segC]
  | a :: b :: t => by
    have h1 := segC_bd h (b :: t)
    have h2 := D_bd h a b
    simp only [segC,List.length_cons] at h1 ⊢
    omega
def lastP (l : List Int) : Int := l.getD (l.length - 1) 0
def tourL (P : R24) (l : List Int) : Int := segC (D P) l + D P (lastP l) 0
theorem lastP_at {l : List Int} (h : 0 < l.length) (hb : l.length ≤ 1000000) : getIdx l (IntKind.wrap .i64 ((l.length : Int) - 1)) = some (lastP l) := by
  rw [wrap64 (by omega) (by omega)]
  refine getIdx_q (k := l.length - 1) (by omega) ?_
  unfold lastP
  rw [List.getD_eq_getElem?_getD,List.getElem?_eq_getElem (by omega)]; rfl
theorem lastP_mem {l : List Int} (h : 0 < l.length) : lastP l ∈ l := by
  unfold lastP
  rw [List.getD_eq_getElem?_getD,List.getElem?_eq_getElem (by omega)]
  exact List.getElem_mem _
theorem tour_bd {P : R24} (hV : VecP P) (l : List Int) : 0 ≤ tourL P l ∧ tourL P l ≤ 16000 * (l.length : Int) + 16000 := by
  have b1 := segC_bd hV l
  have b2 := D_bd hV (lastP l) 0
  unfold tourL
  omega
end Go.AB

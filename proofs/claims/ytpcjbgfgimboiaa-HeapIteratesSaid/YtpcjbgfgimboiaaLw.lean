import Derived.Test.YtpcjbgfgimboiaaBc
import Derived.KernelRfl
set_option linter.unusedVariables false
namespace Go.AB
open Go
theorem wrap64 {x : Int} (h0 : -9223372036854775808 ≤ x) (h1 : x ≤ 9223372036854775807) : IntKind.wrap .i64 x = x := by
  simp [IntKind.wrap,IntKind.signed,IntKind.bits]; omega
theorem getIdx_at {α : Type} {xs : List α} {i : Int} {k : Nat} (hi : i = (k : Int)) (hk : k < xs.length) : getIdx xs i = some xs[k] := by
  subst hi
  rw [getIdx_nat,List.getElem?_eq_getElem hk]
theorem getIdx_q {α : Type} {xs : List α} {i : Int} {k : Nat} {y : α} (hi : i = (k : Int)) (hk : xs[k]? = some y) : getIdx xs i = some y := by
  subst hi
  rw [getIdx_nat,hk]
theorem setIdx_at {α : Type} {xs : List α} {i : Int} {k : Nat} {y : α} (hi : i = (k : Int)) (hk : k < xs.length) : setIdx xs i y = some (xs.set k y) := by
  subst hi
  unfold setIdx
  rw [if_pos (by omega)]; simp
theorem apd_val {α : Type} {xs ys : List α} (h : xs.length + ys.length ≤ 1000000000) : apd xs ys = some (xs ++ ys) := by
  unfold apd
  rw [if_pos (by omega)]
theorem slc_val {α : Type} {b : List α} {l h : Int} {i j : Nat} (hl : l = (i : Int)) (hh : h = (j : Int)) (hij : i ≤ j) (hj : j ≤ b.length) : slc b l h = some ((b.drop i).take (j - i)) := by
  subst hl hh
  unfold slc
  rw [if_pos (by omega)]; simp
theorem loopM_ind {σ R : Type} {body : (σ → Option R) → σ → Option R} (I : Nat → σ → Prop) (P : Option R → Prop)
    (step : ∀ i x,I i x → (∃ i' x',i' < i ∧ I i' x' ∧ ∀ nx,body nx x = nx x') ∨ (∃ o,P o ∧ ∀ nx,body nx x = o)) : ∀ (n i : Nat) (x : σ),I i x → i < n → P (loopM body n x)
  | 0,_,_,_,h => absurd h (Nat.not_lt_zero _)
  | n + 1,i,x,hI,h => by
    rw [loopM_succ]
    rcases step i x hI with ⟨i',x',hlt,hI',hb⟩ | ⟨o,ho,hb⟩
    · rw [hb]
      exact loopM_ind I P step n i' x' hI' (by omega)
    · rw [hb]
      exact ho
def mx (g : Nat → Int) : Nat → Int
  | 0 => g 0
  | k + 1 => max (mx g k) (g (k + 1))
theorem tdiv_nat (a b : Nat) : (a : Int).tdiv (b : Int) = ((a / b : Nat) : Int) := by
  rw [Int.tdiv_eq_ediv_of_nonneg (Int.natCast_nonneg _)]; simp
end Go.AB

import Derived.Test.YtnmglighdhaccaaBc
import Derived.KernelRfl
set_option linter.unusedVariables false
namespace Go.AB
open Go
theorem oB {α β : Type} {a : α} {f : α → Option β} : (some a).bind f = f a := rfl
theorem wrap64 {x : Int} (h0 : -9223372036854775808 ≤ x) (h1 : x ≤ 9223372036854775807) : IntKind.wrap .i64 x = x := by
  simp [IntKind.wrap,IntKind.signed,IntKind.bits]; omega
theorem getIdx_at {α : Type} {xs : List α} {i : Int} {k : Nat} (hi : i = (k : Int)) (hk : k < xs.length) : getIdx xs i = some xs[k] := by
  subst hi
  rw [getIdx_nat,List.getElem?_eq_getElem hk]
theorem getIdx_q {α : Type} {xs : List α} {i : Int} {k : Nat} {y : α} (hi : i = (k : Int)) (hk : xs[k]? = some y) : getIdx xs i = some y := by
  subst hi
  rw [getIdx_nat,hk]
theorem setIdx_at {α : Type} {xs : List α} {i : Int} {k : Nat} {y : α} (hi : i = (k : Int)) (hk : k < xs.length) : setIdx xs i y = some (xs.set k y) := by
  subst hi
  unfold setIdx
  rw [if_pos (by omega)]; simp
theorem apd_val {α : Type} {xs ys : List α} (h : xs.length + ys.length ≤ 1000000000) : apd xs ys = some (xs ++ ys) := by
  unfold apd
  rw [if_pos (by omega)]
theorem mk_val {α : Type} {y : α} {l c : Int} {k : Nat} (hl : l = (k : Int)) (hc : c = (k : Int)) (h : k ≤ 1000000000) : mk y l c = some (List.replicate k y) := by
  subst hl hc
  unfold mk
  rw [if_pos (by omega)]; simp
theorem slc_val {α : Type} {b : List α} {l h : Int} {i j : Nat} (hl : l = (i : Int)) (hh : h = (j : Int)) (hij : i ≤ j) (hj : j ≤ b.length) : slc b l h = some ((b.drop i).take (j - i)) := by
  subst hl hh
  unfold slc
  rw [if_pos (by omega)]; simp
theorem loopM_ind {σ R : Type} {body : (σ → Option R) → σ → Option R} (I : Nat → σ → Prop) (P : Option R → Prop)
    (step : ∀ i x,I i x → (∃ i' x',i' < i ∧ I i' x' ∧ ∀ nx,body nx x = nx x') ∨ (∃ o,P o ∧ ∀ nx,body nx x = o)) : ∀ (n i : Nat) (x : σ),I i x → i < n → P (loopM body n x)
  | 0,_,_,_,h => absurd h (Nat.not_lt_zero _)
  | n + 1,i,x,hI,h => by
    rw [loopM_succ]
    rcases step i x hI with ⟨i',x',hlt,hI',hb⟩ | ⟨o,ho,hb⟩
    · rw [hb]
      exact loopM_ind I P step n i' x' hI' (by omega)
    · rw [hb]
      exact ho
theorem mulB {a b A B : Int} (h0 : 0 ≤ a) (h1 : a ≤ A) (h2 : 0 ≤ b) (h3 : b ≤ B) : 0 ≤ a * b ∧ a * b ≤ A * B :=
  ⟨Int.mul_nonneg h0 h2,Int.mul_le_mul h1 h3 h2 (Int.le_trans h0 h1)⟩
theorem ext_at {α : Type} {l : List α} {n : Nat} {f : Nat → α} (hl : l.length = n) (h : ∀ i,i < n → l[i]? = some (f i)) : l = (List.range n).map f := by
  apply List.ext_getElem?
  intro i
  rcases Nat.lt_or_ge i n with hi | hi
  · rw [h i hi,List.getElem?_map,List.getElem?_range hi]; rfl
  · rw [List.getElem?_eq_none (by omega),List.getElem?_eq_none (by simpa using hi)]
theorem iteMin (a b : Int) : (if b < a then b else a) = min a b := by
  rw [Int.min_def]
  split <;> split <;> omega
end Go.AB

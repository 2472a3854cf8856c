import Derived.Test.YtnmglighdhaccaaLw
set_option linter.unusedVariables false
namespace Go.AB
open Go
def foldN {S : Type} (f : Nat → S → S) : Nat → S → S
  | 0,s => s
  | k + 1,s => f k (foldN f k s)
theorem loop_fold {σ R S : Type} {body : (σ → Option R) → σ → Option R} (enc : Nat → S → σ) (len : Nat) (f : Nat → S → S) (I : Nat → S → Prop) (K : S → Option R)
    (step : ∀ i s,i < len → I i s → I (i + 1) (f i s) ∧ ∀ nx,body nx (enc i s) = nx (enc (i + 1) (f i s)))
    (fin : ∀ s,I len s → ∀ nx,body nx (enc len s) = K s) {n : Nat} {s0 : S} (h0 : I 0 s0) (hn : len < n) : loopM body n (enc 0 s0) = K (foldN f len s0) := by
  refine loopM_ind (fun m x => ∃ i s,i ≤ len ∧ x = enc i s ∧ m = len - i ∧ I i s ∧ s = foldN f i s0) (fun o => o = K (foldN f len s0)) ?_ n len _ ⟨0,s0,Nat.zero_le _,rfl,rfl,h0,rfl⟩ hn
  rintro m x ⟨i,s,hi,rfl,rfl,hI,hs⟩
  rcases Nat.lt_or_ge i len with h1 | h1
  · obtain ⟨q1,q2⟩ := step i s h1 hI
    exact .inl ⟨len - (i + 1),_,by omega,⟨i + 1,_,h1,rfl,rfl,q1,by rw [hs]; rfl⟩,q2⟩
  · have : i = len := by omega
    subst this
    exact .inr ⟨_,by rw [hs],fin s hI⟩
theorem loop_find {σ R : Type} {body : (σ → Option R) → σ → Option R} (enc : Nat → σ) (len : Nat) (p : Nat → Bool) (stop : Nat → Option R) (K : Option R)
    (go : ∀ i,i < len → p i = false → ∀ nx,body nx (enc i) = nx (enc (i + 1))) (st : ∀ i,i < len → p i = true → ∀ nx,body nx (enc i) = stop i) (fin : ∀ nx,body nx (enc len) = K) {n : Nat} (hn : len < n) :
    (∃ i,i < len ∧ p i = true ∧ (∀ j,j < i → p j = false) ∧ loopM body n (enc 0) = stop i) ∨ ((∀ i,i < len → p i = false) ∧ loopM body n (enc 0) = K) := by
  refine loopM_ind (fun m x => ∃ i,i ≤ len ∧ x = enc i ∧ m = len - i ∧ ∀ j,j < i → p j = false) (fun o => (∃ i,i < len ∧ p i = true ∧ (∀ j,j < i → p j = false) ∧ o = stop i) ∨ ((∀ i,i < len → p i = false) ∧ o = K)) ?_ n len _ ⟨0,Nat.zero_le _,rfl,rfl,fun j h => absurd h (Nat.not_lt_zero _)⟩ hn
  rintro m x ⟨i,hi,rfl,rfl,hp⟩
  rcases Nat.lt_or_ge i len with h1 | h1
  · cases hv : p i with
    | false =>
      refine .inl ⟨len - (i + 1),_,by omega,⟨i + 1,h1,rfl,rfl,fun j hj => ?_⟩,go i h1 hv⟩
      rcases Nat.lt_or_ge j i with h2 | h2
      · exact hp j h2
      · have : j = i := by omega
        subst this; exact hv
    | true => exact .inr ⟨_,.inl ⟨i,h1,hv,hp,rfl⟩,st i h1 hv⟩
  · have : i = len := by omega
    subst this
    exact .inr ⟨_,.inr ⟨hp,rfl⟩,fin⟩
theorem loop_findP {σ R : Type} {body : (σ → Option R) → σ → Option R} (enc : Nat → σ) (len : Nat) (p : Nat → Bool) (stop : Nat → Option R) (K : Option R) (P : Option R → Prop)
    (go : ∀ i,i < len → p i = false → ∀ nx,body nx (enc i) = nx (enc (i + 1))) (st : ∀ i,i < len → p i = true → ∀ nx,body nx (enc i) = stop i) (fin : ∀ nx,body nx (enc len) = K) {n : Nat} (hn : len < n)
    (hit : ∀ i,i < len → p i = true → (∀ j,j < i → p j = false) → P (stop i)) (miss : (∀ i,i < len → p i = false) → P K) : P (loopM body n (enc 0)) := by
  rcases loop_find enc len p stop K go st fin hn with ⟨i,h1,h2,h3,e⟩ | ⟨h1,e⟩
  · rw [e]; exact hit i h1 h2 h3
  · rw [e]; exact miss h1
theorem loop_all {σ R : Type} {body : (σ → Option R) → σ → Option R} (enc : Nat → σ) (len : Nat) (p : Nat → Bool) (no yes : Option R)
    (go : ∀ i,i < len → p i = true → ∀ nx,body nx (enc i) = nx (enc (i + 1))) (st : ∀ i,i < len → p i = false → ∀ nx,body nx (enc i) = no) (fin : ∀ nx,body nx (enc len) = yes) {n : Nat} (hn : len < n) :
    loopM body n (enc 0) = if (∀ i,i < len → p i = true) then yes else no := by
  rcases loop_find enc len (fun i => !p i) (fun _ => no) yes (fun i h hp => go i h (by simpa using hp)) (fun i h hp => st i h (by simpa using hp)) fin hn with ⟨i,h1,h2,_,e⟩ | ⟨h1,e⟩
  · rw [e,if_neg fun h => ?_]
    have := h i h1
    simp [this] at h2
  · rw [e,if_pos fun i hi => by simpa using h1 i hi]
end Go.AB
namespace Go.AB
theorem foldN_foldl {α S : Type} {g : S → α → S} {l : List α} {d : α} {s : S} : ∀ k,k ≤ l.length → foldN (fun i s => g s (l.getD i d)) k s = (l.take k).foldl g s
  | 0,_ => by simp [foldN]
  | k + 1,h => by
    rw [foldN,foldN_foldl k (by omega),List.take_succ_eq_append_getElem (by omega),List.foldl_append]
    simp [show k < l.length from by omega]
theorem foldN_all {α S : Type} {g : S → α → S} {l : List α} (d : α) {s : S} : foldN (fun i s => g s (l.getD i d)) l.length s = l.foldl g s := by
  rw [foldN_foldl _ (Nat.le_refl _),List.take_length]
def sumN (g : Nat → Int) : Nat → Int
  | 0 => 0
  | k + 1 => sumN g k + g k
theorem sumN_fold {g : Nat → Int} : ∀ k,foldN (fun i n => n + g i) k 0 = sumN g k
  | 0 => rfl
  | k + 1 => by rw [foldN,sumN_fold k,sumN]
theorem sumN_le {g g' : Nat → Int} {k : Nat} (h : ∀ i,i < k → g i ≤ g' i) : sumN g k ≤ sumN g' k := by
  induction k with
  | zero => exact Int.le_refl _
  | succ k ih =>
    have h1 := ih fun i hi => h i (by omega)
    have h2 := h k (by omega)
    rw [sumN,sumN]; omega
theorem sumN_bd {g : Nat → Int} {B : Int} {k : Nat} (h : ∀ i,i < k → 0 ≤ g i ∧ g i ≤ B) : 0 ≤ sumN g k ∧ sumN g k ≤ B * (k : Int) := by
  induction k with
  | zero => simp [sumN]
  | succ k ih =>
    have h1 := ih fun i hi => h i (by omega)
    have h2 := h k (by omega)
    rw [sumN,show B * ((k + 1 : Nat) : Int) = B * (k : Int) + B from by rw [Int.natCast_succ,Int.mul_add,Int.mul_one]]; omega
end Go.AB

import Derived.Test.YtpccmcepgllccaaGreatLa
set_option linter.unusedVariables false
namespace Go.AB
open Go
def Jn (l : List R63) (i : Nat) : R63 := l.getD i default
theorem Jn_mem {l : List R63} {i : Nat} (h : i < l.length) : Jn l i ∈ l := by
  unfold Jn
  rw [List.getD_eq_getElem?_getD,List.getElem?_eq_getElem h]
  exact List.getElem_mem h
theorem Jn_get {l : List R63} {i : Nat} (h : i < l.length) : getIdx l (i : Int) = some (Jn l i) := get_getD h
def within (l : List R63) (i k j : Nat) : Bool := decide ((Jn l i).Rl ≤ (Jn l j).Rl) && decide ((Jn l j).Due ≤ (Jn l k).Due)
def spanSum (l : List R63) (i k : Nat) : Int := sumN (fun j => if within l i k j = true then (Jn l j).Ln else 0) l.length
def spanBd (l : List R63) (m : Int) (i k : Nat) : Int := (Jn l i).Rl + (spanSum l i k + m - 1).tdiv m - (Jn l k).Due
def parStep (l : List R63) (m : Int) (i k : Nat) (s : Int × Bool) : Int × Bool := if 0 < spanSum l i k ∧ (s.2 = false ∨ s.1 < spanBd l m i k) then (spanBd l m i k,true) else s
def par (l : List R63) (m : Int) : Int := (foldN (fun i s => foldN (fun k s => parStep l m i k s) l.length s) l.length ((0 : Int),false)).1
theorem spanSum_bd {l : List R63} (hb : bd l) (i k : Nat) : 0 ≤ spanSum l i k ∧ spanSum l i k ≤ 10000 * (l.length : Int) := by
  refine sumN_bd fun j hj => ?_
  have := hb _ (Jn_mem hj)
  split <;> omega
theorem tdiv_bd {a m : Int} (h0 : 0 ≤ a) (h1 : 1 ≤ m) : 0 ≤ (a + m - 1).tdiv m ∧ (a + m - 1).tdiv m ≤ a := by
  rw [Int.tdiv_eq_ediv_of_nonneg (by omega)]
  refine ⟨Int.ediv_nonneg (by omega) (by omega),?_⟩
  have h2 : a + m - 1 < (a + 1) * m := by
    rw [Int.add_mul,Int.one_mul]
    have : a * 1 ≤ a * m := Int.mul_le_mul_of_nonneg_left h1 h0
    omega
  have := Int.ediv_lt_of_lt_mul (by omega) h2
  omega
theorem spanBd_bd {l : List R63} (hb : bd l) {m : Int} (hm : 1 ≤ m) {i k : Nat} (hi : i < l.length) (hk : k < l.length) : -1000000 ≤ spanBd l m i k ∧ spanBd l m i k ≤ 1000000 + 10000 * (l.length : Int) := by
  have h1 := spanSum_bd hb i k
  have h2 := tdiv_bd h1.1 hm
  have h3 := hb _ (Jn_mem hi)
  have h4 := hb _ (Jn_mem hk)
  unfold spanBd; omega
theorem m46_val {n : Nat} {l : List R63} {m : Int} (hb : bd l) (hl : l.length ≤ 1000) (hn : l.length < n) (hm : 1 ≤ m ∧ m ≤ 1000) : m46 n l m = some (par l m) := by
  unfold m46 jn
  dsimp only
  refine (loop_fold (S := Int × Bool) (fun i s => (s.1,s.2,(i : Int))) l.length (fun i s => foldN (fun k s => parStep l m i k s) l.length s) (fun i s => True) (fun s => some s.1) ?_ ?_ (s0 := (0,false)) trivial hn).trans rfl
  · rintro i ⟨best,some_⟩ hi _
    refine ⟨trivial,fun nx => ?_⟩
    rw [m46_L9,if_pos (by simp; omega)]
    dsimp only
    rw [Jn_get hi,oB]
    unfold jn
    dsimp only
    refine (loop_fold (S := Int × Bool) (fun k s => (s.1,s.2,(k : Int))) l.length (fun k s => parStep l m i k s) (fun k s => True) (fun s => letM (IntKind.wrap .i64 ((i : Int) + 1)) fun t => nx (s.1,s.2,t)) ?_ ?_ (s0 := (best,some_)) trivial hn).trans ?_
    · rintro k ⟨best,some_⟩ hk _
      refine ⟨trivial,fun nx => ?_⟩
      rw [m46_L12,if_pos (by simp; omega)]
      dsimp only
      rw [Jn_get hk,oB]
      unfold jn
      dsimp only
      have hs := spanSum_bd hb i k
      have hd := tdiv_bd hs.1 hm.1
      have h3 := hb _ (Jn_mem hi)
      have h4 := hb _ (Jn_mem hk)
      have hB := spanBd_bd hb hm.1 hi hk
      refine (loop_fold (S := Int) (fun j s => (s,(j : Int))) l.length (fun j s => s + (if within l i k j = true then (Jn l j).Ln else 0)) (fun j s => 0 ≤ s ∧ s ≤ 10000 * (j : Int)) (fun p_262 => (asrt (m ≠ 0) (letM ((IntKind.wrap .i64 ((IntKind.wrap .i64 ((Jn l i).Rl + (IntKind.wrap .i64 ((IntKind.wrap .i64 ((IntKind.wrap .i64 (p_262 + m)) - (1 : Int))).tdiv m)))) - (Jn l k).Due))) fun t14_265 => if ((decide ((0 : Int) < p_262)) && ((!some_) || (decide (best < t14_265)))) = true then letM (IntKind.wrap .i64 ((k : Int) + 1)) fun t => nx (t14_265,true,t) else letM (IntKind.wrap .i64 ((k : Int) + 1)) fun t => nx (best,some_,t)))) ?_ ?_ (s0 := 0) ⟨by omega,by omega⟩ hn).trans ?_
      · rintro j s hj ⟨s0,s1⟩
        have h5 := hb _ (Jn_mem hj)
        refine ⟨by split <;> omega,fun nx => ?_⟩
        rw [m46_L13,if_pos (by simp; omega)]
        dsimp only
        rw [Jn_get hj,oB]
        unfold jn
        dsimp only
        change (if within l i k j = true then _ else _) = _
        by_cases hw : within l i k j = true
        · rw [if_pos hw,if_pos hw,letM_eq,wrap64 (by omega) (by omega),letM_eq,wrap64 (by omega) (by omega)]
          rfl
        · rw [if_neg hw,if_neg hw,letM_eq,wrap64 (by omega) (by omega),Int.add_zero]
          rfl
      · rintro s _ nx
        rw [m46_L13,if_neg (by simp)]
      · rw [sumN_fold]
        rw [show sumN (fun j => if within l i k j = true then (Jn l j).Ln else 0) l.length = spanSum l i k from rfl]
        rw [wrap64 (x := spanSum l i k + m) (by omega) (by omega),wrap64 (x := spanSum l i k + m - 1) (by omega) (by omega),wrap64 (x := (spanSum l i k + m - 1).tdiv m) (by omega) (by omega),wrap64 (x := (Jn l i).Rl + _) (by omega) (by omega)]
        rw [show (Jn l i).Rl + (spanSum l i k + m - 1).tdiv m - (Jn l k).Due = spanBd l m i k from rfl,wrap64 (x := spanBd l m i k) (by omega) (by omega),letM_eq,letM_eq,letM_eq,wrap64 (x := (k : Int) + 1) (by omega) (by omega)]
        unfold asrt parStep
        rw [if_pos (by omega)]
        by_cases c : 0 < spanSum l i k ∧ (some_ = false ∨ best < spanBd l m i k)
        · rw [if_pos c,if_pos (by simpa using c)]
          rfl
        · rw [if_neg c,if_neg (by simpa using c)]
          rfl
    · rintro ⟨best,some_⟩ _ nx
      rw [m46_L12,if_neg (by simp)]
    · rw [letM_eq,wrap64 (by omega) (by omega)]
      rfl
  · rintro ⟨best,some_⟩ _ nx
    rw [m46_L9,if_neg (by simp)]
def ParI (l : List R63) (m : Int) (V : Nat → Nat → Prop) (s : Int × Bool) : Prop :=
  (s.2 = true → (∃ i k,V i k ∧ 0 < spanSum l i k ∧ s.1 = spanBd l m i k) ∧ ∀ i k,V i k → 0 < spanSum l i k → spanBd l m i k ≤ s.1) ∧ (s.2 = false → ∀ i k,V i k → ¬ 0 < spanSum l i k)
theorem ParI.step {l : List R63} {m : Int} {V V' : Nat → Nat → Prop} {s : Int × Bool} {i k : Nat} (h : ParI l m V s) (hv : ∀ a b,V' a b ↔ V a b ∨ (a = i ∧ b = k)) : ParI l m V' (parStep l m i k s) := by
  obtain ⟨best,some_⟩ := s
  obtain ⟨h1,h2⟩ := h
  unfold parStep
  dsimp only at h1 h2 ⊢
  by_cases c : 0 < spanSum l i k ∧ (some_ = false ∨ best < spanBd l m i k)
  · rw [if_pos c]
    refine ⟨fun _ => ⟨⟨i,k,(hv i k).2 (.inr ⟨rfl,rfl⟩),c.1,rfl⟩,fun a b hab hs => ?_⟩,fun h => by cases h⟩
    rcases (hv a b).1 hab with hab | ⟨rfl,rfl⟩
    · cases some_ with
      | true =>
        have := (h1 rfl).2 a b hab hs
        rcases c.2 with c2 | c2
        · cases c2
        · dsimp only; omega
      | false => exact absurd hs (h2 rfl a b hab)
    · exact Int.le_refl _
  · rw [if_neg c]
    refine ⟨fun hs => ?_,fun hs a b hab => ?_⟩
    · dsimp only at hs
      subst hs
      obtain ⟨⟨a,b,q1,q2,q3⟩,q4⟩ := h1 rfl
      refine ⟨⟨a,b,(hv a b).2 (.inl q1),q2,q3⟩,fun a b hab hp => ?_⟩
      rcases (hv a b).1 hab with hab | ⟨rfl,rfl⟩
      · exact q4 a b hab hp
      · dsimp only
        by_cases h : best < spanBd l m a b
        · exact absurd ⟨hp,.inr h⟩ c
        · omega
    · dsimp only at hs
      subst hs
      rcases (hv a b).1 hab with hab | ⟨rfl,rfl⟩
      · exact h2 rfl a b hab
      · exact fun hp => c ⟨hp,.inl rfl⟩
theorem par_inv (l : List R63) (m : Int) : ParI l m (fun a b => a < l.length ∧ b < l.length) (foldN (fun i s => foldN (fun k s => parStep l m i k s) l.length s) l.length ((0 : Int),false)) := by
  refine (foldN_inv (I := fun i s => ParI l m (fun a b => a < i ∧ b < l.length) s) ⟨(fun h => by cases h),fun _ a b h => by omega⟩ (fun i s hi hI => ?_) l.length (Nat.le_refl _))
  have := foldN_inv (I := fun k s => ParI l m (fun a b => (a < i ∧ b < l.length) ∨ (a = i ∧ b < k)) s) (f := fun k s => parStep l m i k s) (len := l.length) (s0 := s) ?_ (fun k s hk hI => ?_) l.length (Nat.le_refl _)
  · refine ⟨fun h => ?_,fun h a b hab => this.2 h a b (by omega)⟩
    obtain ⟨⟨a,b,q1,q2⟩,q3⟩ := this.1 h
    exact ⟨⟨a,b,by omega,q2⟩,fun a b hab => q3 a b (by omega)⟩
  · refine ⟨fun h => ?_,fun h a b hab => hI.2 h a b (by omega)⟩
    obtain ⟨⟨a,b,q1,q2⟩,q3⟩ := hI.1 h
    exact ⟨⟨a,b,by omega,q2⟩,fun a b hab => q3 a b (by omega)⟩
  · refine hI.step fun a b => ?_
    omega
theorem sumN_pos {g : Nat → Int} {k : Nat} (h0 : ∀ i,i < k → 0 ≤ g i) {i : Nat} (hi : i < k) : g i ≤ sumN g k := by
  induction k with
  | zero => omega
  | succ k ih =>
    rw [sumN]
    have hk := h0 k (by omega)
    rcases Nat.lt_or_ge i k with h | h
    · have := ih (fun j hj => h0 j (by omega)) h
      omega
    · have e : i = k := by omega
      subst e
      have : 0 ≤ sumN g i := by
        clear ih hi hk h
        have : ∀ k,k ≤ i → 0 ≤ sumN g k := by
          intro k
          induction k with
          | zero => intro _; exact Int.le_refl _
          | succ k ih =>
            intro hk
            have h1 := ih (by omega)
            have h2 := h0 k (by omega)
            rw [sumN]; omega
        exact this i (Nat.le_refl _)
      omega
theorem span_self {l : List R63} (hb : bd l) (hp : ∀ y,y ∈ l → 1 ≤ y.Ln) {i : Nat} (hi : i < l.length) : 0 < spanSum l i i := by
  have h1 : (fun j => if within l i i j = true then (Jn l j).Ln else 0) i ≤ spanSum l i i := sumN_pos (fun j hj => by
    have := hb _ (Jn_mem hj)
    split <;> omega) hi
  have h2 := hp _ (Jn_mem hi)
  dsimp only at h1
  rw [if_pos (by simp [within])] at h1
  omega
theorem par_is {l : List R63} (hb : bd l) (hp : ∀ y,y ∈ l → 1 ≤ y.Ln) (h0 : 0 < l.length) (m : Int) :
    (∃ i k,i < l.length ∧ k < l.length ∧ 0 < spanSum l i k ∧ par l m = spanBd l m i k) ∧ ∀ i k,i < l.length → k < l.length → 0 < spanSum l i k → spanBd l m i k ≤ par l m := by
  have h := par_inv l m
  unfold par
  generalize foldN (fun i s => foldN (fun k s => parStep l m i k s) l.length s) l.length ((0 : Int),false) = s at h
  obtain ⟨best,some_⟩ := s
  cases some_ with
  | false => exact absurd (span_self hb hp h0) (h.2 rfl 0 0 ⟨h0,h0⟩)
  | true =>
    obtain ⟨⟨i,k,q1,q2,q3⟩,q4⟩ := h.1 rfl
    exact ⟨⟨i,k,q1.1,q1.2,q2,q3⟩,fun i k hi hk hs => q4 i k ⟨hi,hk⟩ hs⟩
end Go.AB

import Derived.Test.YtpccmcepgllccaaGreatLd
import Derived.Test.YtpccmcepgllccaaGreatLf
set_option linter.unusedVariables false
namespace Go.AB
open Go
def act (l : List R63) (now : Int) (rest : List Int) (i : Nat) : Prop := i < l.length ∧ rest.getD i 0 ≠ 0 ∧ (Jn l i).Rl ≤ now
def fut (l : List R63) (now : Int) (rest : List Int) (j : Nat) : Prop := j < l.length ∧ rest.getD j 0 ≠ 0 ∧ now < (Jn l j).Rl
def isBest (l : List R63) (now : Int) (rest : List Int) (i : Nat) : Prop := act l now rest i ∧ ∀ j,act l now rest j → rest.getD i 0 < rest.getD j 0 ∨ (rest.getD i 0 = rest.getD j 0 ∧ i ≤ j)
def isNext (l : List R63) (now : Int) (rest : List Int) (r : Int) : Prop := (∃ j,fut l now rest j ∧ (Jn l j).Rl = r) ∧ ∀ j,fut l now rest j → r ≤ (Jn l j).Rl
inductive Runs (l : List R63) : Int → List Int → List Int → List Int → Prop
  | done {now : Int} {rest out : List Int} (h : l.length ≤ out.length) : Runs l now rest out out
  | idle {now : Int} {rest out o : List Int} {r : Int} (h : out.length < l.length) (ha : ∀ i,¬ act l now rest i) (hn : isNext l now rest r) (k : Runs l r rest out o) : Runs l now rest out o
  | part {now : Int} {rest out o : List Int} {r : Int} {i : Nat} (h : out.length < l.length) (hb : isBest l now rest i) (hn : isNext l now rest r) (hr : r < now + rest.getD i 0) (k : Runs l r (rest.set i (rest.getD i 0 - (r - now))) out o) : Runs l now rest out o
  | fin {now : Int} {rest out o : List Int} {i : Nat} (h : out.length < l.length) (hb : isBest l now rest i) (hn : ∀ j,fut l now rest j → now + rest.getD i 0 ≤ (Jn l j).Rl)
      (k : Runs l (now + rest.getD i 0) (rest.set i 0) (out ++ [now + rest.getD i 0]) o) : Runs l now rest out o
theorem isBest.uniq {l : List R63} {now : Int} {rest : List Int} {i j : Nat} (h : isBest l now rest i) (h' : isBest l now rest j) : i = j := by
  have h1 := h.2 j h'.1
  have h2 := h'.2 i h.1
  omega
theorem isNext.uniq {l : List R63} {now : Int} {rest : List Int} {r s : Int} (h : isNext l now rest r) (h' : isNext l now rest s) : r = s := by
  obtain ⟨⟨j,hj,e⟩,h2⟩ := h
  obtain ⟨⟨k,hk,e'⟩,h3⟩ := h'
  have := h2 k hk
  have := h3 j hj
  omega
theorem Runs.uniq {l : List R63} {now : Int} {rest out o : List Int} (h : Runs l now rest out o) : ∀ {o' : List Int},Runs l now rest out o' → o = o' := by
  induction h with
  | done h =>
    intro o' h'
    cases h' with
    | done _ => rfl
    | idle h2 => omega
    | part h2 => omega
    | fin h2 => omega
  | idle h ha hn k ih =>
    intro o' h'
    cases h' with
    | done h2 => omega
    | idle _ _ hn' k' => exact ih (by rw [hn.uniq hn']; exact k')
    | part _ hb => exact absurd hb.1 (ha _)
    | fin _ hb => exact absurd hb.1 (ha _)
  | part h hb hn hr k ih =>
    intro o' h'
    cases h' with
    | done h2 => omega
    | idle _ ha => exact absurd hb.1 (ha _)
    | part _ hb' hn' hr' k' =>
      have e := hb.uniq hb'
      have e2 := hn.uniq hn'
      subst e e2
      exact ih k'
    | fin _ hb' hn' =>
      have e := hb.uniq hb'
      subst e
      obtain ⟨⟨j,hj,e⟩,_⟩ := hn
      have := hn' j hj
      omega
  | fin h hb hn k ih =>
    intro o' h'
    cases h' with
    | done h2 => omega
    | idle _ ha => exact absurd hb.1 (ha _)
    | part _ hb' hn' hr' k' =>
      have e := hb.uniq hb'
      subst e
      obtain ⟨⟨j,hj,e⟩,_⟩ := hn'
      have := hn j hj
      omega
    | fin _ hb' _ k' =>
      have e := hb.uniq hb'
      subst e
      exact ih k'
def later (c : Int) (l l' : List R63) : Prop := l'.length = l.length ∧ ∀ j,j < l.length → (Jn l' j).Rl = (Jn l j).Rl + c
section
variable {c : Int} {l l' : List R63} (hc : later c l l') {now : Int} {rest : List Int}
include hc
theorem later.act {i : Nat} : act l' (now + c) rest i ↔ act l now rest i := by
  unfold Go.AB.act
  constructor
  · rintro ⟨h1,h2,h3⟩
    have := hc.2 i (by rw [← hc.1]; exact h1)
    exact ⟨by rw [← hc.1]; exact h1,h2,by omega⟩
  · rintro ⟨h1,h2,h3⟩
    have := hc.2 i h1
    exact ⟨by rw [hc.1]; exact h1,h2,by omega⟩
theorem later.fut {i : Nat} : fut l' (now + c) rest i ↔ fut l now rest i := by
  unfold Go.AB.fut
  constructor
  · rintro ⟨h1,h2,h3⟩
    have := hc.2 i (by rw [← hc.1]; exact h1)
    exact ⟨by rw [← hc.1]; exact h1,h2,by omega⟩
  · rintro ⟨h1,h2,h3⟩
    have := hc.2 i h1
    exact ⟨by rw [hc.1]; exact h1,h2,by omega⟩
theorem later.best {i : Nat} (h : isBest l now rest i) : isBest l' (now + c) rest i := ⟨(later.act hc).2 h.1,fun j hj => h.2 j ((later.act hc).1 hj)⟩
theorem later.next {r : Int} (h : isNext l now rest r) : isNext l' (now + c) rest (r + c) := by
  obtain ⟨⟨j,hj,e⟩,h2⟩ := h
  refine ⟨⟨j,(later.fut hc).2 hj,by rw [hc.2 j hj.1,e]⟩,fun k hk => ?_⟩
  have hk' := (later.fut hc).1 hk
  have := h2 k hk'
  rw [hc.2 k hk'.1]
  omega
end
theorem Runs.later {c : Int} {l l' : List R63} (hc : later c l l') {now : Int} {rest out o : List Int} (h : Runs l now rest out o) : Runs l' (now + c) rest (out.map (· + c)) (o.map (· + c)) := by
  induction h with
  | done h => exact .done (by rw [hc.1]; simpa using h)
  | idle h ha hn k ih => exact .idle (by rw [hc.1]; simpa using h) (fun i hi => ha i ((later.act hc).1 hi)) (later.next hc hn) ih
  | @part now rest out o r i h hb hn hr k ih =>
    refine .part (r := r + c) (by rw [hc.1]; simpa using h) (later.best hc hb) (later.next hc hn) (by omega) ?_
    rw [show r + c - (now + c) = r - now from by omega]
    exact ih
  | @fin now rest out o i h hb hn k ih =>
    refine .fin (by rw [hc.1]; simpa using h) (later.best hc hb) (fun j hj => ?_) ?_
    · have hj' := (later.fut hc).1 hj
      have := hn j hj'
      rw [hc.2 j hj'.1]
      omega
    · rw [show now + c + rest.getD i 0 = now + rest.getD i 0 + c from by omega]
      rw [List.map_append] at ih
      exact ih
theorem Runs.ahead {l : List R63} {c now : Int} {rest o : List Int} (hnow : now ≤ c) (hr : ∀ j,j < l.length → c ≤ (Jn l j).Rl) (h0 : ∀ j,j < l.length → rest.getD j 0 ≠ 0) (h : Runs l c rest [] o) : Runs l now rest [] o := by
  rcases Int.lt_or_eq_of_le hnow with hlt | rfl
  · rcases Nat.eq_zero_or_pos l.length with hl | hl
    · have e : o = [] := (h.uniq (.done (by simp [hl]))).trans rfl
      rw [e]; exact .done (by simp [hl])
    · have na : ∀ i,¬ act l now rest i := fun i hi => by
        have := hr i hi.1
        have := hi.2.2
        omega
      -- the earliest release
      have ex : ∃ r,(∃ j,j < l.length ∧ (Jn l j).Rl = r) ∧ ∀ j,j < l.length → r ≤ (Jn l j).Rl := by
        have key : ∀ k,k < l.length → ∃ r,(∃ j,j ≤ k ∧ (Jn l j).Rl = r) ∧ ∀ j,j ≤ k → r ≤ (Jn l j).Rl := by
          intro k
          induction k with
          | zero => exact fun _ => ⟨_,⟨0,Nat.le_refl _,rfl⟩,fun j hj => by rw [show j = 0 from by omega]; exact Int.le_refl _⟩
          | succ k ih =>
            intro hk
            obtain ⟨r,⟨j,hj,e⟩,h2⟩ := ih (by omega)
            by_cases hc : (Jn l (k + 1)).Rl < r
            · refine ⟨_,⟨k + 1,Nat.le_refl _,rfl⟩,fun i hi => ?_⟩
              by_cases e2 : i = k + 1
              · rw [e2]; exact Int.le_refl _
              · have := h2 i (by omega)
                omega
            · refine ⟨r,⟨j,by omega,e⟩,fun i hi => ?_⟩
              by_cases e2 : i = k + 1
              · rw [e2]; omega
              · exact h2 i (by omega)
        obtain ⟨r,⟨j,hj,e⟩,h2⟩ := key (l.length - 1) (by omega)
        exact ⟨r,⟨j,by omega,e⟩,fun j hj => h2 j (by omega)⟩
      obtain ⟨r,⟨j,hj,e⟩,h2⟩ := ex
      have hcr : c ≤ r := by rw [← e]; exact hr j hj
      have hnext : isNext l now rest r := ⟨⟨j,⟨hj,h0 j hj,by omega⟩,e⟩,fun k hk => h2 k hk.1⟩
      refine .idle (by simpa using hl) na hnext ?_
      rcases Int.lt_or_eq_of_le hcr with hlt2 | rfl
      · have na2 : ∀ i,¬ act l c rest i := fun i hi => by
          have := h2 i hi.1
          have := hi.2.2
          omega
        have hnext2 : isNext l c rest r := ⟨⟨j,⟨hj,h0 j hj,by rw [e]; exact hlt2⟩,e⟩,fun k hk => h2 k hk.1⟩
        cases h with
        | done hd => rw [List.length_nil] at hd; omega
        | idle _ _ hn k => rw [hnext2.uniq hn]; exact k
        | part _ hb => exact absurd hb.1 (na2 _)
        | fin _ hb => exact absurd hb.1 (na2 _)
      · exact h
  · exact h
end Go.AB
set_option linter.unusedVariables false
namespace Go.AB
open Go
def G (N : Nat) (θ : Int) (f : Nat → Int) : Int := sumN (fun j => max 0 (θ - f j)) N
theorem sumN_add {f g h : Nat → Int} {N : Nat} (e : ∀ j,j < N → f j = g j + h j) : sumN f N = sumN g N + sumN h N := by
  induction N with
  | zero => rfl
  | succ N ih =>
    rw [sumN,sumN,sumN,ih fun j hj => e j (by omega),e N (by omega)]
    omega
theorem sumN_zero {f : Nat → Int} {N : Nat} (e : ∀ j,j < N → f j = 0) : sumN f N = 0 := by
  induction N with
  | zero => rfl
  | succ N ih => rw [sumN,ih fun j hj => e j (by omega),e N (by omega)]; rfl
theorem sumN_one {f g : Nat → Int} {N i : Nat} (hi : i < N) (e : ∀ j,j < N → j ≠ i → f j = g j) : sumN f N = sumN g N + (f i - g i) := by
  induction N with
  | zero => omega
  | succ N ih =>
    rw [sumN,sumN]
    by_cases h : i = N
    · subst h
      rw [sumN_congr (g' := g) fun j hj => e j (by omega) (by omega)]
      omega
    · rw [ih (by omega) fun j hj hne => e j (by omega) hne,e N (by omega) (fun h' => h h'.symm)]
      omega
theorem sumN_mul {f g : Nat → Int} {N : Nat} {v w : Int} (e : ∀ j,j < N → v * f j ≤ w * g j) : v * sumN f N ≤ w * sumN g N := by
  induction N with
  | zero => simp [sumN]
  | succ N ih =>
    rw [sumN,sumN,Int.mul_add,Int.mul_add]
    have := ih fun j hj => e j (by omega)
    have := e N (by omega)
    omega
theorem G_convex {N : Nat} {f : Nat → Int} (h0 : ∀ j,j < N → 0 ≤ f j) {θ v : Int} (ht : 0 ≤ θ) (hv : θ ≤ v) : v * G N θ f ≤ θ * G N v f := by
  refine sumN_mul fun j hj => ?_
  have hj0 := h0 j hj
  by_cases h : θ ≤ f j
  · rw [Int.max_eq_left (show θ - f j ≤ 0 from by omega),Int.mul_zero]
    exact Int.mul_nonneg ht (Int.le_max_left _ _)
  · rw [Int.max_eq_right (show 0 ≤ θ - f j from by omega),Int.max_eq_right (show 0 ≤ v - f j from by omega),Int.mul_sub,Int.mul_sub]
    have h1 : θ * f j ≤ v * f j := Int.mul_le_mul_of_nonneg_right hv hj0
    have h2 : v * θ = θ * v := Int.mul_comm _ _
    omega
theorem unit {N : Nat} {a a' b b' : Nat → Int} {i : Nat} (hi : i < N) (hdom : ∀ θ,0 ≤ θ → G N θ b ≤ G N θ a) (ha : 0 < a i) (hmin : ∀ j,j < N → a j = 0 ∨ a i ≤ a j) (hb0 : ∀ j,j < N → 0 ≤ b' j)
    (hb : ∀ θ,G N θ b' ≤ G N θ b + 1) (ha1 : a' i = a i - 1) (ha2 : ∀ j,j < N → j ≠ i → a' j = a j) : ∀ θ,0 ≤ θ → G N θ b' ≤ G N θ a' := by
  intro θ ht
  have step : G N θ a' = G N θ a + (max 0 (θ - a' i) - max 0 (θ - a i)) := by
    unfold G
    refine sumN_one hi fun j hj hne => by rw [ha2 j hj hne]
  by_cases hc : a i ≤ θ
  · have e : max 0 (θ - a' i) - max 0 (θ - a i) = 1 := by
      rw [ha1,Int.max_eq_right (show 0 ≤ θ - (a i - 1) from by omega),Int.max_eq_right (show 0 ≤ θ - a i from by omega)]
      omega
    have h1 := hdom θ ht
    have h2 := hb θ
    omega
  · have e : max 0 (θ - a' i) - max 0 (θ - a i) = 0 := by
      rw [ha1,Int.max_eq_left (show θ - (a i - 1) ≤ 0 from by omega),Int.max_eq_left (show θ - a i ≤ 0 from by omega)]
      omega
    rw [step,e,Int.add_zero]
    -- all that is left is larger than θ
    obtain ⟨z,hz⟩ : ∃ z : Int,sumN (fun j => if a j = 0 then 1 else 0) N = z := ⟨_,rfl⟩
    have hG : ∀ w,0 ≤ w → w ≤ a i → G N w a = w * z := by
      intro w hw hwi
      have h1 : 1 * G N w a ≤ w * sumN (fun j => if a j = 0 then 1 else 0) N := sumN_mul fun j hj => by
        rcases hmin j hj with h | h
        · rw [if_pos h,h,Int.max_eq_right (by omega)]; omega
        · rw [if_neg (by omega),Int.max_eq_left (by omega)]; omega
      have h2 : w * sumN (fun j => if a j = 0 then 1 else 0) N ≤ 1 * G N w a := sumN_mul fun j hj => by
        rcases hmin j hj with h | h
        · rw [if_pos h,h,Int.max_eq_right (by omega)]; omega
        · rw [if_neg (by omega),Int.max_eq_left (by omega)]; omega
      rw [hz] at h1 h2
      omega
    rw [hG θ ht (by omega)]
    have h1 := G_convex hb0 ht (show θ ≤ a i from by omega)
    have h2 : θ * G N (a i) b' ≤ θ * (a i * z + 1) := by
      refine Int.mul_le_mul_of_nonneg_left ?_ ht
      have q1 := hb (a i)
      have q2 := hdom (a i) (by omega)
      rw [hG (a i) (by omega) (Int.le_refl _)] at q2
      omega
    have h3 : a i * G N θ b' < a i * (θ * z + 1) := by
      have e1 : θ * (a i * z + 1) = a i * (θ * z) + θ := by
        rw [Int.mul_add,Int.mul_one,← Int.mul_assoc,Int.mul_comm θ (a i),Int.mul_assoc]
      have e2 : a i * (θ * z + 1) = a i * (θ * z) + a i := by rw [Int.mul_add,Int.mul_one]
      omega
    have := Int.lt_of_mul_lt_mul_left h3 (by omega)
    omega
def left (l : List R63) (fT : Nat → Int) (τ t : Int) (j : Nat) : Int := if (Jn l j).Rl ≤ τ then max 0 (min (Jn l j).Ln (fT j - t)) else 0
def mine (l : List R63) (rest : List Int) (τ : Int) (j : Nat) : Int := if (Jn l j).Rl ≤ τ then rest.getD j 0 else 0
structure Sched (l : List R63) (fT : Nat → Int) : Prop where
  rel : ∀ j,j < l.length → (Jn l j).Rl + (Jn l j).Ln ≤ fT j
  pos : ∀ j,j < l.length → 1 ≤ (Jn l j).Ln
  dis : ∀ i j,i < l.length → j < l.length → i ≠ j → fT i ≤ fT j - (Jn l j).Ln ∨ fT j ≤ fT i - (Jn l i).Ln
theorem left_step {l : List R63} {fT : Nat → Int} (h : Sched l fT) (τ t : Int) (θ : Int) : G l.length θ (left l fT τ (t + 1)) ≤ G l.length θ (left l fT τ t) + 1 := by
  by_cases hc : ∃ i,i < l.length ∧ fT i - (Jn l i).Ln ≤ t ∧ t < fT i
  · obtain ⟨i,hi,h1,h2⟩ := hc
    have e := sumN_one (f := fun j => max 0 (θ - left l fT τ (t + 1) j)) (g := fun j => max 0 (θ - left l fT τ t j)) hi fun j hj hne => by
      have hd := h.dis i j hi hj (fun e => hne e.symm)
      have hp := h.pos j hj
      have : left l fT τ (t + 1) j = left l fT τ t j := by
        unfold left
        split
        · rcases hd with hd | hd
          · rw [Int.min_eq_left (show (Jn l j).Ln ≤ fT j - (t + 1) from by omega),Int.min_eq_left (show (Jn l j).Ln ≤ fT j - t from by omega)]
          · rw [Int.max_eq_left (show min (Jn l j).Ln (fT j - (t + 1)) ≤ 0 from Int.le_trans (Int.min_le_right _ _) (by omega)),Int.max_eq_left (show min (Jn l j).Ln (fT j - t) ≤ 0 from Int.le_trans (Int.min_le_right _ _) (by omega))]
        · rfl
      show max 0 (θ - left l fT τ (t + 1) j) = max 0 (θ - left l fT τ t j)
      rw [this]
    have e2 : left l fT τ (t + 1) i ≥ left l fT τ t i - 1 := by
      unfold left
      split
      · rw [Int.min_eq_right (show fT i - (t + 1) ≤ (Jn l i).Ln from by omega),Int.min_eq_right (show fT i - t ≤ (Jn l i).Ln from by omega),Int.max_eq_right (by omega),Int.max_eq_right (by omega)]
        omega
      · omega
    unfold G
    rw [e]
    have : max 0 (θ - left l fT τ (t + 1) i) ≤ max 0 (θ - left l fT τ t i) + 1 := by
      refine Int.max_le.2 ⟨?_,?_⟩
      · have := Int.le_max_left 0 (θ - left l fT τ t i); omega
      · have := Int.le_max_right 0 (θ - left l fT τ t i); omega
    omega
  · have : G l.length θ (left l fT τ (t + 1)) = G l.length θ (left l fT τ t) := by
      unfold G
      refine sumN_congr fun j hj => ?_
      have hn : ¬ (fT j - (Jn l j).Ln ≤ t ∧ t < fT j) := fun hh => hc ⟨j,hj,hh⟩
      have hp := h.pos j hj
      have : left l fT τ (t + 1) j = left l fT τ t j := by
        unfold left
        split
        · by_cases h3 : fT j ≤ t
          · rw [Int.max_eq_left (show min (Jn l j).Ln (fT j - (t + 1)) ≤ 0 from Int.le_trans (Int.min_le_right _ _) (by omega)),Int.max_eq_left (show min (Jn l j).Ln (fT j - t) ≤ 0 from Int.le_trans (Int.min_le_right _ _) (by omega))]
          · rw [Int.min_eq_left (show (Jn l j).Ln ≤ fT j - (t + 1) from by omega),Int.min_eq_left (show (Jn l j).Ln ≤ fT j - t from by omega)]
        · rfl
      rw [this]
    omega
theorem left_nonneg {l : List R63} {fT : Nat → Int} (τ t : Int) (j : Nat) : 0 ≤ left l fT τ t j := by
  unfold left
  split
  · exact Int.le_max_left _ _
  · exact Int.le_refl _
def Dom (l : List R63) (fT : Nat → Int) (rest : List Int) (τ t : Int) : Prop := ∀ θ,0 ≤ θ → G l.length θ (left l fT τ t) ≤ G l.length θ (mine l rest τ)
theorem getD_set {s : List Int} {i j : Nat} {v : Int} (hi : i < s.length) : (s.set i v).getD j 0 = if j = i then v else s.getD j 0 := by
  rw [List.getD_eq_getElem?_getD,List.getD_eq_getElem?_getD,List.getElem?_set]
  by_cases e : i = j
  · subst e; simp [hi]
  · rw [if_neg e,if_neg (fun h => e h.symm)]
theorem Dom.run {l : List R63} {fT : Nat → Int} (h : Sched l fT) {rest : List Int} {now : Int} {i : Nat} (hlen : rest.length = l.length) (hr0 : ∀ j,j < l.length → 0 ≤ rest.getD j 0) (hb : isBest l now rest i) (hd : Dom l fT rest now now) :
    ∀ u : Nat,(u : Int) ≤ rest.getD i 0 → Dom l fT (rest.set i (rest.getD i 0 - (u : Int))) now (now + (u : Int))
  | 0,_ => by
    have e : rest.set i (rest.getD i 0 - ((0 : Nat) : Int)) = rest := by
      rw [show rest.getD i 0 - ((0 : Nat) : Int) = rest.getD i 0 from by omega]
      have hi : i < rest.length := by rw [hlen]; exact hb.1.1
      rw [List.getD_eq_getElem?_getD,List.getElem?_eq_getElem hi]
      exact List.set_getElem_self hi
    rw [e,show now + ((0 : Nat) : Int) = now from by omega]
    exact hd
  | u + 1,hu => by
    have hil := hb.1.1
    have hi : i < rest.length := by rw [hlen]; exact hil
    have ih := Dom.run h hlen hr0 hb hd u (by omega)
    have hrel : (Jn l i).Rl ≤ now := hb.1.2.2
    have mi : ∀ w : Int,mine l (rest.set i w) now i = w := fun w => by unfold mine; rw [if_pos hrel,getD_set hi,if_pos rfl]
    have mj : ∀ (w : Int) j,j ≠ i → mine l (rest.set i w) now j = mine l rest now j := fun w j hne => by
      unfold mine; rw [getD_set hi,if_neg hne]
    refine unit (i := i) hil ih ?_ ?_ (fun j _ => left_nonneg _ _ j) (fun θ => ?_) ?_ ?_
    · rw [mi]; omega
    · intro j hj
      rw [mi]
      by_cases e : j = i
      · subst e; rw [mi]; exact .inr (Int.le_refl _)
      · rw [mj _ j e]
        unfold mine
        split
        · rename_i hrj
          by_cases h0 : rest.getD j 0 = 0
          · exact .inl h0
          · have := hb.2 j ⟨hj,h0,hrj⟩
            right
            omega
        · exact .inl rfl
    · rw [show now + ((u + 1 : Nat) : Int) = now + (u : Int) + 1 from by omega]
      exact left_step h _ _ θ
    · rw [mi,mi]; omega
    · intro j hj hne
      rw [mj _ j hne,mj _ j hne]
theorem Dom.release {l : List R63} {fT : Nat → Int} (h : Sched l fT) {rest : List Int} {τ t : Int} (ht : τ ≤ t) (hd : Dom l fT rest τ t) (hnew : ∀ j,j < l.length → τ < (Jn l j).Rl → (Jn l j).Rl ≤ t → (Jn l j).Rl = t ∧ rest.getD j 0 = (Jn l j).Ln) : Dom l fT rest t t := by
  intro θ hθ
  have e1 : G l.length θ (left l fT t t) = G l.length θ (left l fT τ t) + sumN (fun j => if τ < (Jn l j).Rl ∧ (Jn l j).Rl ≤ t then max 0 (θ - (Jn l j).Ln) - θ else 0) l.length := by
    refine sumN_add fun j hj => ?_
    have hp := h.pos j hj
    have hr := h.rel j hj
    unfold left
    by_cases c1 : (Jn l j).Rl ≤ τ
    · rw [if_pos c1,if_pos (show (Jn l j).Rl ≤ t from by omega),if_neg (by omega)]; omega
    · rw [if_neg c1]
      by_cases c2 : (Jn l j).Rl ≤ t
      · have := (hnew j hj (by omega) c2).1
        rw [if_pos c2,if_pos ⟨by omega,c2⟩,Int.min_eq_left (by omega),Int.max_eq_right (by omega : (0 : Int) ≤ (Jn l j).Ln),Int.max_eq_right (show (0 : Int) ≤ θ - 0 from by omega)]
        omega
      · rw [if_neg c2,if_neg (fun hh => c2 hh.2)]; omega
  have e2 : G l.length θ (mine l rest t) = G l.length θ (mine l rest τ) + sumN (fun j => if τ < (Jn l j).Rl ∧ (Jn l j).Rl ≤ t then max 0 (θ - (Jn l j).Ln) - θ else 0) l.length := by
    refine sumN_add fun j hj => ?_
    unfold mine
    by_cases c1 : (Jn l j).Rl ≤ τ
    · rw [if_pos c1,if_pos (show (Jn l j).Rl ≤ t from by omega),if_neg (by omega)]; omega
    · rw [if_neg c1]
      by_cases c2 : (Jn l j).Rl ≤ t
      · have := (hnew j hj (by omega) c2).2
        rw [if_pos c2,if_pos ⟨by omega,c2⟩,this,Int.max_eq_right (show (0 : Int) ≤ θ - 0 from by omega)]
        omega
      · rw [if_neg c2,if_neg (fun hh => c2 hh.2)]; omega
  have := hd θ hθ
  omega
end Go.AB
set_option linter.unusedVariables false
namespace Go.AB
open Go
structure RInv (l : List R63) (fT : Nat → Int) (F : Nat → Int) (now : Int) (rest out : List Int) : Prop where
  len : rest.length = l.length
  bdr : ∀ j,j < l.length → 0 ≤ rest.getD j 0 ∧ rest.getD j 0 ≤ (Jn l j).Ln
  unrel : ∀ j,j < l.length → now < (Jn l j).Rl → rest.getD j 0 = (Jn l j).Ln
  dom : Dom l fT rest now now
  cnt : (out.length : Int) = sumN (fun j => if rest.getD j 0 = 0 then 1 else 0) l.length
  out : ∀ k,k < out.length → out.getD k 0 ≤ F k
theorem run_out {l : List R63} {fT F : Nat → Int} (h : Sched l fT) (hF : ∀ k τ,k < l.length → F k ≤ τ → ((k : Int) + 1) ≤ sumN (fun j => if fT j ≤ τ then 1 else 0) l.length) {now : Int} {rest out o : List Int} (hr : Runs l now rest out o) :
    RInv l fT F now rest out → ∀ k,k < o.length → o.getD k 0 ≤ F k := by
  induction hr with
  | done _ => exact fun hI => hI.out
  | @idle now rest out o r hlt ha hn k ih =>
    intro hI
    obtain ⟨⟨j0,hj0,ej0⟩,hmin⟩ := hn
    have hnr : now < r := by rw [← ej0]; exact hj0.2.2
    refine ih ⟨hI.len,hI.bdr,fun j hj hrel => hI.unrel j hj (by omega),?_,hI.cnt,hI.out⟩
    refine Dom.release h (Int.le_of_lt hnr) (fun θ hθ => ?_) fun j hj h1 h2 => ?_
    · refine sumN_le fun j hj => ?_
      have hz : mine l rest now j = 0 := by
        unfold mine
        split
        · rename_i hrj
          exact Classical.byContradiction fun hne => ha j ⟨hj,hne,hrj⟩
        · rfl
      rw [hz]
      have := left_nonneg (l := l) (fT := fT) now r j
      refine Int.max_le.2 ⟨Int.le_max_left _ _,?_⟩
      have := Int.le_max_right 0 (θ - 0)
      omega
    · have e := hI.unrel j hj h1
      have hp := h.pos j hj
      have := hmin j ⟨hj,by omega,h1⟩
      exact ⟨by omega,e⟩
  | @part now rest out o r i hlt hb hn hr k ih =>
    intro hI
    obtain ⟨⟨j0,hj0,ej0⟩,hmin⟩ := hn
    have hnr : now < r := by rw [← ej0]; exact hj0.2.2
    have hil := hb.1.1
    have hi : i < rest.length := by rw [hI.len]; exact hil
    have hbi := hI.bdr i hil
    have hd := Dom.run h hI.len (fun j hj => (hI.bdr j hj).1) hb hI.dom (r - now).toNat (by omega)
    rw [show ((r - now).toNat : Int) = r - now from by omega,show now + (r - now) = r from by omega] at hd
    have hne : ∀ j,j < l.length → now < (Jn l j).Rl → j ≠ i := fun j hj h1 e => by subst e; have := hb.1.2.2; omega
    refine ih ⟨by simpa using hI.len,fun j hj => ?_,fun j hj hrel => ?_,?_,?_,hI.out⟩
    · rw [getD_set hi]
      split
      · rename_i e; subst e; omega
      · exact hI.bdr j hj
    · rw [getD_set hi,if_neg (hne j hj (by omega))]
      exact hI.unrel j hj (by omega)
    · refine Dom.release h (Int.le_of_lt hnr) hd fun j hj h1 h2 => ?_
      have e := hI.unrel j hj h1
      have hp := h.pos j hj
      have := hmin j ⟨hj,by omega,h1⟩
      rw [getD_set hi,if_neg (hne j hj h1)]
      exact ⟨by omega,e⟩
    · rw [hI.cnt]
      refine sumN_congr fun j hj => ?_
      rw [getD_set hi]
      by_cases e : j = i
      · subst e
        rw [if_pos rfl,if_neg (by omega),if_neg (by omega)]
      · rw [if_neg e]
  | @fin now rest out o i hlt hb hn k ih =>
    intro hI
    have hil := hb.1.1
    have hi : i < rest.length := by rw [hI.len]; exact hil
    have hbi := hI.bdr i hil
    have hri : 1 ≤ rest.getD i 0 := by have := hb.1.2.1; omega
    have hd := Dom.run h hI.len (fun j hj => (hI.bdr j hj).1) hb hI.dom (rest.getD i 0).toNat (by omega)
    rw [show ((rest.getD i 0).toNat : Int) = rest.getD i 0 from by omega,Int.sub_self] at hd
    have hne : ∀ j,j < l.length → now < (Jn l j).Rl → j ≠ i := fun j hj h1 e => by subst e; have := hb.1.2.2; omega
    have hfut : ∀ j,j < l.length → now < (Jn l j).Rl → now + rest.getD i 0 ≤ (Jn l j).Rl := fun j hj h1 => by
      have e := hI.unrel j hj h1
      have hp := h.pos j hj
      exact hn j ⟨hj,by omega,h1⟩
    refine ih ⟨by simpa using hI.len,fun j hj => ?_,fun j hj hrel => ?_,?_,?_,fun k hk => ?_⟩
    · rw [getD_set hi]
      split
      · rename_i e; subst e; omega
      · exact hI.bdr j hj
    · rw [getD_set hi,if_neg (hne j hj (by omega))]
      exact hI.unrel j hj (by omega)
    · refine Dom.release h (by omega) hd fun j hj h1 h2 => ?_
      have e := hI.unrel j hj h1
      have := hfut j hj h1
      rw [getD_set hi,if_neg (hne j hj h1)]
      exact ⟨by omega,e⟩
    · have e := sumN_one (f := fun j => if (rest.set i 0).getD j 0 = 0 then (1 : Int) else 0) (g := fun j => if rest.getD j 0 = 0 then (1 : Int) else 0) hil fun j hj hne => by
        show (if (rest.set i 0).getD j 0 = 0 then (1 : Int) else 0) = _
        rw [getD_set hi,if_neg hne]
      rw [e,List.length_append,List.length_singleton,← hI.cnt]
      rw [getD_set hi,if_pos rfl,if_pos rfl,if_neg (by omega)]
      omega
    · rw [List.length_append,List.length_singleton] at hk
      rcases Nat.lt_or_ge k out.length with h1 | h1
      · rw [List.getD_eq_getElem?_getD,List.getElem?_append_left h1,← List.getD_eq_getElem?_getD]
        exact hI.out k h1
      · have hk' : k = out.length := by omega
        subst hk'
        rw [List.getD_eq_getElem?_getD,List.getElem?_append_right (Nat.le_refl _),Nat.sub_self]
        show now + rest.getD i 0 ≤ F out.length
        apply Classical.byContradiction
        intro hcon
        have hd2 := Dom.run h hI.len (fun j hj => (hI.bdr j hj).1) hb hI.dom (rest.getD i 0 - 1).toNat (by omega)
        rw [show ((rest.getD i 0 - 1).toNat : Int) = rest.getD i 0 - 1 from by omega,show rest.getD i 0 - (rest.getD i 0 - 1) = 1 from by omega] at hd2
        have hc := hF out.length (now + (rest.getD i 0 - 1)) hlt (by omega)
        have h2 := hd2 1 (by omega)
        have h3 : G l.length 1 (mine l (rest.set i 1) now) = sumN (fun j => if rest.getD j 0 = 0 then 1 else 0) l.length + sumN (fun j => if now < (Jn l j).Rl then 1 else 0) l.length := by
          refine sumN_add fun j hj => ?_
          have hbj := hI.bdr j hj
          have hp := h.pos j hj
          unfold mine
          by_cases c : (Jn l j).Rl ≤ now
          · rw [if_pos c,if_neg (show ¬ now < (Jn l j).Rl from by omega),getD_set hi]
            by_cases e : j = i
            · subst e
              rw [if_pos rfl,if_neg (by omega)]; rfl
            · rw [if_neg e]
              by_cases c0 : rest.getD j 0 = 0
              · rw [if_pos c0,c0]; rfl
              · rw [if_neg c0,Int.max_eq_left (by omega)]; rfl
          · have := hI.unrel j hj (by omega)
            rw [if_neg c,if_pos (show now < (Jn l j).Rl from by omega),if_neg (by omega)]; rfl
        have h4 : sumN (fun j => if fT j ≤ now + (rest.getD i 0 - 1) then 1 else 0) l.length + sumN (fun j => if now < (Jn l j).Rl then 1 else 0) l.length ≤ G l.length 1 (left l fT now (now + (rest.getD i 0 - 1))) := by
          rw [← sumN_add (f := fun j => (if fT j ≤ now + (rest.getD i 0 - 1) then (1 : Int) else 0) + (if now < (Jn l j).Rl then 1 else 0)) fun j hj => rfl]
          refine sumN_le fun j hj => ?_
          have hp := h.pos j hj
          have hrl := h.rel j hj
          unfold left
          by_cases c : (Jn l j).Rl ≤ now
          · rw [if_pos c,if_neg (show ¬ now < (Jn l j).Rl from by omega)]
            by_cases c2 : fT j ≤ now + (rest.getD i 0 - 1)
            · rw [if_pos c2,Int.max_eq_left (show min (Jn l j).Ln (fT j - (now + (rest.getD i 0 - 1))) ≤ 0 from Int.le_trans (Int.min_le_right _ _) (by omega))]
              exact Int.le_refl _
            · rw [if_neg c2]; exact Int.le_max_left _ _
          · have := hfut j hj (by omega)
            rw [if_neg c,if_pos (show now < (Jn l j).Rl from by omega),if_neg (by omega)]
            exact Int.le_refl _
        rw [h3,← hI.cnt] at h2
        omega
theorem fin_ge (l : List R63) : ∀ (o : List Int) (t : Int) (k : Nat),k < o.length → t + (J l (o.getD k 0)).Ln ≤ (fin l t o).getD k 0 + 0 * t ∧ (J l (o.getD k 0)).Rl + (J l (o.getD k 0)).Ln ≤ (fin l t o).getD k 0 ∨ ¬ (∀ x,x ∈ o → 0 ≤ (J l x).Ln)
  | [],_,_,h => absurd h (by simp)
  | i :: o,t,0,_ => by
    left
    have h1 := Int.le_max_left t (J l i).Rl
    have h2 := Int.le_max_right t (J l i).Rl
    simp only [fin,List.getD_cons_zero]
    omega
  | i :: o,t,k + 1,h => by
    by_cases hc : ∀ x,x ∈ i :: o → 0 ≤ (J l x).Ln
    · left
      have h1 := Int.le_max_left t (J l i).Rl
      have hi := hc i (by simp)
      rcases fin_ge l o (max t (J l i).Rl + (J l i).Ln) k (by simpa using h) with ih | ih
      · simp only [fin,List.getD_cons_succ]
        omega
      · exact absurd (fun x hx => hc x (by simp [hx])) ih
    · exact .inr hc
theorem fin_rel {l : List R63} {o : List Int} (hp : ∀ x,x ∈ o → 0 ≤ (J l x).Ln) {k : Nat} (hk : k < o.length) : (J l (o.getD k 0)).Rl + (J l (o.getD k 0)).Ln ≤ (fin l 0 o).getD k 0 := by
  rcases fin_ge l o 0 k hk with h | h
  · exact h.2
  · exact absurd hp h
theorem fin_asc (l : List R63) : ∀ (o : List Int) (t : Int) (m k : Nat),(∀ x,x ∈ o → 0 ≤ (J l x).Ln) → m < k → k < o.length → (fin l t o).getD m 0 + (J l (o.getD k 0)).Ln ≤ (fin l t o).getD k 0
  | [],_,_,_,_,_,h => absurd h (by simp)
  | i :: o,t,m,0,_,h,_ => absurd h (Nat.not_lt_zero _)
  | i :: o,t,0,k + 1,hp,_,hk => by
    rcases fin_ge l o (max t (J l i).Rl + (J l i).Ln) k (by simpa using hk) with h | h
    · simp only [fin,List.getD_cons_zero,List.getD_cons_succ]
      omega
    · exact absurd (fun x hx => hp x (by simp [hx])) h
  | i :: o,t,m + 1,k + 1,hp,h,hk => by
    have := fin_asc l o (max t (J l i).Rl + (J l i).Ln) m k (fun x hx => hp x (by simp [hx])) (by omega) (by simpa using hk)
    simpa only [fin,List.getD_cons_succ] using this
def sumL (g : Int → Int) : List Int → Int
  | [] => 0
  | x :: l => g x + sumL g l
theorem sumL_perm {g : Int → Int} {a b : List Int} (h : a.Perm b) : sumL g a = sumL g b := by
  induction h with
  | nil => rfl
  | cons x _ ih => simp only [sumL,ih]
  | swap x y l => simp only [sumL]; omega
  | trans _ _ h1 h2 => exact h1.trans h2
theorem sumL_app (g : Int → Int) (a : List Int) (x : Int) : sumL g (a ++ [x]) = sumL g a + g x := by
  induction a with
  | nil => simp [sumL]
  | cons y a ih => simp only [List.cons_append,sumL,ih]; omega
theorem sumL_range (g : Int → Int) : ∀ n : Nat,sumL g ((List.range n).map fun i : Nat => (i : Int)) = sumN (fun j => g (j : Int)) n
  | 0 => rfl
  | n + 1 => by
    rw [List.range_succ,List.map_append,List.map_singleton,sumL_app,sumL_range g n,sumN]
theorem sumL_getD (g : Int → Int) (o : List Int) : sumL g o = sumN (fun m => g (o.getD m 0)) o.length := by
  have : ∀ k,k ≤ o.length → sumL g (o.take k) = sumN (fun m => g (o.getD m 0)) k := by
    intro k
    induction k with
    | zero => intro _; rfl
    | succ k ih =>
      intro hk
      rw [List.take_succ_eq_append_getElem (by omega),sumL_app,ih (by omega),sumN]
      simp [show k < o.length from by omega]
  have := this o.length (Nat.le_refl _)
  rwa [List.take_length] at this
theorem comp_perm {l : List R63} {o : List Int} (h : comp l o) : ((List.range l.length).map fun i : Nat => (i : Int)).Perm o := by
  obtain ⟨hn,hr⟩ := ord_iff.1 h.1
  refine (List.perm_ext_iff_of_nodup ?_ hn).2 fun x => ?_
  · refine List.Pairwise.map (R := fun a b => a ≠ b) _ ?_ List.nodup_range
    intro a b hab hcon
    exact hab (Int.ofNat.inj hcon)
  · constructor
    · intro hx
      simp only [List.mem_map,List.mem_range] at hx
      obtain ⟨i,hi,rfl⟩ := hx
      apply Classical.byContradiction
      intro hm
      have h1 := nodup_le l.length (o ++ [(i : Int)]) (ord_iff.1 (ord_snoc h.1 hi hm)).1 (ord_iff.1 (ord_snoc h.1 hi hm)).2
      have h2 := h.2
      rw [List.length_append,List.length_singleton] at h1
      omega
    · intro hx
      have := hr x hx
      simp only [List.mem_map,List.mem_range]
      exact ⟨x.toNat,by omega,by omega⟩
theorem sum_order {l : List R63} {o : List Int} (h : comp l o) (g : Int → Int) : sumN (fun j => g (j : Int)) l.length = sumN (fun m => g (o.getD m 0)) l.length := by
  rw [← sumL_range,sumL_perm (comp_perm h),sumL_getD,h.2]
end Go.AB
set_option linter.unusedVariables false
namespace Go.AB
open Go
theorem J_nat (l : List R63) (j : Nat) : J l (j : Int) = Jn l j := by unfold J Jn; simp
theorem val_late (l : List R63) (o : List Int) : val l o false = sumN (fun m => max 0 ((fin l 0 o).getD m 0 - (J l (o.getD m 0)).Due)) o.length := by
  unfold val
  rw [← sumN_fold]
  exact foldN_congr fun i hi s => by rw [if_neg (by simp)]; rfl
def fTo (l : List R63) (o : List Int) (j : Nat) : Int := (fin l 0 o).getD (o.idxOf (j : Int)) 0
theorem idx_at {o : List Int} (hn : o.Nodup) {m : Nat} (hm : m < o.length) : o.idxOf (o.getD m 0) = m := by
  rw [List.getD_eq_getElem?_getD,List.getElem?_eq_getElem hm]
  exact List.Nodup.idxOf_getElem hn m hm
theorem at_idx {o : List Int} {x : Int} (h : x ∈ o) : o.getD (o.idxOf x) 0 = x := by
  have hl := List.idxOf_lt_length_of_mem h
  rw [List.getD_eq_getElem?_getD,List.getElem?_eq_getElem hl]
  exact List.getElem_idxOf hl
theorem comp_mem {l : List R63} {o : List Int} (h : comp l o) {j : Nat} (hj : j < l.length) : (j : Int) ∈ o :=
  (comp_perm h).subset (List.mem_map.2 ⟨j,List.mem_range.2 hj,rfl⟩)
theorem sched_of {l : List R63} {o : List Int} (hp : ∀ y,y ∈ l → 1 ≤ y.Ln) (h : comp l o) : Sched l (fTo l o) := by
  have hpo : ∀ x,x ∈ o → 0 ≤ (J l x).Ln := fun x hx => by
    have h1 := (ord_iff.1 h.1).2 x hx
    have := hp _ (J_mem h1.1 h1.2)
    omega
  have hpos : ∀ j,j < l.length → 1 ≤ (Jn l j).Ln := fun j hj => hp _ (Jn_mem hj)
  refine ⟨fun j hj => ?_,hpos,fun i j hi hj hne => ?_⟩
  · have hm := comp_mem h hj
    have := fin_rel hpo (List.idxOf_lt_length_of_mem hm)
    rw [at_idx hm,J_nat] at this
    exact this
  · have mi := comp_mem h hi
    have mj := comp_mem h hj
    have hij : o.idxOf (i : Int) ≠ o.idxOf (j : Int) := fun e => by
      have := congrArg (fun k => o.getD k 0) e
      simp only [at_idx mi,at_idx mj] at this
      exact hne (Int.ofNat.inj this)
    rcases Nat.lt_or_ge (o.idxOf (i : Int)) (o.idxOf (j : Int)) with hlt | hge
    · left
      have := fin_asc l o 0 _ _ hpo hlt (List.idxOf_lt_length_of_mem mj)
      rw [at_idx mj,J_nat] at this
      unfold fTo; omega
    · right
      have := fin_asc l o 0 _ _ hpo (show o.idxOf (j : Int) < o.idxOf (i : Int) from by omega) (List.idxOf_lt_length_of_mem mi)
      rw [at_idx mi,J_nat] at this
      unfold fTo; omega
theorem fin_mono {l : List R63} {o : List Int} (hp : ∀ x,x ∈ o → 0 ≤ (J l x).Ln) {m k : Nat} (hmk : m ≤ k) (hk : k < o.length) : (fin l 0 o).getD m 0 ≤ (fin l 0 o).getD k 0 := by
  rcases Nat.lt_or_ge m k with h | h
  · have h1 := fin_asc l o 0 m k hp h hk
    have h2 := hp _ (getD_mem hk)
    omega
  · have : m = k := by omega
    rw [this]; exact Int.le_refl _
theorem sched_count {l : List R63} {o : List Int} (hp : ∀ y,y ∈ l → 1 ≤ y.Ln) (h : comp l o) (k : Nat) (τ : Int) (hk : k < l.length) (hF : (fin l 0 o).getD k 0 ≤ τ) : ((k : Int) + 1) ≤ sumN (fun j => if fTo l o j ≤ τ then 1 else 0) l.length := by
  have hpo : ∀ x,x ∈ o → 0 ≤ (J l x).Ln := fun x hx => by
    have h1 := (ord_iff.1 h.1).2 x hx
    have := hp _ (J_mem h1.1 h1.2)
    omega
  have e := sum_order h (fun x => if (fin l 0 o).getD (o.idxOf x) 0 ≤ τ then 1 else 0)
  have e0 : sumN (fun j => if fTo l o j ≤ τ then (1 : Int) else 0) l.length = sumN (fun j => (fun x => if (fin l 0 o).getD (o.idxOf x) 0 ≤ τ then (1 : Int) else 0) (j : Int)) l.length := rfl
  rw [e0,e]
  have e2 : sumN (fun m => (fun x => if (fin l 0 o).getD (o.idxOf x) 0 ≤ τ then (1 : Int) else 0) (o.getD m 0)) l.length = sumN (fun m => if (fin l 0 o).getD m 0 ≤ τ then (1 : Int) else 0) l.length := sumN_congr fun m hm => by
    show (if (fin l 0 o).getD (o.idxOf (o.getD m 0)) 0 ≤ τ then (1 : Int) else 0) = _
    rw [idx_at (ord_iff.1 h.1).1 (by rw [h.2]; exact hm)]
  rw [e2]
  have e3 : ∀ N,sumN (fun m => if m ≤ k then (1 : Int) else 0) N = if N ≤ k + 1 then (N : Int) else (k : Int) + 1 := by
    intro N
    induction N with
    | zero => simp [sumN]
    | succ N ih =>
      rw [sumN,ih]
      by_cases c : N ≤ k
      · rw [if_pos (by omega),if_pos c,if_pos (by omega)]; omega
      · rw [if_neg c,if_neg (show ¬ N + 1 ≤ k + 1 from by omega)]
        split <;> omega
  have h5 : sumN (fun m => if m ≤ k then (1 : Int) else 0) l.length ≤ sumN (fun m => if (fin l 0 o).getD m 0 ≤ τ then (1 : Int) else 0) l.length := sumN_le fun m hm => by
    by_cases c : m ≤ k
    · have := fin_mono hpo c (by rw [h.2]; exact hk)
      rw [if_pos c,if_pos (by omega)]; exact Int.le_refl _
    · rw [if_neg c]; split <;> omega
  rw [e3] at h5
  split at h5 <;> omega
def lens (l : List R63) : List Int := l.map (·.Ln)
theorem lens_at {l : List R63} {j : Nat} (hj : j < l.length) : (lens l).getD j 0 = (Jn l j).Ln := by
  unfold lens Jn
  simp [hj]
theorem runs_least {l : List R63} {o out : List Int} (hp : ∀ y,y ∈ l → 1 ≤ y.Ln) (hr0 : ∀ y,y ∈ l → 0 ≤ y.Rl) (h : comp l o) (hr : Runs l 0 (lens l) [] out) : ∀ k,k < out.length → out.getD k 0 ≤ (fin l 0 o).getD k 0 := by
  have hs := sched_of hp h
  refine run_out (F := fun k => (fin l 0 o).getD k 0) hs (fun k τ hk hF => sched_count hp h k τ hk hF) hr ⟨by simp [lens],fun j hj => ?_,fun j hj _ => lens_at hj,?_,?_,fun k hk => absurd hk (by simp)⟩
  · rw [lens_at hj]
    have := hp _ (Jn_mem hj)
    omega
  · intro θ hθ
    have : ∀ j,j < l.length → left l (fTo l o) 0 0 j = mine l (lens l) 0 j := fun j hj => by
      unfold left mine
      have h1 := hs.rel j hj
      have h2 := hp _ (Jn_mem hj)
      have h3 := hr0 _ (Jn_mem hj)
      split
      · rw [lens_at hj,Int.min_eq_left (by omega),Int.max_eq_right (by omega)]
      · rfl
    refine sumN_le fun j hj => ?_
    rw [this j hj]
    exact Int.le_refl _
  · rw [sumN_zero fun j hj => by rw [lens_at hj]; exact if_neg (by have := hp _ (Jn_mem hj); omega)]
    rfl
def costL : List Int → List Int → Int
  | t :: F,d :: D => max 0 (t - d) + costL F D
  | _,_ => 0
theorem cost_front : ∀ (F D : List Int) (m : Int),F.Pairwise (· ≤ ·) → F.length = D.length → m ∈ D → (∀ d,d ∈ D → m ≤ d) → costL F (m :: D.erase m) ≤ costL F D
  | [],D,m,_,hl,hm,_ => by cases D <;> simp_all
  | t :: F,[],m,_,hl,_,_ => by simp at hl
  | t :: F,d :: D,m,hF,hl,hm,hmin => by
    by_cases e : d = m
    · subst e
      rw [List.erase_cons_head]
      exact Int.le_refl _
    · have hmD : m ∈ D := by
        rcases List.mem_cons.1 hm with h | h
        · exact absurd h.symm e
        · exact h
      rw [List.erase_cons_tail (by simpa using e)]
      rw [List.pairwise_cons] at hF
      match F,hF,hl with
      | [],_,hl => 
        have := List.length_pos_of_mem hmD
        rw [List.length_cons,List.length_cons,List.length_nil] at hl
        omega
      | t' :: F,hF,hl =>
        have ih := cost_front (t' :: F) D m hF.2 (by simpa using hl) hmD (fun x hx => hmin x (by simp [hx]))
        have h1 := hF.1 t' (by simp)
        have h2 := hmin d (by simp)
        simp only [costL] at ih ⊢
        have : max 0 (t - m) + max 0 (t' - d) ≤ max 0 (t - d) + max 0 (t' - m) := by
          rw [Int.max_def,Int.max_def,Int.max_def,Int.max_def]
          split <;> split <;> split <;> split <;> omega
        omega
theorem cost_sorted : ∀ (F D S : List Int),F.Pairwise (· ≤ ·) → F.length = D.length → S.Perm D → S.Pairwise (· ≤ ·) → costL F S ≤ costL F D
  | [],D,S,_,hl,hp,_ => by
    have : D = [] := List.eq_nil_of_length_eq_zero hl.symm
    subst this
    rw [List.perm_nil.1 hp]; exact Int.le_refl _
  | t :: F,D,[],_,hl,hp,_ => by
    have := hp.length_eq
    simp at this hl
    omega
  | t :: F,D,m :: S,hF,hl,hp,hS => by
    have hm : m ∈ D := hp.subset (by simp)
    rw [List.pairwise_cons] at hS
    have hmin : ∀ d,d ∈ D → m ≤ d := fun d hd => by
      rcases List.mem_cons.1 (hp.symm.subset hd) with h | h
      · rw [h]; exact Int.le_refl _
      · exact hS.1 d h
    refine Int.le_trans ?_ (cost_front (t :: F) D m hF hl hm hmin)
    have hp2 : S.Perm (D.erase m) := by
      have := hp.erase m
      rwa [List.erase_cons_head] at this
    have ih := cost_sorted F (D.erase m) S (List.pairwise_cons.1 hF).2 (by rw [List.length_erase_of_mem hm]; simp at hl; omega) hp2 hS.2
    simp only [costL]
    omega
theorem costL_sum : ∀ (F D : List Int),F.length = D.length → costL F D = sumN (fun k => max 0 (F.getD k 0 - D.getD k 0)) F.length
  | [],D,_ => rfl
  | t :: F,[],h => by simp at h
  | t :: F,d :: D,h => by
    have ih := costL_sum F D (by simpa using h)
    simp only [costL,List.length_cons]
    rw [ih]
    have : ∀ (g : Nat → Int) n,sumN g (n + 1) = g 0 + sumN (fun k => g (k + 1)) n := by
      intro g n
      induction n with
      | zero => simp [sumN]
      | succ n ih => rw [sumN,ih,sumN]; omega
    rw [this]
    rfl
theorem fin_pairwise {l : List R63} {o : List Int} (hp : ∀ x,x ∈ o → 0 ≤ (J l x).Ln) : (fin l 0 o).Pairwise (· ≤ ·) := by
  rw [List.pairwise_iff_getElem]
  intro m k hm hk hmk
  rw [fin_len] at hm hk
  have := fin_mono hp (Nat.le_of_lt hmk) hk
  simpa [fin_len,hm,hk] using this
theorem sum_least {l : List R63} {o out ds : List Int} (hp : ∀ y,y ∈ l → 1 ≤ y.Ln) (hr0 : ∀ y,y ∈ l → 0 ≤ y.Rl) (h : comp l o) (hr : Runs l 0 (lens l) [] out) (hol : out.length = l.length) (hds : ds.Perm (l.map (·.Due))) (hs : ds.Pairwise (· ≤ ·)) :
    sumN (fun k => max 0 (out.getD k 0 - ds.getD k 0)) l.length ≤ val l o false := by
  have hpo : ∀ x,x ∈ o → 0 ≤ (J l x).Ln := fun x hx => by
    have h1 := (ord_iff.1 h.1).2 x hx
    have := hp _ (J_mem h1.1 h1.2)
    omega
  have h1 := runs_least hp hr0 h hr
  have dl : ds.length = l.length := by rw [hds.length_eq]; simp
  refine Int.le_trans (sumN_le (g' := fun k => max 0 ((fin l 0 o).getD k 0 - ds.getD k 0)) fun k hk => ?_) ?_
  · have := h1 k (by omega)
    refine Int.max_le.2 ⟨Int.le_max_left _ _,?_⟩
    have := Int.le_max_right 0 ((fin l 0 o).getD k 0 - ds.getD k 0)
    omega
  · have pd : (o.map fun x => (J l x).Due).Perm (l.map (·.Due)) := by
      have := (comp_perm h).symm.map (fun x => (J l x).Due)
      refine this.trans ?_
      rw [List.map_map]
      have : (List.range l.length).map ((fun x => (J l x).Due) ∘ fun i : Nat => (i : Int)) = l.map (·.Due) := by
        apply List.ext_getElem
        · simp
        · intro i h1 h2
          simp at h1
          simp [J_nat,Jn,h1]
      rw [this]
    have hl : (fin l 0 o).length = (o.map fun x => (J l x).Due).length := by rw [fin_len]; simp
    have h2 := cost_sorted (fin l 0 o) (o.map fun x => (J l x).Due) ds (fin_pairwise hpo) hl (hds.trans pd.symm) hs
    rw [costL_sum _ _ (by rw [fin_len,dl,h.2]),costL_sum _ _ hl,fin_len,h.2] at h2
    refine Int.le_trans h2 (Int.le_of_eq ?_)
    rw [val_late,h.2]
    refine sumN_congr fun m hm => ?_
    have hmo : m < o.length := by rw [h.2]; exact hm
    simp [hmo]
end Go.AB

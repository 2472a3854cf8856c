import Derived.Test.YtpccmcepgllccaaLd
import Derived.Test.YtpccmcepgllccaaLf
set_option linter.unusedVariables false
namespace Go.AB
open Go
def act (l : List R38) (now : Int) (rest : List Int) (i : Nat) : Prop := i < l.length ∧ rest.getD i 0 ≠ 0 ∧ (Jn l i).Release ≤ now
def fut (l : List R38) (now : Int) (rest : List Int) (j : Nat) : Prop := j < l.length ∧ rest.getD j 0 ≠ 0 ∧ now < (Jn l j).Release
def isBest (l : List R38) (now : Int) (rest : List Int) (i : Nat) : Prop := act l now rest i ∧ ∀ j,act l now rest j → rest.getD i 0 < rest.getD j 0 ∨ (rest.getD i 0 = rest.getD j 0 ∧ i ≤ j)
def isNext (l : List R38) (now : Int) (rest : List Int) (r : Int) : Prop := (∃ j,fut l now rest j ∧ (Jn l j).Release = r) ∧ ∀ j,fut l now rest j → r ≤ (Jn l j).Release
inductive Runs (l : List R38) : Int → List Int → List Int → List Int → Prop
  | done {now : Int} {rest out : List Int} (h : l.length ≤ out.length) : Runs l now rest out out
  | idle {now : Int} {rest out o : List Int} {r : Int} (h : out.length < l.length) (ha : ∀ i,¬ act l now rest i) (hn : isNext l now rest r) (k : Runs l r rest out o) : Runs l now rest out o
  | part {now : Int} {rest out o : List Int} {r : Int} {i : Nat} (h : out.length < l.length) (hb : isBest l now rest i) (hn : isNext l now rest r) (hr : r < now + rest.getD i 0) (k : Runs l r (rest.set i (rest.getD i 0 - (r - now))) out o) : Runs l now rest out o
  | fin {now : Int} {rest out o : List Int} {i : Nat} (h : out.length < l.length) (hb : isBest l now rest i) (hn : ∀ j,fut l now rest j → now + rest.getD i 0 ≤ (Jn l j).Release)
      (k : Runs l (now + rest.getD i 0) (rest.set i 0) (out ++ [now + rest.getD i 0]) o) : Runs l now rest out o
theorem isBest.uniq {l : List R38} {now : Int} {rest : List Int} {i j : Nat} (h : isBest l now rest i) (h' : isBest l now rest j) : i = j := by
  have h1 := h.2 j h'.1
  have h2 := h'.2 i h.1
  omega
theorem isNext.uniq {l : List R38} {now : Int} {rest : List Int} {r s : Int} (h : isNext l now rest r) (h' : isNext l now rest s) : r = s := by
  obtain ⟨⟨j,hj,e⟩,h2⟩ := h
  obtain ⟨⟨k,hk,e'⟩,h3⟩ := h'
  have := h2 k hk
  have := h3 j hj
  omega
theorem Runs.uniq {l : List R38} {now : Int} {rest out o : List Int} (h : Runs l now rest out o) : ∀ {o' : List Int},Runs l now rest out o' → o = o' := by
  induction h with
  | done h =>
    intro o' h'
    cases h' with
    | done _ => rfl
    | idle h2 => omega
    | part h2 => omega
    | fin h2 => omega
  | idle h ha hn k ih =>
    intro o' h'
    cases h' with
    | done h2 => omega
    | idle _ _ hn' k' => exact ih (by rw [hn.uniq hn']; exact k')
    | part _ hb => exact absurd hb.1 (ha _)
    | fin _ hb => exact absurd hb.1 (ha _)
  | part h hb hn hr k ih =>
    intro o' h'
    cases h' with
    | done h2 => omega
    | idle _ ha => exact absurd hb.1 (ha _)
    | part _ hb' hn' hr' k' =>
      have e := hb.uniq hb'
      have e2 := hn.uniq hn'
      subst e e2
      exact ih k'
    | fin _ hb' hn' =>
      have e := hb.uniq hb'
      subst e
      obtain ⟨⟨j,hj,e⟩,_⟩ := hn
      have := hn' j hj
      omega
  | fin h hb hn k ih =>
    intro o' h'
    cases h' with
    | done h2 => omega
    | idle _ ha => exact absurd hb.1 (ha _)
    | part _ hb' hn' hr' k' =>
      have e := hb.uniq hb'
      subst e
      obtain ⟨⟨j,hj,e⟩,_⟩ := hn'
      have := hn j hj
      omega
    | fin _ hb' _ k' =>
      have e := hb.uniq hb'
      subst e
      exact ih k'
def later (c : Int) (l l' : List R38) : Prop := l'.length = l.length ∧ ∀ j,j < l.length → (Jn l' j).Release = (Jn l j).Release + c
section
variable {c : Int} {l l' : List R38} (hc : later c l l') {now : Int} {rest : List Int}
include hc
theorem later.act {i : Nat} : act l' (now + c) rest i ↔ act l now rest i := by
  unfold Go.AB.act
  constructor
  · rintro ⟨h1,h2,h3⟩
    have := hc.2 i (by rw [← hc.1]; exact h1)
    exact ⟨by rw [← hc.1]; exact h1,h2,by omega⟩
  · rintro ⟨h1,h2,h3⟩
    have := hc.2 i h1
    exact ⟨by rw [hc.1]; exact h1,h2,by omega⟩
theorem later.fut {i : Nat} : fut l' (now + c) rest i ↔ fut l now rest i := by
  unfold Go.AB.fut
  constructor
  · rintro ⟨h1,h2,h3⟩
    have := hc.2 i (by rw [← hc.1]; exact h1)
    exact ⟨by rw [← hc.1]; exact h1,h2,by omega⟩
  · rintro ⟨h1,h2,h3⟩
    have := hc.2 i h1
    exact ⟨by rw [hc.1]; exact h1,h2,by omega⟩
theorem later.best {i : Nat} (h : isBest l now rest i) : isBest l' (now + c) rest i := ⟨(later.act hc).2 h.1,fun j hj => h.2 j ((later.act hc).1 hj)⟩
theorem later.next {r : Int} (h : isNext l now rest r) : isNext l' (now + c) rest (r + c) := by
  obtain ⟨⟨j,hj,e⟩,h2⟩ := h
  refine ⟨⟨j,(later.fut hc).2 hj,by rw [hc.2 j hj.1,e]⟩,fun k hk => ?_⟩
  have hk' := (later.fut hc).1 hk
  have := h2 k hk'
  rw [hc.2 k hk'.1]
  omega
end
theorem Runs.later {c : Int} {l l' : List R38} (hc : later c l l') {now : Int} {rest out o : List Int} (h : Runs l now rest out o) : Runs l' (now + c) rest (out.map (· + c)) (o.map (· + c)) := by
  induction h with
  | done h => exact .done (by rw [hc.1]; simpa using h)
  | idle h ha hn k ih => exact .idle (by rw [hc.1]; simpa using h) (fun i hi => ha i ((later.act hc).1 hi)) (later.next hc hn) ih
  | @part now rest out o r i h hb hn hr k ih =>
    refine .part (r := r + c) (by rw [hc.1]; simpa using h) (later.best hc hb) (later.next hc hn) (by omega) ?_
    rw [show r + c - (now + c) = r - now from by omega]
    exact ih
  | @fin now rest out o i h hb hn k ih =>
    refine .fin (by rw [hc.1]; simpa using h) (later.best hc hb) (fun j hj => ?_) ?_
    · have hj' := (later.fut hc).1 hj
      have := hn j hj'
      rw [hc.2 j hj'.1]
      omega
    · rw [show now + c + rest.getD i 0 = now + rest.getD i 0 + c from by omega]
      rw [List.map_append] at ih
      exact ih
theorem Runs.ahead {l : List R38} {c now : Int} {rest o : List Int} (hnow : now ≤ c) (hr : ∀ j,j < l.length → c ≤ (Jn l j).Release) (h0 : ∀ j,j < l.length → rest.getD j 0 ≠ 0) (h : Runs l c rest [] o) : Runs l now rest [] o := by
  rcases Int.lt_or_eq_of_le hnow with hlt | rfl
  · rcases Nat.eq_zero_or_pos l.length with hl | hl
    · have e : o = [] := (h.uniq (.done (by simp [hl]))).trans rfl
      rw [e]; exact .done (by simp [hl])
    · have na : ∀ i,¬ act l now rest i := fun i hi => by
        have := hr i hi.1
        have := hi.2.2
        omega
      -- the earliest release
      have ex : ∃ r,(∃ j,j < l.length ∧ (Jn l j).Release = r) ∧ ∀ j,j < l.length → r ≤ (Jn l j).Release := by
        have key : ∀ k,k < l.length → ∃ r,(∃ j,j ≤ k ∧ (Jn l j).Release = r) ∧ ∀ j,j ≤ k → r ≤ (Jn l j).Release := by
          intro k
          induction k with
          | zero => exact fun _ => ⟨_,⟨0,Nat.le_refl _,rfl⟩,fun j hj => by rw [show j = 0 from by omega]; exact Int.le_refl _⟩
          | succ k ih =>
            intro hk
            obtain ⟨r,⟨j,hj,e⟩,h2⟩ := ih (by omega)
            by_cases hc : (Jn l (k + 1)).Release < r
            · refine ⟨_,⟨k + 1,Nat.le_refl _,rfl⟩,fun i hi => ?_⟩
              by_cases e2 : i = k + 1
              · rw [e2]; exact Int.le_refl _
              · have := h2 i (by omega)
                omega
            · refine ⟨r,⟨j,by omega,e⟩,fun i hi => ?_⟩
              by_cases e2 : i = k + 1
              · rw [e2]; omega
              · exact h2 i (by omega)
        obtain ⟨r,⟨j,hj,e⟩,h2⟩ := key (l.length - 1) (by omega)
        exact ⟨r,⟨j,by omega,e⟩,fun j hj => h2 j (by omega)⟩
      obtain ⟨r,⟨j,hj,e⟩,h2⟩ := ex
      have hcr : c ≤ r := by rw [← e]; exact hr j hj
      have hnext : isNext l now rest r := ⟨⟨j,⟨hj,h0 j hj,by omega⟩,e⟩,fun k hk => h2 k hk.1⟩
      refine .idle (by simpa using hl) na hnext ?_
      rcases Int.lt_or_eq_of_le hcr with hlt2 | rfl
      · have na2 : ∀ i,¬ act l c rest i := fun i hi => by
          have := h2 i hi.1
          have := hi.2.2
          omega
        have hnext2 : isNext l c rest r := ⟨⟨j,⟨hj,h0 j hj,by rw [e]; exact hlt2⟩,e⟩,fun k hk => h2 k hk.1⟩
        cases h with
        | done hd => rw [List.length_nil] at hd; omega
        | idle _ _ hn k => rw [hnext2.uniq hn]; exact k
        | part _ hb => exact absurd hb.1 (na2 _)
        | fin _ hb => exact absurd hb.1 (na2 _)
      · exact h
  · exact h
end Go.AB
set_option linter.unusedVariables false
namespace Go.AB
open Go
def G (N : Nat) (θ : Int) (f : Nat → Int) : Int := sumN (fun j => max 0 (θ - f j)) N
theorem sumN_add {f g h : Nat → Int} {N : Nat} (e : ∀ j,j < N → f j = g j + h j) : sumN f N = sumN g N + sumN h N := by
  induction N with
  | zero => rfl
  | succ N ih =>
    rw [sumN,sumN,sumN,ih fun j hj => e j (by omega),e N (by omega)]
    omega
theorem sumN_zero {f : Nat → Int} {N : Nat} (e : ∀ j,j < N → f j = 0) : sumN f N = 0 := by
  induction N with
  | zero => rfl
  | succ N ih => rw [sumN,ih fun j hj => e j (by omega),e N (by omega)]; rfl
theorem sumN_one {f g : Nat → Int} {N i : Nat} (hi : i < N) (e : ∀ j,j < N → j ≠ i → f j = g j) : sumN f N = sumN g N + (f i - g i) := by
  induction N with
  | zero => omega
  | succ N ih =>
    rw [sumN,sumN]
    by_cases h : i = N
    · subst h
      rw [sumN_congr (g' := g) fun j hj => e j (by omega) (by omega)]
      omega
    · rw [ih (by omega) fun j hj hne => e j (by omega) hne,e N (by omega) (fun h' => h h'.symm)]
      omega
theorem sumN_mul {f g : Nat → Int} {N : Nat} {v w : Int} (e : ∀ j,j < N → v * f j ≤ w * g j) : v * sumN f N ≤ w * sumN g N := by
  induction N with
  | zero => simp [sumN]
  | succ N ih =>
    rw [sumN,sumN,Int.mul_add,Int.mul_add]
    have := ih fun j hj => e j (by omega)
    have := e N (by omega)
    omega
theorem G_convex {N : Nat} {f : Nat → Int} (h0 : ∀ j,j < N → 0 ≤ f j) {θ v : Int} (ht : 0 ≤ θ) (hv : θ ≤ v) : v * G N θ f ≤ θ * G N v f := by
  refine sumN_mul fun j hj => ?_
  have hj0 := h0 j hj
  by_cases h : θ ≤ f j
  · rw [Int.max_eq_left (show θ - f j ≤ 0 from by omega),Int.mul_zero]
    exact Int.mul_nonneg ht (Int.le_max_left _ _)
  · rw [Int.max_eq_right (show 0 ≤ θ - f j from by omega),Int.max_eq_right (show 0 ≤ v - f j from by omega),Int.mul_sub,Int.mul_sub]
    have h1 : θ * f j ≤ v * f j := Int.mul_le_mul_of_nonneg_right hv hj0
    have h2 : v * θ = θ * v := Int.mul_comm _ _
    omega
theorem unit {N : Nat} {a a' b b' : Nat → Int} {i : Nat} (hi : i < N) (hdom : ∀ θ,0 ≤ θ → G N θ b ≤ G N θ a) (ha : 0 < a i) (hmin : ∀ j,j < N → a j = 0 ∨ a i ≤ a j) (hb0 : ∀ j,j < N → 0 ≤ b' j)
    (hb : ∀ θ,G N θ b' ≤ G N θ b + 1) (ha1 : a' i = a i - 1) (ha2 : ∀ j,j < N → j ≠ i → a' j = a j) : ∀ θ,0 ≤ θ → G N θ b' ≤ G N θ a' := by
  intro θ ht
  have step : G N θ a' = G N θ a + (max 0 (θ - a' i) - max 0 (θ - a i)) := by
    unfold G
    refine sumN_one hi fun j hj hne => by rw [ha2 j hj hne]
  by_cases hc : a i ≤ θ
  · have e : max 0 (θ - a' i) - max 0 (θ - a i) = 1 := by
      rw [ha1,Int.max_eq_right (show 0 ≤ θ - (a i - 1) from by omega),Int.max_eq_right (show 0 ≤ θ - a i from by omega)]
      omega
    have h1 := hdom θ ht
    have h2 := hb θ
    omega
  · have e : max 0 (θ - a' i) - max 0 (θ - a i) = 0 := by
      rw [ha1,Int.max_eq_left (show θ - (a i - 1) ≤ 0 from by omega),Int.max_eq_left (show θ - a i ≤ 0 from by omega)]
      omega
    rw [step,e,Int.add_zero]
    -- all that is left is larger than θ
    obtain ⟨z,hz⟩ : ∃ z : Int,sumN (fun j => if a j = 0 then 1 else 0) N = z := ⟨_,rfl⟩
    have hG : ∀ w,0 ≤ w → w ≤ a i → G N w a = w * z := by
      intro w hw hwi
      have h1 : 1 * G N w a ≤ w * sumN (fun j => if a j = 0 then 1 else 0) N := sumN_mul fun j hj => by
        rcases hmin j hj with h | h
        · rw [if_pos h,h,Int.max_eq_right (by omega)]; omega
        · rw [if_neg (by omega),Int.max_eq_left (by omega)]; omega
      have h2 : w * sumN (fun j => if a j = 0 then 1 else 0) N ≤ 1 * G N w a := sumN_mul fun j hj => by
        rcases hmin j hj with h | h
        · rw [if_pos h,h,Int.max_eq_right (by omega)]; omega
        · rw [if_neg (by omega),Int.max_eq_left (by omega)]; omega
      rw [hz] at h1 h2
      omega
    rw [hG θ ht (by omega)]
    have h1 := G_convex hb0 ht (show θ ≤ a i from by omega)
    have h2 : θ * G N (a i) b' ≤ θ * (a i * z + 1) := by
      refine Int.mul_le_mul_of_nonneg_left ?_ ht
      have q1 := hb (a i)
      have q2 := hdom (a i) (by omega)
      rw [hG (a i) (by omega) (Int.le_refl _)] at q2
      omega
    have h3 : a i * G N θ b' < a i * (θ * z + 1) := by
      have e1 : θ * (a i * z + 1) = a i * (θ * z) + θ := by
        rw [Int.mul_add,Int.mul_one,← Int.mul_assoc,Int.mul_comm θ (a i),Int.mul_assoc]
      have e2 : a i * (θ * z + 1) = a i * (θ * z) + a i := by rw [Int.mul_add,Int.mul_one]
      omega
    have := Int.lt_of_mul_lt_mul_left h3 (by omega)
    omega
def left (l : List R38) (fT : Nat → Int) (τ t : Int) (j : Nat) : Int := if (Jn l j).Release ≤ τ then max 0 (min (Jn l j).Length (fT j - t)) else 0
def mine (l : List R38) (rest : List Int) (τ : Int) (j : Nat) : Int := if (Jn l j).Release ≤ τ then rest.getD j 0 else 0
structure Sched (l : List R38) (fT : Nat → Int) : Prop where
  rel : ∀ j,j < l.length → (Jn l j).Release + (Jn l j).Length ≤ fT j
  pos : ∀ j,j < l.length → 1 ≤ (Jn l j).Length
  dis : ∀ i j,i < l.length → j < l.length → i ≠ j → fT i ≤ fT j - (Jn l j).Length ∨ fT j ≤ fT i - (Jn l i).Length
theorem left_step {l : List R38} {fT : Nat → Int} (h : Sched l fT) (τ t : Int) (θ : Int) : G l.length θ (left l fT τ (t + 1)) ≤ G l.length θ (left l fT τ t) + 1 := by
  by_cases hc : ∃ i,i < l.length ∧ fT i - (Jn l i).Length ≤ t ∧ t < fT i
  · obtain ⟨i,hi,h1,h2⟩ := hc
    have e := sumN_one (f := fun j => max 0 (θ - left l fT τ (t + 1) j)) (g := fun j => max 0 (θ - left l fT τ t j)) hi fun j hj hne => by
      have hd := h.dis i j hi hj (fun e => hne e.symm)
      have hp := h.pos j hj
      have : left l fT τ (t + 1) j = left l fT τ t j := by
        unfold left
        split
        · rcases hd with hd | hd
          · rw [Int.min_eq_left (show (Jn l j).Length ≤ fT j - (t + 1) from by omega),Int.min_eq_left (show (Jn l j).Length ≤ fT j - t from by omega)]
          · rw [Int.max_eq_left (show min (Jn l j).Length (fT j - (t + 1)) ≤ 0 from Int.le_trans (Int.min_le_right _ _) (by omega)),Int.max_eq_left (show min (Jn l j).Length (fT j - t) ≤ 0 from Int.le_trans (Int.min_le_right _ _) (by omega))]
        · rfl
      show max 0 (θ - left l fT τ (t + 1) j) = max 0 (θ - left l fT τ t j)
      rw [this]
    have e2 : left l fT τ (t + 1) i ≥ left l fT τ t i - 1 := by
      unfold left
      split
      · rw [Int.min_eq_right (show fT i - (t + 1) ≤ (Jn l i).Length from by omega),Int.min_eq_right (show fT i - t ≤ (Jn l i).Length from by omega),Int.max_eq_right (by omega),Int.max_eq_right (by omega)]
        omega
      · omega
    unfold G
    rw [e]
    have : max 0 (θ - left l fT τ (t + 1) i) ≤ max 0 (θ - left l fT τ t i) + 1 := by
      refine Int.max_le.2 ⟨?_,?_⟩
      · have := Int.le_max_left 0 (θ - left l fT τ t i); omega
      · have := Int.le_max_right 0 (θ - left l fT τ t i); omega
    omega
  · have : G l.length θ (left l fT τ (t + 1)) = G l.length θ (left l fT τ t) := by
      unfold G
      refine sumN_congr fun j hj => ?_
      have hn : ¬ (fT j - (Jn l j).Length ≤ t ∧ t < fT j) := fun hh => hc ⟨j,hj,hh⟩
      have hp := h.pos j hj
      have : left l fT τ (t + 1) j = left l fT τ t j := by
        unfold left
        split
        · by_cases h3 : fT j ≤ t
          · rw [Int.max_eq_left (show min (Jn l j).Length (fT j - (t + 1)) ≤ 0 from Int.le_trans (Int.min_le_right _ _) (by omega)),Int.max_eq_left (show min (Jn l j).Length (fT j - t) ≤ 0 from Int.le_trans (Int.min_le_right _ _) (by omega))]
          · rw [Int.min_eq_left (show (Jn l j).Length ≤ fT j - (t + 1) from by omega),Int.min_eq_left (show (Jn l j).Length ≤ fT j - t from by omega)]
        · rfl
      rw [this]
    omega
theorem left_nonneg {l : List R38} {fT : Nat → Int} (τ t : Int) (j : Nat) : 0 ≤ left l fT τ t j := by
  unfold left
  split
  · exact Int.le_max_left _ _
  · exact Int.le_refl _
def Dom (l : List R38) (fT : Nat → Int) (rest : List Int) (τ t : Int) : Prop := ∀ θ,0 ≤ θ → G l.length θ (left l fT τ t) ≤ G l.length θ (mine l rest τ)
theorem getD_set {s : List Int} {i j : Nat} {v : Int} (hi : i < s.length) : (s.set i v).getD j 0 = if j = i then v else s.getD j 0 := by
  rw [List.getD_eq_getElem?_getD,List.getD_eq_getElem?_getD,List.getElem?_set]
  by_cases e : i = j
  · subst e; simp [hi]
  · rw [if_neg e,if_neg (fun h => e h.symm)]
theorem Dom.run {l : List R38} {fT : Nat → Int} (h : Sched l fT) {rest : List Int} {now : Int} {i : Nat} (hlen : rest.length = l.length) (hr0 : ∀ j,j < l.length → 0 ≤ rest.getD j 0) (hb : isBest l now rest i) (hd : Dom l fT rest now now) :
    ∀ u : Nat,(u : Int) ≤ rest.getD i 0 → Dom l fT (rest.set i (rest.getD i 0 - (u : Int))) now (now + (u : Int))
  | 0,_ => by
    have e : rest.set i (rest.getD i 0 - ((0 : Nat) : Int)) = rest := by
      rw [show rest.getD i 0 - ((0 : Nat) : Int) = rest.getD i 0 from by omega]
      have hi : i < rest.length := by rw [hlen]; exact hb.1.1
      rw [List.getD_eq_getElem?_getD,List.getElem?_eq_getElem hi]
      exact List.set_getElem_self hi
    rw [e,show now + ((0 : Nat) : Int) = now from by omega]
    exact hd
  | u + 1,hu => by
    have hil := hb.1.1
    have hi : i < rest.length := by rw [hlen]; exact hil
    have ih := Dom.run h hlen hr0 hb hd u (by omega)
    have hrel : (Jn l i).Release ≤ now := hb.1.2.2
    have mi : ∀ w : Int,mine l (rest.set i w) now i = w := fun w => by unfold mine; rw [if_pos hrel,getD_set hi,if_pos rfl]
    have mj : ∀ (w : Int) j,j ≠ i → mine l (rest.set i w) now j = mine l rest now j := fun w j hne => by
      unfold mine; rw [getD_set hi,if_neg hne]
    refine unit (i := i) hil ih ?_ ?_ (fun j _ => left_nonneg _ _ j) (fun θ => ?_) ?_ ?_
    · rw [mi]; omega
    · intro j hj
      rw [mi]
      by_cases e : j = i
      · subst e; rw [mi]; exact .inr (Int.le_refl _)
      · rw [mj _ j e]
        unfold mine
        split
        · rename_i hrj
          by_cases h0 : rest.getD j 0 = 0
          · exact .inl h0
          · have := hb.2 j ⟨hj,h0,hrj⟩
            right
            omega
        · exact .inl rfl
    · rw [show now + ((u + 1 : Nat) : Int) = now + (u : Int) + 1 from by omega]
      exact left_step h _ _ θ
    · rw [mi,mi]; omega
    · intro j hj hne
      rw [mj _ j hne,mj _ j hne]
theorem Dom.release {l : List R38} {fT : Nat → Int} (h : Sched l fT) {rest : List Int} {τ t : Int} (ht : τ ≤ t) (hd : Dom l fT rest τ t) (hnew : ∀ j,j < l.length → τ < (Jn l j).Release → (Jn l j).Release ≤ t → (Jn l j).Release = t ∧ rest.getD j 0 = (Jn l j).Length) : Dom l fT rest t t := by
  intro θ hθ
  have e1 : G l.length θ (left l fT t t) = G l.length θ (left l fT τ t) + sumN (fun j => if τ < (Jn l j).Release ∧ (Jn l j).Release ≤ t then max 0 (θ - (Jn l j).Length) - θ else 0) l.length := by
    refine sumN_add fun j hj => ?_
    have hp := h.pos j hj
    have hr := h.rel j hj
    unfold left
    by_cases c1 : (Jn l j).Release ≤ τ
    · rw [if_pos c1,if_pos (show (Jn l j).Release ≤ t from by omega),if_neg (by omega)]; omega
    · rw [if_neg c1]
      by_cases c2 : (Jn l j).Release ≤ t
      · have := (hnew j hj (by omega) c2).1
        rw [if_pos c2,if_pos ⟨by omega,c2⟩,Int.min_eq_left (by omega),Int.max_eq_right (by omega : (0 : Int) ≤ (Jn l j).Length),Int.max_eq_right (show (0 : Int) ≤ θ - 0 from by omega)]
        omega
      · rw [if_neg c2,if_neg (fun hh => c2 hh.2)]; omega
  have e2 : G l.length θ (mine l rest t) = G l.length θ (mine l rest τ) + sumN (fun j => if τ < (Jn l j).Release ∧ (Jn l j).Release ≤ t then max 0 (θ - (Jn l j).Length) - θ else 0) l.length := by
    refine sumN_add fun j hj => ?_
    unfold mine
    by_cases c1 : (Jn l j).Release ≤ τ
    · rw [if_pos c1,if_pos (show (Jn l j).Release ≤ t from by omega),if_neg (by omega)]; omega
    · rw [if_neg c1]
      by_cases c2 : (Jn l j).Release ≤ t
      · have := (hnew j hj (by omega) c2).2
        rw [if_pos c2,if_pos ⟨by omega,c2⟩,this,Int.max_eq_right (show (0 : Int) ≤ θ - 0 from by omega)]
        omega
      · rw [if_neg c2,if_neg (fun hh => c2 hh.2)]; omega
  have := hd θ hθ
  omega
end Go.AB
set_option linter.unusedVariables false
namespace Go.AB
open Go
structure RInv (l : List R38) (fT : Nat → Int) (F : Nat → Int) (now : Int) (rest out : List Int) : Prop where
  len : rest.length = l.length
  bdr : ∀ j,j < l.length → 0 ≤ rest.getD j 0 ∧ rest.getD j 0 ≤ (Jn l j).Length
  unrel : ∀ j,j < l.length → now < (Jn l j).Release → rest.getD j 0 = (Jn l j).Length
  dom : Dom l fT rest now now
  cnt : (out.length : Int) = sumN (fun j => if rest.getD j 0 = 0 then 1 else 0) l.length
  out : ∀ k,k < out.length → out.getD k 0 ≤ F k
def sumL (g : Int → Int) : List Int → Int
  | [] => 0
  | x :: l => g x + sumL g l
end Go.AB
set_option linter.unusedVariables false
namespace Go.AB
open Go
theorem J_nat (l : List R38) (j : Nat) : J l (j : Int) = Jn l j := by unfold J Jn; simp
def fTo (l : List R38) (o : List Int) (j : Nat) : Int := (fin l 0 o).getD (o.idxOf (j : Int)) 0
def lens (l : List R38) : List Int := l.map (·.Length)
theorem lens_at {l : List R38} {j : Nat} (hj : j < l.length) : (lens l).getD j 0 = (Jn l j).Length := by
  unfold lens Jn
  simp [hj]
def costL : List Int → List Int → Int
  | t :: F,d :: D => max 0 (t - d) + costL F D
  | _,_ => 0
end Go.AB

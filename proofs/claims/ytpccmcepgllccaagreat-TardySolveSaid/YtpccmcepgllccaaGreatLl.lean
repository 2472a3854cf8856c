import Derived.Test.YtpccmcepgllccaaGreatLh
import Derived.Test.YtpccmcepgllccaaGreatD
set_option linter.unusedVariables false
namespace Go.AB
open Go
theorem sumN_lt {f g : Nat → Int} {N i : Nat} (h : ∀ j,j < N → f j ≤ g j) (hi : i < N) (hlt : f i < g i) : sumN f N < sumN g N := by
  induction N with
  | zero => omega
  | succ N ih =>
    rw [sumN,sumN]
    have hN := h N (by omega)
    by_cases e : i = N
    · subst e
      have := sumN_le (g := f) (g' := g) (k := i) fun j hj => h j (by omega)
      omega
    · have := ih (fun j hj => h j (by omega)) (by omega)
      omega
def mu (l : List R63) (now : Int) (rest : List Int) : Int := sumN (fun j => if rest.getD j 0 = 0 then 0 else if now < (Jn l j).Rl then 2 else 1) l.length
theorem mu_nonneg (l : List R63) (now : Int) (rest : List Int) : 0 ≤ mu l now rest ∧ mu l now rest ≤ 2 * (l.length : Int) := sumN_bd fun j hj => by
  split
  · omega
  · split <;> omega
structure WF (l : List R63) (now : Int) (rest out : List Int) : Prop where
  len : rest.length = l.length
  bdr : ∀ j,j < l.length → 0 ≤ rest.getD j 0 ∧ rest.getD j 0 ≤ (Jn l j).Ln
  unrel : ∀ j,j < l.length → now < (Jn l j).Rl → rest.getD j 0 = (Jn l j).Ln
  cnt : (out.length : Int) = sumN (fun j => if rest.getD j 0 = 0 then 1 else 0) l.length
  now0 : 0 ≤ now
  bnd : now + sumN (fun j => rest.getD j 0) l.length ≤ 1000000 + sumN (fun j => (Jn l j).Ln) l.length
section
variable {l : List R63} {now : Int} {rest out : List Int} {r : Int} {i : Nat}
theorem WF.outl (h : WF l now rest out) : out.length ≤ l.length := by
  have : sumN (fun j => if rest.getD j 0 = 0 then (1 : Int) else 0) l.length ≤ 1 * (l.length : Int) := (sumN_bd fun j _ => by split <;> omega).2
  have := h.cnt
  omega
theorem WF.some (h : WF l now rest out) (hlt : out.length < l.length) : ∃ j,j < l.length ∧ rest.getD j 0 ≠ 0 := by
  apply Classical.byContradiction
  intro hc
  have : sumN (fun j => if rest.getD j 0 = 0 then (1 : Int) else 0) l.length = sumN (fun _ => 1) l.length := sumN_congr fun j hj => by
    rw [if_pos (Classical.byContradiction fun hn => hc ⟨j,hj,hn⟩)]
  have h2 : ∀ n : Nat,sumN (fun _ => (1 : Int)) n = (n : Int) := by
    intro n
    induction n with
    | zero => rfl
    | succ n ih => rw [sumN,ih]; omega
  have := h.cnt
  rw [h2] at *
  omega
theorem WF.big (h : WF l now rest out) (hb : bd l) : now + sumN (fun j => rest.getD j 0) l.length ≤ 1000000 + 10000 * (l.length : Int) ∧ ∀ j,j < l.length → now + rest.getD j 0 ≤ 1000000 + 10000 * (l.length : Int) := by
  have h1 := h.bnd
  have h2 : sumN (fun j => (Jn l j).Ln) l.length ≤ 10000 * (l.length : Int) := (sumN_bd fun j hj => by
    have := hb _ (Jn_mem hj)
    omega).2
  refine ⟨by omega,fun j hj => ?_⟩
  have := sumN_pos (g := fun j => rest.getD j 0) (k := l.length) (fun j hj => (h.bdr j hj).1) hj
  omega
theorem WF.idle (h : WF l now rest out) (hb : bd l) (hn : isNext l now rest r) : now < r ∧ WF l r rest out ∧ mu l r rest < mu l now rest := by
  obtain ⟨⟨j0,hj0,e0⟩,hmin⟩ := hn
  have hlt : now < r := by rw [← e0]; exact hj0.2.2
  have hr := hb _ (Jn_mem hj0.1)
  refine ⟨hlt,⟨h.len,h.bdr,fun j hj hr => h.unrel j hj (by omega),h.cnt,by have := h.now0; omega,?_⟩,?_⟩
  · have : sumN (fun j => rest.getD j 0) l.length ≤ sumN (fun j => (Jn l j).Ln) l.length := sumN_le fun j hj => (h.bdr j hj).2
    omega
  · refine sumN_lt (i := j0) (fun j hj => ?_) hj0.1 ?_
    · split
      · omega
      · split
        · rw [if_pos (by omega)]; omega
        · split <;> omega
    · rw [if_neg hj0.2.1,if_neg hj0.2.1,if_neg (by omega),if_pos hj0.2.2]
      omega
theorem WF.part (h : WF l now rest out) (hb : bd l) (hi : isBest l now rest i) (hn : isNext l now rest r) (hr : r < now + rest.getD i 0) :
    WF l r (rest.set i (rest.getD i 0 - (r - now))) out ∧ mu l r (rest.set i (rest.getD i 0 - (r - now))) < mu l now rest := by
  obtain ⟨⟨j0,hj0,e0⟩,hmin⟩ := hn
  have hlt : now < r := by rw [← e0]; exact hj0.2.2
  have hil := hi.1.1
  have hir : i < rest.length := by rw [h.len]; exact hil
  have hbi := h.bdr i hil
  have hne : ∀ j,now < (Jn l j).Rl → j ≠ i := fun j h1 e => by subst e; have := hi.1.2.2; omega
  refine ⟨⟨by simpa using h.len,fun j hj => ?_,fun j hj hrel => ?_,?_,by have := h.now0; omega,?_⟩,?_⟩
  · rw [getD_set hir]
    split
    · rename_i e; subst e; omega
    · exact h.bdr j hj
  · rw [getD_set hir,if_neg (hne j (by omega))]
    exact h.unrel j hj (by omega)
  · rw [h.cnt]
    refine sumN_congr fun j hj => ?_
    rw [getD_set hir]
    by_cases e : j = i
    · subst e
      rw [if_pos rfl,if_neg (by omega),if_neg (by omega)]
    · rw [if_neg e]
  · have e := sumN_one (f := fun j => (rest.set i (rest.getD i 0 - (r - now))).getD j 0) (g := fun j => rest.getD j 0) hil fun j hj hne => by
      show (rest.set i (rest.getD i 0 - (r - now))).getD j 0 = rest.getD j 0
      rw [getD_set hir,if_neg hne]
    rw [e,getD_set hir,if_pos rfl]
    have := h.bnd
    omega
  · refine sumN_lt (i := j0) (fun j hj => ?_) hj0.1 ?_
    · rw [getD_set hir]
      by_cases e : j = i
      · subst e
        have hrl := hi.1.2.2
        rw [if_pos rfl,if_neg (show ¬ rest.getD j 0 - (r - now) = 0 from by omega),if_neg (show ¬ r < (Jn l j).Rl from by omega),if_neg (show ¬ rest.getD j 0 = 0 from by omega),if_neg (show ¬ now < (Jn l j).Rl from by omega)]
        exact Int.le_refl _
      · rw [if_neg e]
        split
        · omega
        · split
          · rw [if_pos (by omega)]; omega
          · split <;> omega
    · rw [getD_set hir,if_neg (hne j0 hj0.2.2),if_neg hj0.2.1,if_neg hj0.2.1,if_neg (by omega),if_pos hj0.2.2]
      omega
theorem WF.fin (h : WF l now rest out) (hb : bd l) (hi : isBest l now rest i) :
    WF l (now + rest.getD i 0) (rest.set i 0) (out ++ [now + rest.getD i 0]) ∧ mu l (now + rest.getD i 0) (rest.set i 0) < mu l now rest := by
  have hil := hi.1.1
  have hir : i < rest.length := by rw [h.len]; exact hil
  have hbi := h.bdr i hil
  have hri : 1 ≤ rest.getD i 0 := by have := hi.1.2.1; omega
  have hne : ∀ j,now < (Jn l j).Rl → j ≠ i := fun j h1 e => by subst e; have := hi.1.2.2; omega
  refine ⟨⟨by simpa using h.len,fun j hj => ?_,fun j hj hrel => ?_,?_,by have := h.now0; omega,?_⟩,?_⟩
  · rw [getD_set hir]
    split
    · rename_i e; subst e; omega
    · exact h.bdr j hj
  · rw [getD_set hir,if_neg (hne j (by omega))]
    exact h.unrel j hj (by omega)
  · have e := sumN_one (f := fun j => if (rest.set i 0).getD j 0 = 0 then (1 : Int) else 0) (g := fun j => if rest.getD j 0 = 0 then (1 : Int) else 0) hil fun j hj hne => by
      show (if (rest.set i 0).getD j 0 = 0 then (1 : Int) else 0) = _
      rw [getD_set hir,if_neg hne]
    rw [e,List.length_append,List.length_singleton,← h.cnt]
    rw [getD_set hir,if_pos rfl,if_pos rfl,if_neg (by omega)]
    omega
  · have e := sumN_one (f := fun j => (rest.set i 0).getD j 0) (g := fun j => rest.getD j 0) hil fun j hj hne => by
      show (rest.set i 0).getD j 0 = rest.getD j 0
      rw [getD_set hir,if_neg hne]
    rw [e,getD_set hir,if_pos rfl]
    have := h.bnd
    omega
  · refine sumN_lt (i := i) (fun j hj => ?_) hil ?_
    · rw [getD_set hir]
      by_cases e : j = i
      · subst e
        rw [if_pos rfl,if_pos rfl]
        split
        · omega
        · split <;> omega
      · rw [if_neg e]
        split
        · omega
        · split
          · rw [if_pos (by omega)]; omega
          · split <;> omega
    · rw [getD_set hir,if_pos rfl,if_pos rfl,if_neg hi.1.2.1]
      split <;> omega
end
theorem WF.start {l : List R63} (hp : ∀ y,y ∈ l → 1 ≤ y.Ln) : WF l 0 (lens l) [] := by
  refine ⟨by simp [lens],fun j hj => ?_,fun j hj _ => lens_at hj,?_,Int.le_refl _,?_⟩
  · rw [lens_at hj]
    have := hp _ (Jn_mem hj)
    omega
  · rw [sumN_zero fun j hj => by rw [lens_at hj]; exact if_neg (by have := hp _ (Jn_mem hj); omega)]
    rfl
  · rw [sumN_congr (g' := fun j => (Jn l j).Ln) fun j hj => lens_at hj]
    omega
def bestP (l : List R63) (now : Int) (rest : List Int) (k : Nat) (b : Int) : Prop := (b = -1 ∧ ∀ j,j < k → ¬ act l now rest j) ∨ ∃ q : Nat,b = (q : Int) ∧ q < k ∧ act l now rest q ∧ ∀ j,j < k → act l now rest j → rest.getD q 0 < rest.getD j 0 ∨ (rest.getD q 0 = rest.getD j 0 ∧ q ≤ j)
def nextP (l : List R63) (now : Int) (rest : List Int) (k : Nat) (x : Int) : Prop := (x = -1 ∧ ∀ j,j < k → ¬ fut l now rest j) ∨ ((∃ j,j < k ∧ fut l now rest j ∧ (Jn l j).Rl = x) ∧ ∀ j,j < k → fut l now rest j → x ≤ (Jn l j).Rl)
theorem m88_scan {n : Nat} {l : List R63} {now : Int} {rest out : List Int} (hb : bd l) (h : WF l now rest out) (hl : l.length ≤ 1000) (hn : l.length < n) (K : Int × Int → Option ((List Int) × Int)) :
    ∃ b x,loopM (m88_L5 n l (now,rest,out) K) n ((-1 : Int),(-1 : Int),(0 : Int)) = K (b,x) ∧ bestP l now rest l.length b ∧ nextP l now rest l.length x := by
  refine loopM_ind (fun m s => ∃ (k : Nat) (b x : Int),k ≤ l.length ∧ s = (b,x,(k : Int)) ∧ m = l.length - k ∧ bestP l now rest k b ∧ nextP l now rest k x) (fun r => ∃ b x,r = K (b,x) ∧ bestP l now rest l.length b ∧ nextP l now rest l.length x) ?_ n l.length _
    ⟨0,-1,-1,Nat.zero_le _,rfl,rfl,.inl ⟨rfl,fun j hj => by omega⟩,.inl ⟨rfl,fun j hj => by omega⟩⟩ hn
  rintro m s ⟨k,b,x,hk,rfl,rfl,hB,hX⟩
  rcases Nat.lt_or_ge k l.length with h1 | h1
  · have hrk : getIdx rest (k : Int) = some (rest.getD k 0) := get_getD (by rw [h.len]; exact h1)
    have tail : ∀ (b' x' : Int) (nx : Int × Int × Int → Option ((List Int) × Int)),(letM (IntKind.wrap .i64 ((k : Int) + 1)) fun t => nx (b',x',t)) = nx (b',x',((k + 1 : Nat) : Int)) := fun b' x' nx => by
      rw [letM_eq,wrap64 (by omega) (by omega)]; rfl
    by_cases c0 : rest.getD k 0 = 0
    · refine .inl ⟨l.length - (k + 1),(b,x,((k + 1 : Nat) : Int)),by omega,⟨k + 1,b,x,h1,rfl,rfl,?_,?_⟩,fun nx => ?_⟩
      · rcases hB with ⟨e,hB⟩ | ⟨q,e,hq,ha,hB⟩
        · refine .inl ⟨e,fun j hj ha => ?_⟩
          by_cases ej : j = k
          · subst ej; exact ha.2.1 c0
          · exact hB j (by omega) ha
        · refine .inr ⟨q,e,by omega,ha,fun j hj ha2 => ?_⟩
          by_cases ej : j = k
          · subst ej; exact absurd c0 ha2.2.1
          · exact hB j (by omega) ha2
      · rcases hX with ⟨e,hX⟩ | ⟨⟨j0,q0,q1,q2⟩,hX⟩
        · refine .inl ⟨e,fun j hj ha => ?_⟩
          by_cases ej : j = k
          · subst ej; exact ha.2.1 c0
          · exact hX j (by omega) ha
        · refine .inr ⟨⟨j0,by omega,q1,q2⟩,fun j hj ha => ?_⟩
          by_cases ej : j = k
          · subst ej; exact absurd c0 ha.2.1
          · exact hX j (by omega) ha
      · rw [m88_L5,if_pos (by simp; omega)]
        unfold jn
        dsimp only
        rw [hrk,oB,if_pos (decide_eq_true c0),tail]
    · by_cases c1 : now < (Jn l k).Rl
      · have hfk : fut l now rest k := ⟨h1,c0,c1⟩
        have hnk : ¬ act l now rest k := fun ha => by have := ha.2.2; omega
        have hB' : bestP l now rest (k + 1) b := by
          rcases hB with ⟨e,hB⟩ | ⟨q,e,hq,ha,hB⟩
          · refine .inl ⟨e,fun j hj ha => ?_⟩
            by_cases ej : j = k
            · subst ej; exact hnk ha
            · exact hB j (by omega) ha
          · refine .inr ⟨q,e,by omega,ha,fun j hj ha2 => ?_⟩
            by_cases ej : j = k
            · subst ej; exact absurd ha2 hnk
            · exact hB j (by omega) ha2
        have now0 := h.now0
        by_cases c2 : x < 0 ∨ (Jn l k).Rl < x
        · refine .inl ⟨l.length - (k + 1),(b,(Jn l k).Rl,((k + 1 : Nat) : Int)),by omega,⟨k + 1,b,_,h1,rfl,rfl,hB',?_⟩,fun nx => ?_⟩
          · refine .inr ⟨⟨k,by omega,hfk,rfl⟩,fun j hj ha => ?_⟩
            by_cases ej : j = k
            · subst ej; exact Int.le_refl _
            · rcases hX with ⟨e,hX⟩ | ⟨⟨j0,q0,q1,q2⟩,hX⟩
              · exact absurd ha (hX j (by omega))
              · have := hX j (by omega) ha
                have := q1.2.2
                omega
          · rw [m88_L5,if_pos (by simp; omega)]
            unfold jn
            dsimp only
            rw [hrk,oB,if_neg (by simpa using c0),Jn_get h1,oB,if_pos (decide_eq_true c1)]
            by_cases c3 : x < 0
            · rw [decide_eq_true c3,show (!true) = false from rfl,gdO_false,oB,Bool.true_or,if_pos rfl,oB,tail]
            · rw [decide_eq_false c3,show (!false) = true from rfl,gdO_true,oB,Bool.false_or,if_pos (decide_eq_true (by omega)),oB,tail]
        · refine .inl ⟨l.length - (k + 1),(b,x,((k + 1 : Nat) : Int)),by omega,⟨k + 1,b,x,h1,rfl,rfl,hB',?_⟩,fun nx => ?_⟩
          · rcases hX with ⟨e,hX⟩ | ⟨⟨j0,q0,q1,q2⟩,hX⟩
            · omega
            · refine .inr ⟨⟨j0,by omega,q1,q2⟩,fun j hj ha => ?_⟩
              by_cases ej : j = k
              · subst ej; omega
              · exact hX j (by omega) ha
          · rw [m88_L5,if_pos (by simp; omega)]
            unfold jn
            dsimp only
            rw [hrk,oB,if_neg (by simpa using c0),Jn_get h1,oB,if_pos (decide_eq_true c1)]
            rw [decide_eq_false (show ¬ x < 0 from by omega),show (!false) = true from rfl,gdO_true,oB,Bool.false_or,if_neg (by simp; omega),tail]
      · have hak : act l now rest k := ⟨h1,c0,by omega⟩
        have hnk : ¬ fut l now rest k := fun ha => by have := ha.2.2; omega
        have hX' : nextP l now rest (k + 1) x := by
          rcases hX with ⟨e,hX⟩ | ⟨⟨j0,q0,q1,q2⟩,hX⟩
          · refine .inl ⟨e,fun j hj ha => ?_⟩
            by_cases ej : j = k
            · subst ej; exact hnk ha
            · exact hX j (by omega) ha
          · refine .inr ⟨⟨j0,by omega,q1,q2⟩,fun j hj ha => ?_⟩
            by_cases ej : j = k
            · subst ej; exact absurd ha hnk
            · exact hX j (by omega) ha
        rcases hB with ⟨e,hB⟩ | ⟨q,e,hq,ha,hB⟩
        · refine .inl ⟨l.length - (k + 1),((k : Int),x,((k + 1 : Nat) : Int)),by omega,⟨k + 1,_,x,h1,rfl,rfl,?_,hX'⟩,fun nx => ?_⟩
          · refine .inr ⟨k,rfl,by omega,hak,fun j hj ha => ?_⟩
            by_cases ej : j = k
            · subst ej; exact .inr ⟨rfl,Nat.le_refl _⟩
            · exact absurd ha (hB j (by omega))
          · rw [m88_L5,if_pos (by simp; omega)]
            unfold jn
            dsimp only
            rw [hrk,oB,if_neg (by simpa using c0),Jn_get h1,oB,if_neg (by simpa using c1),decide_eq_true (show b < 0 from by omega),show (!true) = false from rfl,gdO_false,oB,gdO_false,oB,Bool.true_or,if_pos rfl,tail]
        · have hqr : getIdx rest b = some (rest.getD q 0) := by rw [e]; exact get_getD (by rw [h.len]; omega)
          by_cases c4 : rest.getD k 0 < rest.getD q 0
          · refine .inl ⟨l.length - (k + 1),((k : Int),x,((k + 1 : Nat) : Int)),by omega,⟨k + 1,_,x,h1,rfl,rfl,?_,hX'⟩,fun nx => ?_⟩
            · refine .inr ⟨k,rfl,by omega,hak,fun j hj ha2 => ?_⟩
              by_cases ej : j = k
              · subst ej; exact .inr ⟨rfl,Nat.le_refl _⟩
              · have := hB j (by omega) ha2
                left; omega
            · rw [m88_L5,if_pos (by simp; omega)]
              unfold jn
              dsimp only
              rw [hrk,oB,if_neg (by simpa using c0),Jn_get h1,oB,if_neg (by simpa using c1),decide_eq_false (show ¬ b < 0 from by omega),show (!false) = true from rfl,gdO_true,oB,gdO_true,hqr,oB,Bool.false_or,if_pos (decide_eq_true c4),tail]
          · refine .inl ⟨l.length - (k + 1),(b,x,((k + 1 : Nat) : Int)),by omega,⟨k + 1,b,x,h1,rfl,rfl,?_,hX'⟩,fun nx => ?_⟩
            · refine .inr ⟨q,e,by omega,ha,fun j hj ha2 => ?_⟩
              by_cases ej : j = k
              · subst ej; omega
              · exact hB j (by omega) ha2
            · rw [m88_L5,if_pos (by simp; omega)]
              unfold jn
              dsimp only
              rw [hrk,oB,if_neg (by simpa using c0),Jn_get h1,oB,if_neg (by simpa using c1),decide_eq_false (show ¬ b < 0 from by omega),show (!false) = true from rfl,gdO_true,oB,gdO_true,hqr,oB,Bool.false_or,if_neg (by simpa using c4),tail]
  · have : k = l.length := by omega
    subst this
    refine .inr ⟨_,⟨b,x,rfl,hB,hX⟩,fun nx => ?_⟩
    rw [m88_L5,if_neg (by simp)]
end Go.AB
set_option linter.unusedVariables false
namespace Go.AB
open Go
theorem bestP.is {l : List R63} {now : Int} {rest : List Int} {b : Int} (h : bestP l now rest l.length b) : (b = -1 ∧ ∀ j,¬ act l now rest j) ∨ ∃ q : Nat,b = (q : Int) ∧ isBest l now rest q := by
  rcases h with ⟨e,h⟩ | ⟨q,e,_,ha,h⟩
  · exact .inl ⟨e,fun j hj => h j hj.1 hj⟩
  · exact .inr ⟨q,e,ha,fun j hj => h j hj.1 hj⟩
theorem nextP.is {l : List R63} {now : Int} {rest : List Int} {x : Int} (h : nextP l now rest l.length x) : (x = -1 ∧ ∀ j,¬ fut l now rest j) ∨ isNext l now rest x := by
  rcases h with ⟨e,h⟩ | ⟨⟨j,_,ha,e⟩,h⟩
  · exact .inl ⟨e,fun j hj => h j hj.1 hj⟩
  · exact .inr ⟨⟨j,ha,e⟩,fun j hj => h j hj.1 hj⟩
theorem m88_loop {n : Nat} {l : List R63} (hb : bd l) (hp : ∀ y,y ∈ l → 1 ≤ y.Ln) (hl : l.length ≤ 1000) (hn : 5000 < n) (K : List Int → Option ((List Int) × Int)) :
    ∃ o,loopM (m88_L4 n l K) n ((0 : Int),lens l,([] : List Int)) = K o ∧ Runs l 0 (lens l) [] o ∧ o.length = l.length := by
  refine loopM_ind (fun m s => ∃ (now : Int) (rest out : List Int),s = (now,rest,out) ∧ m = (mu l now rest).toNat ∧ WF l now rest out ∧ ∀ o,Runs l now rest out o → Runs l 0 (lens l) [] o) (fun r => ∃ o,r = K o ∧ Runs l 0 (lens l) [] o ∧ o.length = l.length) ?_ n (mu l 0 (lens l)).toNat _
    ⟨0,lens l,[],rfl,rfl,WF.start hp,fun o h => h⟩ (by have := mu_nonneg l 0 (lens l); omega)
  rintro m s ⟨now,rest,out,rfl,rfl,hw,hR⟩
  have hmu := mu_nonneg l now rest
  rcases Nat.lt_or_ge out.length l.length with hlt | hge
  · obtain ⟨bst,x,hsc,hB,hX⟩ : ∃ bst x,(∀ K : Int × Int → Option ((List Int) × Int),loopM (m88_L5 n l (now,rest,out) K) n ((-1 : Int),(-1 : Int),(0 : Int)) = K (bst,x)) ∧ bestP l now rest l.length bst ∧ nextP l now rest l.length x := by
      obtain ⟨bst,x,e,hB,hX⟩ := m88_scan (n := n) hb hw hl (by omega) (fun p => some ([p.1,p.2],0))
      refine ⟨bst,x,fun K' => ?_,hB,hX⟩
      obtain ⟨b2,x2,e2,hB2,hX2⟩ := m88_scan (n := n) hb hw hl (by omega) K'
      have q1 : b2 = bst := by
        rcases hB.is with ⟨r1,r2⟩ | ⟨q,r1,r2⟩ <;> rcases hB2.is with ⟨s1,s2⟩ | ⟨q',s1,s2⟩
        · omega
        · exact absurd s2.1 (r2 _)
        · exact absurd r2.1 (s2 _)
        · rw [r1,s1,r2.uniq s2]
      have q2 : x2 = x := by
        rcases hX.is with ⟨r1,r2⟩ | r2 <;> rcases hX2.is with ⟨s1,s2⟩ | s2
        · omega
        · obtain ⟨⟨j,hj,_⟩,_⟩ := s2
          exact absurd hj (r2 _)
        · obtain ⟨⟨j,hj,_⟩,_⟩ := r2
          exact absurd hj (s2 _)
        · exact s2.uniq r2
      rw [e2,q1,q2]
    have hbig := hw.big hb
    have now0 := hw.now0
    rcases hB.is with ⟨eb,hna⟩ | ⟨q,eb,hq⟩
    · -- nothing is there to run
      have hnx : isNext l now rest x := by
        rcases hX.is with ⟨ex,hnf⟩ | h
        · obtain ⟨j,hj,hj0⟩ := hw.some hlt
          by_cases c : (Jn l j).Rl ≤ now
          · exact absurd ⟨hj,hj0,c⟩ (hna j)
          · exact absurd ⟨hj,hj0,by omega⟩ (hnf j)
        · exact h
      obtain ⟨h1,h2,h3⟩ := hw.idle hb hnx
      refine .inl ⟨(mu l x rest).toNat,(x,rest,out),by have := mu_nonneg l x rest; omega,⟨x,rest,out,rfl,rfl,h2,fun o ho => hR o (.idle hlt hna hnx ho)⟩,fun nx => ?_⟩
      rw [m88_L4,if_pos (by simp; omega)]
      unfold jn
      dsimp only
      rw [hsc]
      dsimp only
      rw [if_pos (by rw [eb]; rfl)]
    · have hql := hq.1.1
      have hqr : q < rest.length := by rw [hw.len]; exact hql
      have hbq := hw.bdr q hql
      have hbg := hbig.2 q hql
      have gq : getIdx rest bst = some (rest.getD q 0) := by rw [eb]; exact get_getD hqr
      have hn0 : ¬ decide (bst < 0) = true := by simp; omega
      by_cases cp : ∃ r,isNext l now rest r ∧ r < now + rest.getD q 0
      · obtain ⟨r,hr,hrl⟩ := cp
        have ex : x = r := by
          rcases hX.is with ⟨_,hnf⟩ | h
          · obtain ⟨⟨j,hj,_⟩,_⟩ := hr
            exact absurd hj (hnf j)
          · exact h.uniq hr
        subst ex
        have hxn : now < x := by
          obtain ⟨⟨j,hj,e⟩,_⟩ := hr
          rw [← e]; exact hj.2.2
        obtain ⟨h2,h3⟩ := hw.part hb hq hr hrl
        refine .inl ⟨(mu l x (rest.set q (rest.getD q 0 - (x - now)))).toNat,(x,rest.set q (rest.getD q 0 - (x - now)),out),by have := mu_nonneg l x (rest.set q (rest.getD q 0 - (x - now))); omega,⟨x,_,out,rfl,rfl,h2,fun o ho => hR o (.part hlt hq hr hrl ho)⟩,fun nx => ?_⟩
        rw [m88_L4,if_pos (by simp; omega)]
        unfold jn
        dsimp only
        rw [hsc]
        dsimp only
        rw [if_neg hn0,decide_eq_true (show (0 : Int) ≤ x from by omega),gdO_true,gq,oB,wrap64 (x := now + rest.getD q 0) (by omega) (by omega),decide_eq_true hrl,if_pos (by rfl),oB,oB,wrap64 (x := x - now) (by omega) (by omega),wrap64 (by omega) (by omega),setIdx_at (k := q) eb hqr,oB]
      · have hfin : ∀ j,fut l now rest j → now + rest.getD q 0 ≤ (Jn l j).Rl := by
          rcases hX.is with ⟨_,hnf⟩ | h
          · exact fun j hj => absurd hj (hnf j)
          · intro j hj
            have := h.2 j hj
            have : ¬ x < now + rest.getD q 0 := fun hh => cp ⟨x,h,hh⟩
            omega
        obtain ⟨h2,h3⟩ := hw.fin hb hq
        refine .inl ⟨(mu l (now + rest.getD q 0) (rest.set q 0)).toNat,(now + rest.getD q 0,rest.set q 0,out ++ [now + rest.getD q 0]),by have := mu_nonneg l (now + rest.getD q 0) (rest.set q 0); omega,⟨_,_,_,rfl,rfl,h2,fun o ho => hR o (.fin hlt hq hfin ho)⟩,fun nx => ?_⟩
        rw [m88_L4,if_pos (by simp; omega)]
        unfold jn
        dsimp only
        rw [hsc]
        dsimp only
        have tail : ∀ y : Int,(decide (0 ≤ x) && decide (x < IntKind.wrap .i64 (now + y))) = false → ((if (decide (0 ≤ x) && decide (x < IntKind.wrap .i64 (now + y))) = true then ((getIdx rest bst).bind fun y_201 => ((getIdx rest bst).bind fun y_202 => ((setIdx rest bst (IntKind.wrap .i64 (y_201 - (IntKind.wrap .i64 (x - now))))).bind fun l1_203 => (nx (x,l1_203,out))))) else ((getIdx rest bst).bind fun y_204 => (letM ((IntKind.wrap .i64 (now + y_204))) fun t7_205 => ((getIdx rest bst).bind fun y_206 => ((setIdx rest bst (0 : Int)).bind fun l1_207 => ((apd out ([t7_205] : List Int)).bind fun l3_208 => (nx (t7_205,l1_207,l3_208)))))))) = nx (now + rest.getD q 0,rest.set q 0,out ++ [now + rest.getD q 0])) := by
          intro y hy
          have := hw.outl
          rw [hy,if_neg (by simp),gq,oB,letM_eq,wrap64 (x := now + rest.getD q 0) (by omega) (by omega),oB,setIdx_at (k := q) eb hqr,oB,apd_val (by simp; omega),oB]
        rw [if_neg hn0]
        by_cases cx : (0 : Int) ≤ x
        · have hx : isNext l now rest x := by
            rcases hX.is with ⟨e,_⟩ | h
            · omega
            · exact h
          have hnl : ¬ x < now + rest.getD q 0 := fun hh => cp ⟨x,hx,hh⟩
          rw [show gdO (decide (0 ≤ x)) (getIdx rest bst) default = some (rest.getD q 0) from by rw [decide_eq_true cx,gdO_true,gq],oB]
          refine tail _ ?_
          rw [wrap64 (x := now + rest.getD q 0) (by omega) (by omega),decide_eq_false hnl,Bool.and_false]
        · rw [show gdO (decide (0 ≤ x)) (getIdx rest bst) default = some default from by rw [decide_eq_false cx,gdO_false],oB]
          refine tail _ ?_
          rw [decide_eq_false cx,Bool.false_and]
  · have := hw.outl
    refine .inr ⟨_,⟨out,rfl,hR out (.done hge),by omega⟩,fun nx => ?_⟩
    rw [m88_L4,if_neg (by simp; omega)]
theorem lens_loop {l : List R63} {n : Nat} {R : Type} {body : (Int × List Int → Option R) → Int × List Int → Option R} (hn : l.length < n) (K : List Int → Option R)
    (step : ∀ i (s : List Int),i < l.length → s.length = i → ∀ nx,body nx ((i : Int),s) = nx (((i + 1 : Nat) : Int),s ++ [(Jn l i).Ln])) (fin' : ∀ s nx,body nx ((l.length : Int),s) = K s) : loopM body n ((0 : Int),([] : List Int)) = K (lens l) := by
  refine (loop_fold (S := List Int) (fun i s => ((i : Int),s)) l.length (fun i s => s ++ [(Jn l i).Ln]) (fun i s => s.length = i) K (fun i s hi hs => ⟨by simp [hs],step i s hi hs⟩) (fun s _ => fin' s) rfl hn).trans ?_
  congr 1
  have : ∀ k,k ≤ l.length → foldN (fun i (s : List Int) => s ++ [(Jn l i).Ln]) k [] = (lens l).take k := by
    intro k
    induction k with
    | zero => intro _; simp [foldN]
    | succ k ih =>
      intro hk
      rw [foldN,ih (by omega),List.take_succ_eq_append_getElem (by simp [lens]; omega)]
      simp [lens,Jn,show k < l.length from by omega]
  rw [this _ (Nat.le_refl _),List.take_of_length_le (by simp [lens])]
end Go.AB

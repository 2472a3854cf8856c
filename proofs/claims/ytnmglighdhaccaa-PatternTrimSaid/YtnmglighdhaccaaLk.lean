import Derived.Test.YtnmglighdhaccaaLj
import Derived.Test.YtnmglighdhaccaaLs
set_option linter.unusedVariables false
namespace Go.AB
open Go
def cmpL : List Int → List Int → Int
  | [],[] => 0
  | [],_ :: _ => -1
  | _ :: _,[] => 1
  | x :: a,y :: b => if x < y then -1 else if y < x then 1 else cmpL a b
theorem cmpL_anti : ∀ a b : List Int,cmpL a b = - cmpL b a
  | [],[] => rfl
  | [],_ :: _ => rfl
  | _ :: _,[] => rfl
  | x :: a,y :: b => by
    rw [cmpL,cmpL]
    by_cases h1 : x < y
    · rw [if_pos h1,if_neg (by omega),if_pos h1]
    · by_cases h2 : y < x
      · rw [if_neg h1,if_pos h2,if_pos h2]; rfl
      · rw [if_neg h1,if_neg h2,if_neg h2,if_neg h1]; exact cmpL_anti a b
theorem cmpL_zero : ∀ a b : List Int,cmpL a b = 0 ↔ a = b
  | [],[] => by simp [cmpL]
  | [],_ :: _ => by simp [cmpL]
  | _ :: _,[] => by simp [cmpL]
  | x :: a,y :: b => by
    rw [cmpL]
    by_cases h1 : x < y
    · rw [if_pos h1]; simp; omega
    · by_cases h2 : y < x
      · rw [if_neg h1,if_pos h2]; simp; omega
      · rw [if_neg h1,if_neg h2,cmpL_zero a b]
        have : x = y := by omega
        simp [this]
theorem cmpL_trans : ∀ a b c : List Int,cmpL a b ≤ 0 → cmpL b c ≤ 0 → cmpL a c ≤ 0
  | [],_,[],_,_ => by simp [cmpL]
  | [],_,_ :: _,_,_ => by simp [cmpL]
  | _ :: _,[],_,h,_ => by simp [cmpL] at h
  | _ :: _,_ :: _,[],_,h => by simp [cmpL] at h
  | x :: a,y :: b,z :: c,h1,h2 => by
    rw [cmpL] at h1 h2 ⊢
    by_cases e1 : x < y
    · by_cases e2 : y < z
      · rw [if_pos (by omega)]; omega
      · by_cases e3 : z < y
        · rw [if_neg e2,if_pos e3] at h2; omega
        · rw [if_pos (by omega)]; omega
    · by_cases e4 : y < x
      · rw [if_neg e1,if_pos e4] at h1; omega
      · rw [if_neg e1,if_neg e4] at h1
        by_cases e2 : y < z
        · rw [if_pos (by omega)]; omega
        · by_cases e3 : z < y
          · rw [if_neg e2,if_pos e3] at h2; omega
          · rw [if_neg e2,if_neg e3] at h2
            rw [if_neg (by omega),if_neg (by omega)]
            exact cmpL_trans a b c h1 h2
theorem cmpL_refl (a : List Int) : cmpL a a = 0 := (cmpL_zero a a).2 rfl
theorem cmpL_drop {a b : List Int} {i : Nat} (ha : i < a.length) (hb : i < b.length) (h : a.getD i 0 = b.getD i 0) : cmpL (a.drop i) (b.drop i) = cmpL (a.drop (i + 1)) (b.drop (i + 1)) := by
  rw [List.drop_eq_getElem_cons ha,List.drop_eq_getElem_cons hb,cmpL,getD_at ha,getD_at hb,h,if_neg (by omega),if_neg (by omega)]
theorem cmpL_diff {a b : List Int} {i : Nat} (ha : i < a.length) (hb : i < b.length) (h : a.getD i 0 ≠ b.getD i 0) : cmpL (a.drop i) (b.drop i) = if a.getD i 0 < b.getD i 0 then -1 else 1 := by
  rw [List.drop_eq_getElem_cons ha,List.drop_eq_getElem_cons hb,cmpL,getD_at ha,getD_at hb]
  by_cases h1 : a.getD i 0 < b.getD i 0
  · rw [if_pos h1,if_pos h1]
  · rw [if_neg h1,if_neg h1,if_pos (by omega)]
theorem m66_val {n : Nat} {a b : Int} : m66 n a b = some (if a < b then -1 else if b < a then 1 else 0) := by
  have h77 : ∀ a,m77 n a = some false := fun a => by unfold m77; simp
  unfold m66
  rw [h77,oB,h77,oB]
  by_cases h : a < b
  · simp [h]
  · by_cases h2 : b < a <;> simp [h,h2]
theorem m58_val {n : Nat} {a b : List Int} (ha : a.length ≤ 1000000) (hn : a.length < n) : m58 n a b = some (cmpL a b) := by
  unfold m58 jn
  refine loopM_ind (fun m x => ∃ i : Nat,i ≤ a.length ∧ i ≤ b.length ∧ x = (i : Int) ∧ m = a.length - i ∧ cmpL (a.drop i) (b.drop i) = cmpL a b) (fun o => o = some (cmpL a b)) ?_ n a.length _ ⟨0,by omega,by omega,rfl,rfl,rfl⟩ hn
  rintro m x ⟨i,hi,hib,rfl,rfl,hc⟩
  rcases Nat.lt_or_ge i a.length with h1 | h1
  · rcases Nat.lt_or_ge i b.length with h2 | h2
    · by_cases e : a.getD i 0 = b.getD i 0
      · refine .inl ⟨a.length - (i + 1),((i + 1 : Nat) : Int),by omega,⟨i + 1,h1,h2,rfl,rfl,by rw [← cmpL_drop h1 h2 e]; exact hc⟩,fun nx => ?_⟩
        rw [m58_L1,if_pos (by simp; omega),getIdx_D rfl h1,oB,if_neg (by simp; omega),getIdx_D rfl h2,oB,m66_val,oB,show (if a.getD i 0 < b.getD i 0 then (-1 : Int) else if b.getD i 0 < a.getD i 0 then 1 else 0) = 0 from by rw [if_neg (by omega),if_neg (by omega)],if_neg (by simp),letM_eq,wrap64 (by omega) (by omega)]
        rfl
      · refine .inr ⟨_,rfl,fun nx => ?_⟩
        rw [← hc,cmpL_diff h1 h2 e]
        rw [m58_L1,if_pos (by simp; omega),getIdx_D rfl h1,oB,if_neg (by simp; omega),getIdx_D rfl h2,oB,m66_val,oB]
        by_cases e2 : a.getD i 0 < b.getD i 0
        · rw [if_pos e2,if_pos e2,if_pos (by rfl)]
        · rw [show (if a.getD i 0 < b.getD i 0 then (-1 : Int) else if b.getD i 0 < a.getD i 0 then 1 else 0) = 1 from by rw [if_neg (by omega),if_pos (by omega)],if_neg e2,if_pos (by rfl)]
    · refine .inr ⟨_,rfl,fun nx => ?_⟩
      rw [m58_L1,if_pos (by simp; omega),getIdx_D rfl h1,oB,if_pos (by simp; omega),← hc,List.drop_eq_getElem_cons h1,List.drop_eq_nil_of_le h2]
      rfl
  · have : i = a.length := by omega
    subst this
    refine .inr ⟨_,rfl,fun nx => ?_⟩
    rw [m58_L1,if_neg (by simp),← hc,List.drop_length]
    rcases Nat.lt_or_ge a.length b.length with h2 | h2
    · rw [if_pos (by simp; omega),List.drop_eq_getElem_cons h2]; rfl
    · rw [if_neg (by simp; omega),List.drop_eq_nil_of_le h2]; rfl
theorem m52_val {n : Nat} {a b : List Int} (ha : a.length ≤ 1000000) (hn : a.length < n) : m52 n a b = some (decide (a = b)) := by
  unfold m52
  by_cases hl : a.length = b.length
  · rw [if_neg (by simp [hl])]
    unfold jn
    refine (loop_all (fun i => (i : Int)) a.length (fun i => decide (a.getD i 0 = b.getD i 0)) (some false) (some true) ?_ ?_ ?_ hn).trans ?_
    · intro i hi hp nx
      rw [m52_L1,if_pos (by simp; omega),getIdx_D rfl hi,oB,getIdx_D rfl (by omega),oB,hp,if_neg (by simp),letM_eq,wrap64 (by omega) (by omega)]
      rfl
    · intro i hi hp nx
      rw [m52_L1,if_pos (by simp; omega),getIdx_D rfl hi,oB,getIdx_D rfl (by omega),oB,hp,if_pos (by simp)]
    · intro nx
      rw [m52_L1,if_neg (by simp)]
    · by_cases hq : ∀ i,i < a.length → decide (a.getD i 0 = b.getD i 0) = true
      · rw [if_pos hq,decide_eq_true]
        refine List.ext_getElem hl fun i h1 h2 => ?_
        rw [getD_at h1,getD_at h2]
        exact of_decide_eq_true (hq i h1)
      · rw [if_neg hq,decide_eq_false]
        rintro rfl
        exact hq fun i _ => decide_eq_true rfl
  · rw [if_pos (by simp; omega),decide_eq_false (by rintro rfl; exact hl rfl)]
def addU : List R56 → R56 → List R56
  | [],u => [u]
  | v :: vs,u => if v.Pattern = u.Pattern then ⟨v.Pattern,v.Count + u.Count⟩ :: vs else v :: addU vs u
def sumU (g : List Int → Int) : List R56 → Int
  | [] => 0
  | u :: l => g u.Pattern * u.Count + sumU g l
theorem sumU_addU {g : List Int → Int} : ∀ (l : List R56) (u : R56),sumU g (addU l u) = sumU g l + g u.Pattern * u.Count
  | [],u => by simp [addU,sumU]
  | v :: vs,u => by
    rw [addU]
    by_cases h : v.Pattern = u.Pattern
    · rw [if_pos h,sumU,sumU,h]
      show g u.Pattern * (v.Count + u.Count) + _ = _
      rw [Int.mul_add]; omega
    · rw [if_neg h,sumU,sumU_addU vs u,sumU]; omega
theorem sumU_append {g : List Int → Int} : ∀ (l m : List R56),sumU g (l ++ m) = sumU g l + sumU g m
  | [],m => by simp [sumU]
  | u :: l,m => by rw [List.cons_append,sumU,sumU_append l m,sumU]; omega
theorem sumU_perm {g : List Int → Int} {l m : List R56} (h : l.Perm m) : sumU g l = sumU g m := by
  induction h with
  | nil => rfl
  | cons x _ ih => rw [sumU,sumU,ih]
  | swap x y l => rw [sumU,sumU,sumU,sumU]; omega
  | trans _ _ ih1 ih2 => exact ih1.trans ih2
theorem mem_addU {w : R56} : ∀ {l : List R56} {u : R56},w ∈ addU l u → w = u ∨ w ∈ l ∨ ∃ v,v ∈ l ∧ w.Pattern = v.Pattern ∧ w.Count = v.Count + u.Count
  | [],u,h => by simp [addU] at h; exact .inl h
  | v :: vs,u,h => by
    rw [addU] at h
    by_cases e : v.Pattern = u.Pattern
    · rw [if_pos e,List.mem_cons] at h
      rcases h with rfl | h
      · exact .inr (.inr ⟨v,by simp,rfl,rfl⟩)
      · exact .inr (.inl (List.mem_cons_of_mem _ h))
    · rw [if_neg e,List.mem_cons] at h
      rcases h with rfl | h
      · exact .inr (.inl (by simp))
      · rcases mem_addU h with h | h | ⟨v',h1,h2⟩
        · exact .inl h
        · exact .inr (.inl (List.mem_cons_of_mem _ h))
        · exact .inr (.inr ⟨v',List.mem_cons_of_mem _ h1,h2⟩)
theorem addU_pat {w : R56} {l : List R56} {u : R56} (h : w ∈ addU l u) : w.Pattern = u.Pattern ∨ ∃ v,v ∈ l ∧ w.Pattern = v.Pattern := by
  rcases mem_addU h with rfl | h | ⟨v,h1,h2,_⟩
  · exact .inl rfl
  · exact .inr ⟨w,h,rfl⟩
  · exact .inr ⟨v,h1,h2⟩
theorem addU_pw : ∀ {l : List R56} {u : R56},l.Pairwise (fun u v => u.Pattern ≠ v.Pattern) → (addU l u).Pairwise (fun u v => u.Pattern ≠ v.Pattern)
  | [],u,_ => by simp [addU]
  | v :: vs,u,h => by
    rw [List.pairwise_cons] at h
    rw [addU]
    by_cases e : v.Pattern = u.Pattern
    · rw [if_pos e,List.pairwise_cons]
      exact ⟨h.1,h.2⟩
    · rw [if_neg e,List.pairwise_cons]
      refine ⟨fun w hw => ?_,addU_pw h.2⟩
      rcases addU_pat hw with e2 | ⟨v',h1,h2⟩
      · rw [e2]; exact e
      · rw [h2]; exact h.1 v' h1
theorem addU_len : ∀ (l : List R56) (u : R56),(addU l u).length ≤ l.length + 1
  | [],u => by simp [addU]
  | v :: vs,u => by
    rw [addU]
    split
    · simp
    · have := addU_len vs u
      simp only [List.length_cons]; omega
def ltU (u v : R56) : Bool := decide (cmpL v.Pattern u.Pattern < 0)
def normL (l : List R56) : List R56 := isr ltU [] (l.foldl addU [])
def Sorted (l : List R56) : Prop := l.Pairwise fun u v => 0 < cmpL u.Pattern v.Pattern
theorem foldU {P : List R56 → Prop} : ∀ (l : List R56) (acc : List R56),P acc → (∀ acc u,u ∈ l → P acc → P (addU acc u)) → P (l.foldl addU acc)
  | [],acc,h,_ => h
  | u :: l,acc,h,st => foldU l (addU acc u) (st acc u (by simp) h) fun acc v hv => st acc v (List.mem_cons_of_mem _ hv)
theorem foldU_sum {g : List Int → Int} : ∀ (l acc : List R56),sumU g (l.foldl addU acc) = sumU g acc + sumU g l
  | [],acc => by simp [sumU]
  | u :: l,acc => by rw [List.foldl_cons,foldU_sum l,sumU_addU,sumU]; omega
theorem normL_perm (l : List R56) : (normL l).Perm (l.foldl addU []) := by
  have := isr_perm ltU (l.foldl addU []) []
  simpa [normL] using this
theorem normL_sum {g : List Int → Int} (l : List R56) : sumU g (normL l) = sumU g l := by
  rw [sumU_perm (normL_perm l),foldU_sum]; simp [sumU]
theorem ltU_tr (a b c : R56) (h1 : ltU a b = false) (h2 : ltU b c = false) : ltU a c = false := by
  unfold ltU at *
  have h1 := of_decide_eq_false h1
  have h2 := of_decide_eq_false h2
  apply decide_eq_false
  have := cmpL_trans a.Pattern b.Pattern c.Pattern (by have := cmpL_anti a.Pattern b.Pattern; omega) (by have := cmpL_anti b.Pattern c.Pattern; omega)
  have := cmpL_anti a.Pattern c.Pattern
  omega
theorem ltU_as (a b : R56) (h : ltU a b = true) : ltU b a = false := by
  unfold ltU at *
  have h := of_decide_eq_true h
  apply decide_eq_false
  have := cmpL_anti a.Pattern b.Pattern
  omega
theorem normL_sorted (l : List R56) : Sorted (normL l) := by
  have h1 := isr_sorted (ok := fun _ => True) (fun a b c _ _ _ => ltU_tr a b c) (fun a b _ _ => ltU_as a b) (l.foldl addU []) [] (by simp) (by simp) (by simp)
  have h2 : (l.foldl addU []).Pairwise (fun u v => u.Pattern ≠ v.Pattern) := foldU l [] (by simp) fun acc u _ h => addU_pw h
  have h3 : (normL l).Pairwise (fun u v => u.Pattern ≠ v.Pattern) := (normL_perm l).symm.pairwise h2 (fun h => h.symm)
  refine (h1.and h3).imp fun {u v} ⟨q1,q2⟩ => ?_
  unfold ltU at q1
  have q1 := of_decide_eq_false q1
  have := cmpL_zero u.Pattern v.Pattern
  have : cmpL u.Pattern v.Pattern ≠ 0 := fun e => q2 (this.1 e)
  omega
theorem normL_pos {l : List R56} (h : ∀ u,u ∈ l → 1 ≤ u.Count) : ∀ u,u ∈ normL l → 1 ≤ u.Count := fun u hu => by
  have key : ∀ u,u ∈ l.foldl addU [] → 1 ≤ u.Count := foldU (P := fun acc => ∀ u,u ∈ acc → 1 ≤ u.Count) l [] (by simp) fun acc v hv ha w hw => by
    have := h v hv
    rcases mem_addU hw with rfl | h1 | ⟨v',h1,_,h2⟩
    · exact this
    · exact ha w h1
    · have := ha v' h1; omega
  exact key u ((normL_perm l).mem_iff.1 hu)
theorem normL_pat {l : List R56} {Q : List Int → Prop} (h : ∀ u,u ∈ l → Q u.Pattern) : ∀ u,u ∈ normL l → Q u.Pattern := fun u hu => by
  have key : ∀ u,u ∈ l.foldl addU [] → Q u.Pattern := foldU (P := fun acc => ∀ u,u ∈ acc → Q u.Pattern) l [] (by simp) fun acc v hv ha w hw => by
    rcases addU_pat hw with e | ⟨v',h1,e⟩
    · rw [e]; exact h v hv
    · rw [e]; exact ha v' h1
  exact key u ((normL_perm l).mem_iff.1 hu)
theorem foldU_len : ∀ (l acc : List R56),(l.foldl addU acc).length ≤ acc.length + l.length
  | [],acc => by simp
  | u :: l,acc => by
    have := foldU_len l (addU acc u)
    have := addU_len acc u
    simp only [List.foldl_cons,List.length_cons]; omega
theorem normL_len (l : List R56) : (normL l).length ≤ l.length := by
  rw [(normL_perm l).length_eq]
  have := foldU_len l []
  simpa using this
def one_at (a b : List Int) : Int := if b = a then 1 else 0
theorem sumU_off {a : List Int} : ∀ {l : List R56},(∀ u,u ∈ l → u.Pattern ≠ a) → sumU (one_at a) l = 0
  | [],_ => rfl
  | u :: l,h => by
    rw [sumU,sumU_off fun v hv => h v (List.mem_cons_of_mem _ hv)]
    unfold one_at
    rw [if_neg (h u (by simp))]; omega
theorem sumU_pos {a : List Int} : ∀ {l : List R56},(∀ u,u ∈ l → 1 ≤ u.Count) → 0 ≤ sumU (one_at a) l ∧ ∀ u,u ∈ l → u.Pattern = a → u.Count ≤ sumU (one_at a) l
  | [],_ => by simp [sumU]
  | u :: l,h => by
    obtain ⟨h1,h2⟩ := sumU_pos (a := a) (l := l) fun v hv => h v (List.mem_cons_of_mem _ hv)
    have hu := h u (by simp)
    rw [sumU]
    have h3 : 0 ≤ one_at a u.Pattern * u.Count := Int.mul_nonneg (by unfold one_at; split <;> omega) (by omega)
    refine ⟨by omega,fun v hv e => ?_⟩
    rcases List.mem_cons.1 hv with rfl | hv
    · unfold one_at at *
      rw [if_pos e]; omega
    · have := h2 v hv e; omega
theorem cons_sorted_ne {u : R56} {l : List R56} (h : Sorted (u :: l)) : ∀ v,v ∈ l → v.Pattern ≠ u.Pattern := fun v hv e => by
  have := (List.pairwise_cons.1 h).1 v hv
  rw [e,cmpL_refl] at this
  omega
theorem sorted_eq : ∀ {l m : List R56},Sorted l → Sorted m → (∀ u,u ∈ l → 1 ≤ u.Count) → (∀ u,u ∈ m → 1 ≤ u.Count) → (∀ g,sumU g l = sumU g m) → l = m
  | [],[],_,_,_,_,_ => rfl
  | [],v :: m,_,_,_,h2,h => by
    have := (sumU_pos (a := v.Pattern) h2).2 v (by simp) rfl
    rw [← h] at this
    have := h2 v (by simp)
    simp [sumU] at *; omega
  | u :: l,[],_,_,h1,_,h => by
    have := (sumU_pos (a := u.Pattern) h1).2 u (by simp) rfl
    rw [h] at this
    have := h1 u (by simp)
    simp [sumU] at *; omega
  | u :: l,v :: m,s1,s2,h1,h2,h => by
    have p1 := List.pairwise_cons.1 s1
    have p2 := List.pairwise_cons.1 s2
    have e : u.Pattern = v.Pattern := by
      apply Classical.byContradiction
      intro hne
      have hc : cmpL u.Pattern v.Pattern ≠ 0 := fun e => hne ((cmpL_zero _ _).1 e)
      have han := cmpL_anti u.Pattern v.Pattern
      rcases Int.lt_or_gt_of_ne hc with hlt | hlt
      · have h5 : sumU (one_at v.Pattern) (u :: l) = 0 := sumU_off fun w hw e => by
          rcases List.mem_cons.1 hw with rfl | hw
          · exact hne e
          · have h6 := p1.1 w hw
            have h7 := cmpL_anti u.Pattern w.Pattern
            rw [e] at h6 h7
            omega
        have := (sumU_pos (a := v.Pattern) h2).2 v (by simp) rfl
        rw [← h,h5] at this
        have := h2 v (by simp)
        omega
      · have h5 : sumU (one_at u.Pattern) (v :: m) = 0 := sumU_off fun w hw e => by
          rcases List.mem_cons.1 hw with rfl | hw
          · exact hne e.symm
          · have h6 := p2.1 w hw
            have h7 := cmpL_anti v.Pattern w.Pattern
            rw [e] at h6 h7
            omega
        have := (sumU_pos (a := u.Pattern) h1).2 u (by simp) rfl
        rw [h,h5] at this
        have := h1 u (by simp)
        omega
    have hc : u.Count = v.Count := by
      have h5 := h (one_at u.Pattern)
      rw [sumU,sumU,sumU_off (cons_sorted_ne s1),sumU_off (fun w hw => by rw [e]; exact cons_sorted_ne s2 w hw)] at h5
      unfold one_at at h5
      rw [if_pos rfl,if_pos e.symm] at h5
      omega
    have huv : u = v := by
      cases u; cases v; simp_all
    subst huv
    rw [sorted_eq p1.2 p2.2 (fun w hw => h1 w (List.mem_cons_of_mem _ hw)) (fun w hw => h2 w (List.mem_cons_of_mem _ hw)) fun g => by
      have := h g
      rw [sumU,sumU] at this
      omega]
end Go.AB

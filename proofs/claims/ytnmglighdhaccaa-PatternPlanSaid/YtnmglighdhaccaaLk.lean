import Derived.Test.YtnmglighdhaccaaLj
import Derived.Test.YtnmglighdhaccaaLs
set_option linter.unusedVariables false
namespace Go.AB
open Go
def cmpL : List Int → List Int → Int
  | [],[] => 0
  | [],_ :: _ => -1
  | _ :: _,[] => 1
  | x :: a,y :: b => if x < y then -1 else if y < x then 1 else cmpL a b
theorem cmpL_anti : ∀ a b : List Int,cmpL a b = - cmpL b a
  | [],[] => rfl
  | [],_ :: _ => rfl
  | _ :: _,[] => rfl
  | x :: a,y :: b => by
    rw [cmpL,cmpL]
    by_cases h1 : x < y
    · rw [if_pos h1,if_neg (by omega),if_pos h1]
    · by_cases h2 : y < x
      · rw [if_neg h1,if_pos h2,if_pos h2]; rfl
      · rw [if_neg h1,if_neg h2,if_neg h2,if_neg h1]; exact cmpL_anti a b
theorem cmpL_zero : ∀ a b : List Int,cmpL a b = 0 ↔ a = b
  | [],[] => by simp [cmpL]
  | [],_ :: _ => by simp [cmpL]
  | _ :: _,[] => by simp [cmpL]
  | x :: a,y :: b => by
    rw [cmpL]
    by_cases h1 : x < y
    · rw [if_pos h1]; simp; omega
    · by_cases h2 : y < x
      · rw [if_neg h1,if_pos h2]; simp; omega
      · rw [if_neg h1,if_neg h2,cmpL_zero a b]
        have : x = y := by omega
        simp [this]
theorem cmpL_trans : ∀ a b c : List Int,cmpL a b ≤ 0 → cmpL b c ≤ 0 → cmpL a c ≤ 0
  | [],_,[],_,_ => by simp [cmpL]
  | [],_,_ :: _,_,_ => by simp [cmpL]
  | _ :: _,[],_,h,_ => by simp [cmpL] at h
  | _ :: _,_ :: _,[],_,h => by simp [cmpL] at h
  | x :: a,y :: b,z :: c,h1,h2 => by
    rw [cmpL] at h1 h2 ⊢
    by_cases e1 : x < y
    · by_cases e2 : y < z
      · rw [if_pos (by omega)]; omega
      · by_cases e3 : z < y
        · rw [if_neg e2,if_pos e3] at h2; omega
        · rw [if_pos (by omega)]; omega
    · by_cases e4 : y < x
      · rw [if_neg e1,if_pos e4] at h1; omega
      · rw [if_neg e1,if_neg e4] at h1
        by_cases e2 : y < z
        · rw [if_pos (by omega)]; omega
        · by_cases e3 : z < y
          · rw [if_neg e2,if_pos e3] at h2; omega
          · rw [if_neg e2,if_neg e3] at h2
            rw [if_neg (by omega),if_neg (by omega)]
            exact cmpL_trans a b c h1 h2
theorem cmpL_drop {a b : List Int} {i : Nat} (ha : i < a.length) (hb : i < b.length) (h : a.getD i 0 = b.getD i 0) : cmpL (a.drop i) (b.drop i) = cmpL (a.drop (i + 1)) (b.drop (i + 1)) := by
  rw [List.drop_eq_getElem_cons ha,List.drop_eq_getElem_cons hb,cmpL,getD_at ha,getD_at hb,h,if_neg (by omega),if_neg (by omega)]
theorem cmpL_diff {a b : List Int} {i : Nat} (ha : i < a.length) (hb : i < b.length) (h : a.getD i 0 ≠ b.getD i 0) : cmpL (a.drop i) (b.drop i) = if a.getD i 0 < b.getD i 0 then -1 else 1 := by
  rw [List.drop_eq_getElem_cons ha,List.drop_eq_getElem_cons hb,cmpL,getD_at ha,getD_at hb]
  by_cases h1 : a.getD i 0 < b.getD i 0
  · rw [if_pos h1,if_pos h1]
  · rw [if_neg h1,if_neg h1,if_pos (by omega)]
theorem m66_val {n : Nat} {a b : Int} : m66 n a b = some (if a < b then -1 else if b < a then 1 else 0) := by
  have h77 : ∀ a,m77 n a = some false := fun a => by unfold m77; simp
  unfold m66
  rw [h77,oB,h77,oB]
  by_cases h : a < b
  · simp [h]
  · by_cases h2 : b < a <;> simp [h,h2]
theorem m58_val {n : Nat} {a b : List Int} (ha : a.length ≤ 1000000) (hn : a.length < n) : m58 n a b = some (cmpL a b) := by
  unfold m58 jn
  refine loopM_ind (fun m x => ∃ i : Nat,i ≤ a.length ∧ i ≤ b.length ∧ x = (i : Int) ∧ m = a.length - i ∧ cmpL (a.drop i) (b.drop i) = cmpL a b) (fun o => o = some (cmpL a b)) ?_ n a.length _ ⟨0,by omega,by omega,rfl,rfl,rfl⟩ hn
  rintro m x ⟨i,hi,hib,rfl,rfl,hc⟩
  rcases Nat.lt_or_ge i a.length with h1 | h1
  · rcases Nat.lt_or_ge i b.length with h2 | h2
    · by_cases e : a.getD i 0 = b.getD i 0
      · refine .inl ⟨a.length - (i + 1),((i + 1 : Nat) : Int),by omega,⟨i + 1,h1,h2,rfl,rfl,by rw [← cmpL_drop h1 h2 e]; exact hc⟩,fun nx => ?_⟩
        rw [m58_L1,if_pos (by simp; omega),getIdx_D rfl h1,oB,if_neg (by simp; omega),getIdx_D rfl h2,oB,m66_val,oB,show (if a.getD i 0 < b.getD i 0 then (-1 : Int) else if b.getD i 0 < a.getD i 0 then 1 else 0) = 0 from by rw [if_neg (by omega),if_neg (by omega)],if_neg (by simp),letM_eq,wrap64 (by omega) (by omega)]
        rfl
      · refine .inr ⟨_,rfl,fun nx => ?_⟩
        rw [← hc,cmpL_diff h1 h2 e]
        rw [m58_L1,if_pos (by simp; omega),getIdx_D rfl h1,oB,if_neg (by simp; omega),getIdx_D rfl h2,oB,m66_val,oB]
        by_cases e2 : a.getD i 0 < b.getD i 0
        · rw [if_pos e2,if_pos e2,if_pos (by rfl)]
        · rw [show (if a.getD i 0 < b.getD i 0 then (-1 : Int) else if b.getD i 0 < a.getD i 0 then 1 else 0) = 1 from by rw [if_neg (by omega),if_pos (by omega)],if_neg e2,if_pos (by rfl)]
    · refine .inr ⟨_,rfl,fun nx => ?_⟩
      rw [m58_L1,if_pos (by simp; omega),getIdx_D rfl h1,oB,if_pos (by simp; omega),← hc,List.drop_eq_getElem_cons h1,List.drop_eq_nil_of_le h2]
      rfl
  · have : i = a.length := by omega
    subst this
    refine .inr ⟨_,rfl,fun nx => ?_⟩
    rw [m58_L1,if_neg (by simp),← hc,List.drop_length]
    rcases Nat.lt_or_ge a.length b.length with h2 | h2
    · rw [if_pos (by simp; omega),List.drop_eq_getElem_cons h2]; rfl
    · rw [if_neg (by simp; omega),List.drop_eq_nil_of_le h2]; rfl
theorem m15_val {n : Nat} {a b : List Int} (ha : a.length ≤ 1000000) (hn : a.length < n) : m15 n a b = some (decide (0 < cmpL a b)) := by
  unfold m15 jn
  refine loopM_ind (fun m x => ∃ i : Nat,i ≤ a.length ∧ i ≤ b.length ∧ x = (i : Int) ∧ m = a.length - i ∧ cmpL (a.drop i) (b.drop i) = cmpL a b) (fun o => o = some (decide (0 < cmpL a b))) ?_ n a.length _ ⟨0,by omega,by omega,rfl,rfl,rfl⟩ hn
  rintro m x ⟨i,hi,hib,rfl,rfl,hc⟩
  by_cases hin : i < a.length ∧ i < b.length
  · obtain ⟨h1,h2⟩ := hin
    by_cases e : a.getD i 0 = b.getD i 0
    · refine .inl ⟨a.length - (i + 1),((i + 1 : Nat) : Int),by omega,⟨i + 1,h1,h2,rfl,rfl,by rw [← cmpL_drop h1 h2 e]; exact hc⟩,fun nx => ?_⟩
      rw [m15_L1,if_pos (by simp; omega),getIdx_D rfl h1,oB,getIdx_D rfl h2,oB,if_neg (by rw [decide_eq_true e]; simp),letM_eq,wrap64 (by omega) (by omega)]
      rfl
    · refine .inr ⟨_,rfl,fun nx => ?_⟩
      rw [← hc,cmpL_diff h1 h2 e]
      rw [m15_L1,if_pos (by simp; omega),getIdx_D rfl h1,oB,getIdx_D rfl h2,oB,if_pos (by rw [decide_eq_false e]; rfl),oB,oB]
      by_cases e2 : a.getD i 0 < b.getD i 0
      · rw [if_pos e2,decide_eq_false (by omega)]; rfl
      · rw [if_neg e2,decide_eq_true (by omega)]; rfl
  · refine .inr ⟨_,rfl,fun nx => ?_⟩
    rw [m15_L1,if_neg (by simp; omega),← hc]
    rcases Nat.lt_or_ge i a.length with h1 | h1
    · rw [List.drop_eq_getElem_cons h1,List.drop_eq_nil_of_le (show b.length ≤ i by omega),decide_eq_true (by omega)]; rfl
    · rw [List.drop_eq_nil_of_le h1,decide_eq_false (by omega)]
      cases b.drop i <;> rfl
theorem m52_val {n : Nat} {a b : List Int} (ha : a.length ≤ 1000000) (hn : a.length < n) : m52 n a b = some (decide (a = b)) := by
  unfold m52
  by_cases hl : a.length = b.length
  · rw [if_neg (by simp [hl])]
    unfold jn
    refine (loop_all (fun i => (i : Int)) a.length (fun i => decide (a.getD i 0 = b.getD i 0)) (some false) (some true) ?_ ?_ ?_ hn).trans ?_
    · intro i hi hp nx
      rw [m52_L1,if_pos (by simp; omega),getIdx_D rfl hi,oB,getIdx_D rfl (by omega),oB,hp,if_neg (by simp),letM_eq,wrap64 (by omega) (by omega)]
      rfl
    · intro i hi hp nx
      rw [m52_L1,if_pos (by simp; omega),getIdx_D rfl hi,oB,getIdx_D rfl (by omega),oB,hp,if_pos (by simp)]
    · intro nx
      rw [m52_L1,if_neg (by simp)]
    · by_cases hq : ∀ i,i < a.length → decide (a.getD i 0 = b.getD i 0) = true
      · rw [if_pos hq,decide_eq_true]
        refine List.ext_getElem hl fun i h1 h2 => ?_
        rw [getD_at h1,getD_at h2]
        exact of_decide_eq_true (hq i h1)
      · rw [if_neg hq,decide_eq_false]
        rintro rfl
        exact hq fun i _ => decide_eq_true rfl
  · rw [if_pos (by simp; omega),decide_eq_false (by rintro rfl; exact hl rfl)]
def addU : List R56 → R56 → List R56
  | [],u => [u]
  | v :: vs,u => if v.Pq = u.Pq then ⟨v.Pq,v.Cq + u.Cq⟩ :: vs else v :: addU vs u
def sumU (g : List Int → Int) : List R56 → Int
  | [] => 0
  | u :: l => g u.Pq * u.Cq + sumU g l
theorem sumU_addU {g : List Int → Int} : ∀ (l : List R56) (u : R56),sumU g (addU l u) = sumU g l + g u.Pq * u.Cq
  | [],u => by simp [addU,sumU]
  | v :: vs,u => by
    rw [addU]
    by_cases h : v.Pq = u.Pq
    · rw [if_pos h,sumU,sumU,h]
      show g u.Pq * (v.Cq + u.Cq) + _ = _
      rw [Int.mul_add]; omega
    · rw [if_neg h,sumU,sumU_addU vs u,sumU]; omega
theorem sumU_append {g : List Int → Int} : ∀ (l m : List R56),sumU g (l ++ m) = sumU g l + sumU g m
  | [],m => by simp [sumU]
  | u :: l,m => by rw [List.cons_append,sumU,sumU_append l m,sumU]; omega
theorem sumU_perm {g : List Int → Int} {l m : List R56} (h : l.Perm m) : sumU g l = sumU g m := by
  induction h with
  | nil => rfl
  | cons x _ ih => rw [sumU,sumU,ih]
  | swap x y l => rw [sumU,sumU,sumU,sumU]; omega
  | trans _ _ ih1 ih2 => exact ih1.trans ih2
theorem mem_addU {w : R56} : ∀ {l : List R56} {u : R56},w ∈ addU l u → w = u ∨ w ∈ l ∨ ∃ v,v ∈ l ∧ w.Pq = v.Pq ∧ w.Cq = v.Cq + u.Cq
  | [],u,h => by simp [addU] at h; exact .inl h
  | v :: vs,u,h => by
    rw [addU] at h
    by_cases e : v.Pq = u.Pq
    · rw [if_pos e,List.mem_cons] at h
      rcases h with rfl | h
      · exact .inr (.inr ⟨v,by simp,rfl,rfl⟩)
      · exact .inr (.inl (List.mem_cons_of_mem _ h))
    · rw [if_neg e,List.mem_cons] at h
      rcases h with rfl | h
      · exact .inr (.inl (by simp))
      · rcases mem_addU h with h | h | ⟨v',h1,h2⟩
        · exact .inl h
        · exact .inr (.inl (List.mem_cons_of_mem _ h))
        · exact .inr (.inr ⟨v',List.mem_cons_of_mem _ h1,h2⟩)
theorem addU_pat {w : R56} {l : List R56} {u : R56} (h : w ∈ addU l u) : w.Pq = u.Pq ∨ ∃ v,v ∈ l ∧ w.Pq = v.Pq := by
  rcases mem_addU h with rfl | h | ⟨v,h1,h2,_⟩
  · exact .inl rfl
  · exact .inr ⟨w,h,rfl⟩
  · exact .inr ⟨v,h1,h2⟩
theorem addU_len : ∀ (l : List R56) (u : R56),(addU l u).length ≤ l.length + 1
  | [],u => by simp [addU]
  | v :: vs,u => by
    rw [addU]
    split
    · simp
    · have := addU_len vs u
      simp only [List.length_cons]; omega
def ltU (u v : R56) : Bool := decide (cmpL v.Pq u.Pq < 0)
def normL (l : List R56) : List R56 := isr ltU [] (l.foldl addU [])
theorem foldU {P : List R56 → Prop} : ∀ (l : List R56) (acc : List R56),P acc → (∀ acc u,u ∈ l → P acc → P (addU acc u)) → P (l.foldl addU acc)
  | [],acc,h,_ => h
  | u :: l,acc,h,st => foldU l (addU acc u) (st acc u (by simp) h) fun acc v hv => st acc v (List.mem_cons_of_mem _ hv)
theorem foldU_sum {g : List Int → Int} : ∀ (l acc : List R56),sumU g (l.foldl addU acc) = sumU g acc + sumU g l
  | [],acc => by simp [sumU]
  | u :: l,acc => by rw [List.foldl_cons,foldU_sum l,sumU_addU,sumU]; omega
theorem normL_perm (l : List R56) : (normL l).Perm (l.foldl addU []) := by
  have := isr_perm ltU (l.foldl addU []) []
  simpa [normL] using this
theorem normL_sum {g : List Int → Int} (l : List R56) : sumU g (normL l) = sumU g l := by
  rw [sumU_perm (normL_perm l),foldU_sum]; simp [sumU]
theorem ltU_tr (a b c : R56) (h1 : ltU a b = false) (h2 : ltU b c = false) : ltU a c = false := by
  unfold ltU at *
  have h1 := of_decide_eq_false h1
  have h2 := of_decide_eq_false h2
  apply decide_eq_false
  have := cmpL_trans a.Pq b.Pq c.Pq (by have := cmpL_anti a.Pq b.Pq; omega) (by have := cmpL_anti b.Pq c.Pq; omega)
  have := cmpL_anti a.Pq c.Pq
  omega
theorem ltU_as (a b : R56) (h : ltU a b = true) : ltU b a = false := by
  unfold ltU at *
  have h := of_decide_eq_true h
  apply decide_eq_false
  have := cmpL_anti a.Pq b.Pq
  omega
theorem normL_pos {l : List R56} (h : ∀ u,u ∈ l → 1 ≤ u.Cq) : ∀ u,u ∈ normL l → 1 ≤ u.Cq := fun u hu => by
  have key : ∀ u,u ∈ l.foldl addU [] → 1 ≤ u.Cq := foldU (P := fun acc => ∀ u,u ∈ acc → 1 ≤ u.Cq) l [] (by simp) fun acc v hv ha w hw => by
    have := h v hv
    rcases mem_addU hw with rfl | h1 | ⟨v',h1,_,h2⟩
    · exact this
    · exact ha w h1
    · have := ha v' h1; omega
  exact key u ((normL_perm l).mem_iff.1 hu)
theorem normL_pat {l : List R56} {Q : List Int → Prop} (h : ∀ u,u ∈ l → Q u.Pq) : ∀ u,u ∈ normL l → Q u.Pq := fun u hu => by
  have key : ∀ u,u ∈ l.foldl addU [] → Q u.Pq := foldU (P := fun acc => ∀ u,u ∈ acc → Q u.Pq) l [] (by simp) fun acc v hv ha w hw => by
    rcases addU_pat hw with e | ⟨v',h1,e⟩
    · rw [e]; exact h v hv
    · rw [e]; exact ha v' h1
  exact key u ((normL_perm l).mem_iff.1 hu)
theorem foldU_len : ∀ (l acc : List R56),(l.foldl addU acc).length ≤ acc.length + l.length
  | [],acc => by simp
  | u :: l,acc => by
    have := foldU_len l (addU acc u)
    have := addU_len acc u
    simp only [List.foldl_cons,List.length_cons]; omega
theorem normL_len (l : List R56) : (normL l).length ≤ l.length := by
  rw [(normL_perm l).length_eq]
  have := foldU_len l []
  simpa using this
end Go.AB

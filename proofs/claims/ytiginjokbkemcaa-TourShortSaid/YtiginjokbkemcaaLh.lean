import Derived.Test.YtiginjokbkemcaaLg
set_option linter.unusedVariables false
namespace Go.AB
open Go
theorem Path.snoc {P : R24} {l : List Int} {x : Int} (h : Path P l) (hx : x ∈ rd P l) : Path P (l ++ [x]) := by
  refine ⟨?_,fun i hi => ?_⟩
  · have := h.1
    cases l with
    | nil => cases this
    | cons a t => exact this
  · have hi' : i + 1 ≤ l.length := by simp at hi; omega
    rw [List.take_append_of_le_length hi']
    rcases Nat.lt_or_ge (i + 1) l.length with h1 | h1
    · rw [List.getElem_append_left h1]
      exact h.2 i h1
    · have e : i + 1 = l.length := by omega
      rw [List.getElem_append_right (by omega)]
      simp only [e,Nat.sub_self,List.getElem_cons_zero,List.take_length]
      exact hx
theorem Path.zero {P : R24} {l : List Int} (h : Path P l) : (0 : Int) ∈ l := by
  have := h.1
  cases l with
  | nil => cases this
  | cons a t =>
    obtain rfl : a = 0 := by simpa using this
    simp
theorem path0 {P : R24} : Path P [0] := ⟨rfl,fun i hi => by simp at hi⟩
def ordI (l : List Int) (ch : List UInt8) (i : Nat) : Nat := if i < ch.length then (ch.getD i 0).toNat % l.length else 0
def ordS (P : R24) (ch : List UInt8) : Nat → Nat → List Int → List Int
  | 0,_,out => out
  | k + 1,i,out => ordS P ch k (i + 1) (out ++ [(rd P out).getD (ordI (rd P out) ch i) 0])
theorem ordI_lt {l : List Int} {ch : List UInt8} {i : Nat} (h : 0 < l.length) : ordI l ch i < l.length := by
  unfold ordI
  split
  · exact Nat.mod_lt _ h
  · exact h
theorem ordS_ok {P : R24} (hg : Good P) {ch : List UInt8} : ∀ (k i : Nat) (out : List Int),Path P out → out.length + k = P.Points.length → permB P (ordS P ch k i out) = true
  | 0,i,out,h,hl => permB_iff.2 ⟨hl,h⟩
  | k + 1,i,out,h,hl => by
    have hne := List.length_pos_iff.2 (hg.next h.zero (by omega))
    rw [ordS]
    exact ordS_ok hg k (i + 1) _ (h.snoc (getD_mem (ordI_lt hne))) (by simp; omega)
theorem m21_L1_val {N : Nat} {P : R24} (hg : Good P) (hN : 2000 < N) {ch : List UInt8} {K : List Int → Option (List Int)} : ∀ (k i : Nat) (out : List Int) (n : Nat),Path P out → out.length + k = P.Points.length → i ≤ 1000 - k → k < n →
    loopM (m21_L1 N P ch K) n ((i : Int),out) = K (ordS P ch k i out)
  | 0,i,out,n + 1,h,hl,hi,hn => by
    rw [loopM_succ,m21_L1,if_neg (by simp; omega)]; rfl
  | k + 1,i,out,n + 1,h,hl,hi,hn => by
    have hP1 := hg.few.1
    have hne := List.length_pos_iff.2 (hg.next h.zero (by omega))
    have hlt := ordI_lt (ch := ch) (i := i) hne
    have hrl := rd_len (P := P) (path := out)
    rw [loopM_succ,m21_L1]
    dsimp only
    rw [if_pos (by simp; omega),eta24,m45_val hg.few (by omega) hN,Option.bind_some]
    dsimp only [jn]
    have hrest : ∀ p : Int,p = ((ordI (rd P out) ch i : Nat) : Int) → ((getIdx (rd P out) p).bind fun y_29 => (apd out ([y_29] : List Int)).bind fun l2_30 => letM (IntKind.wrap .i64 ((i : Int) + 1)) fun t6_31 => loopM (m21_L1 N P ch K) n (t6_31,l2_30)) = K (ordS P ch (k + 1) i out) := fun p hp => by
      subst hp
      rw [getD_at hlt,Option.bind_some,apd_val (by simp; omega),Option.bind_some,letM_eq,wInc (by omega)]
      rw [ordS]
      exact m21_L1_val hg hN k (i + 1) _ n (h.snoc (getD_mem hlt)) (by simp; omega) (by omega) (by omega)
    by_cases hc : i < ch.length
    · have hg1 : getIdx ch (i : Int) = some (ch.getD i 0) := by
        refine getIdx_q (k := i) rfl ?_
        rw [List.getD_eq_getElem?_getD,List.getElem?_eq_getElem hc]; rfl
      rw [if_pos (decide_eq_true (by omega)),hg1,Option.bind_some]
      unfold asrt
      rw [if_pos (by omega)]
      dsimp only [letM] at hrest ⊢
      refine hrest _ ?_
      have hb : (ch.getD i 0).toNat < 256 := (ch.getD i 0).toNat_lt
      rw [wrap64 (by omega) (by omega),Int.tmod_eq_emod_of_nonneg (by omega)]
      unfold ordI
      rw [if_pos hc]
      exact (Int.natCast_emod _ _).symm
    · rw [if_neg (by rw [decide_eq_true_eq]; omega)]
      refine hrest 0 ?_
      unfold ordI
      rw [if_neg hc]; rfl
theorem m21_val {n : Nat} {P : R24} (hg : Good P) {ch : List UInt8} (hn : 2000 < n) : m21 n P ch = some (ordS P ch (P.Points.length - 1) 0 [0]) := by
  have h1 := hg.one
  have hP1 := hg.few.1
  unfold m21
  rw [jn]
  exact m21_L1_val hg hn (K := fun p => some p) (P.Points.length - 1) 0 [0] n path0 (by simp; omega) (by omega) (by omega)
theorem near_ok {P : R24} (hg : Good P) : ∀ (k : Nat) (path : List Int),Path P path → path.length + k = P.Points.length → permB P (near P k path) = true
  | 0,path,h,hl => permB_iff.2 ⟨hl,h⟩
  | k + 1,path,h,hl => by
    have hne := List.length_pos_iff.2 (hg.next h.zero (by omega))
    rw [near]
    exact near_ok hg k _ (h.snoc (getD_mem (minAt_lt hne))) (by simp; omega)
theorem shS_perm {P : R24} : ∀ (k : Nat) (l best : List Int),Path P l → l.length + k = P.Points.length → (best = [] ∨ permB P best = true) → shS P k l best = [] ∨ permB P (shS P k l best) = true
  | 0,l,best,hl,hk,hb => by
    unfold shS
    split
    · exact .inr (permB_iff.2 ⟨hk,hl⟩)
    · exact hb
  | k + 1,l,best,hl,hk,hb => by
    unfold shS
    exact foldl_keep (I := fun b => b = [] ∨ permB P b = true) hb fun s x hx hs => shS_perm k (l ++ [x]) s (hl.snoc hx) (by simp; omega) hs
theorem shS_mono {P : R24} : ∀ (k : Nat) (l best : List Int) (t : Int),0 < l.length → best ≠ [] → tourL P best ≤ t → shS P k l best ≠ [] ∧ tourL P (shS P k l best) ≤ t
  | 0,l,best,t,hl,hb,ht => by
    unfold shS
    by_cases hc : best = [] ∨ tourL P l < tourL P best
    · rw [if_pos hc]
      rcases hc with hc | hc
      · exact absurd hc hb
      · exact ⟨List.length_pos_iff.1 hl,by omega⟩
    · rw [if_neg hc]
      exact ⟨hb,ht⟩
  | k + 1,l,best,t,hl,hb,ht => by
    unfold shS
    exact foldl_keep (I := fun b => b ≠ [] ∧ tourL P b ≤ t) ⟨hb,ht⟩ fun s x hx hs => shS_mono k (l ++ [x]) s t (by simp) hs.1 hs.2
theorem shS_least {P : R24} {o : List Int} (ho : permB P o = true) : ∀ (k : Nat) (l best : List Int),0 < l.length → l.length + k = P.Points.length → o.take l.length = l → shS P k l best ≠ [] ∧ tourL P (shS P k l best) ≤ tourL P o
  | 0,l,best,hl,hk,hp => by
    obtain ⟨h1,_⟩ := permB_iff.1 ho
    have e : o = l := by rw [← hp,List.take_of_length_le (by omega)]
    subst e
    unfold shS
    by_cases hc : best = [] ∨ tourL P o < tourL P best
    · rw [if_pos hc]
      exact ⟨List.length_pos_iff.1 hl,Int.le_refl _⟩
    · rw [if_neg hc]
      exact ⟨fun h => hc (.inl h),by
        have : ¬ tourL P o < tourL P best := fun h => hc (.inr h)
        omega⟩
  | k + 1,l,best,hl,hk,hp => by
    obtain ⟨h1,h2⟩ := permB_iff.1 ho
    have hlt : l.length < o.length := by omega
    obtain ⟨i,hi⟩ : ∃ i,l.length = i + 1 := ⟨l.length - 1,by omega⟩
    have hx : o[l.length] ∈ rd P l := by
      have := h2.2 i (by omega)
      simp only [← hi] at this
      rwa [hp] at this
    obtain ⟨A,B,e⟩ := List.append_of_mem hx
    unfold shS
    rw [e,List.foldl_append,List.foldl_cons]
    have h3 := shS_least ho k (l ++ [o[l.length]]) (A.foldl (fun b x => shS P k (l ++ [x]) b) best) (by simp) (by simp; omega) (by
      rw [List.length_append,List.length_singleton,List.take_succ_eq_append_getElem hlt,hp])
    exact foldl_keep (I := fun b => b ≠ [] ∧ tourL P b ≤ tourL P o) h3 fun s x hx hs => shS_mono k (l ++ [x]) s _ (by simp) hs.1 hs.2
theorem m9_true (P : R24) (ch : List UInt8) : m9 200000 P ch = some true := by
  unfold m9
  simp only [m11_eval,Option.bind_some,m12,Bool.not_true,Bool.not_false,gdO_true,Bool.false_or,m14,eta24,Bool.not_not]
  by_cases hf : ((decide ((P.Points.length : Int) ≤ (9 : Int))) && (decide ((P.Before.length : Int) ≤ (12 : Int)))) = true
  · rw [hf,gdO_true,m15_val (by omega),Option.bind_some]
    by_cases hc : ((!true || !vP P) || decide ((8 : Int) < (P.Points.length : Int))) = true
    · rw [if_pos hc]
    · rw [if_neg hc]
      simp only [Bool.not_true,Bool.false_or,Bool.or_eq_true,Bool.not_eq_true',not_or,decide_eq_true_eq,Bool.not_eq_false] at hc
      obtain ⟨hv,h8⟩ := hc
      have hg := good_of hv
      have h1 := hg.one
      have hP1 := hg.few.1
      have ho := ordS_ok hg (ch := ch) (P.Points.length - 1) 0 [0] path0 (by simp; omega)
      rw [m21_val hg (by omega),Option.bind_some]
      generalize ordS P ch (P.Points.length - 1) 0 [0] = o at ho ⊢
      obtain ⟨ol,op⟩ := permB_iff.1 ho
      have e1 : lengthS P o = (tourL P o,0) := by unfold lengthS; rw [hv,ho]; rfl
      have e2 : improveS P o = (impS P 180000 o,0) := by unfold improveS; rw [hv,ho]; rfl
      have e3 : nearestS P = (near P (P.Points.length - 1) [0],0) := by unfold nearestS; rw [hv]; rfl
      have e4 : exactS P = (shS P (P.Points.length - 1) [0] [],tourL P (shS P (P.Points.length - 1) [0] []),0) := by unfold exactS; rw [hv,if_neg (by simp),if_neg (by omega)]
      rw [m29_val (by omega),Option.bind_some,m33_val (by omega),Option.bind_some,m31_val (by omega),Option.bind_some,m13_val (by omega),Option.bind_some,e1,e2,e3,e4]
      have q1 := impS_ok 180000 o ho
      have q2 := near_ok hg (P.Points.length - 1) [0] path0 (by simp; omega)
      have hne := shS_ne hg (P.Points.length - 1) [0] [] (by simp) (by simp; omega)
      have q3 : permB P (shS P (P.Points.length - 1) [0] []) = true := by
        rcases shS_perm (P := P) (P.Points.length - 1) [0] [] path0 (by simp; omega) (.inl rfl) with h | h
        · exact absurd h hne
        · exact h
      have least : ∀ o,permB P o = true → tourL P (shS P (P.Points.length - 1) [0] []) ≤ tourL P o := fun o ho => by
        obtain ⟨ol,op⟩ := permB_iff.1 ho
        refine (shS_least ho (P.Points.length - 1) [0] [] (by simp) (by simp; omega) ?_).2
        have := op.1
        cases o with
        | nil => cases this
        | cons a t =>
          obtain rfl : a = 0 := by simpa using this
          rfl
      have l1 := least _ q1.1
      have l2 := least _ q2
      have v1 : ∀ l,permB P l = true → m20 200000 P l = some (tourL P l) := fun l hl => by
        obtain ⟨ll,lp⟩ := permB_iff.1 hl
        exact m20_val hg.vec (lp.inP hg) lp.pos (by omega) (by omega)
      simp only [decide_true,Bool.not_true,Bool.or_false,Bool.not_false,gdO_true,m37_val hg.few h1 (show 2000 < 200000 by omega),Option.bind_some,q1.1,q2,q3,v1 _ q1.1,v1 _ q2,v1 _ q3,letM]
      rw [if_neg (by simp)]
      simp only [decide_eq_true q1.2,decide_eq_true l1,decide_eq_true l2,gdO_true,Option.bind_some,Bool.and_self,decide_true]
  · rw [(Bool.not_eq_true _).mp hf]
    simp [gdO]
end Go.AB

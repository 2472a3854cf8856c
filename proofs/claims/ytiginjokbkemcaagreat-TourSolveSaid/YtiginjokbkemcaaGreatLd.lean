import Derived.Test.YtiginjokbkemcaaGreatLc
set_option linter.unusedVariables false
namespace Go.AB
open Go
def shS (P : R24) : Nat → List Int → List Int → List Int
  | 0,l,best => if best = [] ∨ tourL P l < tourL P best then l else best
  | k + 1,l,best => (rd P l).foldl (fun b x => shS P k (l ++ [x]) b) best
theorem foldl_keep {α S : Type} {f : S → α → S} {s : S} {I : S → Prop} : ∀ {l : List α},I s → (∀ s x,x ∈ l → I s → I (f s x)) → I (l.foldl f s)
  | [],h,_ => h
  | x :: t,h,hs => foldl_keep (l := t) (hs s x (by simp) h) fun s y hy => hs s y (by simp [hy])
def OKt (P : R24) (l : List Int) : Prop := l.length = P.Pq.length ∧ InP P l
theorem shS_ok {P : R24} : ∀ (k : Nat) (l best : List Int),InP P l → l.length + k = P.Pq.length → (best = [] ∨ OKt P best) → shS P k l best = [] ∨ OKt P (shS P k l best)
  | 0,l,best,hl,hk,hb => by
    unfold shS
    split
    · exact .inr ⟨by omega,hl⟩
    · exact hb
  | k + 1,l,best,hl,hk,hb => by
    unfold shS
    exact foldl_keep (I := fun b => b = [] ∨ OKt P b) hb fun s x hx hs => shS_ok k (l ++ [x]) s (hl.snoc (rd_in _ hx)) (by simp; omega) hs
theorem shS_ne {P : R24} (h : Good P) : ∀ (k : Nat) (l best : List Int),(0 : Int) ∈ l → l.length + k = P.Pq.length → shS P k l best ≠ []
  | 0,l,best,h0,hk => by
    unfold shS
    split
    · rintro rfl; cases h0
    · rename_i hc
      exact fun e => hc (.inl e)
  | k + 1,l,best,h0,hk => by
    unfold shS
    have hne := h.next h0 (by omega)
    obtain ⟨t,x,e⟩ : ∃ t x,rd P l = t ++ [x] := ⟨_,_,(List.dropLast_concat_getLast hne).symm⟩
    rw [e,List.foldl_append]
    exact shS_ne h k (l ++ [x]) _ (by simp [h0]) (by simp; omega)
theorem segC_snoc (c : Int → Int → Int) {l : List Int} (h : 0 < l.length) (x : Int) : segC c (l ++ [x]) = segC c l + c (lastP l) x := by
  obtain ⟨A,u,rfl⟩ : ∃ A u,l = A ++ [u] := ⟨l.dropLast,l.getLast (List.length_pos_iff.1 h),(List.dropLast_concat_getLast _).symm⟩
  have e : lastP (A ++ [u]) = u := by unfold lastP; simp
  rw [e,List.append_assoc]
  have := segC_cut c u x [] A
  simp only [segC,Int.add_zero] at this
  exact this
theorem shS_prune {P : R24} (hV : VecP P) : ∀ (k : Nat) (l best : List Int),0 < l.length → best ≠ [] → tourL P best ≤ segC (D P) l → shS P k l best = best
  | 0,l,best,hl,hb,h => by
    unfold shS
    rw [if_neg]
    rintro (e | e)
    · exact hb e
    · have := (D_bd hV (lastP l) 0).1
      unfold tourL at e h
      omega
  | k + 1,l,best,hl,hb,h => by
    unfold shS
    refine foldl_keep (I := fun b => b = best) rfl fun s x hx hs => ?_
    subst hs
    refine shS_prune hV k (l ++ [x]) s (by simp) hb ?_
    rw [segC_snoc _ hl]
    have := (D_bd hV (lastP l) x).1
    omega
theorem foldl_take {α S : Type} {f : S → α → S} {s : S} {l : List α} {i : Nat} (hi : i < l.length) : (l.take (i + 1)).foldl f s = f ((l.take i).foldl f s) l[i] := by
  rw [List.take_succ_eq_append_getElem hi,List.foldl_append]; rfl
def leastS (P : R24) (best : List Int) : Int := if best = [] then -1 else tourL P best
theorem m67_val {n : Nat} {P : R24} (hg : Good P) (hn : 2000 < n) : ∀ (k f : Nat) (l best : List Int),k < f → InP P l → 0 < l.length → l.length + k = P.Pq.length → (best = [] ∨ OKt P best) →
    ∃ blk : List Int,blk.take l.length = l ∧ m67F n f l P.Pq.length (segC (D P) l) (leastS P best) P.Pq P.Bq best = some (blk,leastS P (shS P k l best),shS P k l best)
  | k,f + 1,l,best,hf,hI,h0,hk,hb => by
    have hP1 := hg.few.1
    have hV := hg.vec
    have hs := segC_bd hV l
    have hD := D_bd hV (lastP l) 0
    have hlast := hI _ (lastP_mem h0)
    unfold m67F m67B
    by_cases hc : best ≠ [] ∧ tourL P best ≤ segC (D P) l
    · have hle : leastS P best = tourL P best := if_neg hc.1
      have := tour_bd hV best
      refine ⟨l,List.take_length,?_⟩
      rw [if_pos (by rw [hle]; simp; omega),shS_prune hV k l best h0 hc.1 hc.2]
    · have hpr : ((decide ((0 : Int) ≤ leastS P best)) && (decide (leastS P best ≤ segC (D P) l))) = false := by
        unfold leastS
        by_cases e : best = []
        · rw [if_pos e]; rfl
        · rw [if_neg e]
          have : ¬ tourL P best ≤ segC (D P) l := fun h => hc ⟨e,h⟩
          rw [decide_eq_false this,Bool.and_false]
      rw [hpr,if_neg (by simp),lastP_at h0 (by omega),oB]
      cases k with
      | zero =>
        refine ⟨l,List.take_length,?_⟩
        rw [if_pos (decide_eq_true (by omega)),m48_val (P := P) hV hlast ⟨by omega,by omega⟩,oB]
        dsimp only [letM,jn]
        rw [wrap64 (by omega) (by omega)]
        have ht : segC (D P) l + D P (lastP l) 0 = tourL P l := rfl
        rw [ht]
        have hmm : m43 n l = some l := by unfold m43; rw [apd_val (by simp; omega),oB]; rfl
        unfold shS
        by_cases hx : best = [] ∨ tourL P l < tourL P best
        · have hcond : ((decide (leastS P best < (0 : Int))) || (decide (tourL P l < leastS P best))) = true := by
            unfold leastS
            by_cases e : best = []
            · rw [if_pos e]; rfl
            · rw [if_neg e]
              rcases hx with h | h
              · exact absurd h e
              · rw [decide_eq_true h,Bool.or_true]
          have hl : leastS P l = tourL P l := if_neg (List.length_pos_iff.1 h0)
          rw [if_pos hcond,if_pos hx,hmm,oB,hl]
        · have hb0 : ¬ best = [] := fun e => hx (.inl e)
          have hcond : ((decide (leastS P best < (0 : Int))) || (decide (tourL P l < leastS P best))) = false := by
            unfold leastS
            rw [if_neg hb0]
            have h1 := tour_bd hV best
            have h2 : ¬ tourL P l < tourL P best := fun h => hx (.inr h)
            rw [decide_eq_false h2,decide_eq_false (by omega)]; rfl
          rw [hcond,if_neg (by simp),if_neg hx]
      | succ k =>
        have hrl := rd_len (P := P) (path := l)
        rw [if_neg (by simp; omega)]
        show ∃ blk : List Int,blk.take l.length = l ∧ ((m54 n P l).bind _) = _
        rw [m54_val hg.few hg.inb hI (by omega) hn]
        simp only [oB,jn]
        have key : (fun o => ∃ blk : List Int,blk.take l.length = l ∧ o = some (blk,leastS P (shS P (k + 1) l best),shS P (k + 1) l best))
            (loopM (m67_L1 n l P.Pq.length (segC (D P) l) P.Pq P.Bq (m67F n f) (lastP l) (rd P l) fun p => some (p.1,p.2.1,p.2.2)) n ((0 : Int),l,leastS P best,best)) := by
          refine loopM_ind (fun m x => ∃ i blk,i ≤ (rd P l).length ∧ m = (rd P l).length - i ∧ blk.take l.length = l ∧ x = ((i : Int),blk,leastS P (((rd P l).take i).foldl (fun b x => shS P k (l ++ [x]) b) best),((rd P l).take i).foldl (fun b x => shS P k (l ++ [x]) b) best)) (fun o => ∃ blk : List Int,blk.take l.length = l ∧ o = some (blk,leastS P (shS P (k + 1) l best),shS P (k + 1) l best)) ?_ n (rd P l).length ((0 : Int),l,leastS P best,best) ⟨0,l,by omega,rfl,List.take_length,by simp⟩ (by omega)
          rintro m x ⟨i,blk,hi,rfl,hblk,rfl⟩
          rcases Nat.lt_or_ge i (rd P l).length with h1 | h1
          · have hbi : ((rd P l).take i).foldl (fun b x => shS P k (l ++ [x]) b) best = [] ∨ OKt P (((rd P l).take i).foldl (fun b x => shS P k (l ++ [x]) b) best) :=
              foldl_keep (I := fun b => b = [] ∨ OKt P b) hb fun s x hx hs => shS_ok k (l ++ [x]) s (hI.snoc (rd_in _ (List.mem_of_mem_take hx))) (by simp; omega) hs
            have hxi := rd_in (P := P) (path := l) _ (List.getElem_mem h1)
            obtain ⟨blk',q1,q2⟩ := m67_val hg hn k f (l ++ [(rd P l)[i]]) _ (by omega) (hI.snoc hxi) (by simp) (by simp; omega) hbi
            have hbl : l.length ≤ blk.length := by
              have := congrArg List.length hblk
              simp at this; omega
            refine .inl ⟨(rd P l).length - (i + 1),_,by omega,⟨i + 1,blk',by omega,rfl,?_,rfl⟩,fun nx => ?_⟩
            · have := congrArg (List.take l.length) q1
              rw [List.take_take] at this
              simpa [Nat.min_eq_left] using this
            · have hDx := D_bd hV (lastP l) (rd P l)[i]
              rw [m67_L1,if_pos (by simp; omega),getIdx_at rfl h1,oB]
              unfold apc
              rw [if_pos (by simp; omega),oB,hblk,m48_val (P := P) hV hlast hxi,oB,wrap64 (by omega) (by omega),← segC_snoc (D P) h0,q2,oB,letM_eq,wInc (by omega),foldl_take h1]
          · have : i = (rd P l).length := by omega
            subst this
            refine .inr ⟨_,⟨blk,hblk,rfl⟩,fun nx => ?_⟩
            rw [m67_L1,if_neg (by simp),List.take_length]
            rfl
        exact key
def exactS (P : R24) : List Int × Int × Int :=
  if vP P = false then ([],0,1) else if 8 < P.Pq.length then ([],0,9) else (shS P (P.Pq.length - 1) [0] [],tourL P (shS P (P.Pq.length - 1) [0] []),0)
theorem inP0 {P : R24} (h : 1 ≤ P.Pq.length) : InP P [0] := fun x hx => by
  obtain rfl : x = 0 := by simpa using hx
  omega
theorem m13_val {n : Nat} {P : R24} (hn : 2000 < n) : m13 n P = some (exactS P) := by
  unfold m13 exactS
  rw [eta24,m16_val hn,oB]
  cases hv : vP P with
  | false => rfl
  | true =>
    have hg := good_of hv
    have h1 := hg.one
    rw [if_neg (show ¬ (!true) = true by simp),if_neg (show ¬ true = false by simp)]
    by_cases h8 : 8 < P.Pq.length
    · rw [if_pos (decide_eq_true (by omega)),if_pos h8]
    · rw [if_neg (by simp; omega),if_neg h8]
      unfold m33 m67
      have hmk : mk (0 : Int) 0 (P.Pq.length : Int) = some [] := by
        unfold mk
        rw [if_pos (by omega)]; rfl
      have hap : apc ([] : List Int) ([] : List Int).length [(0 : Int)] P.Pq.length = some [0] := by
        unfold apc
        rw [if_pos (by simp; omega)]; rfl
      simp only [hmk,oB,Int.toNat_natCast]
      rw [hap,oB]
      obtain ⟨blk,_,e⟩ := m67_val hg hn (P.Pq.length - 1) n [0] [] (by omega) (inP0 h1) (by simp) (by simp; omega) (.inl rfl)
      have e' : m67F n n [0] P.Pq.length 0 (-1) P.Pq P.Bq [] = some (blk,leastS P (shS P (P.Pq.length - 1) [0] []),shS P (P.Pq.length - 1) [0] []) := e
      rw [e',oB,oB]
      have hne := shS_ne hg (P.Pq.length - 1) [0] [] (by simp) (by simp; omega)
      unfold leastS
      rw [if_neg hne]
end Go.AB

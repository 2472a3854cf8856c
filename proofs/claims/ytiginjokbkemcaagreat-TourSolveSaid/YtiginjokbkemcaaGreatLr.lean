import Derived.Test.YtiginjokbkemcaaGreatLq
set_option linter.unusedVariables false
namespace Go.AB
open Go
theorem segC_app {c : Int → Int → Int} : ∀ (a : List Int) (x : Int) (b : List Int),a ≠ [] → segC c (a ++ x :: b) = segC c a + c (lastP a) x + segC c (x :: b)
  | [],_,_,h => absurd rfl h
  | [y],x,b,_ => by simp [segC,lastP]
  | y :: z :: t,x,b,_ => by
    have ih := segC_app (c := c) (z :: t) x b (by simp)
    have hl : lastP (y :: z :: t) = lastP (z :: t) := by simp [lastP]
    rw [hl]
    simp only [List.cons_append,segC] at ih ⊢
    omega
theorem lastP_app {a : List Int} {x : Int} {b : List Int} : lastP (a ++ x :: b) = lastP (x :: b) := by
  unfold lastP
  rw [List.getD_eq_getElem?_getD,List.getD_eq_getElem?_getD,List.getElem?_append_right (by simp)]
  congr 2
  simp
theorem sumM_perm {m a b : List Int} (h : a.Perm b) : sumM m a = sumM m b := sum_perm (h.map (mu m))
theorem sumM_cons {m a : List Int} {x : Int} : sumM m (x :: a) = mu m x + sumM m a := by
  unfold sumM; simp
theorem BD.le {P : R24} {l m o : List Int} {v : Int} (hg : Good P) (hm : OKm P m) (hl : Path P l) (h : BD P l m v) (ho : permB P o = true) (hp : o.take l.length = l) : v ≤ tourL P o := by
  obtain ⟨ol,op⟩ := permB_iff.1 ho
  obtain ⟨q1,q2,q3⟩ := perm_all hg ho
  rcases h with ⟨h1,e⟩ | ⟨h1,h2,e⟩ | ⟨h1,h2,r,pr,e⟩
  · have : o = l := by rw [← hp,List.take_of_length_le (by omega)]
    rw [e,this]; exact Int.le_refl _
  · exact e.le hg.one hg.vec hm q1 q2 q3
  · have hsh := hl.short hg
    obtain ⟨q,hq⟩ : ∃ q,o = l ++ q := ⟨o.drop l.length,by have := List.take_append_drop l.length o; rw [hp] at this; exact this.symm⟩
    subst hq
    have hqn : q ≠ [] := fun e => by
      rw [e,List.append_nil] at ol
      exact h1 ol
    obtain ⟨x,t,rfl⟩ : ∃ x t,q = x :: t := by
      cases q with
      | nil => exact absurd rfl hqn
      | cons x t => exact ⟨x,t,rfl⟩
    have hpos := hl.pos
    have hne : l ≠ [] := List.length_pos_iff.1 hpos
    have nd := List.nodup_append.1 q2
    have hz := hl.zero
    have hlm := lastP_mem hpos
    obtain ⟨k1,k2,k3⟩ := pts_ok hg hl h2
    have hperm : (x :: t).Perm (rstI l P.Pq.length) := by
      refine nodup_perm nd.2.1 (((irange_nodup _).filter _)) fun y => ?_
      rw [mem_rstI]
      constructor
      · intro hy
        exact ⟨(q3 y).1 (List.mem_append_right _ hy),fun hyl => nd.2.2 y hyl y hy rfl⟩
      · rintro ⟨hy,hyl⟩
        rcases List.mem_append.1 ((q3 y).2 hy) with h | h
        · exact absurd h hyl
        · exact h
    -- the path from the last point,through all others,to the first one
    have hpr := pr.prim (List.nodup_cons.2 ⟨by simp,List.nodup_nil⟩) (fun y hy => by
      obtain rfl : y = lastP l := by simpa using hy
      simp) (by simp; omega)
    have hmem : ∀ y,y ∈ lastP l :: 0 :: rstI l P.Pq.length ↔ y ∈ (lastP l :: x :: t) ++ [0] := fun y => by
      simp only [List.mem_append,List.mem_cons,List.not_mem_nil,or_false]
      have := hperm.mem_iff (a := y)
      simp only [List.mem_cons] at this
      rw [← this]
      constructor
      · rintro (h | h | h | h)
        · exact .inl (.inl h)
        · exact .inr h
        · exact .inl (.inr (.inl h))
        · exact .inl (.inr (.inr h))
      · rintro ((h | h | h) | h)
        · exact .inl h
        · exact .inr (.inr (.inl h))
        · exact .inr (.inr (.inr h))
        · exact .inr (.inl h)
    have hnd : ((lastP l :: x :: t) ++ [0]).Nodup := by
      have hp2 : ((lastP l :: x :: t) ++ [0]).Perm (lastP l :: 0 :: rstI l P.Pq.length) := by
        rw [List.cons_append]
        refine List.Perm.cons _ ?_
        exact (List.perm_append_comm (l₁ := x :: t) (l₂ := [0])).trans (List.Perm.cons _ hperm)
      exact hp2.nodup_iff.2 k2
    have hr := hpr.path (cs_comm P m) (by simp) hmem hnd
    have hmu := segC_mu (P := P) (m := m) (lastP l) (x :: t ++ [0])
    have hlast : lastP (lastP l :: (x :: t ++ [0])) = 0 := by
      rw [show lastP l :: (x :: t ++ [0]) = (lastP l :: x :: t) ++ 0 :: [] from by simp,lastP_app]; rfl
    have hsum : sumM m (lastP l :: (x :: t ++ [0])) = mu m (lastP l) + (sumM m (rstI l P.Pq.length) + mu m 0) := by
      rw [sumM_cons,sumM_snoc,sumM_perm hperm]
    rw [hlast,hsum] at hmu
    have hseg : segC (D P) (lastP l :: (x :: t ++ [0])) = D P (lastP l) x + (segC (D P) (x :: t) + D P (lastP (x :: t)) 0) := by
      have := segC_snoc (D P) (l := x :: t) (x := 0) (by simp)
      rw [show segC (D P) (lastP l :: (x :: t ++ [0])) = D P (lastP l) x + segC (D P) (x :: t ++ [0]) from rfl,this]
    have htour : tourL P (l ++ x :: t) = segC (D P) l + D P (lastP l) x + segC (D P) (x :: t) + D P (lastP (x :: t)) 0 := by
      unfold tourL
      rw [segC_app l x t hne,lastP_app]
    rw [htour,e]
    rw [show (lastP l :: x :: t) ++ [0] = lastP l :: (x :: t ++ [0]) from rfl] at hr
    omega
theorem m87_true {n : Nat} {P : R24} {l m : List Int} {L : Int} (hl : l.length ≤ 1000) (hm : m.length ≤ 1000) (h20 : P.Pq.length ≤ 20) (hn : 2000 < n) (h : m87 n ⟨P,l,L⟩ m = some true) {o : List Int} (ho : permB P o = true) (hp : o.take l.length = l) : L ≤ tourL P o := by
  unfold m87 at h
  dsimp only at h
  rw [eta24,m60_val hl hn,oB] at h
  cases hpb : posB P l L with
  | false =>
    rw [hpb] at h
    simp [gdO] at h
  | true =>
    obtain ⟨hv,hpa,_⟩ := posB_iff.1 hpb
    rw [hpb,gdO_true,m97_val hm hn,oB] at h
    cases hk : okM P m with
    | false =>
      rw [hk] at h
      simp [gdO] at h
    | true =>
      have hm' := okM_iff.1 hk
      obtain ⟨w,q3,q4⟩ := m98_val (n := n) (L := L) hv hpa hm' h20 hn
      rw [hk,show (true && true) = true from rfl,gdO_true,q4,oB,Bool.true_and] at h
      have := of_decide_eq_true (Option.some.inj h)
      have := BD.le (good_of hv) hm' hpa q3 ho hp
      omega
theorem slc_pre {a b : List Int} : slc (a ++ b) 0 ((a.length : Nat) : Int) = some a := by
  rw [slc_val (l := 0) (h := ((a.length : Nat) : Int)) (i := 0) (j := a.length) rfl rfl (by omega) (by simp)]
  simp
theorem wrong_sim {n : Nat} (hn : 2000 < n) {P : R24} (hv : vP P = true) (h20 : P.Pq.length ≤ 20) : ∀ (f : Nat) (y : R41) (l : List Int) (L : Int) (path : List Int),Fit n f y → frmF f y = true → l.length ≤ 1000 → path.length ≤ l.length →
    ∃ w b,m62F n f ⟨P,l,L⟩ y = some (w,b) ∧ m89F n f ⟨P,l,L⟩ (ownF f y) path = some (b,path ++ w) ∧ (b = false → w = []) ∧ w.length ≤ P.Pq.length - l.length ∧
      (b = false → ∀ o,permB P o = true → o.take l.length = l → L ≤ tourL P o)
  | f + 1,y,l,L,path,hf,hfr,hl,hp => by
    obtain ⟨h1,h2,h3⟩ := hf
    have hfr' : (nodeB y && y.Kd.all fun z => frmF f z.out) = true := hfr
    rw [Bool.and_eq_true,List.all_eq_true] at hfr'
    obtain ⟨hnb,hks⟩ := hfr'
    obtain ⟨_,hk100,hl40,_,_,_⟩ := nodeB_iff.1 hnb
    have hol := ownF_len (f := f) (y := y)
    unfold m62F m62B m89F m89B
    dsimp only
    rw [eta24,hol,show (ownF (f + 1) y).Lf = y.Lf from rfl,show (ownF (f + 1) y).Sp = y.Sp from rfl]
    by_cases hk : y.Kd.length = 0
    · obtain ⟨b,e1,e2⟩ := m64_28 (n := n) (P := P) (l := l) (m := y.Lf) (L := L) hl (by omega) h20 hn
      refine ⟨[],!b,?_,?_,fun _ => rfl,by simp,fun hb o ho hpo => ?_⟩
      · rw [if_pos (decide_eq_true (by omega)),e2,oB]
      · rw [if_pos (decide_eq_true (by omega)),e1,oB,List.append_nil]
      · have hb' : b = true := by simpa using hb
        rw [hb'] at e2
        exact m87_true hl (by omega) h20 hn e2 ho hpo
    · rw [if_neg (by rw [decide_eq_true_eq]; omega),if_neg (by rw [decide_eq_true_eq]; omega),m88_val hl hn,m22_val hl hn,oB,oB]
      by_cases hs : spB P l L y.Sp = true
      · rw [if_pos hs,if_pos hs]
        dsimp only
        rw [List.length_map,List.length_map]
        by_cases hc : (rd P l).length = y.Kd.length
        · rw [if_neg (by simp [hc]),if_neg (by simp [hc]),jn,jn]
          have hs' := hs
          unfold spB at hs'
          rw [Bool.and_eq_true,Bool.and_eq_true,Bool.not_eq_true',decide_eq_true_eq,decide_eq_false_iff_not] at hs'
          obtain ⟨_,hpb,hne⟩ := hs'
          obtain ⟨_,hpa,_⟩ := posB_iff.1 hpb
          have hg := good_of hv
          have hsh := hpa.short hg
          have hlt : l.length < P.Pq.length := by omega
          have key : ∀ (k i nn nn' : Nat),i + k = y.Kd.length → k < nn → k < nn' → ∃ w b,
              loopM (m62_L1 n y (m62F n f) ((rd P l).map (ext75 P l L),true) fun _ => some (([] : List Int),false)) nn (i : Int) = some (w,b) ∧
              loopM (m89_L1 n (ownF (f + 1) y) (m89F n f) ((rd P l).map (ext64 P l L),true) fun p_25 => some (false,p_25)) nn' ((i : Int),path) = some (b,path ++ w) ∧ (b = false → w = []) ∧ w.length ≤ P.Pq.length - l.length ∧
              (b = false → ∀ j (hj : j < (rd P l).length),i ≤ j → ∀ o,permB P o = true → o.take (l.length + 1) = l ++ [(rd P l)[j]] → L ≤ tourL P o) := by
            intro k
            induction k with
            | zero =>
              rintro i (_ | nn) (_ | nn') hik hnn hnn'
              · omega
              · omega
              · omega
              refine ⟨[],false,?_,?_,fun _ => rfl,by simp,fun _ j hj hij => by omega⟩
              · rw [loopM_succ,m62_L1]
                dsimp only
                rw [List.length_map,if_neg (by rw [decide_eq_true_eq]; omega)]
              · rw [loopM_succ,m89_L1]
                dsimp only
                rw [hol,if_neg (by rw [decide_eq_true_eq]; omega),List.append_nil]
            | succ k ih =>
              rintro i (_ | nn) (_ | nn') hik hnn hnn'
              · omega
              · omega
              · omega
              have hi : i < y.Kd.length := by omega
              have hir : i < (rd P l).length := by omega
              have hz := List.getElem_mem hi
              obtain ⟨w',b',e1,e2,e3,e4,e5⟩ := wrong_sim hn hv h20 f (y.Kd[i]).out (l ++ [(rd P l)[i]]) L (path ++ [(i : Int)]) (h3 _ hz) (hks _ hz) (by simp; omega) (by simp; omega)
              have g52 : getIdx ((rd P l).map (ext75 P l L)) (i : Int) = some (ext75 P l L (rd P l)[i]) := map_at hir
              have g57 : getIdx ((rd P l).map (ext64 P l L)) (i : Int) = some (ext64 P l L (rd P l)[i]) := map_at hir
              have hw' : w'.length ≤ P.Pq.length - (l.length + 1) := by simpa using e4
              have s77 : m62_L1 n y (m62F n f) ((rd P l).map (ext75 P l L),true) (fun _ => some (([] : List Int),false)) (loopM (m62_L1 n y (m62F n f) ((rd P l).map (ext75 P l L),true) fun _ => some (([] : List Int),false)) nn) (i : Int) =
                  if b' = true then some ((i : Int) :: w',true) else loopM (m62_L1 n y (m62F n f) ((rd P l).map (ext75 P l L),true) fun _ => some (([] : List Int),false)) nn ((i + 1 : Nat) : Int) := by
                rw [m62_L1]
                dsimp only
                rw [List.length_map,if_pos (decide_eq_true (by omega)),g52,oB,getIdx_at rfl hi,oB,eta41]
                dsimp only [ext75]
                rw [eta24,e1,oB,apd_val (by simp; omega),oB,letM_eq,wInc (by omega)]
                rfl
              have s98 : m89_L1 n (ownF (f + 1) y) (m89F n f) ((rd P l).map (ext64 P l L),true) (fun p_25 => some (false,p_25)) (loopM (m89_L1 n (ownF (f + 1) y) (m89F n f) ((rd P l).map (ext64 P l L),true) fun p_25 => some (false,p_25)) nn') ((i : Int),path) =
                  if b' = true then some (true,path ++ [(i : Int)] ++ w') else loopM (m89_L1 n (ownF (f + 1) y) (m89F n f) ((rd P l).map (ext64 P l L),true) fun p_25 => some (false,p_25)) nn' (((i + 1 : Nat) : Int),path) := by
                rw [m89_L1]
                dsimp only
                rw [hol,if_pos (decide_eq_true (by omega)),ownF_at hi,oB,apd_val (by simp; omega),oB,g57,oB]
                dsimp only [ext64]
                rw [eta24,show m89F n f ⟨P,l ++ [(rd P l)[i]],L⟩ (R30.mk (K30.of (ownF f (y.Kd[i]).out)).out.Sp (K30.of (ownF f (y.Kd[i]).out)).out.Kd (K30.of (ownF f (y.Kd[i]).out)).out.Lf) (path ++ [(i : Int)]) = _ from e2,oB]
                dsimp only
                by_cases hb : b' = true
                · rw [if_pos hb,if_pos hb]
                · rw [if_neg hb,if_neg hb,e3 (by simpa using hb),List.append_nil]
                  have hlen : IntKind.wrap .i64 (((path ++ [(i : Int)]).length : Int) - 1) = ((path.length : Nat) : Int) := by
                    rw [wrap64 (by simp only [List.length_append,List.length_singleton]; omega) (by simp only [List.length_append,List.length_singleton]; omega)]; simp
                  rw [hlen,slc_pre,oB,letM_eq,wInc (by omega)]
              by_cases hb : b' = true
              · refine ⟨(i : Int) :: w',true,?_,?_,(fun h => by cases h),(by simp; omega),(fun h => by cases h)⟩
                · rw [loopM_succ,s77,if_pos hb]
                · rw [loopM_succ,s98,if_pos hb,List.append_assoc]; rfl
              · have hbf : b' = false := by simpa using hb
                obtain ⟨w,b,q1,q2,q3,q4,q5⟩ := ih (i + 1) nn nn' (by omega) (by omega) (by omega)
                refine ⟨w,b,?_,?_,q3,q4,fun hbb j hj hij o ho hpo => ?_⟩
                · rw [loopM_succ,s77,if_neg hb,q1]
                · rw [loopM_succ,s98,if_neg hb,q2]
                · rcases Nat.lt_or_ge i j with h | h
                  · exact q5 hbb j hj h o ho hpo
                  · have : j = i := by omega
                    subst this
                    exact e5 hbf o ho (by rw [List.length_append,List.length_singleton]; exact hpo)
          obtain ⟨w,b,q1,q2,q3,q4,q5⟩ := key y.Kd.length 0 n n (by omega) h1 h1
          refine ⟨w,b,q1,q2,q3,q4,fun hb o ho hpo => ?_⟩
          obtain ⟨ol,op⟩ := permB_iff.1 ho
          have hlo : l.length < o.length := by omega
          obtain ⟨i,hi⟩ : ∃ i,l.length = i + 1 := ⟨l.length - 1,by have := hpa.pos; omega⟩
          have hx : o[l.length] ∈ rd P l := by
            have := op.2 i (by omega)
            simp only [← hi] at this
            rwa [hpo] at this
          obtain ⟨j,hj,ej⟩ := List.getElem_of_mem hx
          refine q5 hb j hj (by omega) o ho ?_
          rw [List.take_succ_eq_append_getElem hlo,hpo,ej]
        · rw [if_pos (by simp; omega),if_pos (by simp; omega)]
          exact ⟨[],true,rfl,by rw [List.append_nil],(fun h => rfl),by simp,(fun h => by cases h)⟩
      · rw [if_neg hs,if_neg hs]
        exact ⟨[],true,rfl,by rw [List.append_nil]; rfl,(fun h => rfl),by simp,(fun h => by cases h)⟩
end Go.AB

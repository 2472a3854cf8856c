import Derived.Test.YtiginjokbkemcaaLq
set_option linter.unusedVariables false
namespace Go.AB
open Go
theorem segC_app {c : Int → Int → Int} : ∀ (a : List Int) (x : Int) (b : List Int),a ≠ [] → segC c (a ++ x :: b) = segC c a + c (lastP a) x + segC c (x :: b)
  | [],_,_,h => absurd rfl h
  | [y],x,b,_ => by simp [segC,lastP]
  | y :: z :: t,x,b,_ => by
    have ih := segC_app (c := c) (z :: t) x b (by simp)
    have hl : lastP (y :: z :: t) = lastP (z :: t) := by simp [lastP]
    rw [hl]
    simp only [List.cons_append,segC] at ih ⊢
    omega
theorem lastP_app {a : List Int} {x : Int} {b : List Int} : lastP (a ++ x :: b) = lastP (x :: b) := by
  unfold lastP
  rw [List.getD_eq_getElem?_getD,List.getD_eq_getElem?_getD,List.getElem?_append_right (by simp)]
  congr 2
  simp
theorem sumM_perm {m a b : List Int} (h : a.Perm b) : sumM m a = sumM m b := sum_perm (h.map (mu m))
theorem sumM_cons {m a : List Int} {x : Int} : sumM m (x :: a) = mu m x + sumM m a := by
  unfold sumM; simp
theorem BD.le {P : R24} {l m o : List Int} {v : Int} (hg : Good P) (hm : OKm P m) (hl : Path P l) (h : BD P l m v) (ho : permB P o = true) (hp : o.take l.length = l) : v ≤ tourL P o := by
  obtain ⟨ol,op⟩ := permB_iff.1 ho
  obtain ⟨q1,q2,q3⟩ := perm_all hg ho
  rcases h with ⟨h1,e⟩ | ⟨h1,h2,e⟩ | ⟨h1,h2,r,pr,e⟩
  · have : o = l := by rw [← hp,List.take_of_length_le (by omega)]
    rw [e,this]; exact Int.le_refl _
  · exact e.le hg.one hg.vec hm q1 q2 q3
  · have hsh := hl.short hg
    obtain ⟨q,hq⟩ : ∃ q,o = l ++ q := ⟨o.drop l.length,by have := List.take_append_drop l.length o; rw [hp] at this; exact this.symm⟩
    subst hq
    have hqn : q ≠ [] := fun e => by
      rw [e,List.append_nil] at ol
      exact h1 ol
    obtain ⟨x,t,rfl⟩ : ∃ x t,q = x :: t := by
      cases q with
      | nil => exact absurd rfl hqn
      | cons x t => exact ⟨x,t,rfl⟩
    have hpos := hl.pos
    have hne : l ≠ [] := List.length_pos_iff.1 hpos
    have nd := List.nodup_append.1 q2
    have hz := hl.zero
    have hlm := lastP_mem hpos
    obtain ⟨k1,k2,k3⟩ := pts_ok hg hl h2
    have hperm : (x :: t).Perm (rstI l P.Pq.length) := by
      refine nodup_perm nd.2.1 (((irange_nodup _).filter _)) fun y => ?_
      rw [mem_rstI]
      constructor
      · intro hy
        exact ⟨(q3 y).1 (List.mem_append_right _ hy),fun hyl => nd.2.2 y hyl y hy rfl⟩
      · rintro ⟨hy,hyl⟩
        rcases List.mem_append.1 ((q3 y).2 hy) with h | h
        · exact absurd h hyl
        · exact h
    -- the path from the last point,through all others,to the first one
    have hpr := pr.prim (List.nodup_cons.2 ⟨by simp,List.nodup_nil⟩) (fun y hy => by
      obtain rfl : y = lastP l := by simpa using hy
      simp) (by simp; omega)
    have hmem : ∀ y,y ∈ lastP l :: 0 :: rstI l P.Pq.length ↔ y ∈ (lastP l :: x :: t) ++ [0] := fun y => by
      simp only [List.mem_append,List.mem_cons,List.not_mem_nil,or_false]
      have := hperm.mem_iff (a := y)
      simp only [List.mem_cons] at this
      rw [← this]
      constructor
      · rintro (h | h | h | h)
        · exact .inl (.inl h)
        · exact .inr h
        · exact .inl (.inr (.inl h))
        · exact .inl (.inr (.inr h))
      · rintro ((h | h | h) | h)
        · exact .inl h
        · exact .inr (.inr (.inl h))
        · exact .inr (.inr (.inr h))
        · exact .inr (.inl h)
    have hnd : ((lastP l :: x :: t) ++ [0]).Nodup := by
      have hp2 : ((lastP l :: x :: t) ++ [0]).Perm (lastP l :: 0 :: rstI l P.Pq.length) := by
        rw [List.cons_append]
        refine List.Perm.cons _ ?_
        exact (List.perm_append_comm (l₁ := x :: t) (l₂ := [0])).trans (List.Perm.cons _ hperm)
      exact hp2.nodup_iff.2 k2
    have hr := hpr.path (cs_comm P m) (by simp) hmem hnd
    have hmu := segC_mu (P := P) (m := m) (lastP l) (x :: t ++ [0])
    have hlast : lastP (lastP l :: (x :: t ++ [0])) = 0 := by
      rw [show lastP l :: (x :: t ++ [0]) = (lastP l :: x :: t) ++ 0 :: [] from by simp,lastP_app]; rfl
    have hsum : sumM m (lastP l :: (x :: t ++ [0])) = mu m (lastP l) + (sumM m (rstI l P.Pq.length) + mu m 0) := by
      rw [sumM_cons,sumM_snoc,sumM_perm hperm]
    rw [hlast,hsum] at hmu
    have hseg : segC (D P) (lastP l :: (x :: t ++ [0])) = D P (lastP l) x + (segC (D P) (x :: t) + D P (lastP (x :: t)) 0) := by
      have := segC_snoc (D P) (l := x :: t) (x := 0) (by simp)
      rw [show segC (D P) (lastP l :: (x :: t ++ [0])) = D P (lastP l) x + segC (D P) (x :: t ++ [0]) from rfl,this]
    have htour : tourL P (l ++ x :: t) = segC (D P) l + D P (lastP l) x + segC (D P) (x :: t) + D P (lastP (x :: t)) 0 := by
      unfold tourL
      rw [segC_app l x t hne,lastP_app]
    rw [htour,e]
    rw [show (lastP l :: x :: t) ++ [0] = lastP l :: (x :: t ++ [0]) from rfl] at hr
    omega
theorem m28_true {n : Nat} {P : R24} {l m : List Int} {L : Int} (hl : l.length ≤ 1000) (hm : m.length ≤ 1000) (h20 : P.Pq.length ≤ 20) (hn : 2000 < n) (h : m28 n ⟨P,l,L⟩ m = some true) {o : List Int} (ho : permB P o = true) (hp : o.take l.length = l) : L ≤ tourL P o := by
  unfold m28 at h
  dsimp only at h
  rw [eta24,m64_val hl hn,oB] at h
  cases hpb : posB P l L with
  | false =>
    rw [hpb] at h
    simp [gdO] at h
  | true =>
    obtain ⟨hv,hpa,_⟩ := posB_iff.1 hpb
    rw [hpb,gdO_true,m50_val hm hn,oB] at h
    cases hk : okM P m with
    | false =>
      rw [hk] at h
      simp [gdO] at h
    | true =>
      have hm' := okM_iff.1 hk
      obtain ⟨w,q3,q4⟩ := m66_val (n := n) (L := L) hv hpa hm' h20 hn
      rw [hk,show (true && true) = true from rfl,gdO_true,q4,oB,Bool.true_and] at h
      have := of_decide_eq_true (Option.some.inj h)
      have := BD.le (good_of hv) hm' hpa q3 ho hp
      omega
theorem slc_pre {a b : List Int} : slc (a ++ b) 0 ((a.length : Nat) : Int) = some a := by
  rw [slc_val (l := 0) (h := ((a.length : Nat) : Int)) (i := 0) (j := a.length) rfl rfl (by omega) (by simp)]
  simp
theorem wrong_sim {n : Nat} (hn : 2000 < n) {P : R24} (hv : vP P = true) (h20 : P.Pq.length ≤ 20) : ∀ (f : Nat) (y : R74) (l : List Int) (L : Int) (path : List Int),Fit n f y → frmF f y = true → l.length ≤ 1000 → path.length ≤ l.length →
    ∃ w b,m77F n f ⟨P,l,L⟩ y = some (w,b) ∧ m98F n f ⟨P,l,L⟩ (ownF f y) path = some (b,path ++ w) ∧ (b = false → w = []) ∧ w.length ≤ P.Pq.length - l.length ∧
      (b = false → ∀ o,permB P o = true → o.take l.length = l → L ≤ tourL P o)
  | f + 1,y,l,L,path,hf,hfr,hl,hp => by
    obtain ⟨h1,h2,h3⟩ := hf
    have hfr' : (nodeB y && y.Kd.all fun z => frmF f z.out) = true := hfr
    rw [Bool.and_eq_true,List.all_eq_true] at hfr'
    obtain ⟨hnb,hks⟩ := hfr'
    obtain ⟨_,hk100,hl40,_,_,_⟩ := nodeB_iff.1 hnb
    have hol := ownF_len (f := f) (y := y)
    unfold m77F m77B m98F m98B
    dsimp only
    rw [eta24,hol,show (ownF (f + 1) y).Lf = y.Lf from rfl,show (ownF (f + 1) y).Split = y.Split from rfl]
    by_cases hk : y.Kd.length = 0
    · obtain ⟨b,e1,e2⟩ := m27_28 (n := n) (P := P) (l := l) (m := y.Lf) (L := L) hl (by omega) h20 hn
      refine ⟨[],!b,?_,?_,fun _ => rfl,by simp,fun hb o ho hpo => ?_⟩
      · rw [if_pos (decide_eq_true (by omega)),e2,oB]
      · rw [if_pos (decide_eq_true (by omega)),e1,oB,List.append_nil]
      · have hb' : b = true := by simpa using hb
        rw [hb'] at e2
        exact m28_true hl (by omega) h20 hn e2 ho hpo
    · rw [if_neg (by rw [decide_eq_true_eq]; omega),if_neg (by rw [decide_eq_true_eq]; omega),m26_val hl hn,m24_val hl hn,oB,oB]
      by_cases hs : spB P l L y.Split = true
      · rw [if_pos hs,if_pos hs]
        dsimp only
        rw [List.length_map,List.length_map]
        by_cases hc : (rd P l).length = y.Kd.length
        · rw [if_neg (by simp [hc]),if_neg (by simp [hc]),jn,jn]
          have hs' := hs
          unfold spB at hs'
          rw [Bool.and_eq_true,Bool.and_eq_true,Bool.not_eq_true',decide_eq_true_eq,decide_eq_false_iff_not] at hs'
          obtain ⟨_,hpb,hne⟩ := hs'
          obtain ⟨_,hpa,_⟩ := posB_iff.1 hpb
          have hg := good_of hv
          have hsh := hpa.short hg
          have hlt : l.length < P.Pq.length := by omega
          have key : ∀ (k i nn nn' : Nat),i + k = y.Kd.length → k < nn → k < nn' → ∃ w b,
              loopM (m77_L1 n y (m77F n f) ((rd P l).map (ext52 P l L),true) fun _ => some (([] : List Int),false)) nn (i : Int) = some (w,b) ∧
              loopM (m98_L1 n (ownF (f + 1) y) (m98F n f) ((rd P l).map (ext57 P l L),true) fun p_25 => some (false,p_25)) nn' ((i : Int),path) = some (b,path ++ w) ∧ (b = false → w = []) ∧ w.length ≤ P.Pq.length - l.length ∧
              (b = false → ∀ j (hj : j < (rd P l).length),i ≤ j → ∀ o,permB P o = true → o.take (l.length + 1) = l ++ [(rd P l)[j]] → L ≤ tourL P o) := by
            intro k
            induction k with
            | zero =>
              rintro i (_ | nn) (_ | nn') hik hnn hnn'
              · omega
              · omega
              · omega
              refine ⟨[],false,?_,?_,fun _ => rfl,by simp,fun _ j hj hij => by omega⟩
              · rw [loopM_succ,m77_L1]
                dsimp only
                rw [List.length_map,if_neg (by rw [decide_eq_true_eq]; omega)]
              · rw [loopM_succ,m98_L1]
                dsimp only
                rw [hol,if_neg (by rw [decide_eq_true_eq]; omega),List.append_nil]
            | succ k ih =>
              rintro i (_ | nn) (_ | nn') hik hnn hnn'
              · omega
              · omega
              · omega
              have hi : i < y.Kd.length := by omega
              have hir : i < (rd P l).length := by omega
              have hz := List.getElem_mem hi
              obtain ⟨w',b',e1,e2,e3,e4,e5⟩ := wrong_sim hn hv h20 f (y.Kd[i]).out (l ++ [(rd P l)[i]]) L (path ++ [(i : Int)]) (h3 _ hz) (hks _ hz) (by simp; omega) (by simp; omega)
              have g52 : getIdx ((rd P l).map (ext52 P l L)) (i : Int) = some (ext52 P l L (rd P l)[i]) := map_at hir
              have g57 : getIdx ((rd P l).map (ext57 P l L)) (i : Int) = some (ext57 P l L (rd P l)[i]) := map_at hir
              have hw' : w'.length ≤ P.Pq.length - (l.length + 1) := by simpa using e4
              have s77 : m77_L1 n y (m77F n f) ((rd P l).map (ext52 P l L),true) (fun _ => some (([] : List Int),false)) (loopM (m77_L1 n y (m77F n f) ((rd P l).map (ext52 P l L),true) fun _ => some (([] : List Int),false)) nn) (i : Int) =
                  if b' = true then some ((i : Int) :: w',true) else loopM (m77_L1 n y (m77F n f) ((rd P l).map (ext52 P l L),true) fun _ => some (([] : List Int),false)) nn ((i + 1 : Nat) : Int) := by
                rw [m77_L1]
                dsimp only
                rw [List.length_map,if_pos (decide_eq_true (by omega)),g52,oB,getIdx_at rfl hi,oB,eta74]
                dsimp only [ext52]
                rw [eta24,e1,oB,apd_val (by simp; omega),oB,letM_eq,wInc (by omega)]
                rfl
              have s98 : m98_L1 n (ownF (f + 1) y) (m98F n f) ((rd P l).map (ext57 P l L),true) (fun p_25 => some (false,p_25)) (loopM (m98_L1 n (ownF (f + 1) y) (m98F n f) ((rd P l).map (ext57 P l L),true) fun p_25 => some (false,p_25)) nn') ((i : Int),path) =
                  if b' = true then some (true,path ++ [(i : Int)] ++ w') else loopM (m98_L1 n (ownF (f + 1) y) (m98F n f) ((rd P l).map (ext57 P l L),true) fun p_25 => some (false,p_25)) nn' (((i + 1 : Nat) : Int),path) := by
                rw [m98_L1]
                dsimp only
                rw [hol,if_pos (decide_eq_true (by omega)),ownF_at hi,oB,apd_val (by simp; omega),oB,g57,oB]
                dsimp only [ext57]
                rw [eta24,show m98F n f ⟨P,l ++ [(rd P l)[i]],L⟩ (R79.mk (K79.of (ownF f (y.Kd[i]).out)).out.Split (K79.of (ownF f (y.Kd[i]).out)).out.Kd (K79.of (ownF f (y.Kd[i]).out)).out.Lf) (path ++ [(i : Int)]) = _ from e2,oB]
                dsimp only
                by_cases hb : b' = true
                · rw [if_pos hb,if_pos hb]
                · rw [if_neg hb,if_neg hb,e3 (by simpa using hb),List.append_nil]
                  have hlen : IntKind.wrap .i64 (((path ++ [(i : Int)]).length : Int) - 1) = ((path.length : Nat) : Int) := by
                    rw [wrap64 (by simp only [List.length_append,List.length_singleton]; omega) (by simp only [List.length_append,List.length_singleton]; omega)]; simp
                  rw [hlen,slc_pre,oB,letM_eq,wInc (by omega)]
              by_cases hb : b' = true
              · refine ⟨(i : Int) :: w',true,?_,?_,(fun h => by cases h),(by simp; omega),(fun h => by cases h)⟩
                · rw [loopM_succ,s77,if_pos hb]
                · rw [loopM_succ,s98,if_pos hb,List.append_assoc]; rfl
              · have hbf : b' = false := by simpa using hb
                obtain ⟨w,b,q1,q2,q3,q4,q5⟩ := ih (i + 1) nn nn' (by omega) (by omega) (by omega)
                refine ⟨w,b,?_,?_,q3,q4,fun hbb j hj hij o ho hpo => ?_⟩
                · rw [loopM_succ,s77,if_neg hb,q1]
                · rw [loopM_succ,s98,if_neg hb,q2]
                · rcases Nat.lt_or_ge i j with h | h
                  · exact q5 hbb j hj h o ho hpo
                  · have : j = i := by omega
                    subst this
                    exact e5 hbf o ho (by rw [List.length_append,List.length_singleton]; exact hpo)
          obtain ⟨w,b,q1,q2,q3,q4,q5⟩ := key y.Kd.length 0 n n (by omega) h1 h1
          refine ⟨w,b,q1,q2,q3,q4,fun hb o ho hpo => ?_⟩
          obtain ⟨ol,op⟩ := permB_iff.1 ho
          have hlo : l.length < o.length := by omega
          obtain ⟨i,hi⟩ : ∃ i,l.length = i + 1 := ⟨l.length - 1,by have := hpa.pos; omega⟩
          have hx : o[l.length] ∈ rd P l := by
            have := op.2 i (by omega)
            simp only [← hi] at this
            rwa [hpo] at this
          obtain ⟨j,hj,ej⟩ := List.getElem_of_mem hx
          refine q5 hb j hj (by omega) o ho ?_
          rw [List.take_succ_eq_append_getElem hlo,hpo,ej]
        · rw [if_pos (by simp; omega),if_pos (by simp; omega)]
          exact ⟨[],true,rfl,by rw [List.append_nil],(fun h => rfl),by simp,(fun h => by cases h)⟩
      · rw [if_neg hs,if_neg hs]
        exact ⟨[],true,rfl,by rw [List.append_nil]; rfl,(fun h => rfl),by simp,(fun h => by cases h)⟩
theorem chk {n : Nat} (hn : 2000 < n) {P : R24} {l : List Int} {L : Int} {y : R74} (h20 : P.Pq.length ≤ 20) (hl : l.length ≤ 1000) (hy : Fit n n y) :
    ∃ w e,m40 n ⟨P,l,L⟩ (ownF n y) = some (w,e) ∧ m42 n ⟨P,l,L⟩ y = some (w,e) ∧ w.length ≤ 1000 ∧ (e = 0 → posB P l L = true ∧ ∀ o,permB P o = true → o.take l.length = l → L ≤ tourL P o) := by
  unfold m40 m42
  dsimp only
  rw [eta24,m61_val hl hn,m64_val hl hn,oB,oB]
  cases hp : posB P l L with
  | false => exact ⟨[],1,rfl,rfl,by simp,fun h => by cases h⟩
  | true =>
    obtain ⟨hv,hpa,_⟩ := posB_iff.1 hp
    rw [if_neg (by simp),show (!(!true)) = true from rfl,gdO_true,eta74,eta79,m76_val (by omega) hy,oB]
    unfold m75
    dsimp only
    rw [eta24,eta79,m97_val (by omega) hy,oB]
    cases ht : treB n y with
    | false => exact ⟨[],1,rfl,rfl,by simp,fun h => by cases h⟩
    | true =>
      have hfr : frmF n y = true := by
        unfold treB at ht
        rw [Bool.and_eq_true] at ht
        exact ht.1
      obtain ⟨w,b,e1,e2,e3,e4,e5⟩ := wrong_sim hn hv h20 n y l L [] hy hfr hl (by simp)
      rw [if_neg (by simp),if_neg (by simp),show m98 n ⟨P,l,L⟩ (ownF n y) [] = _ from e2,show m77 n ⟨P,l,L⟩ y = _ from e1,oB,oB]
      dsimp only
      rw [List.nil_append]
      cases b with
      | true => exact ⟨w,21,rfl,rfl,by omega,fun h => by cases h⟩
      | false => exact ⟨[],0,rfl,rfl,by simp,fun _ => ⟨rfl,e5 rfl⟩⟩
theorem rightB {n : Nat} (hn : 2000 < n) {P : R24} {l : List Int} {L : Int} {y : R74} (h20 : P.Pq.length ≤ 20) (hy : Fit n n y) : ∃ b,m43 n P ⟨l,L,ownF n y⟩ = some b ∧ m44 n P ⟨l,L,y⟩ = some b := by
  unfold m43 m44
  dsimp only
  rw [eta24,m29_val hn,m30_val hn,oB,oB]
  by_cases hc : ((!decide ((lengthS P l).2 = (0 : Int))) || (!decide ((lengthS P l).1 = L))) = true
  · rw [if_pos hc,if_pos hc]
    exact ⟨false,rfl,rfl⟩
  · rw [if_neg hc,if_neg hc,eta79,eta74]
    obtain ⟨w,e,q1,q2,_⟩ := chk (l := [0]) (L := (lengthS P l).1) hn h20 (by simp) hy
    rw [q1,q2]
    exact ⟨_,rfl,rfl⟩
theorem ordS_take {P : R24} {ch : List UInt8} : ∀ (k i : Nat) (out : List Int) (j : Nat),j ≤ out.length → (ordS P ch k i out).take j = out.take j
  | 0,_,_,_,_ => rfl
  | k + 1,i,out,j,h => by
    rw [ordS,ordS_take k (i + 1) _ j (by simp; omega),List.take_append_of_le_length h]
theorem m10_L1_val {N : Nat} {P : R24} {l0 : List Int} {L0 : Int} (hg : Good P) (hN : 2000 < N) {ch : List UInt8} {K : List Int → Option Bool} : ∀ (k i : Nat) (out : List Int) (n : Nat),Path P out → out.length + k = P.Pq.length → i ≤ 1000 - k → k < n →
    loopM (m10_L1 N ⟨P,l0,L0⟩ ch K) n ((i : Int),out) = K (ordS P ch k i out)
  | 0,i,out,n + 1,h,hl,hi,hn => by
    rw [loopM_succ,m10_L1,if_neg (by simp; omega)]; rfl
  | k + 1,i,out,n + 1,h,hl,hi,hn => by
    have hP1 := hg.few.1
    have hne := List.length_pos_iff.2 (hg.next h.zero (by omega))
    have hlt := ordI_lt (ch := ch) (i := i) hne
    have hrl := rd_len (P := P) (path := out)
    rw [loopM_succ,m10_L1]
    dsimp only
    rw [if_pos (by simp; omega),eta24,m45_val hg.few (by omega) hN,oB]
    dsimp only [jn]
    have hrest : ∀ p : Int,p = ((ordI (rd P out) ch i : Nat) : Int) → ((getIdx (rd P out) p).bind fun y_29 => (apd out ([y_29] : List Int)).bind fun l2_30 => letM (IntKind.wrap .i64 ((i : Int) + 1)) fun t6_31 => loopM (m10_L1 N ⟨P,l0,L0⟩ ch K) n (t6_31,l2_30)) = K (ordS P ch (k + 1) i out) := fun p hp => by
      subst hp
      rw [getD_at hlt,oB,apd_val (by simp; omega),oB,letM_eq,wInc (by omega)]
      rw [ordS]
      exact m10_L1_val hg hN k (i + 1) _ n (h.snoc (getD_mem hlt)) (by simp; omega) (by omega) (by omega)
    by_cases hc : i < ch.length
    · have hg1 : getIdx ch (i : Int) = some (ch.getD i 0) := by
        refine getIdx_q (k := i) rfl ?_
        rw [List.getD_eq_getElem?_getD,List.getElem?_eq_getElem hc]; rfl
      rw [if_pos (decide_eq_true (by omega)),hg1,oB]
      unfold asrt
      rw [if_pos (by omega)]
      dsimp only [letM] at hrest ⊢
      refine hrest _ ?_
      have hb : (ch.getD i 0).toNat < 256 := (ch.getD i 0).toNat_lt
      rw [wrap64 (by omega) (by omega),Int.tmod_eq_emod_of_nonneg (by omega)]
      unfold ordI
      rw [if_pos hc]
      exact (Int.natCast_emod _ _).symm
    · rw [if_neg (by rw [decide_eq_true_eq]; omega)]
      refine hrest 0 ?_
      unfold ordI
      rw [if_neg hc]; rfl
theorem m11_gen {n : Nat} (hn : 2000 < n) : m11 n = some true := by
  rw [← m11_eval]
  unfold m11
  have hv : vP (R24.mk ([(R45.mk (0 : Int) (0 : Int)),(R45.mk (4 : Int) (0 : Int)),(R45.mk (4 : Int) (3 : Int)),(R45.mk (0 : Int) (3 : Int))] : List R45) ([] : List R93)) = true := by decide
  have hm : mk (0 : Int) (4 : Int) (4 : Int) = some (List.replicate 4 0) := mk_val (k := 4) rfl rfl (by omega)
  have ho : OKm (R24.mk ([(R45.mk (0 : Int) (0 : Int)),(R45.mk (4 : Int) (0 : Int)),(R45.mk (4 : Int) (3 : Int)),(R45.mk (0 : Int) (3 : Int))] : List R45) ([] : List R93)) (List.replicate 4 0) := ⟨rfl,fun x hx => by
    obtain ⟨_,rfl⟩ := List.mem_replicate.1 hx
    omega⟩
  obtain ⟨v,q1,q2⟩ := m18_ok (n := n) hv ho (by simp) hn
  obtain ⟨v',q1',q2'⟩ := m18_ok (n := 200000) hv ho (by simp) (by omega)
  obtain rfl := q1.uniq q1'
  have hex := exactS_len (P := R24.mk ([(R45.mk (0 : Int) (0 : Int)),(R45.mk (4 : Int) (0 : Int)),(R45.mk (4 : Int) (3 : Int)),(R45.mk (0 : Int) (3 : Int))] : List R45) ([] : List R93)) (by simp)
  simp only [m13_val hn,m13_val (n := 200000) (show 2000 < 200000 by omega),hm,oB,q2,q2']
  rw [m17_val (by omega) (by omega),m17_val (n := 200000) (by omega) (by omega),m22_val hn,m22_val (n := 200000) (by omega)]
theorem m10_true {n : Nat} (hn : 2000 < n) (g : R52) (y : R74) (ch : List UInt8) (hy : Fit n n y) : m10 n g y ch = some true := by
  obtain ⟨P,l,L⟩ := g
  unfold m10
  dsimp only
  rw [m11_gen hn,oB,show (!(!true)) = true from rfl,gdO_true,eta24]
  have h38 : m38 n P = some ((decide ((P.Pq.length : Int) ≤ (6 : Int))) && (decide ((P.Bq.length : Int) ≤ (12 : Int)))) := rfl
  rw [h38,oB,show (!true) = false from rfl,Bool.false_or]
  have h39 : m39 n y = some (decide (nodF n y ≤ 300)) := by
    unfold m39
    rw [eta74,show m74 n y = _ from m74F_val n y hy,oB]
  by_cases hf : ((!((decide ((P.Pq.length : Int) ≤ (6 : Int))) && (decide ((P.Bq.length : Int) ≤ (12 : Int))))) || decide ((12 : Int) < (l.length : Int))) = true
  · rw [hf,Bool.not_true,gdO_false,oB,Bool.true_or,if_pos rfl,oB]
  · have hf' := (Bool.not_eq_true _).mp hf
    rw [hf',Bool.not_false,gdO_true,eta74,h39,oB,Bool.false_or]
    simp only [Bool.or_eq_true,Bool.not_eq_true',not_or,Bool.not_eq_false,Bool.and_eq_true,decide_eq_true_eq] at hf
    obtain ⟨⟨h6,h12⟩,hl⟩ := hf
    by_cases hc : nodF n y ≤ 300
    · rw [decide_eq_true hc,if_neg (by simp)]
      have h41 : m41 n y = some (ownF n y) := m41F_val n y hy
      have h25 : m25 n (R52.mk P l L) = some (R57.mk P l L) := rfl
      obtain ⟨w,e,q1,q2,q3,q4⟩ := chk (P := P) (l := l) (L := L) hn (by omega) (by omega) hy
      obtain ⟨b,b1,b2⟩ := rightB (l := l) (L := L) hn (P := P) (by omega) hy
      rw [h25,oB,h41,oB]
      dsimp only
      rw [eta24,eta79,q1,oB,q2,oB,oB]
      dsimp only
      rw [m17_val (by omega) (by omega),oB]
      rw [decide_eq_true rfl,decide_eq_true rfl]
      have h14 : m14 n P = some P := rfl
      simp only [show (!((!true) || (!true))) = true from rfl,gdO_true,h14,oB,eta79,b1,b2]
      rw [if_neg (by simp)]
      by_cases he : e = 0
      · rw [if_neg (by simp [he]),apd_val (by simp; omega),oB,List.nil_append,jn]
        obtain ⟨hpb,hsound⟩ := q4 he
        obtain ⟨hv,hpa,_⟩ := posB_iff.1 hpb
        have hg := good_of hv
        have hsh := hpa.short hg
        refine Eq.trans (m10_L1_val hg hn (P.Pq.length - l.length) 0 l n hpa (by omega) (by omega) (by omega)) ?_
        have ho := ordS_ok hg (ch := ch) (P.Pq.length - l.length) 0 l hpa (by omega)
        obtain ⟨ol,op⟩ := permB_iff.1 ho
        have ht := ordS_take (P := P) (ch := ch) (P.Pq.length - l.length) 0 l l.length (Nat.le_refl _)
        rw [List.take_length] at ht
        rw [m20_val hg.vec (op.inP hg) op.pos (by omega) hn,oB,decide_eq_true (hsound _ ho ht)]
      · rw [if_pos (by simp [he])]
    · rw [decide_eq_false hc,if_pos (by rfl),oB]
end Go.AB

import Derived.Test.YtpccmcepgllccaaGreatLn
set_option linter.unusedVariables false
namespace Go.AB
open Go
theorem m74_loop {n : Nat} {l : List R63} {ord : List Int} (ho : Ord l ord) (hb : bd l) (hp : ∀ y,y ∈ l → 1 ≤ y.Ln) (hN : l.length ≤ 100) (hn : 5000 < n) (K : List Int → Option (List Int)) {rest0 : List Int} (hr0 : rest0.length = l.length) :
    ∃ o,loopM (m74_L4 n l ord K) n ((0 : Int),(0 : Int),([] : List Int),([] : List Int),rest0) = K o ∧ Runs l 0 (lens l) [] o ∧ o.length = l.length := by
  have hol := ho.len
  refine loopM_ind (fun m s => ∃ (t : Int) (next : Nat) (ready out rest R : List Int),s = (t,(next : Int),ready,out,rest) ∧ m = (mu l t R).toNat ∧ PI l ord t next ready out rest R ∧ ∀ o,Runs l t R out o → Runs l 0 (lens l) [] o)
    (fun r => ∃ o,r = K o ∧ Runs l 0 (lens l) [] o ∧ o.length = l.length) ?_ n (mu l 0 (lens l)).toNat _
    ⟨0,0,[],[],rest0,lens l,rfl,rfl,⟨WF.start hp,Nat.zero_le _,hr0,fun j hj _ => ⟨lens_at hj,(hb _ (Jn_mem hj)).1,by simp⟩,fun j hj hm => absurd ((ho.mem (j : Int)).2 ⟨by omega,by omega⟩) (by simpa using hm),by simp,fun x hx => absurd hx (by simp)⟩,fun o h => h⟩ (by have := mu_nonneg l 0 (lens l); omega)
  rintro m s ⟨t,next,ready,out,rest,R,rfl,rfl,hP,hR⟩
  rcases Nat.lt_or_ge out.length l.length with hlt | hge
  · -- the clock may jump to the next release
    obtain ⟨t',hP',hs,hmu,hR',hG⟩ : ∃ t',PI l ord t' next ready out rest R ∧ (ready ≠ [] ∨ ∃ q,ord[next]? = some q ∧ (J l q).Rl ≤ t') ∧ mu l t' R ≤ mu l t R ∧ (∀ o,Runs l t' R out o → Runs l 0 (lens l) [] o) ∧
        ∀ (G : Int → Option (List Int)),(if (decide ((ready.length : Int) = (0 : Int))) = true then ((getIdx ord (next : Int)).bind fun y_126 => ((getIdx l y_126).bind fun y_127 => (letM ((if y_127.Rl > t then y_127.Rl else t)) fun t8_128 => (G t8_128)))) else (G t)) = G t' := by
      by_cases hr : ready = []
      · subst hr
        have ind : ∀ j : Nat,j < l.length → R.getD j 0 ≠ 0 → (j : Int) ∈ ord.drop next := fun j hj h0 => Classical.byContradiction fun hm => by
          have h2 := hP.rel2 j hj hm
          exact absurd (h2.2.2.1 (by rw [← h2.1]; exact h0)) (by simp)
        obtain ⟨j0,hj0,hj00⟩ := hP.wf.some hlt
        have hd0 := ind j0 hj0 hj00
        have hnx : next < l.length := by
          apply Classical.byContradiction
          intro hc
          rw [List.drop_of_length_le (by omega)] at hd0
          simp at hd0
        obtain ⟨q,hq,eq,hd,hqn,hqm⟩ := Ord.at ho hnx
        have hqd : (q : Int) ∈ ord.drop next := by rw [hd]; simp
        have hq1 := hP.rel1 q hq hqd
        have hql := hp _ (Jn_mem hq)
        have hPq : ∀ hw : WF l (Jn l q).Rl R out,PI l ord (Jn l q).Rl next [] out rest R := fun hw =>
          ⟨hw,hP.nx,hP.rl,fun j hj hm => ⟨(hP.rel1 j hj hm).1,hqm j hm,by simp⟩,fun j hj hm => ⟨(hP.rel2 j hj hm).1,by have := (hP.rel2 j hj hm).2.1; have := hq1.2.1; omega,(hP.rel2 j hj hm).2.2⟩,by simp,fun x hx => absurd hx (by simp)⟩
        have hGq : ∀ (G : Int → Option (List Int)),(if (decide ((([] : List Int).length : Int) = (0 : Int))) = true then ((getIdx ord (next : Int)).bind fun y_126 => ((getIdx l y_126).bind fun y_127 => (letM ((if y_127.Rl > t then y_127.Rl else t)) fun t8_128 => (G t8_128)))) else (G t)) = G (Jn l q).Rl := fun G => by
          rw [if_pos (by rfl),getIdx_q rfl eq,oB,Jn_get hq,oB,letM_eq,iteMax,Int.max_eq_right hq1.2.1]
        have hsq : (([] : List Int) ≠ [] ∨ ∃ q',ord[next]? = some q' ∧ (J l q').Rl ≤ (Jn l q).Rl) := .inr ⟨_,eq,by rw [J_nat]; exact Int.le_refl _⟩
        by_cases ht : t < (Jn l q).Rl
        · have hnext : isNext l t R (Jn l q).Rl := ⟨⟨q,⟨hq,by omega,ht⟩,rfl⟩,fun j hj => hqm j (ind j hj.1 hj.2.1)⟩
          have hna : ∀ j,¬ act l t R j := fun j hj => by
            have := hqm j (ind j hj.1 hj.2.1)
            have := hj.2.2
            omega
          obtain ⟨w1,w2,w3⟩ := hP.wf.idle hb hnext
          exact ⟨_,hPq w2,hsq,Int.le_of_lt w3,fun o hoo => hR o (.idle hlt hna hnext hoo),hGq⟩
        · have e : (Jn l q).Rl = t := by have := hq1.2.1; omega
          rw [e] at hPq hsq hGq
          exact ⟨t,hPq hP.wf,hsq,Int.le_refl _,hR,hGq⟩
      · refine ⟨t,hP,.inl hr,Int.le_refl _,hR,fun G => ?_⟩
        have : ¬ (ready.length : Int) = 0 := fun h => hr (List.eq_nil_of_length_eq_zero (by omega))
        rw [if_neg (by simpa using this)]
    obtain ⟨_,⟨nx',rd',rs',rfl,hQ,hne,hafter⟩,hins⟩ := ins_loop ho (n := n) hb hp hN (by omega) hP' hs
    have hrl : rd'.length ≤ l.length := nodup_le _ _ hQ.rnd hQ.rin
    obtain ⟨i,hi,e65,hmin⟩ := m83_val (n := n) (ready := rd') (rest := rs') (by omega) hne (by rw [hQ.rl]; exact hQ.rin) (by omega)
    have hir := hQ.rin i hi
    obtain ⟨iq,rfl⟩ : ∃ iq : Nat,i = (iq : Int) := ⟨i.toNat,by omega⟩
    have hiql : iq < l.length := by omega
    have nod : ∀ j : Nat,j < l.length → (j : Int) ∈ rd' → ¬ (j : Int) ∈ ord.drop nx' := fun j hj hm hd => (hQ.rel1 j hj hd).2.2 hm
    have hi2 := hQ.rel2 iq hiql (nod iq hiql hi)
    have hrs : iq < rs'.length := by rw [hQ.rl]; exact hiql
    have hRl : iq < R.length := by rw [hQ.wf.len]; exact hiql
    have hRi0 : R.getD iq 0 ≠ 0 := by rw [hi2.1]; exact hi2.2.2.2 hi
    have hbest : isBest l t' R iq := by
      refine ⟨⟨hiql,hRi0,hi2.2.1⟩,fun j hj => ?_⟩
      have hjd : ¬ (j : Int) ∈ ord.drop nx' := fun hd => by
        have := hafter j hj.1 hd
        have := hj.2.2
        omega
      have hj2 := hQ.rel2 j hj.1 hjd
      have := hmin j (hj2.2.2.1 (by rw [← hj2.1]; exact hj.2.1))
      rw [hi2.1,hj2.1]
      simp only [Int.toNat_natCast] at this
      omega
    have hbig := hQ.wf.big hb
    have hbi := hQ.wf.bdr iq hiql
    have hbg := hbig.2 iq hiql
    have now0 := hQ.wf.now0
    have gi : getIdx rs' (iq : Int) = some (R.getD iq 0) := by rw [hi2.1]; exact get_getD hrs
    have hmuq := mu_nonneg l t R
    have outl := hQ.wf.outl
    -- what comes behind the choice of the span
    have tailP : ∀ (w : Int) (nx : Int × Int × List Int × List Int × List Int → Option (List Int)),0 < w → w < R.getD iq 0 →
        (letM ((IntKind.wrap .i64 (t' + w))) fun t8_168 => ((getIdx rs' (iq : Int)).bind fun y_169 => ((getIdx rs' (iq : Int)).bind fun y_170 => ((setIdx rs' (iq : Int) (IntKind.wrap .i64 (y_169 - w))).bind fun l3_171 => ((getIdx l3_171 (iq : Int)).bind fun y_172 => (if (decide (y_172 = (0 : Int))) = true then ((apd out ([t8_168] : List Int)).bind fun l6_173 => ((m86o n rd' (iq : Int)).bind fun y_174 => (nx (t8_168,(nx' : Int),y_174,l6_173,l3_171)))) else (nx (t8_168,(nx' : Int),rd',out,l3_171)))))))) = nx (t' + w,(nx' : Int),rd',out,rs'.set iq (R.getD iq 0 - w)) := by
      intro w nx hw0 hw
      rw [letM_eq,wrap64 (x := t' + w) (by omega) (by omega),gi,oB,oB,wrap64 (x := R.getD iq 0 - w) (by omega) (by omega),setIdx_at rfl hrs,oB,getIdx_q (y := R.getD iq 0 - w) rfl (by simp [hrs]),oB,if_neg (fun hh => by have := of_decide_eq_true hh; omega)]
    have tailF : ∀ (nx : Int × Int × List Int × List Int × List Int → Option (List Int)),
        (letM ((IntKind.wrap .i64 (t' + R.getD iq 0))) fun t8_168 => ((getIdx rs' (iq : Int)).bind fun y_169 => ((getIdx rs' (iq : Int)).bind fun y_170 => ((setIdx rs' (iq : Int) (IntKind.wrap .i64 (y_169 - R.getD iq 0))).bind fun l3_171 => ((getIdx l3_171 (iq : Int)).bind fun y_172 => (if (decide (y_172 = (0 : Int))) = true then ((apd out ([t8_168] : List Int)).bind fun l6_173 => ((m86o n rd' (iq : Int)).bind fun y_174 => (nx (t8_168,(nx' : Int),y_174,l6_173,l3_171)))) else (nx (t8_168,(nx' : Int),rd',out,l3_171)))))))) = nx (t' + R.getD iq 0,(nx' : Int),rd'.erase (iq : Int),out ++ [t' + R.getD iq 0],rs'.set iq 0) := by
      intro nx
      rw [letM_eq,wrap64 (x := t' + R.getD iq 0) (by omega) (by omega),gi,oB,oB,Int.sub_self,wrap64 (x := 0) (by omega) (by omega),setIdx_at rfl hrs,oB,getIdx_q (y := 0) rfl (by simp [hrs]),oB,if_pos (by rfl),apd_val (by simp; omega),oB,m86o_val (by omega) hQ.rnd hi (by omega),oB]
    have doFin : (∀ j,fut l t' R j → t' + R.getD iq 0 ≤ (Jn l j).Rl) → (∀ nx,m74_L4 n l ord K nx (t,(next : Int),ready,out,rest) = nx (t' + R.getD iq 0,(nx' : Int),rd'.erase (iq : Int),out ++ [t' + R.getD iq 0],rs'.set iq 0)) →
        ∃ i' x',i' < (mu l t R).toNat ∧ (∃ (t : Int) (next : Nat) (ready out rest R : List Int),x' = (t,(next : Int),ready,out,rest) ∧ i' = (mu l t R).toNat ∧ PI l ord t next ready out rest R ∧ ∀ o,Runs l t R out o → Runs l 0 (lens l) [] o) ∧ ∀ nx,m74_L4 n l ord K nx (t,(next : Int),ready,out,rest) = nx x' := by
      intro hfin hmod
      obtain ⟨w1,w2⟩ := hQ.wf.fin hb hbest
      refine ⟨(mu l (t' + R.getD iq 0) (R.set iq 0)).toNat,_,by have := mu_nonneg l (t' + R.getD iq 0) (R.set iq 0); omega,⟨_,nx',_,_,_,R.set iq 0,rfl,rfl,⟨w1,hQ.nx,by simpa using hQ.rl,fun j hj hm => ?_,fun j hj hm => ?_,hQ.rnd.erase _,fun x hx => hQ.rin x (List.mem_of_mem_erase hx)⟩,fun o hoo => hR' o (.fin hlt hbest hfin hoo)⟩,hmod⟩
      · have hne : j ≠ iq := fun e => by subst e; exact nod j hj hi hm
        have h1 := hQ.rel1 j hj hm
        have h2 := hp _ (Jn_mem hj)
        rw [getD_set hRl,if_neg hne]
        exact ⟨h1.1,hfin j ⟨hj,by omega,hafter j hj hm⟩,fun hh => h1.2.2 (List.mem_of_mem_erase hh)⟩
      · have h2 := hQ.rel2 j hj hm
        rw [getD_set hRl,getD_set hrs]
        by_cases e : j = iq
        · subst e
          rw [if_pos rfl,if_pos rfl]
          exact ⟨rfl,by omega,⟨fun hh => absurd rfl hh,fun hh => absurd hh hQ.rnd.not_mem_erase⟩⟩
        · rw [if_neg e,if_neg e]
          refine ⟨h2.1,by omega,h2.2.2.trans (List.mem_erase_of_ne ?_).symm⟩
          intro hh
          exact e (Int.ofNat.inj hh)
    have pre : ∀ nx,m74_L4 n l ord K nx (t,(next : Int),ready,out,rest) = (if (decide ((nx' : Int) < (ord.length : Int))) = true then ((getIdx ord (nx' : Int)).bind fun y_163 => ((getIdx l y_163).bind fun y_164 => (letM ((if (IntKind.wrap .i64 (y_164.Rl - t')) < R.getD iq 0 then (IntKind.wrap .i64 (y_164.Rl - t')) else R.getD iq 0)) fun t12_165 => (letM ((IntKind.wrap .i64 (t' + t12_165))) fun t8_168 => ((getIdx rs' (iq : Int)).bind fun y_169 => ((getIdx rs' (iq : Int)).bind fun y_170 => ((setIdx rs' (iq : Int) (IntKind.wrap .i64 (y_169 - t12_165))).bind fun l3_171 => ((getIdx l3_171 (iq : Int)).bind fun y_172 => (if (decide (y_172 = (0 : Int))) = true then ((apd out ([t8_168] : List Int)).bind fun l6_173 => ((m86o n rd' (iq : Int)).bind fun y_174 => (nx (t8_168,(nx' : Int),y_174,l6_173,l3_171)))) else (nx (t8_168,(nx' : Int),rd',out,l3_171))))))))))) else (letM ((IntKind.wrap .i64 (t' + R.getD iq 0))) fun t8_168 => ((getIdx rs' (iq : Int)).bind fun y_169 => ((getIdx rs' (iq : Int)).bind fun y_170 => ((setIdx rs' (iq : Int) (IntKind.wrap .i64 (y_169 - R.getD iq 0))).bind fun l3_171 => ((getIdx l3_171 (iq : Int)).bind fun y_172 => (if (decide (y_172 = (0 : Int))) = true then ((apd out ([t8_168] : List Int)).bind fun l6_173 => ((m86o n rd' (iq : Int)).bind fun y_174 => (nx (t8_168,(nx' : Int),y_174,l6_173,l3_171)))) else (nx (t8_168,(nx' : Int),rd',out,l3_171))))))))) := by
      intro nx
      rw [m74_L4,if_pos (by simp; omega)]
      unfold jn
      dsimp only
      refine (hG _).trans ?_
      refine (hins _).trans ?_
      dsimp only
      rw [e65,oB,gi,oB]
    rcases Nat.lt_or_ge nx' l.length with h1 | h1
    · obtain ⟨q2,hq2,eq2,hd2,hqn2,hqm2⟩ := Ord.at ho h1
      have hqd2 : (q2 : Int) ∈ ord.drop nx' := by rw [hd2]; simp
      have hq21 := hQ.rel1 q2 hq2 hqd2
      have hql2 := hp _ (Jn_mem hq2)
      have haf2 := hafter q2 hq2 hqd2
      have hbq2 := hb _ (Jn_mem hq2)
      have futd : ∀ j : Nat,fut l t' R j → (j : Int) ∈ ord.drop nx' := fun j hj => Classical.byContradiction fun hm => by
        have := (hQ.rel2 j hj.1 hm).2.1
        have := hj.2.2
        omega
      have hnext : isNext l t' R (Jn l q2).Rl := ⟨⟨q2,⟨hq2,by omega,haf2⟩,rfl⟩,fun j hj => hqm2 j (futd j hj)⟩
      have pre2 : ∀ nx,m74_L4 n l ord K nx (t,(next : Int),ready,out,rest) = (letM ((if (Jn l q2).Rl - t' < R.getD iq 0 then (Jn l q2).Rl - t' else R.getD iq 0)) fun t12_165 => (letM ((IntKind.wrap .i64 (t' + t12_165))) fun t8_168 => ((getIdx rs' (iq : Int)).bind fun y_169 => ((getIdx rs' (iq : Int)).bind fun y_170 => ((setIdx rs' (iq : Int) (IntKind.wrap .i64 (y_169 - t12_165))).bind fun l3_171 => ((getIdx l3_171 (iq : Int)).bind fun y_172 => (if (decide (y_172 = (0 : Int))) = true then ((apd out ([t8_168] : List Int)).bind fun l6_173 => ((m86o n rd' (iq : Int)).bind fun y_174 => (nx (t8_168,(nx' : Int),y_174,l6_173,l3_171)))) else (nx (t8_168,(nx' : Int),rd',out,l3_171))))))))) := by
        intro nx
        rw [pre,if_pos (by simp; omega),getIdx_q rfl eq2,oB,Jn_get hq2,oB,wrap64 (x := (Jn l q2).Rl - t') (by omega) (by omega)]
      by_cases c : (Jn l q2).Rl - t' < R.getD iq 0
      · have hrl2 : (Jn l q2).Rl < t' + R.getD iq 0 := by omega
        obtain ⟨w1,w2⟩ := hQ.wf.part hb hbest hnext hrl2
        refine .inl ⟨(mu l (Jn l q2).Rl (R.set iq (R.getD iq 0 - ((Jn l q2).Rl - t')))).toNat,((Jn l q2).Rl,(nx' : Int),rd',out,rs'.set iq (R.getD iq 0 - ((Jn l q2).Rl - t'))),by have := mu_nonneg l (Jn l q2).Rl (R.set iq (R.getD iq 0 - ((Jn l q2).Rl - t'))); omega,
          ⟨_,nx',_,_,_,R.set iq (R.getD iq 0 - ((Jn l q2).Rl - t')),rfl,rfl,⟨w1,hQ.nx,by simpa using hQ.rl,fun j hj hm => ?_,fun j hj hm => ?_,hQ.rnd,hQ.rin⟩,fun o hoo => hR' o (.part hlt hbest hnext hrl2 hoo)⟩,fun nx => ?_⟩
        · have hne : j ≠ iq := fun e => by subst e; exact nod j hj hi hm
          have h1 := hQ.rel1 j hj hm
          rw [getD_set hRl,if_neg hne]
          exact ⟨h1.1,hqm2 j hm,h1.2.2⟩
        · have h2 := hQ.rel2 j hj hm
          rw [getD_set hRl,getD_set hrs]
          by_cases e : j = iq
          · subst e
            rw [if_pos rfl,if_pos rfl]
            exact ⟨rfl,by omega,⟨fun _ => hi,fun _ => by omega⟩⟩
          · rw [if_neg e,if_neg e]
            exact ⟨h2.1,by omega,h2.2.2⟩
        · rw [pre2,letM_eq,if_pos c,tailP _ nx (by omega) c,show t' + ((Jn l q2).Rl - t') = (Jn l q2).Rl from by omega]
      · refine .inl (doFin (fun j hj => ?_) fun nx => ?_)
        · have := hqm2 j (futd j hj)
          omega
        · rw [pre2,letM_eq,if_neg c,tailF nx]
    · refine .inl (doFin (fun j hj => ?_) fun nx => ?_)
      · have hm : ¬ (j : Int) ∈ ord.drop nx' := by rw [List.drop_of_length_le (by omega)]; simp
        have := (hQ.rel2 j hj.1 hm).2.1
        have := hj.2.2
        omega
      · rw [pre,if_neg (by simp; omega),tailF nx]
  · have := hP.wf.outl
    refine .inr ⟨_,⟨out,rfl,hR out (.done hge),by omega⟩,fun nx => ?_⟩
    rw [m74_L4,if_neg (by simp; omega)]
theorem ord_of {l : List R63} : Ord l (isr (ltR l) [] ((List.range l.length).map fun i : Nat => (i : Int))) := by
  have hp : (isr (ltR l) [] ((List.range l.length).map fun i : Nat => (i : Int))).Perm ((List.range l.length).map fun i : Nat => (i : Int)) := by simpa using isr_perm (ltR l) ((List.range l.length).map fun i : Nat => (i : Int)) []
  refine ⟨hp.nodup_iff.2 ?_,by rw [hp.length_eq]; simp,fun x => ?_,?_⟩
  · refine List.Pairwise.map (R := fun a b => a ≠ b) _ ?_ List.nodup_range
    intro a b hab hcon
    exact hab (Int.ofNat.inj hcon)
  · rw [hp.mem_iff,List.mem_map]
    constructor
    · rintro ⟨i,hi,rfl⟩
      have := List.mem_range.1 hi
      omega
    · rintro ⟨h0,h1⟩
      exact ⟨x.toNat,List.mem_range.2 (by omega),by omega⟩
  · have := isr_sorted (lt := ltR l) (ok := fun _ => True) (fun a b c _ _ _ h1 h2 => by
      unfold ltR at *
      simp only [decide_eq_false_iff_not] at *
      omega) (fun a b _ _ h => by
      unfold ltR at *
      simp only [decide_eq_false_iff_not,decide_eq_true_eq] at *
      omega) ((List.range l.length).map fun i : Nat => (i : Int)) [] (fun _ _ => trivial) (fun _ _ => trivial) List.Pairwise.nil
    refine this.imp fun h => ?_
    unfold ltR at h
    simp only [decide_eq_false_iff_not] at h
    omega
theorem m74_val {n : Nat} {l : List R63} (hb : bd l) (hp : ∀ y,y ∈ l → 1 ≤ y.Ln) (hN : l.length < 20) (hn : 5000 < n) : ∃ o,m74 n l = some o ∧ Runs l 0 (lens l) [] o ∧ o.length = l.length := by
  have hord := ord_of (l := l)
  obtain ⟨o,e,h1,h2⟩ := m74_loop (n := n) hord hb hp (by omega) hn (fun p => some p) (rest0 := List.replicate l.length 0) (by simp)
  refine ⟨o,?_,h1,h2⟩
  have hfill : ∀ k,k ≤ l.length → foldN (fun i (s : List Int) => s.set i (i : Int)) k (List.replicate l.length 0) = (List.range k).map (fun i : Nat => (i : Int)) ++ List.replicate (l.length - k) 0 := by
    intro k
    induction k with
    | zero => intro _; simp [foldN]
    | succ k ih =>
      intro hk
      rw [foldN,ih (by omega),List.range_succ,List.map_append]
      have : List.replicate (l.length - k) (0 : Int) = 0 :: List.replicate (l.length - (k + 1)) 0 := by
        rw [show l.length - k = (l.length - (k + 1)) + 1 from by omega,List.replicate_succ]
      rw [this,List.set_append_right _ _ (by simp)]
      simp
  unfold m74
  rw [mk_val rfl rfl (by omega),oB]
  unfold jn
  dsimp only
  refine (loop_fold (S := List Int) (fun i s => ((i : Int),s)) l.length (fun i s => s.set i (i : Int)) (fun i s => s.length = l.length) (fun p_15 => ((m80 n p_15 l).bind fun y_17 => (asrt (p_15.length = y_17.length) ((some (List.replicate l.length (0 : Int))).bind fun l3_19 => (loopM (m74_L4 n l y_17 fun p => some p) n ((0 : Int),(0 : Int),([] : List Int),([] : List Int),l3_19)))))) ?_ ?_ (by simp) (by omega)).trans ?_
  · intro i s hi hs
    refine ⟨by simpa using hs,fun nx => ?_⟩
    rw [m74_L1,if_pos (by simp; omega)]
    dsimp only
    rw [get_getD (d := 0) (by omega),oB,setIdx_at rfl (by omega),oB,letM_eq,wrap64 (by omega) (by omega)]
    rfl
  · intro s hs nx
    rw [m74_L1,if_neg (by simp)]
  · rw [hfill _ (Nat.le_refl _),Nat.sub_self,List.replicate_zero,List.append_nil]
    rw [m80_val (fun p hp => by
      rw [List.mem_map] at hp
      obtain ⟨i,hi,rfl⟩ := hp
      have := List.mem_range.1 hi
      exact ⟨by omega,by omega⟩) (by simpa using hN) (by omega),oB,asrt_pos (by rw [isr_len]; simp),oB]
    exact e
end Go.AB
set_option linter.unusedVariables false
namespace Go.AB
open Go
theorem sortedI_eq : ∀ {a b : List Int},a.Perm b → a.Pairwise (· ≤ ·) → b.Pairwise (· ≤ ·) → a = b
  | [],b,h,_,_ => by rw [List.nil_perm.1 h]
  | x :: a,[],h,_,_ => by simpa using h.length_eq
  | x :: a,y :: b,h,p,q => by
    rw [List.pairwise_cons] at p q
    have e : x = y := by
      have h1 : x ∈ y :: b := h.subset (by simp)
      have h2 : y ∈ x :: a := h.symm.subset (by simp)
      rcases List.mem_cons.1 h1 with e | h1
      · exact e
      · rcases List.mem_cons.1 h2 with e | h2
        · exact e.symm
        · have := q.1 _ h1
          have := p.1 _ h2
          omega
    subst e
    rw [sortedI_eq (List.Perm.cons_inv h) p.2 q.2]
theorem isrN_facts (o : List Int) : (isr ltN [] o).Perm o ∧ (isr ltN [] o).Pairwise (· ≤ ·) := by
  refine ⟨by simpa using isr_perm ltN o [],?_⟩
  have := isr_sorted (lt := ltN) (ok := fun _ => True) (fun a b c _ _ _ h1 h2 => by
    unfold ltN at *
    simp only [decide_eq_false_iff_not] at *
    omega) (fun a b _ _ h => by
    unfold ltN at *
    simp only [decide_eq_false_iff_not,decide_eq_true_eq] at *
    omega) o [] (fun _ _ => trivial) (fun _ _ => trivial) List.Pairwise.nil
  refine this.imp fun h => ?_
  unfold ltN at h
  simp only [decide_eq_false_iff_not] at h
  omega
theorem m89_val {n : Nat} {d : List Int} (hd : d.length ≤ 1000) (hn : 2000 < n) : m89 n d = some (isr ltN [] d) := by
  have key : ∃ s,m89 n d = some s ∧ s.Perm d ∧ s.Pairwise (· ≤ ·) := by
    unfold m89 jn
    dsimp only
    refine loopM_ind (fun m x => ∃ (i : Nat) (s : List Int),i ≤ d.length ∧ x = (s,(i : Int)) ∧ m = d.length - i ∧ s.Perm (d.take i) ∧ s.Pairwise (· ≤ ·)) (fun r => ∃ s : List Int,r = some s ∧ s.Perm d ∧ s.Pairwise (· ≤ ·)) ?_ n d.length _
      ⟨0,[],Nat.zero_le _,rfl,rfl,List.Perm.refl _,List.Pairwise.nil⟩ (by omega)
    rintro m x ⟨i,s,hi,rfl,rfl,hp,hs⟩
    have hsl : s.length = i := by rw [hp.length_eq,List.length_take]; omega
    rcases Nat.lt_or_ge i d.length with h1 | h1
    · obtain ⟨_,⟨p,rfl,hpl,hgt,hle⟩,hin⟩ := loopM_indK (R := List Int) (body := m89_L4 n d (s,(i : Int))) (fun m x => ∃ p : Nat,x = (p : Int) ∧ p = m ∧ p ≤ s.length ∧ ∀ y,y ∈ s.drop p → d[i] < y) (fun o => ∃ p : Nat,o = (p : Int) ∧ p ≤ s.length ∧ (∀ y,y ∈ s.drop p → d[i] < y) ∧ ∀ y,y ∈ s.take p → y ≤ d[i]) (fun m x => by
        rintro ⟨p,rfl,rfl,hpl,hgt⟩
        rcases Nat.eq_zero_or_pos p with h0 | h0
        · subst h0
          refine .inr ⟨_,⟨0,rfl,hpl,hgt,by simp⟩,fun K nx => ?_⟩
          rw [m89_L4]
          simp [gdO_false]
        · have hp1 : p - 1 < s.length := by omega
          by_cases c : d[i] < s[p - 1]
          · refine .inl ⟨p - 1,((p - 1 : Nat) : Int),by omega,⟨p - 1,rfl,rfl,by omega,fun y hy => ?_⟩,fun K nx => ?_⟩
            · rw [List.drop_eq_getElem_cons hp1,show p - 1 + 1 = p from by omega] at hy
              rcases List.mem_cons.1 hy with rfl | hy
              · exact c
              · exact hgt y hy
            · rw [m89_L4,decide_eq_true (show (0 : Int) < (p : Int) from by omega),gdO_true,wrap64 (x := (p : Int) - 1) (by omega) (by omega),getIdx_at (k := p - 1) (by omega) hp1,oB,gdO_true,getIdx_at rfl h1,oB,decide_eq_true c,if_pos (by rfl),letM_eq,show (p : Int) - 1 = ((p - 1 : Nat) : Int) from by omega]
          · refine .inr ⟨_,⟨p,rfl,hpl,hgt,fun y hy => ?_⟩,fun K nx => ?_⟩
            · obtain ⟨q,hq,rfl⟩ := List.getElem_of_mem hy
              rw [List.length_take] at hq
              rw [List.getElem_take]
              by_cases e : q = p - 1
              · subst e; omega
              · have := List.pairwise_iff_getElem.1 hs q (p - 1) (by omega) hp1 (by omega)
                omega
            · rw [m89_L4,decide_eq_true (show (0 : Int) < (p : Int) from by omega),gdO_true,wrap64 (x := (p : Int) - 1) (by omega) (by omega),getIdx_at (k := p - 1) (by omega) hp1,oB,gdO_true,getIdx_at rfl h1,oB,decide_eq_false c,if_neg (by simp)]) n s.length _ ⟨s.length,rfl,rfl,Nat.le_refl _,by simp⟩ (by omega)
      refine .inl ⟨d.length - (i + 1),(s.take p ++ ([d[i]] ++ s.drop p),((i + 1 : Nat) : Int)),by omega,⟨i + 1,_,h1,rfl,rfl,?_,?_⟩,fun nx => ?_⟩
      · rw [List.take_succ_eq_append_getElem h1]
        refine List.Perm.trans ?_ (hp.append_right _)
        have e1 : (s.take p ++ ([d[i]] ++ s.drop p)).Perm (d[i] :: (s.take p ++ s.drop p)) := List.perm_middle
        rw [List.take_append_drop] at e1
        exact e1.trans (List.perm_append_singleton d[i] s).symm
      · rw [List.pairwise_append]
        refine ⟨hs.sublist (List.take_sublist _ _),?_,fun a ha b hb => ?_⟩
        · rw [List.singleton_append,List.pairwise_cons]
          exact ⟨fun y hy => Int.le_of_lt (hgt y hy),hs.sublist (List.drop_sublist _ _)⟩
        · rcases List.mem_append.1 hb with hb | hb
          · rw [List.mem_singleton.1 hb]; exact hle a ha
          · have := hle a ha
            have := hgt b hb
            omega
      · rw [m89_L3,if_pos (by simp; omega)]
        unfold jn
        dsimp only
        refine (hin _).trans ?_
        rw [slc_val (l := 0) (i := 0) (j := p) rfl rfl (Nat.zero_le _) hpl,oB,getIdx_at rfl h1,oB,slc_val (i := p) (j := s.length) rfl rfl hpl (Nat.le_refl _),oB,apd_val (by simp; omega),oB]
        unfold asrt
        rw [if_pos (by simp),apd_val (by simp; omega),oB,letM_eq,wrap64 (by omega) (by omega)]
        rw [show (s.drop 0).take (p - 0) = s.take p from by simp,show (s.drop p).take (s.length - p) = s.drop p from List.take_of_length_le (by simp)]
        rfl
    · have : i = d.length := by omega
      subst this
      rw [List.take_length] at hp
      refine .inr ⟨_,⟨s,rfl,hp,hs⟩,fun nx => ?_⟩
      rw [m89_L3,if_neg (by simp)]
  obtain ⟨s,e,h1,h2⟩ := key
  have h3 := isrN_facts d
  rw [e,sortedI_eq (h1.trans h3.1.symm) h2 h3.2]
theorem Runs.bd {l : List R63} (hb : bd l) {now : Int} {rest out o : List Int} (h : Runs l now rest out o) : WF l now rest out → (∀ x,x ∈ out → 0 ≤ x ∧ x ≤ 1000000 + 10000 * (l.length : Int)) → ∀ x,x ∈ o → 0 ≤ x ∧ x ≤ 1000000 + 10000 * (l.length : Int) := by
  induction h with
  | done _ => exact fun _ h => h
  | idle hlt ha hn k ih => exact fun hw ho => ih (hw.idle hb hn).2.1 ho
  | part hlt hi hn hr k ih => exact fun hw ho => ih (hw.part hb hi hn hr).1 ho
  | @fin now rest out o i hlt hi hn k ih =>
    intro hw ho
    refine ih (hw.fin hb hi).1 fun x hx => ?_
    rcases List.mem_append.1 hx with hx | hx
    · exact ho x hx
    · rw [List.mem_singleton.1 hx]
      have h1 := (hw.big hb).2 i hi.1.1
      have h2 := hw.now0
      have h3 := hw.bdr i hi.1.1
      omega
def dues (l : List R63) : List Int := l.map (·.Due)
def sumB (l : List R63) (o : List Int) : Int := sumN (fun k => max 0 (o.getD k 0 - (isr ltN [] (dues l)).getD k 0)) l.length
theorem ds_facts (l : List R63) (hb : bd l) : (isr ltN [] (dues l)).length = l.length ∧ ∀ k,k < l.length → 0 ≤ (isr ltN [] (dues l)).getD k 0 ∧ (isr ltN [] (dues l)).getD k 0 ≤ 1000000 := by
  have h := (isrN_facts (dues l)).1
  have hl : (isr ltN [] (dues l)).length = l.length := by rw [h.length_eq]; simp [dues]
  refine ⟨hl,fun k hk => ?_⟩
  have hm : (isr ltN [] (dues l)).getD k 0 ∈ dues l := h.subset (getD_mem (by omega))
  unfold dues at hm
  obtain ⟨y,hy,e⟩ := List.mem_map.1 hm
  have := hb y hy
  unfold dues at *
  omega
theorem dues_loop {l : List R63} {n : Nat} {R : Type} {body : (Int × List Int → Option R) → Int × List Int → Option R} (hn : l.length < n) (K : List Int → Option R)
    (step : ∀ i (s : List Int),i < l.length → s.length = i → ∀ nx,body nx ((i : Int),s) = nx (((i + 1 : Nat) : Int),s ++ [(Jn l i).Due])) (fin' : ∀ s nx,body nx ((l.length : Int),s) = K s) : loopM body n ((0 : Int),([] : List Int)) = K (dues l) := by
  refine (loop_fold (S := List Int) (fun i s => ((i : Int),s)) l.length (fun i s => s ++ [(Jn l i).Due]) (fun i s => s.length = i) K (fun i s hi hs => ⟨by simp [hs],step i s hi hs⟩) (fun s _ => fin' s) rfl hn).trans ?_
  congr 1
  have : ∀ k,k ≤ l.length → foldN (fun i (s : List Int) => s ++ [(Jn l i).Due]) k [] = (dues l).take k := by
    intro k
    induction k with
    | zero => intro _; simp [foldN]
    | succ k ih =>
      intro hk
      rw [foldN,ih (by omega),List.take_succ_eq_append_getElem (by simp [dues]; omega)]
      simp [dues,Jn,show k < l.length from by omega]
  rw [this _ (Nat.le_refl _),List.take_of_length_le (by simp [dues])]
theorem sumB_loop {l : List R63} {o : List Int} {n : Nat} {R : Type} {body : (Int × Int → Option R) → Int × Int → Option R} (hb : bd l) (hN : l.length ≤ 1000) (hn : l.length < n) (hob : ∀ k,k < l.length → 0 ≤ o.getD k 0 ∧ o.getD k 0 ≤ 1000000 + 10000 * (l.length : Int)) (K : Int → Option R)
    (step : ∀ (k : Nat) (s : Int),k < l.length → 0 ≤ s → s ≤ 11000000000 → 0 ≤ max 0 (o.getD k 0 - (isr ltN [] (dues l)).getD k 0) → max 0 (o.getD k 0 - (isr ltN [] (dues l)).getD k 0) ≤ 11000000 → ∀ nx,body nx (s,(k : Int)) = nx (s + max 0 (o.getD k 0 - (isr ltN [] (dues l)).getD k 0),((k + 1 : Nat) : Int)))
    (fin' : ∀ s nx,body nx (s,(l.length : Int)) = K s) : loopM body n ((0 : Int),(0 : Int)) = K (sumB l o) := by
  refine (loop_fold (S := Int) (fun i s => (s,(i : Int))) l.length (fun k s => s + max 0 (o.getD k 0 - (isr ltN [] (dues l)).getD k 0)) (fun k s => 0 ≤ s ∧ s ≤ 11000000 * (k : Int)) K ?_ (fun s _ => fin' s) (s0 := 0) ⟨by omega,by omega⟩ hn).trans ?_
  · rintro k s hk ⟨h1,h2⟩
    have h3 := hob k hk
    have h4 := (ds_facts l hb).2 k hk
    have h5 : 0 ≤ max 0 (o.getD k 0 - (isr ltN [] (dues l)).getD k 0) ∧ max 0 (o.getD k 0 - (isr ltN [] (dues l)).getD k 0) ≤ 11000000 := ⟨Int.le_max_left _ _,Int.max_le.2 ⟨by omega,by omega⟩⟩
    exact ⟨by omega,step k s hk h1 (by omega) h5.1 h5.2⟩
  · rw [sumN_fold]; rfl
theorem m64_val {n : Nat} {l : List R63} (hb : bd l) (hp : ∀ y,y ∈ l → 1 ≤ y.Ln) (hN : l.length ≤ 12) (hn : 5000 < n) : ∃ o,m64 n l = some (sumB l o) ∧ m74 n l = some o ∧ Runs l 0 (lens l) [] o ∧ o.length = l.length := by
  obtain ⟨o,e,hr,hol⟩ := m74_val (n := n) hb hp (by omega) hn
  have hob := hr.bd hb (WF.start hp) (fun x hx => absurd hx (by simp))
  have dl := (ds_facts l hb).1
  refine ⟨o,?_,e,hr,hol⟩
  unfold m64 jn
  dsimp only
  refine (dues_loop (l := l) (n := n) (by omega) (fun p_14 => ((m73 n p_14).bind fun y_16 => (asrt (p_14.length = y_16.length) ((m74 n l).bind fun y_18 => loopM (m64_L2 n y_16 y_18 fun p => some p) n ((0 : Int),(0 : Int)))))) ?_ ?_).trans ?_
  · intro i s hi hs nx
    rw [m64_L1,if_pos (by simp; omega)]
    dsimp only
    rw [Jn_get hi,oB,apd_val (by simp; omega),oB,letM_eq,wrap64 (by omega) (by omega)]
    rfl
  · intro s nx
    rw [m64_L1,if_neg (by simp)]
  · rw [m73_val (by simp [dues]; omega) (by omega),oB,asrt_pos (by rw [dl]; simp [dues]),e,oB]
    refine sumB_loop hb (by omega) (by omega) (o := o) (fun k hk => hob _ (getD_mem (by omega))) (fun p => some p) ?_ ?_
    · intro k s hk h1 h2 h3 h4 nx
      have q1 := hob _ (getD_mem (show k < o.length from by omega))
      have q2 := (ds_facts l hb).2 k hk
      rw [m64_L2,if_pos (by simp; omega)]
      dsimp only
      rw [get_getD (d := 0) (by omega),oB,get_getD (d := 0) (by omega),oB,wrap64 (x := o.getD k 0 - _) (by omega) (by omega),iteMax,letM_eq,wrap64 (by omega) (by omega),letM_eq,wrap64 (by omega) (by omega)]
      rfl
    · intro s nx
      rw [m64_L2,if_neg (by simp; omega)]
end Go.AB

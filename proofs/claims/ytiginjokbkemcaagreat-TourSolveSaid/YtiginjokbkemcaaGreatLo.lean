import Derived.Test.YtiginjokbkemcaaGreatLm
set_option linter.unusedVariables false
namespace Go.AB
open Go
theorem m20_L1_val {n : Nat} {P : R24} (hV : VecP P) (hP : P.Pq.length ≤ 60) (h1 : 1 ≤ P.Pq.length) (hn : 2000 < n) {K : Int → Option (List Int)} : ∃ st,loopM (m20_L1 n P K) n ((1 : Int),(0 : Int)) = K st := by
  refine loopM_ind (fun mm y => ∃ (i : Nat) (st : Int),i ≤ P.Pq.length ∧ mm = P.Pq.length - i ∧ y = (st,(i : Int))) (fun o => ∃ st,o = K st) ?_ n P.Pq.length _ ⟨0,1,by omega,rfl,rfl⟩ (by omega)
  rintro mm y ⟨i,st,hi,rfl,rfl⟩
  rcases Nat.lt_or_ge i P.Pq.length with h | h
  · refine .inl ⟨P.Pq.length - (i + 1),_,by omega,⟨i + 1,(if (IntKind.wrap .i64 ((D P 0 i).tdiv (4 : Int))) > st then (IntKind.wrap .i64 ((D P 0 i).tdiv (4 : Int))) else st),by omega,rfl,rfl⟩,fun nx => ?_⟩
    · rw [m20_L1,if_pos (by simp; omega)]
      dsimp only [letM]
      rw [eta24,m48_val hV ⟨by omega,by omega⟩ ⟨by omega,by omega⟩,oB,wInc (by omega)]
  · have : i = P.Pq.length := by omega
    subst this
    refine .inr ⟨_,⟨st,rfl⟩,fun nx => ?_⟩
    rw [m20_L1,if_neg (by simp)]
theorem clampM (x : Int) : -20000 ≤ (if (20000 : Int) < (if (-20000 : Int) > x then (-20000 : Int) else x) then (20000 : Int) else (if (-20000 : Int) > x then (-20000 : Int) else x)) ∧ (if (20000 : Int) < (if (-20000 : Int) > x then (-20000 : Int) else x) then (20000 : Int) else (if (-20000 : Int) > x then (-20000 : Int) else x)) ≤ 20000 := by
  split <;> split <;> omega
theorem OKm.set {P : R24} {m : List Int} (h : OKm P m) {i : Nat} {v : Int} (hv : -20000 ≤ v ∧ v ≤ 20000) : OKm P (m.set i v) := by
  refine ⟨by simp [h.len],fun x hx => ?_⟩
  rcases List.mem_or_eq_of_mem_set hx with hx | rfl
  · exact h.bd x hx
  · exact hv
theorem m20_L5_val {n : Nat} {P : R24} {x : Int × Int × Int × List Int × List Int} {y : Int × List Int} {now : List Int} (hP : P.Pq.length ≤ 60) (hd : y.2.length = P.Pq.length) (h0 : OKm P now) (hn : 2000 < n) {K : List Int → Option (List Int)} :
    ∃ now',OKm P now' ∧ loopM (m20_L5 n x y K) n ((0 : Int),now) = K now' := by
  refine loopM_ind (fun mm z => ∃ (i : Nat) (w : List Int),i ≤ P.Pq.length ∧ mm = P.Pq.length - i ∧ OKm P w ∧ z = ((i : Int),w)) (fun o => ∃ w,OKm P w ∧ o = K w) ?_ n P.Pq.length _ ⟨0,now,by omega,rfl,h0,rfl⟩ (by omega)
  rintro mm z ⟨i,w,hi,rfl,hw,rfl⟩
  have hwl := hw.len
  rcases Nat.lt_or_ge i P.Pq.length with h | h
  · have e2 : w[i]? = some (w[i]'(by omega)) := List.getElem?_eq_getElem (by omega)
    refine .inl ⟨P.Pq.length - (i + 1),_,by omega,⟨i + 1,_,by omega,rfl,hw.set (i := i) (clampM (IntKind.wrap .i64 (w[i]'(by omega) + (IntKind.wrap .i64 (x.2.1 * (IntKind.wrap .i64 (y.2[i]'(by omega) - (2 : Int)))))))),rfl⟩,fun nx => ?_⟩
    rw [m20_L5,if_pos (by simp; omega)]
    dsimp only [letM]
    rw [getIdx_at (xs := y.2) (k := i) rfl (by omega),oB,getIdx_q (xs := w) (k := i) rfl e2,oB,oB,setIdx_at (k := i) rfl (by omega),oB,wInc (by omega)]
  · have : i = P.Pq.length := by omega
    subst this
    refine .inr ⟨_,⟨w,hw,rfl⟩,fun nx => ?_⟩
    rw [m20_L5,if_neg (by simp; omega)]
theorem m20_L4_val {n : Nat} {P : R24} {r : Int} {v0 : Int} (hV : VecP P) (h1 : 1 ≤ P.Pq.length) (h20 : P.Pq.length ≤ 20) (hr : 0 ≤ r ∧ r ≤ 200) (hn : 2000 < n) {best now : List Int} {st : Int} (hb : OKm P best) (hw : OKm P now) (ho : OT P best v0) {K : List Int → Option (List Int)} :
    ∃ b v,OKm P b ∧ OT P b v ∧ v0 ≤ v ∧ loopM (m20_L4 n P r K) n (v0,st,(0 : Int),best,now) = K b := by
  refine loopM_ind (fun mm z => ∃ (k : Nat) (b w : List Int) (v st : Int),(k : Int) ≤ r ∧ mm = r.toNat - k ∧ OKm P b ∧ OKm P w ∧ OT P b v ∧ v0 ≤ v ∧ z = (v,st,(k : Int),b,w))
    (fun o => ∃ b v,OKm P b ∧ OT P b v ∧ v0 ≤ v ∧ o = K b) ?_ n r.toNat _ ⟨0,best,now,v0,st,by omega,rfl,hb,hw,ho,Int.le_refl _,rfl⟩ (by omega)
  rintro mm z ⟨k,b,w,v,st,hk,rfl,hb,hw,ho,hv,rfl⟩
  by_cases h : (k : Int) < r
  · obtain ⟨v',deg,q1,q2,q3⟩ := m35_val (n := n) hV hw h1 h20 hn
    have hwl := hw.len
    have hbig : ∀ (p : Int × List Int) ,∃ st' now',OKm P now' ∧ ∀ nx : (Int × Int × Int × List Int × List Int) → Option (List Int),(jn (fun p_100 : (List Int) => (jn (fun p_103 : Int => (letM ((IntKind.wrap .i64 ((k : Int) + (1 : Int)))) fun t42_105 => (nx (p.1,p_103,t42_105,p.2,p_100)))) fun k_104 => (if (decide (((k : Int).tmod (5 : Int)) = (4 : Int))) = true then (letM ((if (IntKind.wrap .i64 (st.tdiv (2 : Int))) > (1 : Int) then (IntKind.wrap .i64 (st.tdiv (2 : Int))) else (1 : Int))) fun t9_102 => (k_104 t9_102)) else (k_104 st)))) fun k_101 => (loopM (m20_L5 n (v,st,(k : Int),b,w) (v',deg) k_101) n ((0 : Int),w))) = nx (p.1,st',((k + 1 : Nat) : Int),p.2,now') := fun p => by
      have hdet : ∃ now',OKm P now' ∧ ∀ K : List Int → Option (List Int),loopM (m20_L5 n (v,st,(k : Int),b,w) (v',deg) K) n ((0 : Int),w) = K now' := by
        obtain ⟨now',e1,e2⟩ := m20_L5_val (n := n) (x := (v,st,(k : Int),b,w)) (y := (v',deg)) (by omega) q2 hw hn (K := some)
        refine ⟨now',e1,fun K => ?_⟩
        obtain ⟨now2,e3,e4⟩ := m20_L5_val (n := n) (x := (v,st,(k : Int),b,w)) (y := (v',deg)) (by omega) q2 hw hn (K := K)
        obtain ⟨now3,e5⟩ : ∃ now3,∀ K : List Int → Option (List Int),loopM (m20_L5 n (v,st,(k : Int),b,w) (v',deg) K) n ((0 : Int),w) = K now3 := by
          refine ⟨foldN (fun i w => (w.set i (if (20000 : Int) < (if (-20000 : Int) > (IntKind.wrap .i64 (w.getD i 0 + (IntKind.wrap .i64 (st * (IntKind.wrap .i64 (deg.getD i 0 - (2 : Int))))))) then (-20000 : Int) else (IntKind.wrap .i64 (w.getD i 0 + (IntKind.wrap .i64 (st * (IntKind.wrap .i64 (deg.getD i 0 - (2 : Int)))))))) then (20000 : Int) else (if (-20000 : Int) > (IntKind.wrap .i64 (w.getD i 0 + (IntKind.wrap .i64 (st * (IntKind.wrap .i64 (deg.getD i 0 - (2 : Int))))))) then (-20000 : Int) else (IntKind.wrap .i64 (w.getD i 0 + (IntKind.wrap .i64 (st * (IntKind.wrap .i64 (deg.getD i 0 - (2 : Int))))))))))) P.Pq.length w,fun K => ?_⟩
          refine (loop_fold (n := n) (fun i w => ((i : Int),w)) P.Pq.length _ (fun _ w => w.length = P.Pq.length) K (fun i s hi hs => ⟨by simp [hs],fun nx => ?_⟩) (fun s hs nx => ?_) hwl (by omega))
          · have e2 : s[i]? = some (s.getD i 0) := by rw [List.getD_eq_getElem?_getD,List.getElem?_eq_getElem (by omega)]; rfl
            have e3 : deg[i]? = some (deg.getD i 0) := by rw [List.getD_eq_getElem?_getD,List.getElem?_eq_getElem (by omega)]; rfl
            rw [m20_L5,if_pos (by simp; omega)]
            dsimp only [letM]
            rw [getIdx_q (xs := deg) (k := i) rfl e3,oB,getIdx_q (xs := s) (k := i) rfl e2,oB,oB,setIdx_at (k := i) rfl (by omega),oB,wInc (by omega)]
          · rw [m20_L5,if_neg (by simp; omega)]
        have := e5 some
        rw [e2] at this
        rw [e5,Option.some.inj this]
      obtain ⟨now',e1,e2⟩ := hdet
      refine ⟨if (decide (((k : Int).tmod (5 : Int)) = (4 : Int))) = true then (if (IntKind.wrap .i64 (st.tdiv (2 : Int))) > (1 : Int) then (IntKind.wrap .i64 (st.tdiv (2 : Int))) else (1 : Int)) else st,now',e1,fun nx => ?_⟩
      rw [jn,e2]
      dsimp only [jn,letM]
      rw [wInc (by omega)]
      by_cases hc : (decide (((k : Int).tmod (5 : Int)) = (4 : Int))) = true
      · rw [if_pos hc,if_pos hc]
      · rw [if_neg hc,if_neg hc]
    by_cases hc : v < v'
    · obtain ⟨st',now',e1,e2⟩ := hbig (v',w)
      refine .inl ⟨r.toNat - (k + 1),_,by omega,⟨k + 1,w,now',v',st',by omega,rfl,hw,e1,q1,by omega,rfl⟩,fun nx => ?_⟩
      rw [m20_L4,if_pos (decide_eq_true h)]
      dsimp only
      rw [eta24,q3,oB]
      dsimp only
      rw [jn,if_pos (decide_eq_true hc),m43o_val (by omega),oB]
      exact e2 nx
    · obtain ⟨st',now',e1,e2⟩ := hbig (v,b)
      refine .inl ⟨r.toNat - (k + 1),_,by omega,⟨k + 1,b,now',v,st',by omega,rfl,hb,e1,ho,hv,rfl⟩,fun nx => ?_⟩
      rw [m20_L4,if_pos (decide_eq_true h)]
      dsimp only
      rw [eta24,q3,oB]
      dsimp only
      rw [jn,if_neg (by simpa using hc)]
      exact e2 nx
  · refine .inr ⟨_,⟨b,v,hb,ho,hv,rfl⟩,fun nx => ?_⟩
    rw [m20_L4,if_neg (by simpa using h)]
theorem okm0 {P : R24} : OKm P (List.replicate P.Pq.length 0) := ⟨by simp,fun x hx => by
  obtain ⟨_,rfl⟩ := List.mem_replicate.1 hx
  omega⟩
end Go.AB

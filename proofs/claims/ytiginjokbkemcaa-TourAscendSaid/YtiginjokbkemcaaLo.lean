import Derived.Test.YtiginjokbkemcaaLm
set_option linter.unusedVariables false
namespace Go.AB
open Go
theorem m60_L1_val {n : Nat} {P : R24} (hV : VecP P) (hP : P.Points.length ≤ 60) (h1 : 1 ≤ P.Points.length) (hn : 2000 < n) {K : Int → Option (List Int)} : ∃ st,loopM (m60_L1 n P K) n ((1 : Int),(0 : Int)) = K st := by
  refine loopM_ind (fun mm y => ∃ (i : Nat) (st : Int),i ≤ P.Points.length ∧ mm = P.Points.length - i ∧ y = (st,(i : Int))) (fun o => ∃ st,o = K st) ?_ n P.Points.length _ ⟨0,1,by omega,rfl,rfl⟩ (by omega)
  rintro mm y ⟨i,st,hi,rfl,rfl⟩
  rcases Nat.lt_or_ge i P.Points.length with h | h
  · refine .inl ⟨P.Points.length - (i + 1),_,by omega,⟨i + 1,(if (IntKind.wrap .i64 ((D P 0 i).tdiv (4 : Int))) > st then (IntKind.wrap .i64 ((D P 0 i).tdiv (4 : Int))) else st),by omega,rfl,rfl⟩,fun nx => ?_⟩
    · rw [m60_L1,if_pos (by simp; omega)]
      dsimp only [letM]
      rw [eta24,m79_val hV ⟨by omega,by omega⟩ ⟨by omega,by omega⟩,Option.bind_some,wInc (by omega)]
  · have : i = P.Points.length := by omega
    subst this
    refine .inr ⟨_,⟨st,rfl⟩,fun nx => ?_⟩
    rw [m60_L1,if_neg (by simp)]
theorem clampM (x : Int) : -20000 ≤ (if (20000 : Int) < (if (-20000 : Int) > x then (-20000 : Int) else x) then (20000 : Int) else (if (-20000 : Int) > x then (-20000 : Int) else x)) ∧ (if (20000 : Int) < (if (-20000 : Int) > x then (-20000 : Int) else x) then (20000 : Int) else (if (-20000 : Int) > x then (-20000 : Int) else x)) ≤ 20000 := by
  split <;> split <;> omega
theorem OKm.set {P : R24} {m : List Int} (h : OKm P m) {i : Nat} {v : Int} (hv : -20000 ≤ v ∧ v ≤ 20000) : OKm P (m.set i v) := by
  refine ⟨by simp [h.len],fun x hx => ?_⟩
  rcases List.mem_or_eq_of_mem_set hx with hx | rfl
  · exact h.bd x hx
  · exact hv
theorem m60_L5_val {n : Nat} {P : R24} {x : Int × Int × Int × List Int × List Int} {y : Int × List Int} {now : List Int} (hP : P.Points.length ≤ 60) (hd : y.2.length = P.Points.length) (h0 : OKm P now) (hn : 2000 < n) {K : List Int → Option (List Int)} :
    ∃ now',OKm P now' ∧ loopM (m60_L5 n x y K) n ((0 : Int),now) = K now' := by
  refine loopM_ind (fun mm z => ∃ (i : Nat) (w : List Int),i ≤ P.Points.length ∧ mm = P.Points.length - i ∧ OKm P w ∧ z = ((i : Int),w)) (fun o => ∃ w,OKm P w ∧ o = K w) ?_ n P.Points.length _ ⟨0,now,by omega,rfl,h0,rfl⟩ (by omega)
  rintro mm z ⟨i,w,hi,rfl,hw,rfl⟩
  have hwl := hw.len
  rcases Nat.lt_or_ge i P.Points.length with h | h
  · have e2 : w[i]? = some (w[i]'(by omega)) := List.getElem?_eq_getElem (by omega)
    refine .inl ⟨P.Points.length - (i + 1),_,by omega,⟨i + 1,_,by omega,rfl,hw.set (i := i) (clampM (IntKind.wrap .i64 (w[i]'(by omega) + (IntKind.wrap .i64 (x.2.1 * (IntKind.wrap .i64 (y.2[i]'(by omega) - (2 : Int)))))))),rfl⟩,fun nx => ?_⟩
    rw [m60_L5,if_pos (by simp; omega)]
    dsimp only [letM]
    rw [getIdx_at (xs := y.2) (k := i) rfl (by omega),Option.bind_some,getIdx_q (xs := w) (k := i) rfl e2,Option.bind_some,Option.bind_some,setIdx_at (k := i) rfl (by omega),Option.bind_some,wInc (by omega)]
  · have : i = P.Points.length := by omega
    subst this
    refine .inr ⟨_,⟨w,hw,rfl⟩,fun nx => ?_⟩
    rw [m60_L5,if_neg (by simp; omega)]
theorem m60_L4_val {n : Nat} {P : R24} {r : Int} {v0 : Int} (hV : VecP P) (h1 : 1 ≤ P.Points.length) (h20 : P.Points.length ≤ 20) (hr : 0 ≤ r ∧ r ≤ 200) (hn : 2000 < n) {best now : List Int} {st : Int} (hb : OKm P best) (hw : OKm P now) (ho : OT P best v0) {K : List Int → Option (List Int)} :
    ∃ b v,OKm P b ∧ OT P b v ∧ v0 ≤ v ∧ loopM (m60_L4 n P r K) n (v0,st,(0 : Int),best,now) = K b := by
  refine loopM_ind (fun mm z => ∃ (k : Nat) (b w : List Int) (v st : Int),(k : Int) ≤ r ∧ mm = r.toNat - k ∧ OKm P b ∧ OKm P w ∧ OT P b v ∧ v0 ≤ v ∧ z = (v,st,(k : Int),b,w))
    (fun o => ∃ b v,OKm P b ∧ OT P b v ∧ v0 ≤ v ∧ o = K b) ?_ n r.toNat _ ⟨0,best,now,v0,st,by omega,rfl,hb,hw,ho,Int.le_refl _,rfl⟩ (by omega)
  rintro mm z ⟨k,b,w,v,st,hk,rfl,hb,hw,ho,hv,rfl⟩
  by_cases h : (k : Int) < r
  · obtain ⟨v',deg,q1,q2,q3⟩ := m49_val (n := n) hV hw h1 h20 hn
    have hwl := hw.len
    have hbig : ∀ (p : Int × List Int) ,∃ st' now',OKm P now' ∧ ∀ nx : (Int × Int × Int × List Int × List Int) → Option (List Int),(jn (fun p_100 : (List Int) => (jn (fun p_103 : Int => (letM ((IntKind.wrap .i64 ((k : Int) + (1 : Int)))) fun t42_105 => (nx (p.1,p_103,t42_105,p.2,p_100)))) fun k_104 => (if (decide (((k : Int).tmod (5 : Int)) = (4 : Int))) = true then (letM ((if (IntKind.wrap .i64 (st.tdiv (2 : Int))) > (1 : Int) then (IntKind.wrap .i64 (st.tdiv (2 : Int))) else (1 : Int))) fun t9_102 => (k_104 t9_102)) else (k_104 st)))) fun k_101 => (loopM (m60_L5 n (v,st,(k : Int),b,w) (v',deg) k_101) n ((0 : Int),w))) = nx (p.1,st',((k + 1 : Nat) : Int),p.2,now') := fun p => by
      have hdet : ∃ now',OKm P now' ∧ ∀ K : List Int → Option (List Int),loopM (m60_L5 n (v,st,(k : Int),b,w) (v',deg) K) n ((0 : Int),w) = K now' := by
        obtain ⟨now',e1,e2⟩ := m60_L5_val (n := n) (x := (v,st,(k : Int),b,w)) (y := (v',deg)) (by omega) q2 hw hn (K := some)
        refine ⟨now',e1,fun K => ?_⟩
        obtain ⟨now2,e3,e4⟩ := m60_L5_val (n := n) (x := (v,st,(k : Int),b,w)) (y := (v',deg)) (by omega) q2 hw hn (K := K)
        obtain ⟨now3,e5⟩ : ∃ now3,∀ K : List Int → Option (List Int),loopM (m60_L5 n (v,st,(k : Int),b,w) (v',deg) K) n ((0 : Int),w) = K now3 := by
          refine ⟨foldN (fun i w => (w.set i (if (20000 : Int) < (if (-20000 : Int) > (IntKind.wrap .i64 (w.getD i 0 + (IntKind.wrap .i64 (st * (IntKind.wrap .i64 (deg.getD i 0 - (2 : Int))))))) then (-20000 : Int) else (IntKind.wrap .i64 (w.getD i 0 + (IntKind.wrap .i64 (st * (IntKind.wrap .i64 (deg.getD i 0 - (2 : Int)))))))) then (20000 : Int) else (if (-20000 : Int) > (IntKind.wrap .i64 (w.getD i 0 + (IntKind.wrap .i64 (st * (IntKind.wrap .i64 (deg.getD i 0 - (2 : Int))))))) then (-20000 : Int) else (IntKind.wrap .i64 (w.getD i 0 + (IntKind.wrap .i64 (st * (IntKind.wrap .i64 (deg.getD i 0 - (2 : Int))))))))))) P.Points.length w,fun K => ?_⟩
          refine (loop_fold (n := n) (fun i w => ((i : Int),w)) P.Points.length _ (fun _ w => w.length = P.Points.length) K (fun i s hi hs => ⟨by simp [hs],fun nx => ?_⟩) (fun s hs nx => ?_) hwl (by omega))
          · have e2 : s[i]? = some (s.getD i 0) := by rw [List.getD_eq_getElem?_getD,List.getElem?_eq_getElem (by omega)]; rfl
            have e3 : deg[i]? = some (deg.getD i 0) := by rw [List.getD_eq_getElem?_getD,List.getElem?_eq_getElem (by omega)]; rfl
            rw [m60_L5,if_pos (by simp; omega)]
            dsimp only [letM]
            rw [getIdx_q (xs := deg) (k := i) rfl e3,Option.bind_some,getIdx_q (xs := s) (k := i) rfl e2,Option.bind_some,Option.bind_some,setIdx_at (k := i) rfl (by omega),Option.bind_some,wInc (by omega)]
          · rw [m60_L5,if_neg (by simp; omega)]
        have := e5 some
        rw [e2] at this
        rw [e5,Option.some.inj this]
      obtain ⟨now',e1,e2⟩ := hdet
      refine ⟨if (decide (((k : Int).tmod (5 : Int)) = (4 : Int))) = true then (if (IntKind.wrap .i64 (st.tdiv (2 : Int))) > (1 : Int) then (IntKind.wrap .i64 (st.tdiv (2 : Int))) else (1 : Int)) else st,now',e1,fun nx => ?_⟩
      rw [jn,e2]
      dsimp only [jn,letM]
      rw [wInc (by omega)]
      by_cases hc : (decide (((k : Int).tmod (5 : Int)) = (4 : Int))) = true
      · rw [if_pos hc,if_pos hc]
      · rw [if_neg hc,if_neg hc]
    by_cases hc : v < v'
    · obtain ⟨st',now',e1,e2⟩ := hbig (v',w)
      refine .inl ⟨r.toNat - (k + 1),_,by omega,⟨k + 1,w,now',v',st',by omega,rfl,hw,e1,q1,by omega,rfl⟩,fun nx => ?_⟩
      rw [m60_L4,if_pos (decide_eq_true h)]
      dsimp only
      rw [eta24,q3,Option.bind_some]
      dsimp only
      rw [jn,if_pos (decide_eq_true hc),m63o_val (by omega),Option.bind_some]
      exact e2 nx
    · obtain ⟨st',now',e1,e2⟩ := hbig (v,b)
      refine .inl ⟨r.toNat - (k + 1),_,by omega,⟨k + 1,b,now',v,st',by omega,rfl,hb,e1,ho,hv,rfl⟩,fun nx => ?_⟩
      rw [m60_L4,if_pos (decide_eq_true h)]
      dsimp only
      rw [eta24,q3,Option.bind_some]
      dsimp only
      rw [jn,if_neg (by simpa using hc)]
      exact e2 nx
  · refine .inr ⟨_,⟨b,v,hb,ho,hv,rfl⟩,fun nx => ?_⟩
    rw [m60_L4,if_neg (by simpa using h)]
theorem okm0 {P : R24} : OKm P (List.replicate P.Points.length 0) := ⟨by simp,fun x hx => by
  obtain ⟨_,rfl⟩ := List.mem_replicate.1 hx
  omega⟩
theorem m23_ok {n : Nat} {P : R24} {r v0 : Int} (hv : vP P = true) (h20 : P.Points.length ≤ 20) (hr : 0 ≤ r ∧ r ≤ 200) (h0 : OT P (List.replicate P.Points.length 0) v0) (hn : 2000 < n) : ∃ b v,OKm P b ∧ OT P b v ∧ v0 ≤ v ∧ m23 n P r = some (b,0) := by
  have hg := good_of hv
  obtain ⟨v',deg,q1,q2,q3⟩ := m49_val (n := n) hg.vec okm0 hg.one h20 hn
  obtain rfl := h0.uniq q1
  obtain ⟨b,v,e1,e2,e3,e4⟩ : ∃ b v,OKm P b ∧ OT P b v ∧ v0 ≤ v ∧ m60 n P r = some b := by
    unfold m60
    rw [mk_val (k := P.Points.length) rfl rfl (by omega),Option.bind_some,eta24,q3,Option.bind_some,m63o_val (by simp; omega),Option.bind_some]
    dsimp only [jn]
    obtain ⟨st,e⟩ := m60_L1_val (n := n) hg.vec (by omega) hg.one hn (K := fun p_13 : Int => (loopM (m60_L4 n P r fun p_106 : (List Int) => (some p_106)) n (v0,p_13,(0 : Int),List.replicate P.Points.length 0,List.replicate P.Points.length 0)))
    rw [e]
    exact m60_L4_val hg.vec hg.one h20 hr hn okm0 okm0 h0
  refine ⟨b,v,e1,e2,e3,?_⟩
  unfold m23
  rw [eta24,m22_val hn,Option.bind_some,hv,if_neg (by simp),if_neg (by simp; omega),e4,Option.bind_some]
theorem m6_true (P : R24) (r : Int) (ch : List UInt8) : m6 200000 P r ch = some true := by
  unfold m6
  simp only [m11_eval,Option.bind_some,m12,Bool.not_true,Bool.not_false,gdO_true,Bool.false_or,m14,eta24]
  by_cases hf : (!((decide ((P.Points.length : Int) ≤ (9 : Int))) && (decide ((P.Before.length : Int) ≤ (12 : Int))))) = true
  · rw [if_pos hf]
  · rw [if_neg hf]
    simp only [Bool.not_eq_true',Bool.not_eq_false] at hf
    obtain ⟨h9,h12⟩ := few_of hf
    cases hv : vP P with
    | false =>
      have e : m23 200000 P r = some ([],1) := by
        unfold m23
        rw [eta24,m22_val (by omega),Option.bind_some,hv,if_pos (by rfl)]
      rw [e,Option.bind_some,m15_val (by omega),Option.bind_some,hv,if_pos (by rfl)]
      rfl
    | true =>
      have hg := good_of hv
      by_cases hr : 0 ≤ r ∧ r ≤ 200
      · obtain ⟨v0,q1,q2⟩ := m19_ok (n := 200000) hv (okm0 (P := P)) (by omega)
        obtain ⟨b,v,e1,e2,e3,e4⟩ := m23_ok (n := 200000) hv (by omega) hr q1 (by omega)
        obtain ⟨w,q3,q4⟩ := m19_ok (n := 200000) hv e1 (by omega)
        obtain rfl := e2.uniq q3
        obtain ⟨o,t,t1,t2,t3⟩ := free_le (n := 200000) (ch := ch) hg e1 e2 (by omega)
        unfold free at t1 t2
        rw [e4,Option.bind_some,m15_val (by omega),Option.bind_some,hv,if_neg (by simp),if_neg (by simp; omega),q4,Option.bind_some,mk_val (k := P.Points.length) rfl rfl (by omega),Option.bind_some,q2,Option.bind_some]
        simp only [decide_eq_true e3,decide_true,Bool.and_self,gdO_true,t1,t2,Option.bind_some,decide_eq_true t3]
      · have e : m23 200000 P r = some ([],2) := by
          unfold m23
          rw [eta24,m22_val (by omega),Option.bind_some,hv,if_neg (by simp),if_pos]
          rw [Bool.or_eq_true,decide_eq_true_eq,decide_eq_true_eq]; omega
        rw [e,Option.bind_some,m15_val (by omega),Option.bind_some,hv,if_neg (by simp),if_pos]
        · rfl
        · rw [Bool.or_eq_true,decide_eq_true_eq,decide_eq_true_eq]; omega
end Go.AB

import Derived.Test.YtiginjokbkemcaaGreatMe
set_option linter.unusedVariables false
namespace Go.AB
open Go
theorem m10F_val {n : Nat} : ∀ (f : Nat) (y : R41),Fit n f y → m10F n f (ownF f y) = some y
  | f + 1,y,h => by
    obtain ⟨h1,h2,h3⟩ := h
    have hl := ownF_len (f := f) (y := y)
    unfold m10F m10B
    rw [jn]
    refine (loop_run (n := n) (fun i => ((i : Int),y.Kd.take i)) y.Kd.length (some y) (by simp) (fun i hi nx => ?_) (fun nx => ?_) h1)
    · rw [m10_L1,hl,if_pos (decide_eq_true (by omega))]
      dsimp only [letM]
      rw [ownF_at hi,Option.bind_some]
      rw [show m10F n f (R30.mk (K30.of (ownF f (y.Kd[i]).out)).out.Sp (K30.of (ownF f (y.Kd[i]).out)).out.Kd (K30.of (ownF f (y.Kd[i]).out)).out.Lf) = some (y.Kd[i]).out from m10F_val f _ (h3 _ (List.getElem_mem hi)),Option.bind_some]
      unfold apk
      rw [if_pos (by simp; omega),Option.bind_some,wIncL (by omega),K41.of_out,List.take_succ_eq_append_getElem hi]
    · rw [m10_L1,hl,if_neg (by simp),List.take_length]
      rfl
theorem chk0 {n : Nat} (hn : 2000 < n) {P : R24} {l : List Int} {L : Int} {y : R41} (h20 : P.Pq.length ≤ 20) (hl : l.length ≤ 1000) (hy : Fit n n y) (hp : posB P l L = true) (ht : treB n y = true) (hw : m62F n n ⟨P,l,L⟩ y = some ([],false)) :
    m29 n ⟨P,l,L⟩ (ownF n y) = some ([],0) ∧ m27 n ⟨P,l,L⟩ y = some ([],0) := by
  have hfr : frmF n y = true := by
    have := ht
    unfold treB at this
    rw [Bool.and_eq_true] at this
    exact this.1
  obtain ⟨hv,_⟩ := posB_iff.1 hp
  obtain ⟨w,b,e1,e2,e3,e4,e5⟩ := wrong_sim hn hv h20 n y l L [] hy hfr hl (by simp)
  rw [hw] at e1
  cases e1
  unfold m29 m27
  dsimp only
  rw [eta24,m53_val hl hn,m60_val hl hn,Option.bind_some,Option.bind_some,hp]
  rw [if_neg (by simp),show (!(!true)) = true from rfl,gdO_true,eta41,eta30,m61_val (by omega) hy,Option.bind_some]
  unfold m63
  dsimp only
  rw [eta24,eta30,m12_val (by omega) hy,Option.bind_some,ht]
  rw [if_neg (by simp),if_neg (by simp),show m89 n ⟨P,l,L⟩ (ownF n y) [] = _ from e2,show m62 n ⟨P,l,L⟩ y = _ from hw,Option.bind_some,Option.bind_some]
  exact ⟨rfl,rfl⟩
theorem right0 {n : Nat} (hn : 2000 < n) {P : R24} {o : List Int} {L : Int} {y : R41} (h20 : P.Pq.length ≤ 20) (hv : vP P = true) (ho : permB P o = true) (hL : tourL P o = L) (hy : Fit n n y) (hp : posB P [0] L = true) (ht : treB n y = true) (hw : m62F n n ⟨P,[0],L⟩ y = some ([],false)) :
    m11 n P ⟨o,L,ownF n y⟩ = some true ∧ m9 n P ⟨o,L,y⟩ = some true := by
  obtain ⟨q1,q2⟩ := chk0 hn h20 (by simp) hy hp ht hw
  have e1 : lengthS P o = (L,0) := by unfold lengthS; rw [hv,ho,hL]; rfl
  unfold m11 m9
  dsimp only
  rw [eta24,m28_val hn,m26_val hn,Option.bind_some,Option.bind_some,e1]
  dsimp only
  rw [decide_eq_true (show (0 : Int) = 0 from rfl),decide_eq_true (show L = L from rfl),if_neg (by simp),if_neg (by simp),eta30,eta41,q1,q2]
  exact ⟨rfl,rfl⟩
theorem m18_val {n : Nat} {P : R24} (hn : 2000 < n) (hv : vP P = true) : m18 n P = some (near P (P.Pq.length - 1) [0]) := by
  have hg := good_of hv
  have h1 := hg.one
  have hP1 := hg.few.1
  unfold m18 m40x1
  dsimp only [jn]
  have := m40x1_L1_val hg hn (K := fun p_14 => some (p_14.2,true,p_14.1)) (P.Pq.length - 1) [0] n (inP0 h1) (by simp) (by simp; omega) (by omega)
  have e : lastP [0] = 0 := rfl
  rw [e] at this
  rw [this]; rfl
theorem m20_ok {n : Nat} {P : R24} {r : Int} (hv : vP P = true) (h20 : P.Pq.length ≤ 20) (hr : 0 ≤ r ∧ r ≤ 200) (hn : 2000 < n) : ∃ b,OKm P b ∧ m20 n P r = some b := by
  have hg := good_of hv
  obtain ⟨v0,deg,q1,q2,q3⟩ := m35_val (n := n) hg.vec okm0 hg.one h20 hn
  obtain ⟨b,v,e1,e2,e3,e4⟩ : ∃ b v,OKm P b ∧ OT P b v ∧ v0 ≤ v ∧ m20 n P r = some b := by
    unfold m20
    rw [mk_val (k := P.Pq.length) rfl rfl (by omega),Option.bind_some,eta24,q3,Option.bind_some,m43o_val (by simp; omega),Option.bind_some]
    dsimp only [jn]
    obtain ⟨st,e⟩ := m20_L1_val (n := n) hg.vec (by omega) hg.one hn (K := fun p_13 : Int => (loopM (m20_L4 n P r fun p_106 : (List Int) => (some p_106)) n (v0,p_13,(0 : Int),List.replicate P.Pq.length 0,List.replicate P.Pq.length 0)))
    rw [e]
    exact m20_L4_val hg.vec hg.one h20 hr hn okm0 okm0 q1
  exact ⟨b,e1,e4⟩
def noR : R32 := R32.mk [] 0 (R30.mk 0 [] [])
def m6K (n : Nat) (P : R24) (p_5 : List Int × Int) : Option (R32 × Int) :=
  ((mk (0 : Int) (P.Pq.length : Int) (P.Pq.length : Int)).bind fun l3_7 => ((m20 n P (60 : Int)).bind fun y_8 => (letM (([l3_7,y_8] : List (List Int))) fun c_9 => ((m21 n (R64.mk P ([(0 : Int)] : List Int) p_5.2) c_9 P.Pq P.Bq).bind fun y_10 => (if (!decide (y_10.2 = (0 : Int))) = true then (some ((R32.mk ([] : List Int) (0 : Int) (R30.mk (0 : Int) ([] : List K30) ([] : List Int))),(9 : Int))) else (some ((R32.mk p_5.1 p_5.2 (R30.mk y_10.1.Sp y_10.1.Kd y_10.1.Lf)),(0 : Int))))))))
theorem m6_eq {n : Nat} {P : R24} : m6 n P = ((m13 n P).bind fun y_1 => (if decide (y_1.2.2 = (0 : Int)) = true then m6K n P (y_1.1,y_1.2.1) else (if decide (y_1.2.2 = (9 : Int)) = true then ((m18 n P).bind fun y_2 => ((m17 n P y_2).bind fun y_3 => ((m19 n P y_3.1).bind fun y_4 => m6K n P (y_3.1,y_4)))) else some (noR,y_1.2.2)))) := rfl
theorem m6K_val {n : Nat} (hn : 2000 < n) {P : R24} {o : List Int} {L : Int} (hv : vP P = true) (h9 : P.Pq.length ≤ 9) (hb1 : (-1073741824 : Int) ≤ L) (hb2 : L ≤ 1073741824) :
    ∃ (t : R30) (e : Int) (c' : Int),m6K n P (o,L) = some (if e = 0 then (R32.mk o L t,0) else (noR,9)) ∧ ((e ≠ 0 ∧ (Low P L → 2000 < TT (P.Pq.length - 1))) ∨ (e = 0 ∧ c' ≤ 2000 ∧ 0 ≤ c' ∧ ∃ y,Gd n P L (P.Pq.length - 1) [0] y t c')) := by
  have hg := good_of hv
  have h1 := hg.one
  obtain ⟨m1,hm1,e1⟩ := m20_ok (n := n) (r := 60) hv (by omega) (by omega) hn
  obtain ⟨t,e,c',q1,q2⟩ := build_ok hn hv h9 hb1 hb2 okm0 hm1 (P.Pq.length - 1) n [0] 1 0 (by simp; omega) path0 (by omega) (by omega) (by omega) (by omega) (by omega)
  refine ⟨t,e,c',?_,?_⟩
  · unfold m6K
    rw [mk_val (k := P.Pq.length) rfl rfl (by omega),Option.bind_some,e1,Option.bind_some,letM_eq]
    unfold m21
    dsimp only
    rw [show m50 n ⟨P,[0],L⟩ 1 0 [List.replicate P.Pq.length 0,m1] P.Pq P.Bq = _ from q1,Option.bind_some,Option.bind_some]
    dsimp only
    by_cases he : e = 0
    · rw [if_neg (by simp [he]),if_pos he]
    · rw [if_pos (by simp [he]),if_neg he]
      rfl
  · rcases q2 with ⟨he,q3⟩ | ⟨he,q3,q4,q5,y,hgd⟩
    · exact .inl ⟨he,fun hL => by have := q3 hL; omega⟩
    · exact .inr ⟨he,q3,q4,y,by rw [Int.sub_zero] at hgd; exact hgd⟩
theorem tour_bd9 {P : R24} (hg : Good P) (h9 : P.Pq.length ≤ 9) {o : List Int} (ho : permB P o = true) : 0 ≤ tourL P o ∧ tourL P o ≤ 1000000 := by
  have h1 := segC_bd hg.vec o
  have h2 := D_bd hg.vec (lastP o) 0
  have h3 := (permB_iff.1 ho).1
  unfold tourL
  omega
theorem ex_facts {P : R24} (hv : vP P = true) (h8 : P.Pq.length ≤ 8) : ∃ o,exactS P = (o,tourL P o,0) ∧ permB P o = true ∧ Low P (tourL P o) := by
  have hg := good_of hv
  have h1 := hg.one
  refine ⟨_,(by unfold exactS; rw [hv,if_neg (by simp),if_neg (by omega)]),?_,fun o ho => ?_⟩
  · have hne := shS_ne hg (P.Pq.length - 1) [0] [] (by simp) (by simp; omega)
    rcases shS_perm (P := P) (P.Pq.length - 1) [0] [] path0 (by simp; omega) (.inl rfl) with h | h
    · exact absurd h hne
    · exact h
  · obtain ⟨ol,op⟩ := permB_iff.1 ho
    refine (shS_least ho (P.Pq.length - 1) [0] [] (by simp) (by simp; omega) ?_).2
    have := op.1
    cases o with
    | nil => cases this
    | cons a t =>
      obtain rfl : a = 0 := by simpa using this
      rfl
theorem m6_val {n : Nat} (hn : n = 200000) {P : R24} (hv : vP P = true) (h9 : P.Pq.length ≤ 9) :
    ∃ (o : List Int) (t : R30) (e c' : Int),permB P o = true ∧ (P.Pq.length ≤ 8 → exactS P = (o,tourL P o,0) ∧ Low P (tourL P o)) ∧ m6 n P = some (if e = 0 then (R32.mk o (tourL P o) t,0) else (noR,9)) ∧
      ((e ≠ 0 ∧ (Low P (tourL P o) → 2000 < TT (P.Pq.length - 1))) ∨ (e = 0 ∧ c' ≤ 2000 ∧ 0 ≤ c' ∧ ∃ y,Gd n P (tourL P o) (P.Pq.length - 1) [0] y t c')) := by
  have hg := good_of hv
  have h1 := hg.one
  have h2 : 2000 < n := by omega
  rw [m6_eq,m13_val h2,Option.bind_some]
  by_cases h8 : P.Pq.length ≤ 8
  · obtain ⟨o,e1,e2,e3⟩ := ex_facts hv h8
    have hb := tour_bd9 hg h9 e2
    obtain ⟨t,e,c',q1,q2⟩ := m6K_val (o := o) h2 hv h9 (L := tourL P o) (by omega) (by omega)
    rw [e1]
    exact ⟨o,t,e,c',e2,fun _ => ⟨rfl,e3⟩,q1,q2⟩
  · have e1 : exactS P = ([],0,9) := by unfold exactS; rw [hv,if_neg (by simp),if_pos (by omega)]
    have hp := near_ok hg (P.Pq.length - 1) [0] path0 (by simp; omega)
    rw [e1,if_neg (by decide),if_pos (by decide),m18_val h2 hv,Option.bind_some]
    have e2 : improveS P (near P (P.Pq.length - 1) [0]) = (impS P 180000 (near P (P.Pq.length - 1) [0]),0) := by unfold improveS; rw [hv,hp]; rfl
    have e17 : m17 n P (near P (P.Pq.length - 1) [0]) = some (improveS P (near P (P.Pq.length - 1) [0])) := by rw [hn]; exact m17_val h9
    rw [e17,Option.bind_some,e2]
    have hq := (impS_ok 180000 _ hp).1
    generalize impS P 180000 (near P (P.Pq.length - 1) [0]) = o at hq ⊢
    obtain ⟨ol,op⟩ := permB_iff.1 hq
    have hb := tour_bd9 hg h9 hq
    obtain ⟨t,e,c',q1,q2⟩ := m6K_val (o := o) h2 hv h9 (L := tourL P o) (by omega) (by omega)
    dsimp only
    rw [m19_val hg.vec (op.inP hg) op.pos (by omega) h2,Option.bind_some]
    exact ⟨o,t,e,c',hq,fun h => absurd h h8,q1,q2⟩
theorem m3_gen {n : Nat} (hn : n = 200000) (P : R24) : m3 n P = some true := by
  have h2 : 2000 < n := by omega
  have h4 : m4 n = some true := by rw [hn]; exact m4_eval
  have h7 : m7 n P = some P := rfl
  have h5 : m5 n P = some ((decide ((P.Pq.length : Int) ≤ (9 : Int))) && (decide ((P.Bq.length : Int) ≤ (12 : Int)))) := rfl
  unfold m3
  rw [eta24,h4,Option.bind_some,show (!(!true)) = true from rfl,gdO_true,h5,Option.bind_some]
  by_cases hf : ((decide ((P.Pq.length : Int) ≤ (9 : Int))) && (decide ((P.Bq.length : Int) ≤ (12 : Int)))) = true
  · rw [hf,if_neg (by simp),h7,Option.bind_some,m8_val h2]
    have h9 : P.Pq.length ≤ 9 := by
      rw [Bool.and_eq_true,decide_eq_true_eq] at hf
      omega
    by_cases hv : vP P = true
    · have hg := good_of hv
      have h1 := hg.one
      obtain ⟨o,t,e,c',ho,h8,q1,q2⟩ := m6_val hn hv h9
      rw [q1,Option.bind_some,Option.bind_some,hv,if_neg (by simp)]
      rcases q2 with ⟨he,q3⟩ | ⟨he,q3,q4,y,hgd⟩
      · rw [if_neg he,if_pos (show (!decide ((9 : Int) = 0)) = true from rfl)]
        have h6 : 6 < P.Pq.length := by
          rcases Nat.lt_or_ge 6 P.Pq.length with h | h
          · exact h
          · have hT := q3 (h8 (by omega)).2
            have : TT (P.Pq.length - 1) ≤ 326 := by
              have : P.Pq.length - 1 = 0 ∨ P.Pq.length - 1 = 1 ∨ P.Pq.length - 1 = 2 ∨ P.Pq.length - 1 = 3 ∨ P.Pq.length - 1 = 4 ∨ P.Pq.length - 1 = 5 := by omega
              rcases this with h | h | h | h | h | h <;> rw [h] <;> decide
            omega
        dsimp only
        rw [decide_eq_true (show (6 : Int) < (P.Pq.length : Int) by omega)]
        rfl
      · rw [if_pos he,if_neg (show ¬ (!decide ((0 : Int) = 0)) = true from by simp)]
        have hkn : P.Pq.length - 1 < n := by omega
        have hfit := hgd.fit n hkn
        obtain rfl := hgd.own n hkn
        have hb := tour_bd9 hg h9 ho
        have hp : posB P [0] (tourL P o) = true := posB_iff.2 ⟨hv,path0,by omega,by omega⟩
        have ht : treB n y = true := by
          unfold treB
          have hd := hgd.dep n hkn
          rw [hgd.frm n hkn,hgd.nod n hkn,decide_eq_true q3,decide_eq_true (show depF n y ≤ 40 by omega)]; rfl
        obtain ⟨r1,r2⟩ := right0 h2 (by omega) hv ho rfl hfit hp ht (hgd.wr n hkn)
        have h10 : m10 n (ownF n y) = some y := m10F_val n y hfit
        dsimp only
        rw [eta30,h10,Option.bind_some,eta41,r2,Option.bind_some,show (!(!true)) = true from rfl,gdO_true,Option.bind_some,gdO_true,r1,Option.bind_some,show (!((!true) || (!true))) = true from rfl,gdO_true,m12_val (by omega) hfit,ht,Option.bind_some,if_neg (by simp),Option.bind_some,m13_val h2,Option.bind_some]
        by_cases h : P.Pq.length ≤ 8
        · rw [(h8 h).1]
          dsimp only
          rw [decide_eq_true (show (0 : Int) = 0 from rfl),decide_eq_true (show tourL P o = tourL P o from rfl)]
          simp
        · have e1 : exactS P = ([],0,9) := by unfold exactS; rw [hv,if_neg (by simp),if_pos (by omega)]
          rw [e1]
          rfl
    · have hv' := (Bool.not_eq_true _).mp hv
      have e1 : exactS P = ([],0,1) := by unfold exactS; rw [hv',if_pos rfl]
      have h6 : m6 n P = some (noR,1) := by
        rw [m6_eq,m13_val h2,Option.bind_some,e1,if_neg (by decide),if_neg (by decide)]
      rw [h6,hv']
      rfl
  · rw [(Bool.not_eq_true _).mp hf]
    rfl
theorem m3_true (P : R24) : m3 200000 P = some true := m3_gen rfl P
end Go.AB

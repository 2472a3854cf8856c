import Derived.Test.YtiginjokbkemcaaGreatLk
set_option linter.unusedVariables false
namespace Go.AB
open Go
def okM (P : R24) (m : List Int) : Bool := decide ((m.length : Int) = P.Pq.length) && m.all fun x => !(decide (x < (-20000 : Int)) || decide ((20000 : Int) < x))
theorem okM_iff {P : R24} {m : List Int} : okM P m = true ↔ OKm P m := by
  unfold okM
  rw [Bool.and_eq_true,decide_eq_true_eq,List.all_eq_true]
  constructor
  · rintro ⟨h1,h2⟩
    refine ⟨by omega,fun x hx => ?_⟩
    have := h2 x hx
    simp only [Bool.not_eq_true',Bool.or_eq_false_iff,decide_eq_false_iff_not] at this
    omega
  · intro h
    refine ⟨by rw [h.len],fun x hx => ?_⟩
    have := h.bd x hx
    simp only [Bool.not_eq_true',Bool.or_eq_false_iff,decide_eq_false_iff_not]
    omega
theorem m91_eq {n : Nat} {xs : List Int} {k : Unit → Option Int} : m91_L1 n xs k = idxL xs (fun y => m69 n y) k := rfl
theorem m34_val {n : Nat} {P : R24} {m : List Int} (hl : m.length ≤ 1000) (hn : 2000 < n) : m34 n P m = some (okM P m) := by
  unfold m34 okM
  by_cases h : (m.length : Int) = P.Pq.length
  · have h80 : m68 n m = some (m.any fun x => !(!(decide (x < (-20000 : Int)) || decide ((20000 : Int) < x)))) := by
      unfold m68 m91
      rw [jn,m91_eq]
      exact idx_any (fun y _ => by show m69 n y = _; unfold m69; rw [Bool.not_not]) (by omega) (by omega)
    rw [decide_eq_true h,gdO_true,h80,oB,any_not,Bool.not_not]
  · rw [decide_eq_false h,gdO_false,oB]
    rfl
theorem m97_val {n : Nat} {P : R24} {m : List Int} (hl : m.length ≤ 1000) (hn : 2000 < n) : m97 n P m = some (okM P m) := by
  unfold m97 okM
  rw [jn]
  refine (loop_all (n := n) (fun i => (i : Int)) m.length (fun i => (m[i]?).all fun x => !(decide (x < (-20000 : Int)) || decide ((20000 : Int) < x))) (some false) (some (decide ((m.length : Int) = P.Pq.length))) ?_ ?_ ?_ (by omega)).trans ?_
  · intro i hi hp nx
    rw [List.getElem?_eq_getElem hi] at hp
    have hp' : ¬ m[i] < -20000 ∧ ¬ 20000 < m[i] := by simpa using hp
    rw [m97_L1,if_pos (by simp; omega),getIdx_at rfl hi,oB,decide_eq_false hp'.1,Bool.not_false,gdO_true,oB,decide_eq_false hp'.2,if_neg (by simp),letM_eq,wInc (by omega)]
  · intro i hi hp nx
    rw [List.getElem?_eq_getElem hi] at hp
    have hp' : (!(decide (m[i] < (-20000 : Int)) || decide ((20000 : Int) < m[i]))) = false := hp
    rw [Bool.not_eq_false'] at hp'
    rw [m97_L1,if_pos (by simp; omega),getIdx_at rfl hi,oB]
    by_cases hc : m[i] < -20000
    · rw [decide_eq_true hc,Bool.not_true,gdO_false,oB,Bool.true_or,if_pos rfl]
    · rw [decide_eq_false hc,Bool.false_or] at hp'
      rw [decide_eq_false hc,Bool.not_false,gdO_true,oB,hp',if_pos (by rfl)]
  · intro nx
    rw [m97_L1,if_neg (by simp)]
  · by_cases h : m.all (fun x => !(decide (x < (-20000 : Int)) || decide ((20000 : Int) < x))) = true
    · rw [h,Bool.and_true,if_pos]
      intro i hi
      rw [List.getElem?_eq_getElem hi]
      exact List.all_eq_true.1 h _ (List.getElem_mem hi)
    · rw [Bool.not_eq_true] at h
      rw [h,Bool.and_false,if_neg]
      intro h2
      rw [← Bool.not_eq_true] at h
      apply h
      rw [List.all_eq_true]
      intro x hx
      obtain ⟨i,hi,rfl⟩ := List.getElem_of_mem hx
      have := h2 i hi
      rw [List.getElem?_eq_getElem hi] at this
      exact this
theorem TwoO.first {c : Int → Int} {l : List Int} {a b x : Int} (h : TwoO c l a b) (hx : x ∉ l) (hc : c x < c a) : TwoO c (l ++ [x]) x a := by
  refine ⟨by simp,by simp [h.ha],fun e => hx (e ▸ h.ha),by omega,fun y hy hn => ?_⟩
  rcases List.mem_append.1 hy with hy | hy
  · by_cases e : y = a
    · rw [e]; exact Int.le_refl _
    · have := h.le y hy e
      have := h.ab
      omega
  · exact absurd (by simpa using hy) hn
theorem TwoO.second {c : Int → Int} {l : List Int} {a b x : Int} (h : TwoO c l a b) (hx : x ∉ l) (h1 : ¬ c x < c a) (h2 : c x < c b) : TwoO c (l ++ [x]) a x := by
  refine ⟨by simp [h.ha],by simp,fun e => hx (e ▸ h.ha),by omega,fun y hy hn => ?_⟩
  rcases List.mem_append.1 hy with hy | hy
  · have := h.le y hy hn
    omega
  · obtain rfl : y = x := by simpa using hy
    exact Int.le_refl _
theorem TwoO.keep {c : Int → Int} {l : List Int} {a b x : Int} (h : TwoO c l a b) (h2 : ¬ c x < c b) : TwoO c (l ++ [x]) a b := by
  refine ⟨by simp [h.ha],by simp [h.hb],h.ne,h.ab,fun y hy hn => ?_⟩
  rcases List.mem_append.1 hy with hy | hy
  · exact h.le y hy hn
  · obtain rfl : y = x := by simpa using hy
    omega
theorem m103_L1_val {n : Nat} {P : R24} {m : List Int} {a0 b0 : Int} (hV : VecP P) (hm : OKm P m) (h3 : 3 ≤ P.Pq.length) (hP : P.Pq.length ≤ 60) (h0 : TwoO (cs P m 0) (oth 2) a0 b0) (hn : 2000 < n) {K : Int × Int × List Int → Option (Int × Int)} :
    ∃ a b,TwoO (cs P m 0) (oth (P.Pq.length - 1)) a b ∧ loopM (m103_L1 n P m K) n (a0,b0,(1 : Int),([] : List Int)) = K (a,b,oth (P.Pq.length - 1)) := by
  have hz : inN P 0 := ⟨by omega,by omega⟩
  refine loopM_ind (fun mm y => ∃ (i : Nat) (a b : Int),1 ≤ i ∧ i ≤ P.Pq.length ∧ mm = P.Pq.length - i ∧ y = (a,b,(i : Int),oth (i - 1)) ∧ TwoO (cs P m 0) (oth (max (i - 1) 2)) a b)
    (fun o => ∃ a b,TwoO (cs P m 0) (oth (P.Pq.length - 1)) a b ∧ o = K (a,b,oth (P.Pq.length - 1))) ?_ n (P.Pq.length - 1) _ ⟨1,a0,b0,by omega,by omega,rfl,rfl,h0⟩ (by omega)
  rintro mm y ⟨i,a,b,hi,hi',rfl,rfl,h⟩
  rcases Nat.lt_or_ge i P.Pq.length with h1 | h1
  · have hoi : oth (i - 1) ++ [(i : Int)] = oth (i + 1 - 1) := by
      obtain ⟨k,rfl⟩ : ∃ k,i = k + 1 := ⟨i - 1,by omega⟩
      exact (oth_succ k).symm
    have hI : inN P (i : Int) := ⟨by omega,by omega⟩
    have hab : inN P a ∧ inN P b := by
      have ha := mem_oth.1 h.ha
      have hb := mem_oth.1 h.hb
      exact ⟨⟨by omega,by omega⟩,⟨by omega,by omega⟩⟩
    have pre : ∀ nx,m103_L1 n P m K nx (a,b,(i : Int),oth (i - 1)) = (fun k_46 : Int × Int → Option (Int × Int) => if (decide ((i : Int) < (3 : Int))) = true then k_46 (a,b) else if (decide (cs P m 0 i < cs P m 0 a)) = true then k_46 ((i : Int),a) else if (decide (cs P m 0 i < cs P m 0 b)) = true then k_46 (a,(i : Int)) else k_46 (a,b)) (fun p => nx (p.1,p.2,((i + 1 : Nat) : Int),oth (i + 1 - 1))) := fun nx => by
      rw [m103_L1,if_pos (by simp; omega)]
      dsimp only
      rw [apd_val (by rw [oth_len]; simp; omega),oB,eta24,m106_val hV hm hz hI,oB,m106_val hV hm hz hab.1,m106_val hV hm hz hab.2]
      dsimp only [jn,letM]
      rw [wInc (by omega),hoi,oB,oB]
    by_cases h3' : i < 3
    · refine .inl ⟨P.Pq.length - (i + 1),_,by omega,⟨i + 1,a,b,by omega,by omega,rfl,rfl,?_⟩,fun nx => ?_⟩
      · rw [show max (i + 1 - 1) 2 = max (i - 1) 2 from by omega]; exact h
      · rw [pre]
        dsimp only
        rw [if_pos (decide_eq_true (by omega))]
    · have hmx : max (i - 1) 2 = i - 1 := by omega
      have hmx' : max (i + 1 - 1) 2 = i + 1 - 1 := by omega
      rw [hmx] at h
      have hnew : (i : Int) ∉ oth (i - 1) := fun hh => by
        have := mem_oth.1 hh
        omega
      have pre2 : ∀ nx,m103_L1 n P m K nx (a,b,(i : Int),oth (i - 1)) = if cs P m 0 i < cs P m 0 a then nx ((i : Int),a,((i + 1 : Nat) : Int),oth (i + 1 - 1)) else if cs P m 0 i < cs P m 0 b then nx (a,(i : Int),((i + 1 : Nat) : Int),oth (i + 1 - 1)) else nx (a,b,((i + 1 : Nat) : Int),oth (i + 1 - 1)) := fun nx => by
        rw [pre]
        dsimp only
        rw [if_neg (by simp; omega)]
        simp only [decide_eq_true_eq]
      by_cases c1 : cs P m 0 i < cs P m 0 a
      · refine .inl ⟨P.Pq.length - (i + 1),_,by omega,⟨i + 1,i,a,by omega,by omega,rfl,rfl,?_⟩,fun nx => ?_⟩
        · rw [hmx',← hoi]; exact h.first hnew c1
        · rw [pre2,if_pos c1]
      · by_cases c2 : cs P m 0 i < cs P m 0 b
        · refine .inl ⟨P.Pq.length - (i + 1),_,by omega,⟨i + 1,a,i,by omega,by omega,rfl,rfl,?_⟩,fun nx => ?_⟩
          · rw [hmx',← hoi]; exact h.second hnew c1 c2
          · rw [pre2,if_neg c1,if_pos c2]
        · refine .inl ⟨P.Pq.length - (i + 1),_,by omega,⟨i + 1,a,b,by omega,by omega,rfl,rfl,?_⟩,fun nx => ?_⟩
          · rw [hmx',← hoi]; exact h.keep c2
          · rw [pre2,if_neg c1,if_neg c2]
  · have : i = P.Pq.length := by omega
    subst this
    rw [show max (P.Pq.length - 1) 2 = P.Pq.length - 1 from by omega] at h
    refine .inr ⟨_,⟨a,b,h,rfl⟩,fun nx => ?_⟩
    rw [m103_L1,if_neg (by simp)]
theorem m103_L2_val {n : Nat} {P : R24} {m : List Int} (hm : OKm P m) (hP : P.Pq.length ≤ 60) (hn : 2000 < n) {K : Int → Option (Int × Int)} : loopM (m103_L2 n P m K) n ((0 : Int),(0 : Int)) = K m.sum := by
  have hml := hm.len
  refine loop_run (n := n) (fun i => ((m.take i).sum,(i : Int))) m.length _ (by simp) (fun i hi nx => ?_) (fun nx => ?_) (by omega)
  · have h1 := hm.sumt i hP
    have h2 := hm.bd _ (List.getElem_mem hi)
    rw [m103_L2,if_pos (by simp; omega)]
    dsimp only [letM]
    rw [getIdx_at rfl hi,oB,wInc (by omega),wrap64 (by omega) (by omega),sum_take hi]
  · rw [m103_L2,if_neg (by simp; omega),List.take_length]
theorem oth2 {c : Int → Int} : TwoO c (oth 2) (if c 2 < c 1 then 2 else 1) (if c 2 < c 1 then 1 else 2) := by
  have hm : ∀ x,x ∈ oth 2 → x = 1 ∨ x = 2 := fun x hx => by
    have := mem_oth.1 hx
    omega
  by_cases h : c 2 < c 1
  · rw [if_pos h,if_pos h]
    refine ⟨mem_oth.2 (by omega),mem_oth.2 (by omega),by omega,by omega,fun x hx hn => ?_⟩
    rcases hm x hx with rfl | rfl
    · exact Int.le_refl _
    · exact absurd rfl hn
  · rw [if_neg h,if_neg h]
    refine ⟨mem_oth.2 (by omega),mem_oth.2 (by omega),by omega,by omega,fun x hx hn => ?_⟩
    rcases hm x hx with rfl | rfl
    · exact absurd rfl hn
    · exact Int.le_refl _
theorem m103_ok {n : Nat} {P : R24} {m : List Int} (hv : vP P = true) (hm : OKm P m) (hn : 2000 < n) : ∃ v,OT P m v ∧ m103 n P m = some (v,0) := by
  have hg := good_of hv
  have hV := hg.vec
  have h1 := hg.one
  have hP1 := hg.few.1
  have hml := hm.len
  have h0 : inN P 0 := ⟨by omega,by omega⟩
  unfold m103
  rw [eta24,m8_val hn,oB,hv,if_neg (by simp),m97_val (by omega) hn,oB,okM_iff.2 hm,if_neg (by simp)]
  by_cases h3 : P.Pq.length < 3
  · refine ⟨_,.inl ⟨h3,rfl⟩,?_⟩
    have hb := D_bd hV 0 ((P.Pq.length : Int) - 1)
    rw [if_pos (by simp; omega),pt_at h0,oB,wrap64 (x := (P.Pq.length : Int) - 1) (by omega) (by omega),pt_at (i := (P.Pq.length : Int) - 1) ⟨by omega,by omega⟩,oB]
    rw [show m83 n (R50.mk (pt P 0).X (pt P 0).Y) (R50.mk (pt P ((P.Pq.length : Int) - 1)).X (pt P ((P.Pq.length : Int) - 1)).Y) = some (D P 0 ((P.Pq.length : Int) - 1)) from m83_val (pt_ok hV _) (pt_ok hV _)]
    rw [oB,letM_eq,wrap64 (by omega) (by omega)]
  · obtain ⟨q,hq⟩ : ∃ q,P.Pq.length = q + 3 := ⟨P.Pq.length - 3,by omega⟩
    obtain ⟨a,b,h2,e2⟩ := m103_L1_val (n := n) hV hm (by omega) hP1 (oth2 (c := cs P m 0)) hn (K := fun p_48 : Int × Int × (List Int) => (jn (fun p_59 : Int => ((m104 n (R24.mk P.Pq P.Bq) m p_48.2.2).bind fun y_61 => ((m106 n (R24.mk P.Pq P.Bq) m (0 : Int) p_48.1).bind fun y_62 => ((m106 n (R24.mk P.Pq P.Bq) m (0 : Int) p_48.2.1).bind fun y_63 => (letM ((IntKind.wrap .i64 ((IntKind.wrap .i64 ((IntKind.wrap .i64 (y_61 + y_62)) + y_63)) - (IntKind.wrap .i64 ((2 : Int) * p_59))))) fun t4_64 => (some (t4_64,(0 : Int)))))))) fun k_60 => (loopM (m103_L2 n P m k_60) n ((0 : Int),(0 : Int)))))
    have ho : oth (P.Pq.length - 1) = 1 :: (List.range (q + 1)).map fun i => ((i + 2 : Nat) : Int) := by
      rw [hq]; exact oth_cons (q + 1)
    have hoI : InP P (oth (P.Pq.length - 1)) := oth_in (by omega)
    have hod := oth_nodup (P.Pq.length - 1)
    have hol : (oth (P.Pq.length - 1)).length = P.Pq.length - 1 := oth_len
    have hpr : ∃ r,PrimR (cs P m) (oth (P.Pq.length - 1)) [1] (P.Pq.length - 2) r ∧ m104 n P m (oth (P.Pq.length - 1)) = some r := by
      have hoI' := hoI
      have hod' := hod
      have hol' := hol
      rw [ho] at hoI' hod' hol' ⊢
      have := m104_val (n := n) hV hm hoI' hod' (by omega) hn
      have e : ((List.range (q + 1)).map fun i => ((i + 2 : Nat) : Int)).length = P.Pq.length - 2 := by simp [hq]
      rw [e] at this
      exact this
    obtain ⟨r,p1,p3⟩ := hpr
    have hrb := p1.bd (cs_bd' hV hm)
    have hrb' : -56000 * 60 ≤ r ∧ r ≤ 56000 * 60 := by
      have : ((P.Pq.length - 2 : Nat) : Int) ≤ 60 := by omega
      omega
    have ha := hoI a h2.ha
    have hb := hoI b h2.hb
    have hca := cs_bd hV hm 0 a
    have hcb := cs_bd hV hm 0 b
    have hms := hm.sum (by omega)
    refine ⟨_,.inr ⟨r,_,by omega,p1,h2.two,rfl⟩,?_⟩
    rw [if_neg (by simp; omega),m106_val hV hm h0 ⟨by omega,by omega⟩,oB,m106_val hV hm h0 ⟨by omega,by omega⟩,oB]
    dsimp only [jn] at e2 ⊢
    have hfin : (m104 n P m (oth (P.Pq.length - 1))).bind (fun y_61 => (m106 n P m (0 : Int) a).bind fun y_62 => (m106 n P m (0 : Int) b).bind fun y_63 => letM ((IntKind.wrap .i64 ((IntKind.wrap .i64 ((IntKind.wrap .i64 (y_61 + y_62)) + y_63)) - (IntKind.wrap .i64 ((2 : Int) * m.sum))))) fun t4_64 => (some (t4_64,(0 : Int)))) = some (r + (cs P m 0 a + cs P m 0 b) - 2 * m.sum,0) := by
      rw [p3,oB,m106_val hV hm h0 ha,oB,m106_val hV hm h0 hb,oB,letM_eq,wrap64 (x := r + cs P m 0 a) (by omega) (by omega),wrap64 (x := r + cs P m 0 a + cs P m 0 b) (by omega) (by omega),wrap64 (x := 2 * m.sum) (by omega) (by omega),wrap64 (by omega) (by omega)]
      congr 2; omega
    rw [m103_L2_val hm hP1 hn] at e2
    by_cases hc : cs P m 0 2 < cs P m 0 1
    · rw [if_pos (decide_eq_true hc)]
      rw [if_pos hc,if_pos hc] at e2
      exact e2.trans hfin
    · rw [if_neg (by simpa using hc)]
      rw [if_neg hc,if_neg hc] at e2
      exact e2.trans hfin
def sumM (m : List Int) (l : List Int) : Int := (l.map (mu m)).sum
theorem segC_mu {P : R24} {m : List Int} : ∀ (a : Int) (t : List Int),segC (cs P m) (a :: t) = segC (D P) (a :: t) + 2 * sumM m (a :: t) - mu m a - mu m (lastP (a :: t))
  | a,[] => by simp [segC,sumM,lastP]; omega
  | a,b :: t => by
    have ih := segC_mu (P := P) (m := m) b t
    have hl : lastP (a :: b :: t) = lastP (b :: t) := by simp [lastP]
    rw [hl]
    simp only [segC,sumM,List.map_cons,List.sum_cons,cs] at ih ⊢
    omega
theorem sum_perm {l l' : List Int} (h : l.Perm l') : l.sum = l'.sum := by
  induction h with
  | nil => rfl
  | cons x _ ih => rw [List.sum_cons,List.sum_cons,ih]
  | swap x y t => simp only [List.sum_cons]; omega
  | trans _ _ h1 h2 => rw [h1,h2]
theorem map_mu {m : List Int} : (irange m.length).map (mu m) = m := by
  unfold irange
  rw [List.map_map]
  apply List.ext_getElem (by simp)
  intro i h1 h2
  simp [mu,h2]
theorem nodup_perm {l l' : List Int} (h : l.Nodup) (h' : l'.Nodup) (hm : ∀ x,x ∈ l ↔ x ∈ l') : l.Perm l' := (List.perm_ext_iff_of_nodup h h').2 hm
theorem sumM_all {P : R24} {m o : List Int} (hm : OKm P m) (hd : o.Nodup) (ho : ∀ x,x ∈ o ↔ inN P x) : sumM m o = m.sum := by
  have hp : o.Perm (irange P.Pq.length) := nodup_perm hd (irange_nodup _) fun x => by
    rw [ho,mem_irange]; rfl
  unfold sumM
  rw [sum_perm (hp.map (mu m)),← hm.len,map_mu]
theorem D_self (P : R24) (i : Int) : D P i i = 0 := by
  unfold D dst
  omega
theorem OT.le {P : R24} {m o : List Int} {v : Int} (h1 : 1 ≤ P.Pq.length) (hV : VecP P) (hm : OKm P m) (h : OT P m v) (h0 : o.head? = some 0) (hd : o.Nodup) (ho : ∀ x,x ∈ o ↔ inN P x) : v ≤ tourL P o := by
  have hlen : o.length = P.Pq.length := by
    have hp : o.Perm (irange P.Pq.length) := nodup_perm hd (irange_nodup _) fun x => by
      rw [ho,mem_irange]; rfl
    rw [hp.length_eq,irange_length]
  obtain ⟨t,rfl⟩ : ∃ t,o = 0 :: t := by
    cases o with
    | nil => cases h0
    | cons a t =>
      obtain rfl : a = 0 := by simpa using h0
      exact ⟨t,rfl⟩
  rcases h with ⟨h3,e⟩ | ⟨r,s,h3,hp,hs,e⟩
  · rw [e]
    cases t with
    | nil =>
      have e1 : P.Pq.length = 1 := by simp at hlen; omega
      simp [tourL,segC,lastP,e1,D_self]
    | cons b t =>
      have e1 : P.Pq.length = 2 := by simp at hlen; omega
      have e2 : t = [] := by
        simp at hlen
        exact List.length_eq_zero_iff.1 (by omega)
      subst e2
      have hb := (ho b).1 (by simp)
      have hb0 : b ≠ 0 := fun e => by rw [e] at hd; simp at hd
      obtain rfl : b = 1 := by unfold inN at hb; omega
      simp only [tourL,segC,lastP,e1]
      have := D_comm P 1 0
      simp
      omega
  · obtain ⟨x,t,rfl⟩ : ∃ x t',t = x :: t' := by
      cases t with
      | nil => simp at hlen; omega
      | cons x t' => exact ⟨x,t',rfl⟩
    have hd1 := List.nodup_cons.1 hd
    have hot : ∀ y,y ∈ oth (P.Pq.length - 1) ↔ y ∈ x :: t := fun y => by
      rw [mem_oth]
      constructor
      · intro hy
        have := (ho y).2 ⟨by omega,by omega⟩
        rcases List.mem_cons.1 this with h | h
        · omega
        · exact h
      · intro hy
        have h1 := (ho y).1 (List.mem_cons_of_mem _ hy)
        have h2 : y ≠ 0 := fun e => hd1.1 (e ▸ hy)
        unfold inN at h1
        omega
    have hpr := hp.prim (List.nodup_cons.2 ⟨by simp,List.nodup_nil⟩) (fun y hy => by
      obtain rfl : y = 1 := by simpa using hy
      exact mem_oth.2 (by omega)) (by rw [oth_len]; simp; omega)
    have hr := hpr.path (cs_comm P m) (mem_oth.2 (by omega)) hot hd1.2
    have hlast : lastP (0 :: x :: t) = lastP (x :: t) := by simp [lastP]
    have hlm : lastP (x :: t) ∈ x :: t := lastP_mem (by simp)
    have hxl : x ≠ lastP (x :: t) := fun e => by
      cases t with
      | nil => simp at hlen; omega
      | cons y t =>
        have : lastP (x :: y :: t) = lastP (y :: t) := by simp [lastP]
        rw [this] at e
        have hm' : lastP (y :: t) ∈ y :: t := lastP_mem (by simp)
        rw [← e] at hm'
        exact (List.nodup_cons.1 hd1.2).1 hm'
    have hs2 := hs.le x (lastP (x :: t)) ((hot x).2 (by simp)) ((hot _).2 hlm) hxl
    have hmu := segC_mu (P := P) (m := m) 0 (x :: t)
    have hsum := sumM_all hm hd ho
    rw [hsum,hlast] at hmu
    unfold tourL
    rw [hlast,e]
    have hdc := D_comm P 0 (lastP (x :: t))
    have hc1 : segC (cs P m) (0 :: x :: t) = cs P m 0 x + segC (cs P m) (x :: t) := rfl
    have hc2 : cs P m 0 (lastP (x :: t)) = D P 0 (lastP (x :: t)) + mu m 0 + mu m (lastP (x :: t)) := rfl
    omega
def free (P : R24) : R24 := ⟨P.Pq,[]⟩
theorem perm_all {P : R24} {o : List Int} (hg : Good P) (h : permB P o = true) : o.head? = some 0 ∧ o.Nodup ∧ ∀ x,x ∈ o ↔ inN P x := by
  obtain ⟨h1,h2⟩ := permB_iff.1 h
  have hd := h2.nodup
  refine ⟨h2.1,hd,fun x => ⟨fun hx => h2.inP hg x hx,fun hx => ?_⟩⟩
  exact nodup_all hd (l := irange P.Pq.length) (fun y hy => mem_irange.2 (h2.inP hg y hy)) (by rw [irange_length,h1]; exact Nat.le_refl _) x (mem_irange.2 hx)
end Go.AB

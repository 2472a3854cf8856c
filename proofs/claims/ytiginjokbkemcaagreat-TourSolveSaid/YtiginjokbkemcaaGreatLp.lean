import Derived.Test.YtiginjokbkemcaaGreatLm
set_option linter.unusedVariables false
namespace Go.AB
open Go
def posB (P : R24) (l : List Int) (L : Int) : Bool := vP P && (pathB P l && (decide (-1073741824 ≤ L) && decide (L ≤ 1073741824)))
theorem posB_iff {P : R24} {l : List Int} {L : Int} : posB P l L = true ↔ vP P = true ∧ Path P l ∧ -1073741824 ≤ L ∧ L ≤ 1073741824 := by
  unfold posB
  rw [Bool.and_eq_true,Bool.and_eq_true,Bool.and_eq_true,pathB_iff,decide_eq_true_eq,decide_eq_true_eq]
theorem m53_val {n : Nat} {P : R24} {l : List Int} {L : Int} (hl : l.length ≤ 1000) (hn : 2000 < n) : m53 n ⟨P,l,L⟩ = some (posB P l L) := by
  unfold m53 posB
  dsimp only
  rw [eta24,m16_val hn,oB]
  cases hv : vP P with
  | false => rfl
  | true =>
    have hg := good_of hv
    rw [gdO_true,m75_val hg.few hg.inb hl hn,oB,path_eq hg]
    simp only [Bool.true_and,Bool.and_assoc]
theorem Path.short {P : R24} {l : List Int} (hg : Good P) (h : Path P l) : l.length ≤ P.Pq.length := by
  have := nodup_le h.nodup (S := irange P.Pq.length) fun x hx => mem_irange.2 (h.inP hg x hx)
  rwa [irange_length] at this
theorem m60_val {n : Nat} {P : R24} {l : List Int} {L : Int} (hl : l.length ≤ 1000) (hn : 2000 < n) : m60 n ⟨P,l,L⟩ = some (posB P l L) := by
  unfold m60
  dsimp only
  rw [eta24,m8_val hn,oB]
  cases hv : vP P with
  | false =>
    unfold posB
    rw [hv]
    rfl
  | true =>
    have hg := good_of hv
    rw [Bool.not_true,Bool.false_or]
    by_cases hb : l.length = 0 ∨ P.Pq.length < l.length
    · have hno : posB P l L = false := by
        rw [← Bool.not_eq_true,posB_iff]
        rintro ⟨_,h,_⟩
        have h1 := h.pos
        have h2 := h.short hg
        omega
      have hd : (decide ((l.length : Int) = (0 : Int)) || decide ((P.Pq.length : Int) < (l.length : Int))) = true := by
        rw [Bool.or_eq_true,decide_eq_true_eq,decide_eq_true_eq]; omega
      rw [hno,hd,Bool.not_true,gdO_false,oB]
      dsimp only [letM]
      rw [Bool.true_or,Bool.true_or,Bool.true_or,if_pos rfl]
    · have hd : (decide ((l.length : Int) = (0 : Int)) || decide ((P.Pq.length : Int) < (l.length : Int))) = false := by
        rw [Bool.or_eq_false_iff,decide_eq_false_iff_not,decide_eq_false_iff_not]; omega
      obtain ⟨a,t,rfl⟩ : ∃ a t,l = a :: t := by
        cases l with
        | nil => exact absurd (.inl rfl) hb
        | cons a t => exact ⟨a,t,rfl⟩
      rw [hd,Bool.not_false,gdO_true,get0,oB]
      dsimp only [letM]
      rw [Bool.false_or]
      by_cases hc : ((!decide (a = (0 : Int))) || decide (L < (-1073741824 : Int)) || decide ((1073741824 : Int) < L)) = true
      · have hno : posB P (a :: t) L = false := by
          rw [← Bool.not_eq_true,posB_iff]
          rintro ⟨_,h,h1,h2⟩
          have h3 := h.1
          simp only [List.head?_cons,Option.some.injEq] at h3
          simp only [Bool.or_eq_true,Bool.not_eq_true',decide_eq_false_iff_not,decide_eq_true_eq] at hc
          omega
        rw [hno,if_pos hc]
      · rw [if_neg hc]
        simp only [Bool.or_eq_true,Bool.not_eq_true',decide_eq_false_iff_not,decide_eq_true_eq,not_or,Classical.not_not] at hc
        obtain ⟨⟨rfl,h1⟩,h2⟩ := hc
        rw [jn,m58_L1_val (n := n) (P := P) (l := 0 :: t) (K := fun _ => some true) hg.few (by omega) (by simp) hn (fun nx x => by rw [m60_L1])]
        unfold posB pathB
        rw [hv,decide_eq_true (show (-1073741824 : Int) ≤ L by omega),decide_eq_true (show L ≤ (1073741824 : Int) by omega),decide_eq_true (show (0 :: t : List Int).head? = some 0 from rfl)]
        simp only [Bool.true_and,Bool.and_true]
        cases ((List.range ((0 :: t).length - 1)).all fun i => (rd P ((0 :: t).take (i + 1))).contains ((0 :: t).getD (i + 1) 0)) <;> rfl
def spB (P : R24) (l : List Int) (L at_ : Int) : Bool := decide (at_ = 0) && (posB P l L && !decide ((l.length : Int) = P.Pq.length))
def ext64 (P : R24) (l : List Int) (L : Int) (x : Int) : R64 := ⟨P,l ++ [x],L⟩
def ext75 (P : R24) (l : List Int) (L : Int) (x : Int) : R75 := ⟨P,l ++ [x],L⟩
theorem m22_val {n : Nat} {P : R24} {l : List Int} {L a : Int} (hl : l.length ≤ 1000) (hn : 2000 < n) : m22 n ⟨P,l,L⟩ a = some (if spB P l L a = true then ((rd P l).map (ext64 P l L),true) else ([],false)) := by
  unfold m22
  dsimp only
  rw [eta24,m53_val hl hn]
  by_cases ha : a = 0
  · rw [decide_eq_true ha]
    simp only [Bool.not_true,Bool.not_false,gdO_true,oB,Bool.false_or]
    unfold spB
    rw [decide_eq_true ha,Bool.true_and]
    cases hp : posB P l L with
    | false => rfl
    | true =>
      obtain ⟨hv,hpa,_⟩ := posB_iff.1 hp
      have hg := good_of hv
      by_cases he : (l.length : Int) = P.Pq.length
      · rw [decide_eq_true he,if_pos (by rfl),if_neg (by simp)]
      · rw [decide_eq_false he,if_neg (by simp),if_pos (by rfl),m54_val hg.few hg.inb (hpa.inP hg) hl hn,oB,jn]
        have hrl := rd_len (P := P) (path := l)
        have hP := hg.few.1
        refine loop_run (n := n) (fun i => ((i : Int),((rd P l).take i).map (ext64 P l L))) (rd P l).length _ (by simp) (fun i hi nx => ?_) (fun nx => ?_) (by omega)
        · rw [m22_L1,if_pos (by simp; omega)]
          dsimp only [letM]
          rw [getIdx_at rfl hi,oB,m43o_val (by omega),oB,apd_val (by simp; omega),oB,apd_val (by simp; omega),oB,wInc (by omega),List.take_succ_eq_append_getElem hi,List.map_append]
          rfl
        · rw [m22_L1,if_neg (by simp),List.take_length]
  · rw [decide_eq_false ha]
    unfold spB
    rw [decide_eq_false ha]
    rfl
theorem m88_val {n : Nat} {P : R24} {l : List Int} {L a : Int} (hl : l.length ≤ 1000) (hn : 2000 < n) : m88 n ⟨P,l,L⟩ a = some (if spB P l L a = true then ((rd P l).map (ext75 P l L),true) else ([],false)) := by
  unfold m88
  dsimp only
  rw [eta24,m60_val hl hn,oB]
  unfold spB
  cases hp : posB P l L with
  | false => simp
  | true =>
    by_cases ha : a = 0
    · rw [decide_eq_true ha]
      obtain ⟨hv,hpa,_⟩ := posB_iff.1 hp
      have hg := good_of hv
      by_cases he : (l.length : Int) = P.Pq.length
      · rw [decide_eq_true he,if_pos (by rfl),if_neg (by simp)]
      · rw [decide_eq_false he,if_neg (by simp),if_pos (by rfl),m25_val hg.few hl hn,oB,jn]
        have hrl := rd_len (P := P) (path := l)
        have hP := hg.few.1
        refine loop_run (n := n) (fun i => ((i : Int),((rd P l).take i).map (ext75 P l L))) (rd P l).length _ (by simp) (fun i hi nx => ?_) (fun nx => ?_) (by omega)
        · rw [m88_L1,if_pos (by simp; omega)]
          dsimp only [letM]
          rw [apd_val (by simp; omega),oB,getIdx_at rfl hi,oB,List.nil_append,apd_val (by simp; omega),oB,apd_val (by simp; omega),oB,wInc (by omega),List.take_succ_eq_append_getElem hi,List.map_append]
          rfl
        · rw [m88_L1,if_neg (by simp),List.take_length]
    · rw [decide_eq_false ha]
      rfl
def rstI (l : List Int) (i : Nat) : List Int := (irange i).filter fun x => !l.contains x
theorem rstI_succ {l : List Int} (k : Nat) : rstI l (k + 1) = rstI l k ++ if (!l.contains (k : Int)) = true then [(k : Int)] else [] := filter_irange k
theorem mem_rstI {l : List Int} {k : Nat} {x : Int} : x ∈ rstI l k ↔ (0 ≤ x ∧ x < k) ∧ x ∉ l := by
  unfold rstI
  rw [List.mem_filter,mem_irange,Bool.not_eq_true',← Bool.not_eq_true,List.contains_iff_mem]
theorem sumM_bd {P : R24} {m : List Int} (hm : OKm P m) (l : List Int) : -20000 * (l.length : Int) ≤ sumM m l ∧ sumM m l ≤ 20000 * (l.length : Int) := by
  have := sum_bd (l := l.map (mu m)) (B := 20000) fun x hx => by
    obtain ⟨y,_,rfl⟩ := List.mem_map.1 hx
    exact mu_bd hm y
  rw [List.length_map] at this
  exact this
theorem sumM_snoc {m l : List Int} {x : Int} : sumM m (l ++ [x]) = sumM m l + mu m x := by
  unfold sumM
  rw [List.map_append,List.sum_append]; simp
def BD (P : R24) (l m : List Int) (v : Int) : Prop :=
  (l.length = P.Pq.length ∧ v = tourL P l) ∨ (l.length ≠ P.Pq.length ∧ l.length = 1 ∧ OT P m v) ∨
  (l.length ≠ P.Pq.length ∧ l.length ≠ 1 ∧ ∃ r,PrimR (cs P m) (lastP l :: 0 :: rstI l P.Pq.length) [lastP l] (0 :: rstI l P.Pq.length).length r ∧
    v = segC (D P) l + r - mu m (lastP l) - mu m 0 - 2 * sumM m (rstI l P.Pq.length))
theorem BD.uniq {P : R24} {l m : List Int} {v v' : Int} (h : BD P l m v) (h' : BD P l m v') : v = v' := by
  rcases h with ⟨h1,e⟩ | ⟨h1,h2,e⟩ | ⟨h1,h2,r,p,e⟩
  · rcases h' with ⟨h1',e'⟩ | ⟨h1',h2',e'⟩ | ⟨h1',h2',r',p',e'⟩
    · omega
    · exact absurd h1 h1'
    · exact absurd h1 h1'
  · rcases h' with ⟨h1',e'⟩ | ⟨h1',h2',e'⟩ | ⟨h1',h2',r',p',e'⟩
    · exact absurd h1' h1
    · exact e.uniq e'
    · exact absurd h2 h2'
  · rcases h' with ⟨h1',e'⟩ | ⟨h1',h2',e'⟩ | ⟨h1',h2',r',p',e'⟩
    · exact absurd h1' h1
    · exact absurd h2' h2
    · have := p.uniq p'
      omega
theorem m80_eq {n : Nat} {xs : List Int} {a : Int} {k : Unit → Option Int} : m80_L1 n xs a k = idxL xs (fun y => some (decide (a = y))) k := rfl
theorem m55_val {n : Nat} {l : List Int} {a : Int} (hl : l.length ≤ 1000) (hn : 2000 < n) : m55 n l a = some (l.contains a) := by
  unfold m55 m80
  rw [jn,m80_eq]
  refine (idx_any (q := fun y => decide (a = y)) (fun y _ => rfl) (by omega) (by omega)).trans ?_
  congr 1
  rw [Bool.eq_iff_iff,List.any_eq_true,List.contains_iff_mem]
  constructor
  · rintro ⟨x,hx,h⟩
    rw [of_decide_eq_true h]; exact hx
  · intro h
    exact ⟨a,h,decide_eq_true rfl⟩
theorem pts_ok {P : R24} {l : List Int} (hg : Good P) (hp : Path P l) (h1 : l.length ≠ 1) : InP P (lastP l :: 0 :: rstI l P.Pq.length) ∧ (lastP l :: 0 :: rstI l P.Pq.length).Nodup ∧ (rstI l P.Pq.length).length ≤ P.Pq.length := by
  have h0 := hp.pos
  have hone := hg.one
  have hlm := lastP_mem h0
  have hz := hp.zero
  have hlast : lastP l ≠ 0 := by
    obtain ⟨a,b,t,rfl⟩ : ∃ a b t,l = a :: b :: t := by
      cases l with
      | nil => cases h0
      | cons a t =>
        cases t with
        | nil => exact absurd rfl h1
        | cons b t => exact ⟨a,b,t,rfl⟩
    have ha : a = 0 := by simpa using hp.1
    have hd := List.nodup_cons.1 hp.nodup
    have e : lastP (a :: b :: t) = lastP (b :: t) := by simp [lastP]
    intro h
    rw [e] at h
    have hm := lastP_mem (l := b :: t) (by simp)
    rw [h,← ha] at hm
    exact hd.1 hm
  refine ⟨fun x hx => ?_,?_,?_⟩
  · rcases List.mem_cons.1 hx with rfl | hx
    · exact hp.inP hg _ hlm
    · rcases List.mem_cons.1 hx with rfl | hx
      · omega
      · exact (mem_rstI.1 hx).1
  · rw [List.nodup_cons,List.nodup_cons]
    refine ⟨fun h => ?_,fun h => (mem_rstI.1 h).2 hz,(irange_nodup _).filter _⟩
    rcases List.mem_cons.1 h with h | h
    · exact hlast h
    · exact (mem_rstI.1 h).2 hlm
  · have := List.length_filter_le (fun x => !l.contains x) (irange P.Pq.length)
    rwa [irange_length] at this
theorem m24_val {n : Nat} {P : R24} {l m : List Int} {L : Int} (hg : Good P) (hp : Path P l) (hm : OKm P m) (h20 : P.Pq.length ≤ 20) (hn : 2000 < n) : ∃ v,BD P l m v ∧ m24 n ⟨P,l,L⟩ m = some v := by
  have hV := hg.vec
  have hone := hg.one
  have h0 := hp.pos
  have hsh := hp.short hg
  have hI := hp.inP hg
  have hz : inN P 0 := ⟨by omega,by omega⟩
  unfold m24
  dsimp only
  rw [eta24]
  by_cases he : l.length = P.Pq.length
  · refine ⟨_,.inl ⟨he,rfl⟩,?_⟩
    rw [if_pos (decide_eq_true (by omega)),m19_val hV hI h0 (by omega) hn,oB]
  · rw [if_neg (by simp; omega)]
    by_cases h1 : l.length = 1
    · obtain ⟨v,deg,q1,_,q3⟩ := m35_val (n := n) hV hm hone h20 hn
      refine ⟨v,.inr (.inl ⟨he,h1,q1⟩),?_⟩
      rw [if_pos (decide_eq_true (by omega)),q3,oB]
    · obtain ⟨k1,k2,k3⟩ := pts_ok hg hp h1
      have hlast := hI _ (lastP_mem h0)
      obtain ⟨r,deg',p1,p2,p3⟩ := m56_val (n := n) (deg := List.replicate P.Pq.length 0) hV hm k1 k2 (by simp; omega) (by simp) hn
      refine ⟨_,.inr (.inr ⟨he,h1,r,p1,rfl⟩),?_⟩
      have hsb := segC_bd hV l
      have hml := mu_bd hm (lastP l)
      have hm0 := mu_bd hm 0
      have hrb := p1.bd (cs_bd' hV hm)
      have hlen : (((0 : Int) :: rstI l P.Pq.length).length : Int) ≤ 21 := by simp; omega
      rw [if_neg (by simp; omega),lastP_at h0 (by omega),oB]
      dsimp only [letM]
      rw [m49_val hV hI h0 (by omega) hn,oB,mu_at hm hlast,oB,mu_at hm hz,oB,wrap64 (x := segC (D P) l - mu m (lastP l)) (by omega) (by omega),wrap64 (by omega) (by omega),jn]
      refine loop_run (n := n) (fun i => (segC (D P) l - mu m (lastP l) - mu m 0 - 2 * sumM m (rstI l i),(i : Int),lastP l :: 0 :: rstI l i)) P.Pq.length _ (by simp [rstI,irange,sumM]) (fun i hi nx => ?_) (fun nx => ?_) (by omega)
      · have hb := sumM_bd hm (rstI l i)
        have hbl : (rstI l i).length ≤ i := by
          have := List.length_filter_le (fun x => !l.contains x) (irange i)
          rwa [irange_length] at this
        have hmi := mu_bd hm (i : Int)
        rw [m24_L1,if_pos (by simp; omega)]
        dsimp only [jn,letM]
        rw [m55_val (by omega) hn,oB,wInc (by omega),rstI_succ]
        by_cases hc : (!l.contains (i : Int)) = true
        · rw [if_pos hc,if_pos hc,apd_val (by simp; omega),oB,mu_at hm ⟨by omega,by omega⟩,oB,wrap64 (x := 2 * mu m (i : Int)) (by omega) (by omega),wrap64 (by omega) (by omega),sumM_snoc]
          congr 2; omega
        · rw [if_neg hc,if_neg hc,List.append_nil]
      · have hb := sumM_bd hm (rstI l P.Pq.length)
        rw [m24_L1,if_neg (by simp)]
        dsimp only [letM]
        rw [mk_val (k := P.Pq.length) rfl rfl (by omega),oB,p3,oB]
        unfold asrt
        rw [if_pos (by rw [p2]; simp),wrap64 (by omega) (by omega)]
        congr 1; omega
theorem m98_val {n : Nat} {P : R24} {l m : List Int} {L : Int} (hv : vP P = true) (hp : Path P l) (hm : OKm P m) (h20 : P.Pq.length ≤ 20) (hn : 2000 < n) : ∃ v,BD P l m v ∧ m98 n ⟨P,l,L⟩ m = some v := by
  have hg := good_of hv
  have hV := hg.vec
  have hone := hg.one
  have h0 := hp.pos
  have hsh := hp.short hg
  have hI := hp.inP hg
  have hz : inN P 0 := ⟨by omega,by omega⟩
  unfold m98
  dsimp only
  rw [eta24]
  by_cases he : l.length = P.Pq.length
  · refine ⟨_,.inl ⟨he,rfl⟩,?_⟩
    rw [if_pos (decide_eq_true (by omega)),m59_val hV hI h0 (by omega) hn,oB]
  · rw [if_neg (by simp; omega)]
    by_cases h1 : l.length = 1
    · obtain ⟨v,q1,q3⟩ := m103_ok (n := n) hv hm hn
      refine ⟨v,.inr (.inl ⟨he,h1,q1⟩),?_⟩
      rw [if_pos (decide_eq_true (by omega)),q3,oB]
    · obtain ⟨k1,k2,k3⟩ := pts_ok hg hp h1
      have hlast := hI _ (lastP_mem h0)
      obtain ⟨r,p1,p3⟩ := m104_val (n := n) hV hm k1 k2 (by simp; omega) hn
      refine ⟨_,.inr (.inr ⟨he,h1,r,p1,rfl⟩),?_⟩
      have hsb := segC_bd hV l
      have hml := mu_bd hm (lastP l)
      have hm0 := mu_bd hm 0
      have hrb := p1.bd (cs_bd' hV hm)
      have hlen : (((0 : Int) :: rstI l P.Pq.length).length : Int) ≤ 21 := by simp; omega
      rw [if_neg (by simp; omega),lastP_at h0 (by omega),oB]
      dsimp only [letM]
      rw [mu_at hm hlast,oB,mu_at hm hz,oB,wrap64 (by omega) (by omega),jn]
      refine loop_run (n := n) (fun i => (mu m (lastP l) + mu m 0 + 2 * sumM m (rstI l i),(i : Int),lastP l :: 0 :: rstI l i)) P.Pq.length _ (by simp [rstI,irange,sumM]) (fun i hi nx => ?_) (fun nx => ?_) (by omega)
      · have hb := sumM_bd hm (rstI l i)
        have hbl : (rstI l i).length ≤ i := by
          have := List.length_filter_le (fun x => !l.contains x) (irange i)
          rwa [irange_length] at this
        have hmi := mu_bd hm (i : Int)
        rw [m98_L1,if_pos (by simp; omega)]
        dsimp only [jn,letM]
        rw [m57_val (by omega) (by omega),oB,wInc (by omega),rstI_succ]
        by_cases hc : (!l.contains (i : Int)) = true
        · rw [if_pos hc,if_pos hc,apd_val (by simp; omega),oB,mu_at hm ⟨by omega,by omega⟩,oB,wrap64 (x := 2 * mu m (i : Int)) (by omega) (by omega),wrap64 (by omega) (by omega),sumM_snoc]
          congr 2; omega
        · rw [if_neg hc,if_neg hc,List.append_nil]
      · have hb := sumM_bd hm (rstI l P.Pq.length)
        rw [m98_L1,if_neg (by simp)]
        dsimp only [letM]
        rw [m82_val hV hI h0 (by omega) hn,oB,p3,oB,wrap64 (x := segC (D P) l + r) (by omega) (by omega),wrap64 (by omega) (by omega)]
        congr 1; omega
theorem m64_28 {n : Nat} {P : R24} {l m : List Int} {L : Int} (hl : l.length ≤ 1000) (hm : m.length ≤ 1000) (h20 : P.Pq.length ≤ 20) (hn : 2000 < n) : ∃ b,m64 n ⟨P,l,L⟩ m = some b ∧ m87 n ⟨P,l,L⟩ m = some b := by
  unfold m64 m87
  dsimp only
  rw [eta24,m53_val hl hn,m60_val hl hn,oB,oB]
  cases hp : posB P l L with
  | false => exact ⟨false,rfl,rfl⟩
  | true =>
    obtain ⟨hv,hpa,_⟩ := posB_iff.1 hp
    rw [gdO_true,gdO_true,m34_val hm hn,m97_val hm hn,oB,oB]
    cases hk : okM P m with
    | false => exact ⟨false,rfl,rfl⟩
    | true =>
      have hm' := okM_iff.1 hk
      obtain ⟨v,q1,q2⟩ := m24_val (n := n) (L := L) (good_of hv) hpa hm' h20 hn
      obtain ⟨w,q3,q4⟩ := m98_val (n := n) (L := L) hv hpa hm' h20 hn
      obtain rfl := q1.uniq q3
      rw [show (true && true) = true from rfl,gdO_true,gdO_true,q2,q4]
      exact ⟨_,rfl,rfl⟩
end Go.AB

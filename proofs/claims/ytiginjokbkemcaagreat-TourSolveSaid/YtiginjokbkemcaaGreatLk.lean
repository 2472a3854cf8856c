import Derived.Test.YtiginjokbkemcaaGreatLj
import Derived.Test.YtiginjokbkemcaaGreatLs
set_option linter.unusedVariables false
namespace Go.AB
open Go
def ltC (P : R24) (m : List Int) (x p : Int) : Bool := decide (cs P m 0 x < cs P m 0 p)
theorem m71_val {n : Nat} {P : R24} {m : List Int} {i j : Int} (hV : VecP P) (h : OKm P m) (h0 : inN P 0) (hi : inN P i) (hj : inN P j) : m71 n i j P.Pq P.Bq m = some (cs P m 0 i - cs P m 0 j) := by
  have h1 := cs_bd hV h 0 i
  have h2 := cs_bd hV h 0 j
  unfold m71
  rw [eta24,m72_val hV h h0 hi,oB,m72_val hV h h0 hj,oB,letM_eq,wrap64 (by omega) (by omega)]
theorem tC {P : R24} {m : List Int} {x p : Int} (h : ltC P m x p = true) : (decide (cs P m 0 x - cs P m 0 p < 0)) = true := by
  unfold ltC at h
  have := of_decide_eq_true h
  exact decide_eq_true (by omega)
theorem tC' {P : R24} {m : List Int} {x p : Int} (h : (decide (cs P m 0 x - cs P m 0 p < 0)) = true) : ltC P m x p = true := by
  have := of_decide_eq_true h
  exact decide_eq_true (by omega)
theorem m99_L4_val {N : Nat} {P : R24} {m : List Int} {x : Int} (hV : VecP P) (hm : OKm P m) (h0 : inN P 0) (hx : inN P x) (k : List Int → Option (List Int)) : ∀ (ps qs : List Int) (n : Nat),(∀ p,p ∈ ps → inN P p) → ps.length ≤ 1000 → ps.length < n →
    loopM (m99_L4 N 0 P.Pq P.Bq m k) n ((ps.length : Int),ps.reverse ++ x :: qs) = k ((insR (ltC P m) x ps).reverse ++ qs)
  | [],qs,n + 1,_,_,_ => by
    rw [loopM_succ,m99_L4]
    simp [gdO,insR]
  | p :: ps,qs,n + 1,ho,hl,hn => by
    have hp := ho p (by simp)
    have hc : decide ((0 : Int) < (((p :: ps).length : Nat) : Int)) = true := by simp
    simp only [List.length_cons] at hl hn
    have e1 : (p :: ps).reverse ++ x :: qs = ps.reverse ++ p :: x :: qs := by simp
    have e2 : ps.reverse ++ p :: x :: qs = (ps.reverse ++ [p]) ++ x :: qs := by simp
    have e3 : (((p :: ps).length : Nat) : Int) = (((ps.reverse ++ [p]).length : Nat) : Int) := by simp
    have e4 : IntKind.wrap .i64 ((((p :: ps).length : Nat) : Int) - 1) = ((ps.reverse.length : Nat) : Int) := by
      rw [wrap64 (by simp only [List.length_cons]; omega) (by simp only [List.length_cons]; omega)]; simp only [List.length_cons,List.length_reverse]; omega
    rw [loopM_succ,m99_L4]
    simp only [hc,gdO_true,Bool.true_and]
    rw [e1,e2,get_mid e3]
    simp only [oB]
    rw [← e2,e4,get_mid rfl]
    simp only [oB]
    rw [m71_val hV hm h0 hx hp]
    simp only [oB]
    by_cases h : (ltC P m) x p = true
    · rw [if_pos (tC h),e2,put_mid e3]
      simp only [oB]
      rw [show ps.reverse ++ [p] ++ p :: qs = ps.reverse ++ p :: p :: qs by simp,get_mid rfl]
      simp only [oB]
      rw [put_mid rfl]
      simp only [oB,letM_eq]
      have ih := m99_L4_val (N := N) hV hm h0 hx k ps (p :: qs) n (fun q hq => ho q (List.mem_cons_of_mem _ hq)) (by omega) (by omega)
      rw [List.length_reverse]
      refine Eq.trans ih ?_
      rw [insR,if_pos h]
      simp
    · rw [if_neg (fun hh => h (tC' hh)),insR,if_neg h]
      simp
theorem m99_L3_val {N : Nat} {P : R24} {m : List Int} (hV : VecP P) (hm : OKm P m) (h0 : inN P 0) (k : List Int → Option (List Int)) (e : Nat) : ∀ (xs acc qs : List Int) (n : Nat),(∀ p,p ∈ acc → inN P p) → (∀ p,p ∈ xs → inN P p) → acc.length + xs.length = e → e ≤ 1000 → xs.length < n → 1000 < N →
    loopM (m99_L3 N 0 (e : Int) P.Pq P.Bq m k) n ((acc.length : Int),acc.reverse ++ xs ++ qs) = k (isr (ltC P m) acc xs ++ qs)
  | [],acc,qs,n + 1,ha,hx,hl,h2,hn,hN => by
    simp only [List.length_nil,Nat.add_zero] at hl
    rw [loopM_succ,m99_L3,if_neg (by simp; omega)]
    simp [isr]
  | x :: xs,acc,qs,n + 1,ha,hx,hl,h2,hn,hN => by
    simp only [List.length_cons] at hl hn
    have hxx := hx x (by simp)
    rw [loopM_succ,m99_L3,if_pos (by simp; omega),show acc.reverse ++ x :: xs ++ qs = acc.reverse ++ x :: (xs ++ qs) by simp,jn]
    refine (m99_L4_val hV hm h0 hxx _ acc (xs ++ qs) N ha (by omega) (by omega)).trans ?_
    simp only [letM_eq]
    rw [wrap64 (by omega) (by omega)]
    have ih := m99_L3_val (N := N) hV hm h0 k e xs (insR (ltC P m) x acc) qs n (fun p hp => ?_) (fun p hp => hx p (List.mem_cons_of_mem _ hp)) (by rw [insR_len]; omega) h2 (by omega) hN
    · rw [insR_len] at ih
      refine Eq.trans ?_ ih
      simp
    · rcases List.mem_cons.1 ((insR_perm (ltC P m) x acc).mem_iff.1 hp) with rfl | hp
      · exact hxx
      · exact ha p hp
theorem m99_val {N : Nat} {P : R24} {m : List Int} (hV : VecP P) (hm : OKm P m) (h0 : inN P 0) {o : List Int} (ho : ∀ p,p ∈ o → inN P p) (h : o.length ≤ 1000) (hN : 1001 < N) : m99 N o 0 (o.length : Int) P.Pq P.Bq m = some (isr (ltC P m) [] o) := by
  cases o with
  | nil =>
    unfold m99 jn
    simp only [letM_eq]
    rw [wrap64 (by omega) (by omega)]
    obtain ⟨N,rfl⟩ : ∃ M,N = M + 1 := ⟨N - 1,by omega⟩
    rw [loopM_succ,m99_L3]
    simp [isr]
  | cons x xs =>
    have := m99_L3_val (N := N) hV hm h0 some (x :: xs).length xs [x] [] N (fun p hp => ho p (by simp at hp; simp [hp])) (fun p hp => ho p (List.mem_cons_of_mem _ hp)) (by simp; omega) h (by simp at h; omega) (by omega)
    unfold m99 jn
    simp only [letM_eq]
    rw [wrap64 (by omega) (by omega)]
    simp only [List.reverse_cons,List.reverse_nil,List.nil_append,List.append_nil,List.singleton_append] at this
    exact this
theorem m70_val {N : Nat} {P : R24} {m : List Int} (hV : VecP P) (hm : OKm P m) (h0 : inN P 0) {o : List Int} (ho : ∀ p,p ∈ o → inN P p) (h : o.length < 20) (hN : 1001 < N) : m70 N o P.Pq P.Bq m = some (isr (ltC P m) [] o) := by
  have hl : (isr (ltC P m) [] o).length = o.length := by rw [isr_len]; simp
  have h2 := m99_val (N := N) hV hm h0 ho (by omega) hN
  obtain ⟨n,hn⟩ : ∃ M,N = M + 2 := ⟨N - 2,by omega⟩
  have tail : ∀ k,loopM (m92_L3 N (o.length : Int) k) N (20 : Int) = k () := fun k => by
    conv => lhs; arg 2; rw [hn]
    rw [loopM_succ,m92_L3,if_neg (by simp; omega)]
  have key : ∀ k,loopM (m92_L1 N (o.length : Int) P.Pq P.Bq m k) N ((0 : Int),(20 : Int),o) = k (0,o) := by
    intro k
    conv => lhs; arg 2; rw [hn]
    rw [loopM_succ,m92_L1,if_neg (by simp; omega)]
  unfold m70
  have e : m92 N o (o.length : Int) P.Pq P.Bq m = some (isr (ltC P m) [] o) := by
    rw [m92,jn]
    refine (key _).trans ?_
    simp only
    rw [h2]
    simp only [oB]
    unfold asrt
    rw [if_pos hl.symm,jn]
    exact tail _
  rw [e,oB]
  unfold asrt
  rw [if_pos hl.symm]
structure TwoL (c : Int → Int) (l : List Int) (s : Int) : Prop where
  ex : ∃ a b,a ∈ l ∧ b ∈ l ∧ a ≠ b ∧ s = c a + c b
  le : ∀ a b,a ∈ l → b ∈ l → a ≠ b → s ≤ c a + c b
theorem TwoL.uniq {c : Int → Int} {l : List Int} {s s' : Int} (h : TwoL c l s) (h' : TwoL c l s') : s = s' := by
  obtain ⟨a,b,ha,hb,hn,e⟩ := h.ex
  obtain ⟨a',b',ha',hb',hn',e'⟩ := h'.ex
  have h1 := h.le a' b' ha' hb' hn'
  have h2 := h'.le a b ha hb hn
  omega
structure TwoO (c : Int → Int) (l : List Int) (a b : Int) : Prop where
  ha : a ∈ l
  hb : b ∈ l
  ne : a ≠ b
  ab : c a ≤ c b
  le : ∀ x,x ∈ l → x ≠ a → c b ≤ c x
theorem TwoO.two {c : Int → Int} {l : List Int} {a b : Int} (h : TwoO c l a b) : TwoL c l (c a + c b) := by
  refine ⟨⟨a,b,h.ha,h.hb,h.ne,rfl⟩,fun x y hx hy hn => ?_⟩
  have hab := h.ab
  by_cases e : x = a
  · subst e
    have := h.le y hy (Ne.symm hn)
    omega
  · have h1 := h.le x hx e
    by_cases e' : y = a
    · subst e'; omega
    · have h2 := h.le y hy e'
      omega
theorem isr_two {P : R24} {m l t : List Int} {x y : Int} (hd : l.Nodup) (h : isr (ltC P m) [] l = x :: y :: t) : TwoO (cs P m 0) l x y := by
  have hp := isr_perm (ltC P m) l []
  rw [h,List.nil_append] at hp
  have hs := isr_sorted (lt := ltC P m) (ok := fun _ => True) (fun a b c _ _ _ h1 h2 => by
    unfold ltC at h1 h2 ⊢
    have := of_decide_eq_false h1
    have := of_decide_eq_false h2
    exact decide_eq_false (by omega)) (fun a b _ _ h1 => by
    unfold ltC at h1 ⊢
    have := of_decide_eq_true h1
    exact decide_eq_false (by omega)) l [] (fun _ _ => trivial) (fun _ _ => trivial) List.Pairwise.nil
  rw [h] at hs
  have hdp := hp.nodup_iff.2 hd
  rw [List.pairwise_cons,List.pairwise_cons] at hs
  obtain ⟨hs1,hs2,_⟩ := hs
  have hd1 := List.nodup_cons.1 hdp
  have of : ∀ u v,ltC P m v u = false → cs P m 0 u ≤ cs P m 0 v := fun u v h => by
    unfold ltC at h
    have := of_decide_eq_false h
    omega
  refine ⟨hp.mem_iff.1 (by simp),hp.mem_iff.1 (by simp),fun e => hd1.1 (by simp [e]),of _ _ (hs1 y (by simp)),fun z hz hn => ?_⟩
  have := hp.mem_iff.2 hz
  rcases List.mem_cons.1 this with h | h
  · exact absurd h hn
  · rcases List.mem_cons.1 h with h | h
    · rw [h]; exact Int.le_refl _
    · exact of _ _ (hs2 z h)
def oth (k : Nat) : List Int := (List.range k).map fun i => ((i + 1 : Nat) : Int)
theorem oth_succ (k : Nat) : oth (k + 1) = oth k ++ [((k + 1 : Nat) : Int)] := by
  unfold oth
  rw [List.range_succ,List.map_append]; rfl
theorem mem_oth {k : Nat} {x : Int} : x ∈ oth k ↔ 1 ≤ x ∧ x ≤ k := by
  unfold oth
  rw [List.mem_map]
  constructor
  · rintro ⟨i,hi,rfl⟩
    have := List.mem_range.1 hi
    omega
  · rintro ⟨h0,h1⟩
    exact ⟨x.toNat - 1,List.mem_range.2 (by omega),by omega⟩
theorem oth_len {k : Nat} : (oth k).length = k := by simp [oth]
theorem oth_nodup (k : Nat) : (oth k).Nodup := by
  unfold oth
  rw [List.nodup_iff_pairwise_ne]
  refine List.Pairwise.map _ (R := (· ≠ ·)) ?_ (List.nodup_iff_pairwise_ne.1 List.nodup_range)
  intro a b h e
  exact h (by omega)
theorem oth_cons (k : Nat) : oth (k + 1) = 1 :: (List.range k).map fun i => ((i + 2 : Nat) : Int) := by
  unfold oth
  rw [List.range_succ_eq_map,List.map_cons,List.map_map]
  rfl
theorem oth_in {P : R24} {k : Nat} (h : k < P.Pq.length) : InP P (oth k) := fun x hx => by
  have := mem_oth.1 hx
  omega
theorem sum_bd {l : List Int} {B : Int} (h : ∀ x ∈ l,-B ≤ x ∧ x ≤ B) : -B * (l.length : Int) ≤ l.sum ∧ l.sum ≤ B * (l.length : Int) := by
  induction l with
  | nil => simp
  | cons a t ih =>
    have h1 := ih fun x hx => h x (by simp [hx])
    have h2 := h a (by simp)
    rw [List.sum_cons,List.length_cons,Int.natCast_succ,Int.mul_add,Int.mul_add]
    omega
theorem sum_take {l : List Int} {i : Nat} (hi : i < l.length) : (l.take (i + 1)).sum = (l.take i).sum + l[i] := by
  rw [List.take_succ_eq_append_getElem hi,List.sum_append]; simp
theorem OKm.sumt {P : R24} {m : List Int} (h : OKm P m) (i : Nat) (hN : P.Pq.length ≤ 60) : -1200000 ≤ (m.take i).sum ∧ (m.take i).sum ≤ 1200000 := by
  have h1 := sum_bd (l := m.take i) (B := 20000) fun x hx => h.bd x (List.mem_of_mem_take hx)
  have h2 : (m.take i).length ≤ 60 := by
    have := h.len
    simp; omega
  omega
theorem OKm.sum {P : R24} {m : List Int} (h : OKm P m) (hN : P.Pq.length ≤ 60) : -1200000 ≤ m.sum ∧ m.sum ≤ 1200000 := by
  have := h.sumt m.length hN
  rwa [List.take_length] at this
def OT (P : R24) (m : List Int) (v : Int) : Prop :=
  (P.Pq.length < 3 ∧ v = 2 * D P 0 ((P.Pq.length : Int) - 1)) ∨
  ∃ r s,3 ≤ P.Pq.length ∧ PrimR (cs P m) (oth (P.Pq.length - 1)) [1] (P.Pq.length - 2) r ∧ TwoL (cs P m 0) (oth (P.Pq.length - 1)) s ∧ v = r + s - 2 * m.sum
theorem OT.uniq {P : R24} {m : List Int} {v v' : Int} (h : OT P m v) (h' : OT P m v') : v = v' := by
  rcases h with ⟨h1,e⟩ | ⟨r,s,h1,h2,h3,e⟩
  · rcases h' with ⟨h1',e'⟩ | ⟨r',s',h1',h2',h3',e'⟩
    · omega
    · omega
  · rcases h' with ⟨h1',e'⟩ | ⟨r',s',h1',h2',h3',e'⟩
    · omega
    · have := h2.uniq h2'
      have := h3.uniq h3'
      omega
theorem m35_L1_val {n : Nat} {P : R24} (hP : P.Pq.length ≤ 60) (h1 : 1 ≤ P.Pq.length) (hn : 2000 < n) {K : List Int → Option (Int × List Int)} : loopM (m35_L1 n P K) n ((1 : Int),([] : List Int)) = K (oth (P.Pq.length - 1)) := by
  refine loop_run (n := n) (fun i => (((i + 1 : Nat) : Int),oth i)) (P.Pq.length - 1) _ rfl (fun i hi nx => ?_) (fun nx => ?_) (by omega)
  · rw [m35_L1,if_pos (by simp; omega)]
    dsimp only
    rw [apd_val (by rw [oth_len]; simp; omega),oB,letM_eq,wInc (i := i + 1) (by omega),oth_succ]
  · rw [m35_L1,if_neg (by simp; omega)]
theorem m35_L2_step {n : Nat} {P : R24} {m deg l4 : List Int} {sum e : Int} {i : Nat} (hV : VecP P) (hm : OKm P m) (h0 : inN P 0) (he : inN P e) (hi : l4[i]? = some e) (hdeg : deg.length = P.Pq.length) (hi2 : i ≤ 1000) (hs : -100000000 ≤ sum ∧ sum ≤ 100000000) {K : Int × List Int → Option (Int × List Int)} :
    ∃ deg',deg'.length = P.Pq.length ∧ ∀ nx,m35_L2 n P m l4 K nx (sum,(i : Int),deg) = nx (sum + cs P m 0 e,((i + 1 : Nat) : Int),deg') := by
  obtain ⟨d1,deg1,g1,g2,g3⟩ := deg_inc hdeg h0
  obtain ⟨d2,deg2,g4,g5,g6⟩ := deg_inc g3 he
  have hc := cs_bd hV hm 0 e
  have hil : i < l4.length := by
    rcases Nat.lt_or_ge i l4.length with h | h
    · exact h
    · rw [List.getElem?_eq_none h] at hi; cases hi
  refine ⟨deg2,g6,fun nx => ?_⟩
  rw [m35_L2,if_pos (by simp; omega)]
  dsimp only [letM]
  rw [getIdx_q rfl hi,oB,eta24,m72_val hV hm h0 he,oB,g1,oB,oB,g2,oB,g4,oB,oB,g5,oB,wInc (by omega),wrap64 (by omega) (by omega)]
theorem m35_L3_val {n : Nat} {P : R24} {m : List Int} {sum : Int} (hm : OKm P m) (hP : P.Pq.length ≤ 60) (hs : -100000000 ≤ sum ∧ sum ≤ 100000000) (hn : 2000 < n) {K : Int → Option (Int × List Int)} : loopM (m35_L3 n m K) n (sum,(0 : Int)) = K (sum - 2 * m.sum) := by
  have hml := hm.len
  refine loop_run (n := n) (fun i => (sum - 2 * (m.take i).sum,(i : Int))) m.length _ (by simp) (fun i hi nx => ?_) (fun nx => ?_) (by omega)
  · have h1 := hm.sumt i hP
    have h2 := hm.bd _ (List.getElem_mem hi)
    rw [m35_L3,if_pos (by simp; omega)]
    dsimp only [letM]
    rw [getIdx_at rfl hi,oB,wInc (by omega),wrap64 (x := 2 * m[i]) (by omega) (by omega),wrap64 (by omega) (by omega),sum_take hi]
    congr 2; omega
  · rw [m35_L3,if_neg (by simp),List.take_length]
theorem m35_val {n : Nat} {P : R24} {m : List Int} (hV : VecP P) (hm : OKm P m) (h1 : 1 ≤ P.Pq.length) (hP : P.Pq.length ≤ 20) (hn : 2000 < n) : ∃ v deg,OT P m v ∧ deg.length = P.Pq.length ∧ m35 n P m = some (v,deg) := by
  have h0 : inN P 0 := ⟨by omega,by omega⟩
  unfold m35
  rw [mk_val (k := P.Pq.length) rfl rfl (by omega),oB]
  by_cases h3 : P.Pq.length < 3
  · refine ⟨_,_,.inl ⟨h3,rfl⟩,List.length_replicate (n := P.Pq.length) (a := (0 : Int)),?_⟩
    have hb := D_bd hV 0 ((P.Pq.length : Int) - 1)
    rw [if_pos (by simp; omega),eta24,wrap64 (by omega) (by omega),m48_val hV h0 ⟨by omega,by omega⟩,oB,letM_eq,wrap64 (by omega) (by omega)]
  · obtain ⟨q,hq⟩ : ∃ q,P.Pq.length = q + 3 := ⟨P.Pq.length - 3,by omega⟩
    have ho : oth (P.Pq.length - 1) = 1 :: (List.range (q + 1)).map fun i => ((i + 2 : Nat) : Int) := by
      rw [hq]; exact oth_cons (q + 1)
    have hoI : InP P (oth (P.Pq.length - 1)) := oth_in (by omega)
    have hod := oth_nodup (P.Pq.length - 1)
    have hol : (oth (P.Pq.length - 1)).length = P.Pq.length - 1 := oth_len
    have hsr := m70_val (N := n) hV hm h0 (o := oth (P.Pq.length - 1)) (fun p hp => hoI p hp) (by omega) (by omega)
    have hsl : (isr (ltC P m) [] (oth (P.Pq.length - 1))).length = P.Pq.length - 1 := by rw [isr_len,hol]; simp
    obtain ⟨x,y,t,hxy⟩ : ∃ x y t,isr (ltC P m) [] (oth (P.Pq.length - 1)) = x :: y :: t := by
      rw [hq] at hsl
      cases hl : isr (ltC P m) [] (oth (P.Pq.length - 1)) with
      | nil => rw [hq] at hl; rw [hl] at hsl; simp at hsl
      | cons x l =>
        cases l with
        | nil => rw [hq] at hl; rw [hl] at hsl; simp at hsl
        | cons y t => exact ⟨x,y,t,rfl⟩
    have h2 := isr_two hod hxy
    have hpr : ∃ r deg',PrimR (cs P m) (oth (P.Pq.length - 1)) [1] (P.Pq.length - 2) r ∧ deg'.length = P.Pq.length ∧ m56 n P (oth (P.Pq.length - 1)) m (List.replicate P.Pq.length 0) = some (r,deg') := by
      rw [ho] at hoI hod hol ⊢
      have := m56_val (n := n) (deg := List.replicate P.Pq.length 0) hV hm hoI hod (by omega) (by simp) hn
      have e : ((List.range (q + 1)).map fun i => ((i + 2 : Nat) : Int)).length = P.Pq.length - 2 := by simp [hq]
      rw [e] at this
      exact this
    obtain ⟨r,deg',p1,p2,p3⟩ := hpr
    have hrb := p1.bd (cs_bd' hV hm)
    have hrb' : -56000 * 60 ≤ r ∧ r ≤ 56000 * 60 := by
      have : ((P.Pq.length - 2 : Nat) : Int) ≤ 60 := by omega
      omega
    have hx := hoI x h2.ha
    have hy := hoI y h2.hb
    have hcx := cs_bd hV hm 0 x
    have hcy := cs_bd hV hm 0 y
    have hms := hm.sum (by omega)
    obtain ⟨deg1,d1,s1⟩ := m35_L2_step (n := n) (sum := r) (l4 := [x,y]) (i := 0) hV hm h0 hx rfl p2 (by omega) (by omega) (K := fun p_55 : Int × (List Int) => (jn (fun p_70 : Int => (some (p_70,p_55.2))) fun k_71 => (loopM (m35_L3 n m k_71) n (p_55.1,(0 : Int)))))
    obtain ⟨deg2,d2,s2⟩ := m35_L2_step (n := n) (sum := r + cs P m 0 x) (l4 := [x,y]) (i := 1) hV hm h0 hy rfl d1 (by omega) (by omega) (K := fun p_55 : Int × (List Int) => (jn (fun p_70 : Int => (some (p_70,p_55.2))) fun k_71 => (loopM (m35_L3 n m k_71) n (p_55.1,(0 : Int)))))
    refine ⟨_,deg2,.inr ⟨r,_,by omega,p1,h2.two,rfl⟩,d2,?_⟩
    rw [if_neg (by simp; omega),jn,m35_L1_val (by omega) h1 hn]
    rw [eta24,p3,oB]
    unfold asrt
    rw [if_pos (by rw [p2]; simp),hsr,oB,if_pos (by rw [hsl,hol]),slc_val (l := 0) (h := 2) (i := 0) (j := 2) rfl rfl (by omega) (by rw [hsl]; omega),oB,hxy]
    have e2 : List.take (2 - 0) (List.drop 0 (x :: y :: t)) = [x,y] := rfl
    rw [e2,jn]
    obtain ⟨n',hn'⟩ : ∃ n',n = n' + 3 := ⟨n - 3,by omega⟩
    have key : ∀ K,(∀ nx,m35_L2 n P m [x,y] K nx (r,(0 : Int),deg') = nx (r + cs P m 0 x,(1 : Int),deg1)) → (∀ nx,m35_L2 n P m [x,y] K nx (r + cs P m 0 x,(1 : Int),deg1) = nx (r + cs P m 0 x + cs P m 0 y,(2 : Int),deg2)) →
        loopM (m35_L2 n P m [x,y] K) n (r,(0 : Int),deg') = K (r + cs P m 0 x + cs P m 0 y,deg2) := fun K q1 q2 => by
      conv => lhs; arg 2; rw [hn']
      rw [loopM_succ,q1,loopM_succ,q2,loopM_succ,m35_L2,if_neg (by simp)]
    rw [key _ s1 s2]
    dsimp only [jn]
    rw [m35_L3_val hm (by omega) (by omega) hn]
    congr 2; omega
end Go.AB

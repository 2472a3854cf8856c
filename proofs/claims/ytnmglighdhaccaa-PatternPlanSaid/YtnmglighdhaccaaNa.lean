import Derived.Test.YtnmglighdhaccaaMz
set_option linter.unusedVariables false
namespace Go.AB
open Go Go.Proofs
theorem m40_L12_val {N K : Nat} (hK : K ≤ 1000) (hN : 1100 < N) {p : R23} {y3 : List R56} {j c : Nat} {x315 : Int × List Int × List R56} (hx : x315.1 = (j : Int)) (hj : j < y3.length) (hD : p.Dq.length = K) (hDb : bdA p.Dq)
    (ha : (U y3 j).Pq.length = K) (hab : bdA (U y3 j).Pq) (hc : (U y3 j).Cq = (c : Int)) (hc2 : c ≤ 1000000) {k : List Int × List R56 → Option (List R56 × Int)} : ∀ (r i n : Nat) (m : List Int) (o : List R56),i + r = c → m.length = K → bdM m → o.length + r ≤ 1000000 → r < n →
    loopM (m40_L12 N p y3 x315 k) n ((i : Int),addV m p.Dq,o) = k (addV ((List.replicate r (U y3 j).Pq).foldl tst (m,o)).1 p.Dq,((List.replicate r (U y3 j).Pq).foldl tst (m,o)).2)
  | 0,i,n + 1,m,o,h1,h2,h3,h4,hn => by
    rw [loopM_succ,m40_L12,getIdx_U hx hj,Option.bind_some,if_neg (by rw [decide_eq_true_eq]; simp only; omega)]
    rfl
  | r + 1,i,n + 1,m,o,h1,h2,h3,h4,hn => by
    have e13 := fun k => m40_L13_val (N := N) (p := p) (pd := []) (k := k) (U y3 j).Pq m p.Dq [] [] [] false N rfl (by omega) (by omega) rfl rfl (by simp; omega) hab h3 hDb (by omega)
    simp only [List.nil_append,List.length_nil,Int.natCast_zero,Bool.false_or] at e13
    rw [loopM_succ,m40_L12,getIdx_U hx hj,Option.bind_some,if_pos (by rw [decide_eq_true_eq]; simp only; omega),Option.bind_some,apd_val (by simp; omega),Option.bind_some,List.nil_append]
    unfold jn
    dsimp only
    rw [e13]
    dsimp only
    have nl : (cutM (U y3 j).Pq m).length = K := by rw [cutM_len (by omega)]; exact ha
    have e : tst (m,o) (U y3 j).Pq = (cutM (U y3 j).Pq m,if posL (cutA (U y3 j).Pq m) = true then o ++ [⟨cutA (U y3 j).Pq m,1⟩] else o) := rfl
    rw [List.replicate_succ,List.foldl_cons]
    cases hp : posL (cutA (U y3 j).Pq m) with
    | true =>
      rw [if_pos rfl,apd_val (by simp; omega),Option.bind_some,letM_eq,wrap64 (by omega) (by omega)]
      have ih := m40_L12_val hK hN hx hj hD hDb ha hab hc hc2 (k := k) r (i + 1) n (cutM (U y3 j).Pq m) (o ++ [⟨cutA (U y3 j).Pq m,1⟩]) (by omega) nl (cutM_bd hab h3) (by simp; omega) (by omega)
      rw [e,hp,if_pos rfl]
      exact ih
    | false =>
      rw [if_neg (by simp),letM_eq,wrap64 (by omega) (by omega)]
      have ih := m40_L12_val hK hN hx hj hD hDb ha hab hc hc2 (k := k) r (i + 1) n (cutM (U y3 j).Pq m) o (by omega) nl (cutM_bd hab h3) (by omega) (by omega)
      rw [e,hp,if_neg (by simp)]
      exact ih
theorem tst_fold {K : Nat} : ∀ (es : List (List Int)) (m : List Int) (o : List R56),m.length = K → bdM m → (∀ a,a ∈ es → a.length = K ∧ bdA a) → (∀ u,u ∈ o → u.Cq = 1 ∧ u.Pq.length = K) →
    (es.foldl tst (m,o)).1.length = K ∧ bdM (es.foldl tst (m,o)).1 ∧ (∀ u,u ∈ (es.foldl tst (m,o)).2 → u.Cq = 1 ∧ u.Pq.length = K) ∧ (es.foldl tst (m,o)).2.length ≤ o.length + es.length
  | [],m,o,h1,h2,_,h4 => ⟨h1,h2,h4,by simp⟩
  | a :: es,m,o,h1,h2,h3,h4 => by
    have ha := h3 a (by simp)
    have e : tst (m,o) a = (cutM a m,if posL (cutA a m) = true then o ++ [⟨cutA a m,1⟩] else o) := rfl
    have nl : (cutM a m).length = K := by rw [cutM_len (by omega)]; exact ha.1
    have hl : (cutA a m).length = K := by rw [cutA_len (by omega)]; exact ha.1
    rw [List.foldl_cons,e]
    have ho : ∀ u,u ∈ (if posL (cutA a m) = true then o ++ [⟨cutA a m,1⟩] else o) → u.Cq = 1 ∧ u.Pq.length = K := by
      intro u hu
      split at hu
      · rcases List.mem_append.1 hu with hu | hu
        · exact h4 u hu
        · rw [List.mem_singleton.1 hu]; exact ⟨rfl,hl⟩
      · exact h4 u hu
    have ih := tst_fold es (cutM a m) _ nl (cutM_bd ha.2 h2) (fun b hb => h3 b (List.mem_cons_of_mem _ hb)) ho
    refine ⟨ih.1,ih.2.1,ih.2.2.1,?_⟩
    have := ih.2.2.2
    have hlen : (if posL (cutA a m) = true then o ++ [⟨cutA a m,1⟩] else o).length ≤ o.length + 1 := by split <;> simp
    simp only [List.length_cons]
    omega
theorem barsL_snoc (l : List R56) (u : R56) : barsL (l ++ [u]) = List.replicate u.Cq.toNat u.Pq ++ barsL l := by
  simp [barsL]
theorem barsL_mem {l : List R56} {a : List Int} (h : a ∈ barsL l) : ∃ u,u ∈ l ∧ a = u.Pq := by
  unfold barsL at h
  rw [List.mem_flatMap] at h
  obtain ⟨u,h1,h2⟩ := h
  exact ⟨u,List.mem_reverse.1 h1,(List.mem_replicate.1 h2).2⟩
theorem barsU_cons (u : R56) (l : List R56) : barsU (u :: l) = u.Cq + barsU l := by
  unfold barsU
  rw [sumU]; omega
theorem barsL_len : ∀ {l : List R56},(∀ u,u ∈ l → 0 ≤ u.Cq) → ((barsL l).length : Int) = barsU l
  | [],_ => rfl
  | u :: l,h => by
    have ih := barsL_len (l := l) fun v hv => h v (List.mem_cons_of_mem _ hv)
    have hu := h u (by simp)
    have e : (barsL (u :: l)).length = (barsL l).length + u.Cq.toNat := by simp [barsL]
    rw [e,barsU_cons]; omega
theorem m40_L9_val {N K : Nat} (hK : K ≤ 1000) (hN : 1100 < N) {p : R23} {y3 : List R56} (hD : p.Dq.length = K) (hDb : bdA p.Dq) (hy : ∀ u,u ∈ y3 → u.Pq.length = K ∧ bdA u.Pq ∧ 0 ≤ u.Cq ∧ u.Cq ≤ 1000000 ∧ u.Cq < N) (hl : y3.length ≤ 1000000) {k : List R56 → Option (List R56 × Int)} : ∀ (i n : Nat) (m : List Int) (o : List R56),i ≤ y3.length → m.length = K → bdM m → (∀ u,u ∈ o → u.Cq = 1 ∧ u.Pq.length = K) → o.length + (barsL (y3.take i)).length ≤ 1000000 → i < n →
    loopM (m40_L9 N p y3 k) n ((i : Int) - 1,addV m p.Dq,o) = k ((barsL (y3.take i)).foldl tst (m,o)).2
  | 0,n + 1,m,o,_,_,_,_,_,hn => by
    rw [loopM_succ,m40_L9,if_neg (by simp)]
    rfl
  | i + 1,n + 1,m,o,h1,h2,h3,h4,h5,hn => by
    have hu := hy _ (U_mem (l := y3) (i := i) (by omega))
    have et : y3.take (i + 1) = y3.take i ++ [U y3 i] := by rw [List.take_succ_eq_append_getElem (by omega),U_at]
    rw [et,barsL_snoc] at h5 ⊢
    simp only [List.length_append,List.length_replicate] at h5
    have e12 := fun k => m40_L12_val (j := i) (c := (U y3 i).Cq.toNat) (x315 := (((i + 1 : Nat) : Int) - 1,addV m p.Dq,o)) hK hN (by simp only; omega) (by omega) hD hDb hu.1 hu.2.1 (by omega) (by omega) (k := k) (U y3 i).Cq.toNat 0 N m o (by omega) h2 h3 (by omega) (by omega)
    simp only [Int.natCast_zero] at e12
    rw [loopM_succ,m40_L9,if_pos (by simp)]
    unfold jn
    dsimp only
    rw [e12]
    dsimp only
    rw [letM_eq,wrap64 (by omega) (by omega),show ((i + 1 : Nat) : Int) - 1 - 1 = (i : Int) - 1 by omega,List.foldl_append]
    have inv := tst_fold (K := K) (List.replicate (U y3 i).Cq.toNat (U y3 i).Pq) m o h2 h3 (fun a ha => by rw [(List.mem_replicate.1 ha).2]; exact ⟨hu.1,hu.2.1⟩) h4
    generalize (List.replicate (U y3 i).Cq.toNat (U y3 i).Pq).foldl tst (m,o) = s at inv ⊢
    obtain ⟨m',o'⟩ := s
    simp only [List.length_replicate] at inv
    exact m40_L9_val hK hN hD hDb hy hl i n m' o' (by omega) inv.1 inv.2.1 inv.2.2.1 (by omega) (by omega)
def trimR (p : R23) (l : List R56) : List R56 × Int := if sndB p l = true then (if mtB p l = true then (normL (trimL p l),0) else ([],18)) else ([],1)
theorem addV_moreL : ∀ {a d : List Int},a.length = d.length → addV (List.zipWith (fun x d => x - d) a d) d = a
  | [],[],_ => rfl
  | [],_ :: _,h => by simp at h
  | _ :: _,[],h => by simp at h
  | x :: a,y :: d,h => by
    show (x - y + y) :: addV _ d = _
    rw [addV_moreL (by simpa using h)]
    congr 1; omega
structure Okp (p : R23) (l : List R56) : Prop where
  s : Snd p l
  mt : mtB p l = true
  b : barsU l ≤ 1000
theorem Snd.bdA_ {p : R23} {l : List R56} (h : Snd p l) {u : R56} (hu : u ∈ l) : bdA u.Pq := fun x hx => by
  obtain ⟨i,hi,rfl⟩ := List.getElem_of_mem hx
  have := (h.fit u hu).small h.vp i hi
  rw [← getD_at hi] at this
  omega
theorem Vp.bdD {p : R23} (h : Vp p) : bdA p.Dq := fun x hx => by
  obtain ⟨i,hi,rfl⟩ := List.getElem_of_mem hx
  have := (h.li i (by rw [← h.dl]; exact hi)).2.2.2
  rw [← getD_at hi] at this
  omega
theorem madeL_bd {p : R23} {l : List R56} (h : Snd p l) {k : Nat} (hk : k < p.Lq.length) : 0 ≤ (madeL p l).getD k 0 ∧ (madeL p l).getD k 0 ≤ 2000000000 := by
  rw [madeL_at hk]
  have := sumU_bd (g := fun a => a.getD k 0) (B := 2000 * 1000) (l := l) fun u hu => by
    have h1 := (h.fit u hu).small h.vp k (by rw [(h.fit u hu).1]; exact hk)
    have h2 := h.cnt u hu
    exact mulB h1.1 h1.2 (by omega) h2.2
  have := h.len
  omega
theorem moreL_len {p : R23} {l : List R56} (h : Vp p) : (moreL p l).length = p.Lq.length := by simp [moreL,madeL_len,h.dl]
theorem moreL_at {p : R23} {l : List R56} (h : Vp p) {k : Nat} (hk : k < p.Lq.length) : (moreL p l).getD k 0 = (madeL p l).getD k 0 - p.Dq.getD k 0 := by
  have h1 : k < (madeL p l).length := by rw [madeL_len]; exact hk
  have h2 : k < p.Dq.length := by rw [h.dl]; exact hk
  have h3 : k < (moreL p l).length := by rw [moreL_len h]; exact hk
  rw [← getD_at h3,← getD_at h1,← getD_at h2]
  simp [moreL]
theorem moreL_bd {p : R23} {l : List R56} (h : Okp p l) : bdM (moreL p l) := fun x hx => by
  obtain ⟨i,hi,rfl⟩ := List.getElem_of_mem hx
  have hk : i < p.Lq.length := by rw [← moreL_len h.s.vp (l := l)]; exact hi
  rw [getD_at hi,moreL_at h.s.vp hk]
  have h1 := madeL_bd h.s hk
  have h2 := (of_decide_eq_true h.mt) i hk
  have h3 := (h.s.vp.li i hk).2.2.2
  omega
theorem Okp.nf {p : R23} {l : List R56} (h : Okp p l) : ∀ u,u ∈ normL l → u.Pq.length = p.Lq.length ∧ bdA u.Pq ∧ 1 ≤ u.Cq ∧ u.Cq ≤ 1000 := fun u hu => by
  have h1 := normL_pat (Q := fun a => a.length = p.Lq.length ∧ bdA a) (fun v hv => ⟨(h.s.fit v hv).1,h.s.bdA_ hv⟩) u hu
  have h2 := normL_pos (fun v hv => (h.s.cnt v hv).1) u hu
  have h3 := (barsU_mem (l := normL l) fun v hv => normL_pos (fun w hw => (h.s.cnt w hw).1) v hv).2 u hu
  rw [normL_bars] at h3
  have := h.b
  exact ⟨h1.1,h1.2,h2,by omega⟩
theorem Okp.bl {p : R23} {l : List R56} (h : Okp p l) : (barsL (normL l)).length ≤ 1000 := by
  have := barsL_len (l := normL l) fun u hu => by have := h.nf u hu; omega
  rw [normL_bars] at this
  have := h.b
  omega
theorem Okp.bars {p : R23} {l : List R56} (h : Okp p l) : ∀ a,a ∈ barsL (normL l) → a.length = p.Lq.length ∧ bdA a := fun a ha => by
  obtain ⟨u,hu,rfl⟩ := barsL_mem ha
  exact ⟨(h.nf u hu).1,(h.nf u hu).2.1⟩
theorem Okp.out {p : R23} {l : List R56} (h : Okp p l) : (∀ u,u ∈ trimL p l → u.Cq = 1 ∧ u.Pq.length = p.Lq.length) ∧ (trimL p l).length ≤ 1000 := by
  have := tst_fold (K := p.Lq.length) (barsL (normL l)) (moreL p l) [] (moreL_len h.s.vp) (moreL_bd h) h.bars (by simp)
  have hb := h.bl
  refine ⟨this.2.2.1,?_⟩
  have := this.2.2.2
  simp only [List.length_nil,Nat.zero_add] at this
  unfold trimL
  omega
theorem Okp.nw {p : R23} {l : List R56} (h : Okp p l) : normW l = normL l := normW_normL (by have := h.s.len; omega) fun u hu => by have := h.s.cnt u hu; omega
theorem Okp.nt {p : R23} {l : List R56} (h : Okp p l) : normW (trimL p l) = normL (trimL p l) := normW_normL (by have := h.out.2; omega) fun u hu => by have := (h.out.1 u hu).1; omega
theorem m40_val {n : Nat} {p : R23} {l : List R56} (hl : l.length ≤ 1000) (hp : ∀ u,u ∈ l → u.Pq.length ≤ 25) (hb : sndB p l = true → barsU l ≤ 1000) (hn : 5000 < n) : m40 n p l = some (trimR p l) := by
  unfold m40 trimR
  rw [mkP,m38o_eq,m38_all hl hp (by omega),Option.bind_some]
  cases hs : sndB p l with
  | false =>
    rw [if_neg (show ¬ (false = true) by simp),if_neg (show ¬ (false = true) by simp)]; rfl
  | true =>
    rw [if_pos rfl,if_neg (by simp),m42_val hl hp (by omega),Option.bind_some,hs,Bool.true_and,if_pos rfl]
    cases hm : mtB p l with
    | false => rw [if_pos (by rfl),if_neg (by simp)]
    | true =>
      have hk : Okp p l := ⟨sndB_iff.1 hs,hm,hb hs⟩
      have h1 := hk.s.vp.l2
      have h2 := normL_len l
      rw [if_neg (by simp),if_pos rfl,m44_val (by omega) hp (fun u hu => by have := hk.s.cnt u hu; exact ⟨by omega,by omega⟩) (by omega),Option.bind_some,hk.nw,letM_eq,wrap64 (by omega) (by omega)]
      unfold jn
      have e9 := m40_L9_val (N := n) (K := p.Lq.length) (by omega) (by omega) (p := p) (y3 := normL l) hk.s.vp.dl hk.s.vp.bdD (fun u hu => by have := hk.nf u hu; exact ⟨this.1,this.2.1,by omega,by omega,by omega⟩) (by omega) (k := fun p_471 => (m44 n p_471).bind fun y_473 => some (y_473,(0 : Int))) (normL l).length n (moreL p l) [] (by omega) (moreL_len hk.s.vp) (moreL_bd hk) (by simp) (by rw [List.take_length]; have := hk.bl; simp; omega) (by omega)
      rw [show addV (moreL p l) p.Dq = madeL p l from addV_moreL (by rw [madeL_len,hk.s.vp.dl]),List.take_length] at e9
      dsimp only
      rw [e9]
      have ho := hk.out
      show ((m44 n (trimL p l)).bind fun y_473 => some (y_473,(0 : Int))) = _
      rw [m44_val (by omega) (fun u hu => by have := (ho.1 u hu).2; omega) (fun u hu => by have := (ho.1 u hu).1; exact ⟨by omega,by omega⟩) (by omega),Option.bind_some,hk.nt]
theorem m39_L1_val {N : Nat} {p : R23} {y : List Int × Int} {k : List Int → Option (List R56 × Int)} : ∀ (tm td pm pd : List Int) (n : Nat),p.Dq = pd ++ td → y.1.length = pm.length + tm.length → tm.length = td.length → pm.length = pd.length → bdM tm → bdA td → y.1.length ≤ 1000000 → tm.length < n →
    loopM (m39_L1 N p y k) n ((pm.length : Int),pm ++ tm) = k (pm ++ List.zipWith (fun x d => x - d) tm td)
  | [],[],pm,pd,n + 1,h0,h1,h2,h3,h4,h5,h6,hn => by
    rw [loopM_succ,m39_L1,if_neg (by rw [h1]; simp)]; rfl
  | [],_ :: _,pm,pd,n + 1,h0,h1,h2,h3,h4,h5,h6,hn => by simp at h2
  | _ :: _,[],pm,pd,n + 1,h0,h1,h2,h3,h4,h5,h6,hn => by simp at h2
  | x :: tm,d :: td,pm,pd,n + 1,h0,h1,h2,h3,h4,h5,h6,hn => by
    have hx := h4 x (by simp)
    have hd := h5 d (by simp)
    simp only [List.length_cons] at h1 h2 hn
    rw [loopM_succ,m39_L1,if_pos (by rw [h1]; simp; omega)]
    dsimp only
    rw [get_mid rfl,Option.bind_some,h0,get_mid (by rw [h3]),Option.bind_some,Option.bind_some,put_mid rfl,Option.bind_some,letM_eq,wrap64 (x := x - d) (by omega) (by omega),wrap64 (by omega) (by omega)]
    have ih := m39_L1_val (N := N) (p := p) (y := y) (k := k) tm td (pm ++ [x - d]) (pd ++ [d]) n (by rw [h0]; simp) (by rw [h1]; simp; omega) (by omega) (by simp; omega) (fun z hz => h4 z (List.mem_cons_of_mem _ hz)) (fun z hz => h5 z (List.mem_cons_of_mem _ hz)) h6 (by omega)
    simp only [List.append_assoc,List.singleton_append,List.length_append,List.length_singleton] at ih
    exact ih
theorem m39_val {n : Nat} {p : R23} {l : List R56} (hl : l.length ≤ 1000) (hp : ∀ u,u ∈ l → u.Pq.length ≤ 25) (hb : sndB p l = true → barsU l ≤ 1000) (hn : 5000 < n) : m39 n p l = some (trimR p l) := by
  unfold m39 trimR
  rw [mkP,m33o_eq,m33_all hl hp (by omega),Option.bind_some]
  cases hs : sndB p l with
  | false =>
    rw [if_neg (show ¬ (false = true) by simp),if_neg (show ¬ (false = true) by simp)]; rfl
  | true =>
    rw [if_pos rfl,if_neg (by simp),m41_val hl hp (by omega),Option.bind_some,hs,Bool.true_and,if_pos rfl]
    cases hm : mtB p l with
    | false => rw [if_pos (by rfl),if_neg (by simp)]
    | true =>
      have hk : Okp p l := ⟨sndB_iff.1 hs,hm,hb hs⟩
      have h1 := hk.s.vp.l2
      have h2 := normL_len l
      have ho := hk.out
      have hbl := hk.bl
      have bm : bdM (madeL p l) := fun x hx => by
        obtain ⟨i,hi,rfl⟩ := List.getElem_of_mem hx
        rw [getD_at hi]
        have := madeL_bd hk.s (k := i) (by rw [← madeL_len p l]; exact hi)
        omega
      rw [if_neg (by simp),if_pos rfl]
      unfold jn
      dsimp only
      have e1 := fun k => m39_L1_val (N := n) (p := p) (y := (madeL p l,0)) (k := k) (madeL p l) p.Dq [] [] n rfl (by simp) (by rw [madeL_len,hk.s.vp.dl]) rfl bm hk.s.vp.bdD (by rw [madeL_len]; omega) (by rw [madeL_len]; omega)
      simp only [List.nil_append,List.length_nil,Int.natCast_zero] at e1
      rw [e1]
      unfold m60
      rw [m31_val (by omega) hp (by omega),Option.bind_some,Option.bind_some,hk.nw,m69_val (by omega) (by omega) (fun u hu => by have := hk.nf u hu; omega),Option.bind_some]
      have er := m39_R_val (N := n) (K := p.Lq.length) (by omega) (by omega) (F := fun p_152 => (m31 n p_152.2).bind fun y_153 => some (y_153,(0 : Int))) (barsL (normL l)) (moreL p l) [] (moreL_len hk.s.vp) (moreL_bd hk) hk.bars (by simp; omega)
      refine er.trans ?_
      show ((m31 n (trimL p l)).bind fun y_473 => some (y_473,(0 : Int))) = _
      rw [m31_val (by omega) (fun u hu => by have := (ho.1 u hu).2; omega) (by omega),Option.bind_some,hk.nt]
end Go.AB

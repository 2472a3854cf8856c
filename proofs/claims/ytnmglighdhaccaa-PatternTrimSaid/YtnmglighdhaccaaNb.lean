import Derived.Test.YtnmglighdhaccaaNa
set_option linter.unusedVariables false
namespace Go.AB
open Go Go.Proofs
def sumB (g : List Int → Int) : List (List Int) → Int
  | [] => 0
  | a :: l => g a + sumB g l
theorem sumB_append {g : List Int → Int} : ∀ (a b : List (List Int)),sumB g (a ++ b) = sumB g a + sumB g b
  | [],b => by simp [sumB]
  | x :: a,b => by rw [List.cons_append,sumB,sumB_append a b,sumB]; omega
theorem sumB_rep {g : List Int → Int} {a : List Int} : ∀ n : Nat,sumB g (List.replicate n a) = g a * (n : Int)
  | 0 => by simp [sumB]
  | n + 1 => by rw [List.replicate_succ,sumB,sumB_rep n,Int.natCast_succ,Int.mul_add]; omega
theorem sumB_bars {g : List Int → Int} : ∀ {l : List R56},(∀ u,u ∈ l → 0 ≤ u.Count) → sumB g (barsL l) = sumU g l
  | [],_ => rfl
  | u :: l,h => by
    have hu := h u (by simp)
    have e : barsL (u :: l) = barsL l ++ List.replicate u.Count.toNat u.Pattern := by simp [barsL]
    rw [e,sumB_append,sumB_bars fun v hv => h v (List.mem_cons_of_mem _ hv),sumB_rep,sumU,show ((u.Count.toNat : Nat) : Int) = u.Count by omega]; omega
theorem cutA_at : ∀ {a m : List Int} {k : Nat},a.length = m.length → k < a.length → (cutA a m).getD k 0 = a.getD k 0 - min (a.getD k 0) (m.getD k 0)
  | [],_,k,_,h => by simp at h
  | _ :: _,[],k,h,_ => by simp at h
  | x :: a,y :: m,0,_,_ => rfl
  | x :: a,y :: m,k + 1,h,h2 => by
    have ih := cutA_at (a := a) (m := m) (k := k) (by simpa using h) (by simpa using h2)
    simpa [cutA] using ih
theorem cutM_at : ∀ {a m : List Int} {k : Nat},a.length = m.length → k < a.length → (cutM a m).getD k 0 = m.getD k 0 - min (a.getD k 0) (m.getD k 0)
  | [],_,k,_,h => by simp at h
  | _ :: _,[],k,h,_ => by simp at h
  | x :: a,y :: m,0,_,_ => rfl
  | x :: a,y :: m,k + 1,h,h2 => by
    have ih := cutM_at (a := a) (m := m) (k := k) (by simpa using h) (by simpa using h2)
    simpa [cutM] using ih
theorem bdA_at {a : List Int} (h : bdA a) {k : Nat} (hk : k < a.length) : 0 ≤ a.getD k 0 := by rw [← getD_at hk]; exact (h _ (List.getElem_mem hk)).1
theorem bdM_at {a : List Int} (h : bdM a) {k : Nat} (hk : k < a.length) : 0 ≤ a.getD k 0 := by rw [← getD_at hk]; exact (h _ (List.getElem_mem hk)).1
theorem posL_no {a : List Int} (h : posL a = false) {k : Nat} (hk : k < a.length) : a.getD k 0 ≤ 0 := by
  unfold posL at h
  rw [List.any_eq_false] at h
  have := h a[k] (List.getElem_mem hk)
  rw [getD_at hk] at this
  simpa using this
theorem tst_sum {K k : Nat} (hk : k < K) : ∀ (es : List (List Int)) (m : List Int) (o : List R56),m.length = K → bdM m → (∀ a,a ∈ es → a.length = K ∧ bdA a) →
    (es.foldl tst (m,o)).1.getD k 0 = max 0 (m.getD k 0 - sumB (fun a => a.getD k 0) es) ∧
    sumU (fun a => a.getD k 0) (es.foldl tst (m,o)).2 = sumU (fun a => a.getD k 0) o + sumB (fun a => a.getD k 0) es - (m.getD k 0 - (es.foldl tst (m,o)).1.getD k 0)
  | [],m,o,h1,h2,_ => by
    have := bdM_at h2 (k := k) (by omega)
    simp only [List.foldl_nil,sumB]
    constructor <;> omega
  | a :: es,m,o,h1,h2,h3 => by
    have ha := h3 a (by simp)
    have hm0 := bdM_at h2 (k := k) (by omega)
    have ha0 := bdA_at ha.2 (k := k) (by omega)
    have e : tst (m,o) a = (cutM a m,if posL (cutA a m) = true then o ++ [⟨cutA a m,1⟩] else o) := rfl
    have nl : (cutM a m).length = K := by rw [cutM_len (by omega)]; exact ha.1
    have hl : (cutA a m).length = K := by rw [cutA_len (by omega)]; exact ha.1
    have eA := cutA_at (a := a) (m := m) (k := k) (by omega) (by omega)
    have eM := cutM_at (a := a) (m := m) (k := k) (by omega) (by omega)
    have so : sumU (fun a => a.getD k 0) (if posL (cutA a m) = true then o ++ [⟨cutA a m,1⟩] else o) = sumU (fun a => a.getD k 0) o + (cutA a m).getD k 0 := by
      cases hp : posL (cutA a m) with
      | true => rw [if_pos rfl,sumU_append]; simp [sumU]
      | false =>
        rw [if_neg (by simp)]
        have := posL_no hp (k := k) (by omega)
        omega
    rw [List.foldl_cons,e,sumB]
    have ih := tst_sum hk es (cutM a m) (if posL (cutA a m) = true then o ++ [⟨cutA a m,1⟩] else o) nl (cutM_bd ha.2 h2) (fun b hb => h3 b (List.mem_cons_of_mem _ hb))
    obtain ⟨i1,i2⟩ := ih
    have hs : 0 ≤ sumB (fun a => a.getD k 0) es := by
      have : ∀ es : List (List Int),(∀ a,a ∈ es → a.length = K ∧ bdA a) → 0 ≤ sumB (fun a => a.getD k 0) es := by
        intro es
        induction es with
        | nil => intro _; simp [sumB]
        | cons b es ih =>
          intro h
          have hb := h b (by simp)
          have := bdA_at hb.2 (k := k) (by omega)
          have := ih fun a ha => h a (List.mem_cons_of_mem _ ha)
          rw [sumB]; omega
      exact this es fun b hb => h3 b (List.mem_cons_of_mem _ hb)
    rw [eM] at i1
    refine ⟨by rw [i1]; omega,?_⟩
    rw [i2,so,eA,eM]
    omega
theorem tst_all {K : Nat} {Q : List Int → Prop} : ∀ (es : List (List Int)) (m : List Int) (o : List R56),m.length = K → bdM m → (∀ a,a ∈ es → a.length = K ∧ bdA a) → (∀ a,a ∈ es → ∀ m,m.length = K → bdM m → posL (cutA a m) = true → Q (cutA a m)) → (∀ u,u ∈ o → Q u.Pattern) → ∀ u,u ∈ (es.foldl tst (m,o)).2 → Q u.Pattern
  | [],m,o,_,_,_,_,h => h
  | a :: es,m,o,h1,h2,h3,h4,h5 => by
    have ha := h3 a (by simp)
    have e : tst (m,o) a = (cutM a m,if posL (cutA a m) = true then o ++ [⟨cutA a m,1⟩] else o) := rfl
    rw [List.foldl_cons,e]
    refine tst_all es _ _ (by rw [cutM_len (by omega)]; exact ha.1) (cutM_bd ha.2 h2) (fun b hb => h3 b (List.mem_cons_of_mem _ hb)) (fun b hb => h4 b (List.mem_cons_of_mem _ hb)) fun u hu => ?_
    cases hp : posL (cutA a m) with
    | true =>
      rw [hp,if_pos rfl] at hu
      rcases List.mem_append.1 hu with hu | hu
      · exact h5 u hu
      · rw [List.mem_singleton.1 hu]; exact h4 a (by simp) m h1 h2 hp
    | false =>
      rw [hp,if_neg (by simp)] at hu
      exact h5 u hu
theorem cutA_fit {p : R23} (h : Vp p) {a m : List Int} (hf : Fit p a) (hm : m.length = p.Lengths.length) (hb : bdM m) : Fit p (cutA a m) := by
  have hl : (cutA a m).length = a.length := cutA_len (by rw [hf.1,hm])
  refine ⟨by rw [hl]; exact hf.1,fun i hi => ?_,?_⟩
  · rw [hl] at hi
    rw [cutA_at (by rw [hf.1,hm]) hi]
    have := hf.2.1 i hi
    omega
  · refine Int.le_trans ?_ hf.2.2
    rw [hl]
    unfold useP
    refine sumN_le fun i hi => ?_
    rw [cutA_at (by rw [hf.1,hm]) hi]
    have h0 := hf.2.1 i hi
    have h1 := bdM_at hb (k := i) (by rw [hm,← hf.1]; exact hi)
    have h2 := (h.sz (i := i) (by rw [← hf.1]; exact hi)).1
    have h3 := h.k1
    exact Int.mul_le_mul_of_nonneg_right (by omega) (by omega)
theorem barsU_ones : ∀ {l : List R56},(∀ u,u ∈ l → u.Count = 1) → barsU l = (l.length : Int)
  | [],_ => rfl
  | u :: l,h => by
    have := h u (by simp)
    rw [barsU_cons,barsU_ones fun v hv => h v (List.mem_cons_of_mem _ hv),List.length_cons]; omega
theorem Okp.fitb {p : R23} {l : List R56} (h : Okp p l) : ∀ a,a ∈ barsL (normL l) → Fit p a := fun a ha => by
  obtain ⟨u,hu,rfl⟩ := barsL_mem ha
  exact normL_pat (Q := Fit p) (fun v hv => h.s.fit v hv) u hu
theorem Okp.tfit {p : R23} {l : List R56} (h : Okp p l) : ∀ u,u ∈ trimL p l → Fit p u.Pattern :=
  tst_all (Q := Fit p) (barsL (normL l)) (moreL p l) [] (moreL_len h.s.vp) (moreL_bd h) h.bars (fun a ha m h1 h2 _ => cutA_fit h.s.vp (h.fitb a ha) h1 h2) (by simp)
theorem Okp.tpos {p : R23} {l : List R56} (h : Okp p l) : ∀ u,u ∈ trimL p l → posL u.Pattern = true :=
  tst_all (Q := fun a => posL a = true) (barsL (normL l)) (moreL p l) [] (moreL_len h.s.vp) (moreL_bd h) h.bars (fun a ha m h1 h2 hp => hp) (by simp)
theorem Okp.tb {p : R23} {l : List R56} (h : Okp p l) : barsU (normL (trimL p l)) ≤ barsU l := by
  have h1 := tst_fold (K := p.Lengths.length) (barsL (normL l)) (moreL p l) [] (moreL_len h.s.vp) (moreL_bd h) h.bars (by simp)
  have h2 := barsL_len (l := normL l) fun u hu => by have := h.nf u hu; omega
  rw [normL_bars] at h2
  rw [normL_bars,barsU_ones fun u hu => (h.out.1 u hu).1]
  have := h1.2.2.2
  simp only [List.length_nil,Nat.zero_add] at this
  unfold trimL
  omega
theorem Okp.tmade {p : R23} {l : List R56} (h : Okp p l) : madeL p (normL (trimL p l)) = p.Demand := by
  refine List.ext_getElem (by rw [madeL_len,h.s.vp.dl]) fun k h1 h2 => ?_
  have hk : k < p.Lengths.length := by rw [← h.s.vp.dl]; exact h2
  rw [getD_at h1,getD_at h2,madeL_at hk,normL_sum]
  have hs := tst_sum hk (barsL (normL l)) (moreL p l) [] (moreL_len h.s.vp) (moreL_bd h) h.bars
  have hb : sumB (fun a => a.getD k 0) (barsL (normL l)) = (madeL p l).getD k 0 := by
    rw [sumB_bars fun u hu => by have := h.nf u hu; omega,normL_sum,madeL_at hk]
  have hd := (h.s.vp.li k hk).2.2.2
  have hm := (of_decide_eq_true h.mt) k hk
  rw [hb,moreL_at h.s.vp hk] at hs
  obtain ⟨e1,e2⟩ := hs
  show sumU _ (trimL p l) = _
  unfold trimL
  rw [e2,e1]
  simp only [sumU]
  omega
theorem Okp.tsnd {p : R23} {l : List R56} (h : Okp p l) : Snd p (normL (trimL p l)) := by
  have hp : ∀ u,u ∈ normL (trimL p l) → 1 ≤ u.Count := normL_pos fun u hu => by have := (h.out.1 u hu).1; omega
  refine ⟨h.s.vp,Nat.le_trans (normL_len _) h.out.2,normL_pat (Q := Fit p) h.tfit,fun u hu => ⟨hp u hu,?_⟩⟩
  have h1 := (barsU_mem hp).2 u hu
  have h2 := h.tb
  have h3 := h.b
  omega
theorem Okp.tok {p : R23} {l : List R56} (h : Okp p l) : Okp p (normL (trimL p l)) := by
  refine ⟨h.tsnd,decide_eq_true fun i hi => by rw [h.tmade]; exact Int.le_refl _,?_⟩
  have := h.tb
  have := h.b
  omega
theorem cut0 : ∀ {a m : List Int},a.length = m.length → bdA a → (∀ x,x ∈ m → x = 0) → cutA a m = a ∧ cutM a m = m
  | [],[],_,_,_ => ⟨rfl,rfl⟩
  | [],_ :: _,h,_,_ => by simp at h
  | _ :: _,[],h,_,_ => by simp at h
  | x :: a,y :: m,h,ha,hm => by
    have hx := ha x (by simp)
    have hy := hm y (by simp)
    obtain ⟨i1,i2⟩ := cut0 (a := a) (m := m) (by simpa using h) (fun z hz => ha z (List.mem_cons_of_mem _ hz)) (fun z hz => hm z (List.mem_cons_of_mem _ hz))
    constructor
    · show (x - min x y) :: cutA a m = _
      rw [i1]; congr 1; omega
    · show (y - min x y) :: cutM a m = _
      rw [i2]; congr 1; omega
theorem tst_zero {K : Nat} : ∀ (es : List (List Int)) (m : List Int) (o : List R56),m.length = K → (∀ x,x ∈ m → x = 0) → (∀ a,a ∈ es → a.length = K ∧ bdA a ∧ posL a = true) → (es.foldl tst (m,o)).2 = o ++ es.map fun a => (⟨a,1⟩ : R56)
  | [],m,o,_,_,_ => by simp
  | a :: es,m,o,h1,h2,h3 => by
    have ha := h3 a (by simp)
    obtain ⟨c1,c2⟩ := cut0 (a := a) (m := m) (by omega) ha.2.1 h2
    have e : tst (m,o) a = (m,o ++ [⟨a,1⟩]) := by
      show (cutM a m,if posL (cutA a m) = true then o ++ [⟨cutA a m,1⟩] else o) = _
      rw [c1,c2,if_pos ha.2.2]
    rw [List.foldl_cons,e,tst_zero es m _ h1 h2 fun b hb => h3 b (List.mem_cons_of_mem _ hb)]
    simp
theorem sumU_ones {g : List Int → Int} : ∀ es : List (List Int),sumU g (es.map fun a => (⟨a,1⟩ : R56)) = sumB g es
  | [] => rfl
  | a :: es => by rw [List.map_cons,sumU,sumU_ones es,sumB]; simp only [Int.mul_one]
theorem Okp.again {p : R23} {l : List R56} (h : Okp p l) : normL (trimL p (normL (trimL p l))) = normL (trimL p l) := by
  have ht := h.tok
  have hself : normL (normL (trimL p l)) = normL (trimL p l) := normL_self (normL_sorted _) fun u hu => (ht.s.cnt u hu).1
  have hz : ∀ x,x ∈ moreL p (normL (trimL p l)) → x = 0 := fun x hx => by
    obtain ⟨i,hi,rfl⟩ := List.getElem_of_mem hx
    have hk : i < p.Lengths.length := by rw [← moreL_len h.s.vp (l := normL (trimL p l))]; exact hi
    rw [getD_at hi,moreL_at h.s.vp hk,h.tmade]; omega
  have e : trimL p (normL (trimL p l)) = (barsL (normL (trimL p l))).map fun a => (⟨a,1⟩ : R56) := by
    unfold trimL
    rw [show normL (normL ((barsL (normL l)).foldl tst (moreL p l,[])).2) = normL ((barsL (normL l)).foldl tst (moreL p l,[])).2 from hself]
    refine (tst_zero (K := p.Lengths.length) _ _ [] (moreL_len h.s.vp) hz fun a ha => ?_).trans (by simp)
    obtain ⟨u,hu,rfl⟩ := barsL_mem ha
    exact ⟨(ht.s.fit u hu).1,ht.s.bdA_ hu,normL_pat (Q := fun a => posL a = true) h.tpos u hu⟩
  refine sorted_eq (normL_sorted _) (normL_sorted _) (normL_pos fun u hu => by have := (ht.out.1 u hu).1; omega) (fun u hu => (ht.s.cnt u hu).1) fun g => ?_
  rw [normL_sum,e,sumU_ones,sumB_bars fun u hu => by have := (ht.s.cnt u hu).1; omega]
theorem useP_sum {p : R23} : ∀ (l : List R56) (K : Nat),sumN (fun k => sumU (fun a => a.getD k 0) l * szP p k) K = sumU (fun a => useP p a K) l
  | [],K => by
    have : ∀ K,sumN (fun k => sumU (fun a => a.getD k 0) [] * szP p k) K = 0 := by
      intro K
      induction K with
      | zero => rfl
      | succ K ih => rw [sumN,ih]; simp [sumU]
    rw [this]; rfl
  | u :: l,K => by
    rw [sumU,← useP_sum l K]
    unfold useP
    induction K with
    | zero => simp [sumN]
    | succ K ih =>
      rw [sumN,sumN,sumN,ih,sumU]
      grind
theorem sumU_le {g : List Int → Int} {C : Int} : ∀ {l : List R56},(∀ u,u ∈ l → g u.Pattern ≤ C ∧ 0 ≤ u.Count) → sumU g l ≤ C * barsU l
  | [],_ => by simp [sumU,barsU]
  | u :: l,h => by
    have ih := sumU_le (l := l) fun v hv => h v (List.mem_cons_of_mem _ hv)
    have hu := h u (by simp)
    have := Int.mul_le_mul_of_nonneg_right hu.1 hu.2
    rw [sumU,barsU_cons,Int.mul_add]; omega
theorem Okp.mat {p : R23} {l : List R56} (h : Okp p l) : matP p ≤ barsU (normL (trimL p l)) := by
  have ht := h.tsnd
  have hv := h.s.vp
  have hc : 0 < capP p := by have := hv.s1; have := hv.k1; unfold capP; omega
  have e : useP p p.Demand p.Demand.length = sumU (fun a => useP p a p.Lengths.length) (normL (trimL p l)) := by
    rw [← useP_sum,hv.dl]
    unfold useP
    refine sumN_congr fun k hk => ?_
    have := madeL_at (p := p) (l := normL (trimL p l)) hk
    rw [h.tmade] at this
    rw [this]
  have hle := sumU_le (g := fun a => useP p a p.Lengths.length) (C := capP p) (l := normL (trimL p l)) fun u hu => by
    have := ht.fit u hu
    refine ⟨?_,by have := ht.cnt u hu; omega⟩
    have h2 := this.2.2
    rw [this.1] at h2
    exact h2
  unfold matP
  rw [e]
  have : sumU (fun a => useP p a p.Lengths.length) (normL (trimL p l)) + capP p - 1 < (barsU (normL (trimL p l)) + 1) * capP p := by
    rw [Int.add_mul,Int.mul_comm (barsU _)]; omega
  have := Int.ediv_lt_of_lt_mul hc this
  omega
end Go.AB

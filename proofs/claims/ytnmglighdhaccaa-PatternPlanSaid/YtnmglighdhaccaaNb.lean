import Derived.Test.YtnmglighdhaccaaNa
set_option linter.unusedVariables false
namespace Go.AB
open Go Go.Proofs
theorem cutA_at : ∀ {a m : List Int} {k : Nat},a.length = m.length → k < a.length → (cutA a m).getD k 0 = a.getD k 0 - min (a.getD k 0) (m.getD k 0)
  | [],_,k,_,h => by simp at h
  | _ :: _,[],k,h,_ => by simp at h
  | x :: a,y :: m,0,_,_ => rfl
  | x :: a,y :: m,k + 1,h,h2 => by
    have ih := cutA_at (a := a) (m := m) (k := k) (by simpa using h) (by simpa using h2)
    simpa [cutA] using ih
theorem bdM_at {a : List Int} (h : bdM a) {k : Nat} (hk : k < a.length) : 0 ≤ a.getD k 0 := by rw [← getD_at hk]; exact (h _ (List.getElem_mem hk)).1
theorem tst_all {K : Nat} {Q : List Int → Prop} : ∀ (es : List (List Int)) (m : List Int) (o : List R56),m.length = K → bdM m → (∀ a,a ∈ es → a.length = K ∧ bdA a) → (∀ a,a ∈ es → ∀ m,m.length = K → bdM m → posL (cutA a m) = true → Q (cutA a m)) → (∀ u,u ∈ o → Q u.Pq) → ∀ u,u ∈ (es.foldl tst (m,o)).2 → Q u.Pq
  | [],m,o,_,_,_,_,h => h
  | a :: es,m,o,h1,h2,h3,h4,h5 => by
    have ha := h3 a (by simp)
    have e : tst (m,o) a = (cutM a m,if posL (cutA a m) = true then o ++ [⟨cutA a m,1⟩] else o) := rfl
    rw [List.foldl_cons,e]
    refine tst_all es _ _ (by rw [cutM_len (by omega)]; exact ha.1) (cutM_bd ha.2 h2) (fun b hb => h3 b (List.mem_cons_of_mem _ hb)) (fun b hb => h4 b (List.mem_cons_of_mem _ hb)) fun u hu => ?_
    cases hp : posL (cutA a m) with
    | true =>
      rw [hp,if_pos rfl] at hu
      rcases List.mem_append.1 hu with hu | hu
      · exact h5 u hu
      · rw [List.mem_singleton.1 hu]; exact h4 a (by simp) m h1 h2 hp
    | false =>
      rw [hp,if_neg (by simp)] at hu
      exact h5 u hu
theorem cutA_fit {p : R23} (h : Vp p) {a m : List Int} (hf : Fit p a) (hm : m.length = p.Lq.length) (hb : bdM m) : Fit p (cutA a m) := by
  have hl : (cutA a m).length = a.length := cutA_len (by rw [hf.1,hm])
  refine ⟨by rw [hl]; exact hf.1,fun i hi => ?_,?_⟩
  · rw [hl] at hi
    rw [cutA_at (by rw [hf.1,hm]) hi]
    have := hf.2.1 i hi
    omega
  · refine Int.le_trans ?_ hf.2.2
    rw [hl]
    unfold useP
    refine sumN_le fun i hi => ?_
    rw [cutA_at (by rw [hf.1,hm]) hi]
    have h0 := hf.2.1 i hi
    have h1 := bdM_at hb (k := i) (by rw [hm,← hf.1]; exact hi)
    have h2 := (h.sz (i := i) (by rw [← hf.1]; exact hi)).1
    have h3 := h.k1
    exact Int.mul_le_mul_of_nonneg_right (by omega) (by omega)
theorem barsU_ones : ∀ {l : List R56},(∀ u,u ∈ l → u.Cq = 1) → barsU l = (l.length : Int)
  | [],_ => rfl
  | u :: l,h => by
    have := h u (by simp)
    rw [barsU_cons,barsU_ones fun v hv => h v (List.mem_cons_of_mem _ hv),List.length_cons]; omega
theorem Okp.fitb {p : R23} {l : List R56} (h : Okp p l) : ∀ a,a ∈ barsL (normL l) → Fit p a := fun a ha => by
  obtain ⟨u,hu,rfl⟩ := barsL_mem ha
  exact normL_pat (Q := Fit p) (fun v hv => h.s.fit v hv) u hu
theorem Okp.tfit {p : R23} {l : List R56} (h : Okp p l) : ∀ u,u ∈ trimL p l → Fit p u.Pq :=
  tst_all (Q := Fit p) (barsL (normL l)) (moreL p l) [] (moreL_len h.s.vp) (moreL_bd h) h.bars (fun a ha m h1 h2 _ => cutA_fit h.s.vp (h.fitb a ha) h1 h2) (by simp)
theorem Okp.tb {p : R23} {l : List R56} (h : Okp p l) : barsU (normL (trimL p l)) ≤ barsU l := by
  have h1 := tst_fold (K := p.Lq.length) (barsL (normL l)) (moreL p l) [] (moreL_len h.s.vp) (moreL_bd h) h.bars (by simp)
  have h2 := barsL_len (l := normL l) fun u hu => by have := h.nf u hu; omega
  rw [normL_bars] at h2
  rw [normL_bars,barsU_ones fun u hu => (h.out.1 u hu).1]
  have := h1.2.2.2
  simp only [List.length_nil,Nat.zero_add] at this
  unfold trimL
  omega
theorem Okp.tsnd {p : R23} {l : List R56} (h : Okp p l) : Snd p (normL (trimL p l)) := by
  have hp : ∀ u,u ∈ normL (trimL p l) → 1 ≤ u.Cq := normL_pos fun u hu => by have := (h.out.1 u hu).1; omega
  refine ⟨h.s.vp,Nat.le_trans (normL_len _) h.out.2,normL_pat (Q := Fit p) h.tfit,fun u hu => ⟨hp u hu,?_⟩⟩
  have h1 := (barsU_mem hp).2 u hu
  have h2 := h.tb
  have h3 := h.b
  omega
end Go.AB

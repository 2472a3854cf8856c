import Derived.Test.YtiginjokbkemcaaLk
set_option linter.unusedVariables false
namespace Go.AB
open Go
def okM (P : R24) (m : List Int) : Bool := decide ((m.length : Int) = P.Points.length) && m.all fun x => !(decide (x < (-20000 : Int)) || decide ((20000 : Int) < x))
theorem okM_iff {P : R24} {m : List Int} : okM P m = true ↔ OKm P m := by
  unfold okM
  rw [Bool.and_eq_true,decide_eq_true_eq,List.all_eq_true]
  constructor
  · rintro ⟨h1,h2⟩
    refine ⟨by omega,fun x hx => ?_⟩
    have := h2 x hx
    simp only [Bool.not_eq_true',Bool.or_eq_false_iff,decide_eq_false_iff_not] at this
    omega
  · intro h
    refine ⟨by rw [h.len],fun x hx => ?_⟩
    have := h.bd x hx
    simp only [Bool.not_eq_true',Bool.or_eq_false_iff,decide_eq_false_iff_not]
    omega
theorem m101_eq {n : Nat} {xs : List Int} {k : Unit → Option Int} : m101_L1 n xs k = idxL xs (fun y => m81 n y) k := rfl
theorem m48_val {n : Nat} {P : R24} {m : List Int} (hl : m.length ≤ 1000) (hn : 2000 < n) : m48 n P m = some (okM P m) := by
  unfold m48 okM
  by_cases h : (m.length : Int) = P.Points.length
  · have h80 : m80 n m = some (m.any fun x => !(!(decide (x < (-20000 : Int)) || decide ((20000 : Int) < x)))) := by
      unfold m80 m101
      rw [jn,m101_eq]
      exact idx_any (fun y _ => by show m81 n y = _; unfold m81; rw [Bool.not_not]) (by omega) (by omega)
    rw [decide_eq_true h,gdO_true,h80,Option.bind_some,any_not,Bool.not_not]
  · rw [decide_eq_false h,gdO_false,Option.bind_some]
    rfl
theorem TwoO.first {c : Int → Int} {l : List Int} {a b x : Int} (h : TwoO c l a b) (hx : x ∉ l) (hc : c x < c a) : TwoO c (l ++ [x]) x a := by
  refine ⟨by simp,by simp [h.ha],fun e => hx (e ▸ h.ha),by omega,fun y hy hn => ?_⟩
  rcases List.mem_append.1 hy with hy | hy
  · by_cases e : y = a
    · rw [e]; exact Int.le_refl _
    · have := h.le y hy e
      have := h.ab
      omega
  · exact absurd (by simpa using hy) hn
theorem TwoO.keep {c : Int → Int} {l : List Int} {a b x : Int} (h : TwoO c l a b) (h2 : ¬ c x < c b) : TwoO c (l ++ [x]) a b := by
  refine ⟨by simp [h.ha],by simp [h.hb],h.ne,h.ab,fun y hy hn => ?_⟩
  rcases List.mem_append.1 hy with hy | hy
  · exact h.le y hy hn
  · obtain rfl : y = x := by simpa using hy
    omega
theorem m18_ok {n : Nat} {P : R24} {m : List Int} (hv : vP P = true) (hm : OKm P m) (h20 : P.Points.length ≤ 20) (hn : 2000 < n) : ∃ v,OT P m v ∧ m18 n P m = some (v,0) := by
  have hg := good_of hv
  have hml := hm.len
  obtain ⟨v,deg,h1,h2,h3⟩ := m49_val (n := n) hg.vec hm hg.one h20 hn
  refine ⟨v,h1,?_⟩
  unfold m18
  rw [eta24,m22_val hn,Option.bind_some,hv,if_neg (by simp),m48_val (by omega) hn,Option.bind_some,okM_iff.2 hm,if_neg (by simp),h3,Option.bind_some]
theorem m18_no {n : Nat} {P : R24} {m : List Int} (hl : m.length ≤ 1000) (h : vP P = true → okM P m = false) (hn : 2000 < n) : m18 n P m = some (0,if vP P = true then 2 else 1) := by
  unfold m18
  rw [eta24,m22_val hn,Option.bind_some]
  cases hv : vP P with
  | false => rfl
  | true =>
    rw [if_neg (by simp),m48_val hl hn,Option.bind_some,h hv,if_pos (by rfl),if_pos (by rfl)]
def sumM (m : List Int) (l : List Int) : Int := (l.map (mu m)).sum
theorem segC_mu {P : R24} {m : List Int} : ∀ (a : Int) (t : List Int),segC (cs P m) (a :: t) = segC (D P) (a :: t) + 2 * sumM m (a :: t) - mu m a - mu m (lastP (a :: t))
  | a,[] => by simp [segC,sumM,lastP]; omega
  | a,b :: t => by
    have ih := segC_mu (P := P) (m := m) b t
    have hl : lastP (a :: b :: t) = lastP (b :: t) := by simp [lastP]
    rw [hl]
    simp only [segC,sumM,List.map_cons,List.sum_cons,cs] at ih ⊢
    omega
theorem sum_perm {l l' : List Int} (h : l.Perm l') : l.sum = l'.sum := by
  induction h with
  | nil => rfl
  | cons x _ ih => rw [List.sum_cons,List.sum_cons,ih]
  | swap x y t => simp only [List.sum_cons]; omega
  | trans _ _ h1 h2 => rw [h1,h2]
theorem map_mu {m : List Int} : (irange m.length).map (mu m) = m := by
  unfold irange
  rw [List.map_map]
  apply List.ext_getElem (by simp)
  intro i h1 h2
  simp [mu,h2]
theorem nodup_perm {l l' : List Int} (h : l.Nodup) (h' : l'.Nodup) (hm : ∀ x,x ∈ l ↔ x ∈ l') : l.Perm l' := (List.perm_ext_iff_of_nodup h h').2 hm
theorem sumM_all {P : R24} {m o : List Int} (hm : OKm P m) (hd : o.Nodup) (ho : ∀ x,x ∈ o ↔ inN P x) : sumM m o = m.sum := by
  have hp : o.Perm (irange P.Points.length) := nodup_perm hd (irange_nodup _) fun x => by
    rw [ho,mem_irange]; rfl
  unfold sumM
  rw [sum_perm (hp.map (mu m)),← hm.len,map_mu]
theorem D_self (P : R24) (i : Int) : D P i i = 0 := by
  unfold D dst
  omega
theorem OT.le {P : R24} {m o : List Int} {v : Int} (h1 : 1 ≤ P.Points.length) (hV : VecP P) (hm : OKm P m) (h : OT P m v) (h0 : o.head? = some 0) (hd : o.Nodup) (ho : ∀ x,x ∈ o ↔ inN P x) : v ≤ tourL P o := by
  have hlen : o.length = P.Points.length := by
    have hp : o.Perm (irange P.Points.length) := nodup_perm hd (irange_nodup _) fun x => by
      rw [ho,mem_irange]; rfl
    rw [hp.length_eq,irange_length]
  obtain ⟨t,rfl⟩ : ∃ t,o = 0 :: t := by
    cases o with
    | nil => cases h0
    | cons a t =>
      obtain rfl : a = 0 := by simpa using h0
      exact ⟨t,rfl⟩
  rcases h with ⟨h3,e⟩ | ⟨r,s,h3,hp,hs,e⟩
  · rw [e]
    cases t with
    | nil =>
      have e1 : P.Points.length = 1 := by simp at hlen; omega
      simp [tourL,segC,lastP,e1,D_self]
    | cons b t =>
      have e1 : P.Points.length = 2 := by simp at hlen; omega
      have e2 : t = [] := by
        simp at hlen
        exact List.length_eq_zero_iff.1 (by omega)
      subst e2
      have hb := (ho b).1 (by simp)
      have hb0 : b ≠ 0 := fun e => by rw [e] at hd; simp at hd
      obtain rfl : b = 1 := by unfold inN at hb; omega
      simp only [tourL,segC,lastP,e1]
      have := D_comm P 1 0
      simp
      omega
  · obtain ⟨x,t,rfl⟩ : ∃ x t',t = x :: t' := by
      cases t with
      | nil => simp at hlen; omega
      | cons x t' => exact ⟨x,t',rfl⟩
    have hd1 := List.nodup_cons.1 hd
    have hot : ∀ y,y ∈ oth (P.Points.length - 1) ↔ y ∈ x :: t := fun y => by
      rw [mem_oth]
      constructor
      · intro hy
        have := (ho y).2 ⟨by omega,by omega⟩
        rcases List.mem_cons.1 this with h | h
        · omega
        · exact h
      · intro hy
        have h1 := (ho y).1 (List.mem_cons_of_mem _ hy)
        have h2 : y ≠ 0 := fun e => hd1.1 (e ▸ hy)
        unfold inN at h1
        omega
    have hpr := hp.prim (List.nodup_cons.2 ⟨by simp,List.nodup_nil⟩) (fun y hy => by
      obtain rfl : y = 1 := by simpa using hy
      exact mem_oth.2 (by omega)) (by rw [oth_len]; simp; omega)
    have hr := hpr.path (cs_comm P m) (mem_oth.2 (by omega)) hot hd1.2
    have hlast : lastP (0 :: x :: t) = lastP (x :: t) := by simp [lastP]
    have hlm : lastP (x :: t) ∈ x :: t := lastP_mem (by simp)
    have hxl : x ≠ lastP (x :: t) := fun e => by
      cases t with
      | nil => simp at hlen; omega
      | cons y t =>
        have : lastP (x :: y :: t) = lastP (y :: t) := by simp [lastP]
        rw [this] at e
        have hm' : lastP (y :: t) ∈ y :: t := lastP_mem (by simp)
        rw [← e] at hm'
        exact (List.nodup_cons.1 hd1.2).1 hm'
    have hs2 := hs.le x (lastP (x :: t)) ((hot x).2 (by simp)) ((hot _).2 hlm) hxl
    have hmu := segC_mu (P := P) (m := m) 0 (x :: t)
    have hsum := sumM_all hm hd ho
    rw [hsum,hlast] at hmu
    unfold tourL
    rw [hlast,e]
    have hdc := D_comm P 0 (lastP (x :: t))
    have hc1 : segC (cs P m) (0 :: x :: t) = cs P m 0 x + segC (cs P m) (x :: t) := rfl
    have hc2 : cs P m 0 (lastP (x :: t)) = D P 0 (lastP (x :: t)) + mu m 0 + mu m (lastP (x :: t)) := rfl
    omega
def free (P : R24) : R24 := ⟨P.Points,[]⟩
end Go.AB

import Derived.Test.YtpccmcepgllccaaGreatLa
set_option linter.unusedVariables false
namespace Go.AB
open Go
theorem nodup_le : ∀ (k : Nat) (o : List Int),o.Nodup → inR k o → o.length ≤ k
  | 0,[],_,_ => Nat.le_refl _
  | 0,x :: o,_,h => by have := h x (by simp); omega
  | k + 1,o,hn,h => by
    have := nodup_le k (o.erase (k : Int)) (hn.erase _) (fun x hx => by
      have h1 := h x (List.mem_of_mem_erase hx)
      have h2 : x ≠ (k : Int) := fun e => by
        subst e
        exact (List.Nodup.not_mem_erase hn) hx
      omega)
    have h3 : o.length - 1 ≤ (o.erase (k : Int)).length := by
      by_cases hm : (k : Int) ∈ o
      · rw [List.length_erase_of_mem hm]; exact Nat.le_refl _
      · rw [List.erase_of_not_mem hm]; omega
    omega
theorem all_le : ∀ (k : Nat) (o : List Int),(∀ i : Nat,i < k → (i : Int) ∈ o) → k ≤ o.length
  | 0,_,_ => Nat.zero_le _
  | k + 1,o,h => by
    have hm := h k (by omega)
    have := all_le k (o.erase (k : Int)) (fun i hi => (List.mem_erase_of_ne (by omega)).2 (h i (by omega)))
    rw [List.length_erase_of_mem hm] at this
    have := List.length_pos_of_mem hm
    omega
theorem free_ex {k : Nat} {o : List Int} (h : o.length < k) : ∃ i : Nat,i < k ∧ ¬ (i : Int) ∈ o := by
  apply Classical.byContradiction
  intro hc
  have := all_le k o fun i hi => Classical.byContradiction fun hm => hc ⟨i,hi,hm⟩
  omega
theorem ord_snoc {k : Nat} {o : List Int} {i : Nat} (h : ordB k o = true) (hi : i < k) (hm : ¬ (i : Int) ∈ o) : ordB k (o ++ [(i : Int)]) = true := by
  rw [ord_iff] at h ⊢
  refine ⟨?_,fun x hx => ?_⟩
  · rw [List.nodup_append]
    exact ⟨h.1,by simp,fun a ha b hb e => by rw [List.mem_singleton.1 hb] at e; subst e; exact hm ha⟩
  · rcases List.mem_append.1 hx with hx | hx
    · exact h.2 x hx
    · rw [List.mem_singleton.1 hx]; omega
def srch (l : List R63) (most : Bool) : Nat → List Int → List Int → List Int
  | 0,now,best => if best = [] ∨ val l now most < val l best most then now else best
  | d + 1,now,best => foldN (fun i b => if (i : Int) ∈ now then b else srch l most d (now ++ [(i : Int)]) b) l.length best
def comp (l : List R63) (o : List Int) : Prop := ordB l.length o = true ∧ o.length = l.length
def okB (l : List R63) (b : List Int) : Prop := ordB l.length b = true ∧ b.length ≤ l.length
theorem srch_okB {l : List R63} {most : Bool} : ∀ (d : Nat) (now best : List Int),now.length + d = l.length → ordB l.length now = true → okB l best → okB l (srch l most d now best)
  | 0,now,best,h,h1,h2 => by
    rw [srch]
    split
    · exact ⟨h1,by omega⟩
    · exact h2
  | d + 1,now,best,h,h1,h2 => by
    rw [srch]
    refine foldN_inv (I := fun _ b => okB l b) h2 (fun i b hi hI => ?_) l.length (Nat.le_refl _)
    by_cases hm : (i : Int) ∈ now
    · rw [if_pos hm]; exact hI
    · rw [if_neg hm]
      exact srch_okB d _ _ (by simp; omega) (ord_snoc h1 hi hm) hI
theorem m52_val {n : Nat} {o : List Int} (h : o.length ≤ 100000) : m52 n o = some o := by
  unfold m52
  rw [apd_val (by simp; omega)]
  rfl
theorem m60F_val {n : Nat} {l : List R63} {most : Bool} (hv : vld l = true) (hn : 1000 < n) (h0 : 0 < l.length) : ∀ (d : Nat) (now best : List Int) (f : Nat),now.length + d = l.length → ordB l.length now = true → okB l best → d < f →
    m60F n f now l most (decide (best ≠ [])) (val l best most) best = some (now,decide (srch l most d now best ≠ []),val l (srch l most d now best) most,srch l most d now best) := by
  have hl := (bd_vld hv).2
  have hb := (bd_vld hv).1
  intro d
  induction d with
  | zero =>
    intro now best f h h1 h2 hf
    obtain ⟨f,rfl⟩ : ∃ f',f = f' + 1 := ⟨f - 1,by omega⟩
    show m60B n (m60F n f) now l most _ _ best = _
    unfold m60B jn
    rw [if_pos (by simp; omega),m35_val hb (ord_iff.1 h1).2 (by omega) (by omega),oB,srch]
    dsimp only
    have hne : now ≠ [] := fun e => by subst e; simp at h; omega
    by_cases hc : best = [] ∨ val l now most < val l best most
    · rw [if_pos hc,if_pos,m52_val (by omega),oB,decide_eq_true hne]
      simp only [Bool.or_eq_true,Bool.not_eq_true',decide_eq_false_iff_not,decide_eq_true_eq]
      rcases hc with hc | hc
      · exact .inl fun h => h hc
      · exact .inr hc
    · rw [if_neg hc,if_neg]
      simp only [Bool.or_eq_true,Bool.not_eq_true',decide_eq_false_iff_not,decide_eq_true_eq]
      intro h
      rcases h with h | h
      · exact hc (.inl (Classical.byContradiction h))
      · exact hc (.inr h)
  | succ d ih =>
    intro now best f h h1 h2 hf
    obtain ⟨f,rfl⟩ : ∃ f',f = f' + 1 := ⟨f - 1,by omega⟩
    show m60B n (m60F n f) now l most _ _ best = _
    unfold m60B jn
    rw [if_neg (by simp; omega),srch]
    dsimp only
    refine (loop_fold (S := List Int) (fun i b => ((i : Int),now,decide (b ≠ []),val l b most,b)) l.length (fun i b => if (i : Int) ∈ now then b else srch l most d (now ++ [(i : Int)]) b) (fun i b => okB l b) (fun b => some (now,decide (b ≠ []),val l b most,b)) ?_ ?_ (s0 := best) h2 (by omega)).trans rfl
    · intro i b hi hI
      refine ⟨?_,fun nx => ?_⟩
      · by_cases hm : (i : Int) ∈ now
        · rw [if_pos hm]; exact hI
        · rw [if_neg hm]
          exact srch_okB d _ _ (by simp; omega) (ord_snoc h1 hi hm) hI
      · rw [m60_L1,if_pos (by simp; omega)]
        unfold jn
        dsimp only
        rw [m51_val (by omega) (by omega),oB]
        by_cases hm : (i : Int) ∈ now
        · rw [decide_eq_true hm,if_neg (by simp),if_pos hm,letM_eq,wrap64 (by omega) (by omega)]
          rfl
        · rw [decide_eq_false hm,if_pos (show (!false) = true from rfl),if_neg hm,apd_val (by simp; omega),oB,ih _ b f (by simp; omega) (ord_snoc h1 hi hm) hI (by omega),oB]
          dsimp only
          rw [slc_val (l := 0) (i := 0) (j := now.length) rfl (by rw [List.length_append,List.length_singleton,wrap64 (by omega) (by omega)]; omega) (Nat.zero_le _) (by simp),oB,letM_eq,wrap64 (by omega) (by omega)]
          rw [show ((now ++ [(i : Int)]).drop 0).take (now.length - 0) = now from by simp]
          rfl
    · intro b _ nx
      rw [m60_L1,if_neg (by simp)]
theorem m39_val {n : Nat} {l : List R63} {most : Bool} (hv : vld l = true) (hn : 1000 < n) : m39 n l most = some (srch l most l.length [] [],val l (srch l most l.length [] []) most) := by
  have hl := (bd_vld hv).2
  unfold m39 m60
  rcases Nat.eq_zero_or_pos l.length with h0 | h0
  · have : l = [] := List.eq_nil_of_length_eq_zero h0
    subst this
    obtain ⟨n,rfl⟩ : ∃ n',n = n' + 1 := ⟨n - 1,by omega⟩
    rfl
  · have := m60F_val (most := most) hv hn h0 l.length [] [] n (by simp) (by simp [ordB]) ⟨by simp [ordB],by simp⟩ (by omega)
    rw [val_nil] at this
    rw [show (false : Bool) = decide (([] : List Int) ≠ []) from by simp,this]
    rfl
theorem srch_min {l : List R63} {most : Bool} : ∀ (d : Nat) (now best : List Int),now.length + d = l.length → ordB l.length now = true → (best = [] ∨ comp l best) →
    comp l (srch l most d now best) ∧ (best ≠ [] → val l (srch l most d now best) most ≤ val l best most) ∧ ∀ o,comp l o → now <+: o → val l (srch l most d now best) most ≤ val l o most := by
  intro d
  induction d with
  | zero =>
    intro now best h h1 h2
    rw [srch]
    have e : ∀ o,comp l o → now <+: o → o = now := fun o ho hp => (hp.eq_of_length (by rw [ho.2]; omega)).symm
    by_cases hc : best = [] ∨ val l now most < val l best most
    · rw [if_pos hc]
      refine ⟨⟨h1,by omega⟩,fun hb => ?_,fun o ho hp => by rw [e o ho hp]; exact Int.le_refl _⟩
      rcases hc with hc | hc
      · exact absurd hc hb
      · omega
    · rw [if_neg hc]
      refine ⟨?_,fun _ => Int.le_refl _,fun o ho hp => ?_⟩
      · rcases h2 with h2 | h2
        · exact absurd (.inl h2) hc
        · exact h2
      · rw [e o ho hp]
        have : ¬ val l now most < val l best most := fun h => hc (.inr h)
        omega
  | succ d ih =>
    intro now best h h1 h2
    rw [srch]
    have key := foldN_inv (f := fun i b => if (i : Int) ∈ now then b else srch l most d (now ++ [(i : Int)]) b) (s0 := best) (len := l.length)
      (I := fun k b => (b = [] ∨ comp l b) ∧ (best ≠ [] → b ≠ [] ∧ val l b most ≤ val l best most) ∧ ∀ i : Nat,i < k → ¬ (i : Int) ∈ now → comp l b ∧ ∀ o,comp l o → now ++ [(i : Int)] <+: o → val l b most ≤ val l o most)
      ⟨h2,fun hb => ⟨hb,Int.le_refl _⟩,fun i hi => absurd hi (Nat.not_lt_zero _)⟩ (fun i b hi hI => ?_) l.length (Nat.le_refl _)
    · obtain ⟨q1,q2,q3⟩ := key
      obtain ⟨i,hi,hm⟩ := free_ex (k := l.length) (o := now) (by omega)
      refine ⟨(q3 i hi hm).1,fun hb => (q2 hb).2,fun o ho hp => ?_⟩
      obtain ⟨t,rfl⟩ := hp
      match t with
      | [] => have := ho.2; simp at this; omega
      | x :: t =>
        obtain ⟨hnd,hr⟩ := ord_iff.1 ho.1
        have hx := hr x (by simp)
        obtain ⟨y,rfl⟩ : ∃ y : Nat,x = (y : Int) := ⟨x.toNat,by omega⟩
        have hy : ¬ (y : Int) ∈ now := fun hm => (List.nodup_append.1 hnd).2.2 _ hm _ (List.mem_cons_self ..) rfl
        exact (q3 y (by omega) hy).2 _ ho ⟨t,by simp⟩
    · obtain ⟨q1,q2,q3⟩ := hI
      by_cases hm : (i : Int) ∈ now
      · rw [if_pos hm]
        refine ⟨q1,q2,fun j hj hmj => ?_⟩
        rcases Nat.lt_or_ge j i with h3 | h3
        · exact q3 j h3 hmj
        · have : j = i := by omega
          subst this; exact absurd hm hmj
      · rw [if_neg hm]
        obtain ⟨r1,r2,r3⟩ := ih (now ++ [(i : Int)]) b (by simp; omega) (ord_snoc h1 hi hm) q1
        have hne : srch l most d (now ++ [(i : Int)]) b ≠ [] := fun e => by have := r1.2; rw [e] at this; simp at this; omega
        refine ⟨.inr r1,fun hb => ⟨hne,Int.le_trans (r2 (q2 hb).1) (q2 hb).2⟩,fun j hj hmj => ?_⟩
        rcases Nat.lt_or_ge j i with h3 | h3
        · have := q3 j h3 hmj
          have hbn : b ≠ [] := fun e => by have := this.1.2; rw [e] at this; simp at this; omega
          exact ⟨r1,fun o ho hp => Int.le_trans (r2 hbn) (this.2 o ho hp)⟩
        · have : j = i := by omega
          subst this; exact ⟨r1,r3⟩
end Go.AB

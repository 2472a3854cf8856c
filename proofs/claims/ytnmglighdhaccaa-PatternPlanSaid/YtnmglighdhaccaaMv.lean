import Derived.Test.YtnmglighdhaccaaMu
set_option linter.unusedVariables false
namespace Go.AB
open Go Go.Proofs
theorem loopM_indQ {σ R τ : Type} {body : (τ → Option R) → (σ → Option R) → σ → Option R} (I : Nat → σ → Prop) (Q : τ → Prop)
    (step : ∀ i x,I i x → (∃ i' x',i' < i ∧ I i' x' ∧ ∀ k nx,body k nx x = nx x') ∨ (∃ t,Q t ∧ ∀ k nx,body k nx x = k t)) : ∀ (n i : Nat) (x : σ),I i x → i < n → ∃ t,Q t ∧ ∀ k,loopM (body k) n x = k t
  | 0,_,_,_,h => absurd h (Nat.not_lt_zero _)
  | n + 1,i,x,hI,h => by
    rcases step i x hI with ⟨i',x',hlt,hI',hb⟩ | ⟨t,ht,hb⟩
    · obtain ⟨t,ht,e⟩ := loopM_indQ I Q step n i' x' hI' (by omega)
      exact ⟨t,ht,fun k => by rw [loopM_succ,hb,e]⟩
    · exact ⟨t,ht,fun k => by rw [loopM_succ,hb]⟩
theorem good_lp {σ R τ : Type} {G : Option R → Prop} {body : (τ → Option R) → (σ → Option R) → σ → Option R} {F : τ → Option R} {n : Nat} {x : σ} {Q : τ → Prop}
    (h : ∃ t,Q t ∧ ∀ k,loopM (body k) n x = k t) (h2 : ∀ t,Q t → G (F t)) : G (jn F fun k => loopM (body k) n x) := by
  obtain ⟨t,ht,e⟩ := h
  show G (loopM (body F) n x)
  rw [e]; exact h2 t ht
inductive Run (s : Nat) : List R56 → Prop
  | last {l : List R56} : l.length ≤ s → Srt l → Run s l
  | cons {c l : List R56} : c.length = s → Srt c → Run s l → Run s (c ++ l)
theorem Run.two {s : Nat} {l : List R56} (h : Run s l) (hl : 2 * s ≤ l.length) (hs : 0 < s) : ∃ c1 c2 t,l = c1 ++ (c2 ++ t) ∧ c1.length = s ∧ c2.length = s ∧ Srt c1 ∧ Srt c2 ∧ Run s t := by
  cases h with
  | last h1 h2 => omega
  | cons h1 h2 h3 =>
    rename_i c l
    rw [List.length_append] at hl
    cases h3 with
    | last h4 h5 => exact ⟨c,l,[],by simp,h1,by omega,h2,h5,.last (by simp) List.Pairwise.nil⟩
    | cons h4 h5 h6 => exact ⟨c,_,_,rfl,h1,h4,h2,h5,h6⟩
theorem Run.one {s : Nat} {l : List R56} (h : Run s l) (hl : l.length ≤ s) : Srt l := by
  cases h with
  | last h1 h2 => exact h2
  | cons h1 h2 h3 =>
    rename_i c l
    rw [List.length_append] at hl
    have : l = [] := List.length_eq_zero_iff.1 (by omega)
    subst this
    rw [List.append_nil]; exact h2
theorem Run.part {s : Nat} {l : List R56} (h : Run s l) (hl : s < l.length) (hl2 : l.length < 2 * s) : ∃ c t,l = c ++ t ∧ c.length = s ∧ 0 < t.length ∧ Srt c ∧ Srt t := by
  cases h with
  | last h1 h2 => omega
  | cons h1 h2 h3 =>
    rename_i c l
    rw [List.length_append] at hl hl2
    exact ⟨c,l,rfl,h1,by omega,h2,h3.one (by omega)⟩
theorem allS_perm {a b : List R56} (h : a.Perm b) (ha : allS b) : allS a := fun u hu => ha u (h.mem_iff.1 hu)
theorem m65_L5_val {N : Nat} (hN : 30 < N) {o d : List R56} {s : Nat} {y : List R56} (hs : 0 < s) (h : Run s d) (hd : d.Perm o) (ho : allS o) (h1 : o.length ≤ 100000) (h3 : s ≤ 100000) (h2 : o.length < N) :
    ∃ t,(∃ P T,t = ((P.length : Int),P ++ T) ∧ (P ++ T).Perm o ∧ Run s T ∧ T.length < 2 * s ∧ ∀ T',Run (2 * s) T' → Run (2 * s) (P ++ T')) ∧ ∀ k,loopM (m65_L5 N (o.length : Int) ((s : Int),y) k) N ((0 : Int),((2 * s : Nat) : Int),d) = k t := by
  refine loopM_indQ (fun m x => ∃ P T,m = T.length ∧ x = ((P.length : Int),((P.length + 2 * s : Nat) : Int),P ++ T) ∧ (P ++ T).Perm o ∧ Run s T ∧ ∀ T',Run (2 * s) T' → Run (2 * s) (P ++ T')) _ ?_ N d.length _ ⟨[],d,rfl,by simp,hd,h,fun T' h => h⟩ (by have := hd.length_eq; omega)
  rintro m x ⟨P,T,rfl,rfl,q1,q2,q3⟩
  have hl := q1.length_eq
  rw [List.length_append] at hl
  by_cases hc : 2 * s ≤ T.length
  · obtain ⟨c1,c2,t,rfl,e1,e2,s1,s2,bt⟩ := q2.two hc hs
    simp only [List.length_append] at hl hc
    obtain ⟨M,em,pm,sm⟩ := m76F_val hN N P c1 c2 t (by omega) (by omega) s1 s2 (allS_perm q1 ho) (by omega) (by omega) (by omega)
    have hm := pm.length_eq
    rw [List.length_append] at hm
    refine .inl ⟨t.length,(((P ++ M).length : Int),(((P ++ M).length + 2 * s : Nat) : Int),(P ++ M) ++ t),by simp only [List.length_append]; omega,⟨P ++ M,t,rfl,rfl,?_,bt,fun T' hT => ?_⟩,fun k nx => ?_⟩
    · refine List.Perm.trans ?_ q1
      rw [List.append_assoc,← List.append_assoc c1]
      exact (pm.append_right t).append_left P
    · rw [List.append_assoc]
      exact q3 _ (.cons (by omega) sm hT)
    · rw [m65_L5,if_pos (by simp only [decide_eq_true_eq]; omega)]
      unfold m76
      dsimp only
      rw [wrap64 (x := (P.length : Int) + (s : Int)) (by omega) (by omega),show (P.length : Int) + (s : Int) = ((P.length + c1.length : Nat) : Int) by omega,show ((P.length + 2 * s : Nat) : Int) = ((P.length + c1.length + c2.length : Nat) : Int) by omega,em,Option.bind_some]
      unfold asrt
      rw [if_pos (by simp only [List.length_append]; omega),letM_eq,wrap64 (x := 2 * (s : Int)) (by omega) (by omega),wrap64 (by omega) (by omega)]
      rw [List.append_assoc,show ((P.length + c1.length + c2.length : Nat) : Int) = ((P ++ M).length : Int) by simp only [List.length_append]; omega]
      congr 1
  · refine .inr ⟨_,⟨P,T,rfl,q1,q2,by omega,q3⟩,fun k nx => ?_⟩
    rw [m65_L5,if_neg (by simp only [decide_eq_true_eq]; omega)]
theorem m65_L4_val {N : Nat} (hN : 30 < N) {o d : List R56} (h : Run 20 d) (hd : d.Perm o) (ho : allS o) (h1 : o.length ≤ 100000) (h2 : o.length < N) :
    ∃ t,(t.Perm o ∧ Srt t) ∧ ∀ k,loopM (m65_L4 N (o.length : Int) k) N ((20 : Int),d) = k t := by
  refine loopM_indQ (fun m x => ∃ (s : Nat) (d : List R56),m = o.length - s ∧ 0 < s ∧ s < 200001 ∧ x = ((s : Int),d) ∧ d.Perm o ∧ Run s d) _ ?_ N (o.length - 20) _ ⟨20,d,rfl,by omega,by omega,rfl,hd,h⟩ (by omega)
  rintro m x ⟨s,d,rfl,hs,hs2,rfl,q1,q2⟩
  have hl := q1.length_eq
  by_cases hc : s < o.length
  · obtain ⟨t,⟨P,T,rfl,w1,w2,w3,w4⟩,e⟩ := m65_L5_val (y := d) hN hs q2 q1 ho h1 (by omega) h2
    have hl2 := w1.length_eq
    rw [List.length_append] at hl2
    obtain ⟨d',ed,pd,bd⟩ : ∃ d',(∀ k : List R56 → Option (List R56),(if (decide (((P.length + s : Nat) : Int) < (o.length : Int))) = true then ((m76 N (P ++ T) (P.length : Int) ((P.length + s : Nat) : Int) (o.length : Int)).bind fun y_83 => (asrt ((P ++ T).length = y_83.length) (k y_83))) else (k (P ++ T))) = k d') ∧ d'.Perm o ∧ Run (2 * s) d' := by
      by_cases hm : s < T.length
      · obtain ⟨c,t,rfl,e1,e2,s1,s2⟩ := w2.part hm w3
        rw [List.length_append] at hl2
        obtain ⟨M,em,pm,sm⟩ := m76F_val hN N P c t [] (by omega) e2 s1 s2 (by rw [List.append_nil]; exact allS_perm w1 ho) (by simp only [List.length_nil]; omega) (by simp only [List.length_nil]; omega) (by omega)
        have hml := pm.length_eq
        rw [List.length_append] at hml
        simp only [List.append_nil] at em
        refine ⟨P ++ M,fun k => ?_,(pm.append_left P).trans w1,w4 _ (.last (by rw [List.length_append] at w3; omega) sm)⟩
        rw [if_pos (by rw [decide_eq_true_eq]; omega)]
        unfold m76
        rw [show ((P.length + s : Nat) : Int) = ((P.length + c.length : Nat) : Int) by omega,show (o.length : Int) = ((P.length + c.length + t.length : Nat) : Int) by omega,em,Option.bind_some]
        unfold asrt
        rw [if_pos (by simp only [List.length_append]; omega)]
      · exact ⟨P ++ T,fun k => by rw [if_neg (by rw [decide_eq_true_eq]; omega)],w1,w4 _ (.last (by omega) (w2.one (by omega)))⟩
    refine .inl ⟨o.length - 2 * s,(((2 * s : Nat) : Int),d'),by omega,⟨2 * s,d',rfl,by omega,by omega,rfl,pd,bd⟩,fun k nx => ?_⟩
    rw [m65_L4,if_pos (by rw [decide_eq_true_eq]; omega),letM_eq,wrap64 (x := 2 * (s : Int)) (by omega) (by omega),show 2 * (s : Int) = ((2 * s : Nat) : Int) by omega]
    unfold jn
    dsimp only
    rw [e]
    dsimp only
    rw [letM_eq,wrap64 (x := (P.length : Int) + (s : Int)) (by omega) (by omega),show (P.length : Int) + (s : Int) = ((P.length + s : Nat) : Int) by omega,wrap64 (x := (s : Int) * 2) (by omega) (by omega),letM_eq,show (s : Int) * 2 = ((2 * s : Nat) : Int) by omega]
    exact ed fun p => nx (((2 * s : Nat) : Int),p)
  · refine .inr ⟨d,⟨q1,q2.one (by omega)⟩,fun k nx => ?_⟩
    rw [m65_L4,if_neg (by rw [decide_eq_true_eq]; omega)]
theorem m65_L1_val {N : Nat} (hN : 30 < N) {o : List R56} (ho : allS o) (h1 : o.length ≤ 100000) (h2 : o.length + 1 < N) :
    ∃ t,(∃ P T,t = ((P.length : Int),P ++ T) ∧ (P ++ T).Perm o ∧ T.length < 20 ∧ ∀ T',Run 20 T' → Run 20 (P ++ T')) ∧ ∀ k,loopM (m65_L1 N (o.length : Int) k) N ((0 : Int),(20 : Int),o) = k t := by
  refine loopM_indQ (fun m x => ∃ P T,m = T.length ∧ x = ((P.length : Int),((P.length + 20 : Nat) : Int),P ++ T) ∧ (P ++ T).Perm o ∧ ∀ T',Run 20 T' → Run 20 (P ++ T')) _ ?_ N o.length _ ⟨[],o,rfl,by simp,.refl _,fun T' h => h⟩ (by omega)
  rintro m x ⟨P,T,rfl,rfl,q1,q3⟩
  have hl := q1.length_eq
  rw [List.length_append] at hl
  by_cases hc : 20 ≤ T.length
  · obtain ⟨c,t,rfl,e1,e2⟩ := splitL hc
    rw [List.length_append] at hl
    have em := m75_val (N := N) (pre := P) (o := c) (qs := t) rfl rfl (fun p hp => allS_perm q1 ho p (by simp [hp])) (by omega) (by omega) hN
    have hm := isr_len ltU c []
    simp only [List.length_nil,Nat.zero_add] at hm
    refine .inl ⟨t.length,(((P ++ isr ltU [] c).length : Int),(((P ++ isr ltU [] c).length + 20 : Nat) : Int),(P ++ isr ltU [] c) ++ t),by rw [List.length_append]; omega,⟨P ++ isr ltU [] c,t,rfl,rfl,?_,fun T' hT => ?_⟩,fun k nx => ?_⟩
    · refine List.Perm.trans ?_ q1
      rw [List.append_assoc]
      exact ((isr_pm c).append_right t).append_left P
    · rw [List.append_assoc]
      exact q3 _ (.cons (by omega) (isr_srt c) hT)
    · rw [m65_L1,if_pos (by simp only [decide_eq_true_eq]; omega)]
      dsimp only
      rw [show ((P.length + 20 : Nat) : Int) = ((P.length + c.length : Nat) : Int) by omega,em,Option.bind_some]
      unfold asrt
      rw [if_pos (by simp only [List.length_append]; omega),letM_eq,wrap64 (by omega) (by omega)]
      rw [List.append_assoc,show ((P.length + c.length : Nat) : Int) = ((P ++ isr ltU [] c).length : Int) by simp only [List.length_append]; omega]
      congr 1
  · refine .inr ⟨_,⟨P,T,rfl,q1,by omega,q3⟩,fun k nx => ?_⟩
    rw [m65_L1,if_neg (by simp only [decide_eq_true_eq]; omega)]
theorem m65_val {N : Nat} (hN : 30 < N) {o : List R56} (ho : allS o) (h1 : o.length ≤ 100000) (h2 : o.length + 1 < N) : ∃ r,m65 N o (o.length : Int) = some r ∧ r.Perm o ∧ Srt r := by
  refine (show ∀ q,(∃ r,q = some r ∧ r.Perm o ∧ Srt r) → ∃ r,q = some r ∧ r.Perm o ∧ Srt r from fun q h => h) _ ?_
  unfold m65
  refine good_lp (G := fun q => ∃ r,q = some r ∧ r.Perm o ∧ Srt r) (m65_L1_val hN ho h1 h2) ?_
  rintro t ⟨P,T,rfl,q1,q2,q3⟩
  have hl := q1.length_eq
  rw [List.length_append] at hl
  have em := m75_val (N := N) (pre := P) (o := T) (qs := []) rfl rfl (fun p hp => allS_perm q1 ho p (by simp [hp])) (by omega) (by omega) hN
  have hm := isr_len ltU T []
  simp only [List.length_nil,Nat.zero_add] at hm
  simp only [List.append_nil] at em
  dsimp only
  rw [show (o.length : Int) = ((P.length + T.length : Nat) : Int) by omega,em,Option.bind_some]
  unfold asrt
  rw [if_pos (by simp only [List.length_append]; omega),show ((P.length + T.length : Nat) : Int) = (o.length : Int) by omega]
  refine good_lp (G := fun q => ∃ r,q = some r ∧ r.Perm o ∧ Srt r) (m65_L4_val (d := P ++ isr ltU [] T) hN (q3 _ (.last (by omega) (isr_srt T))) (((isr_pm T).append_left P).trans q1) ho h1 (by omega)) ?_
  rintro t ⟨w1,w2⟩
  exact ⟨t,rfl,w1,w2⟩
theorem srt_eq : ∀ {a b : List R56},a.Perm b → Srt a → Srt b → a.Pairwise (fun u v => u.Pq ≠ v.Pq) → a = b
  | [],b,h,_,_,_ => (List.nil_perm.1 h).symm
  | x :: a,[],h,_,_,_ => by simp at h
  | x :: a,y :: b,h,s1,s2,hp => by
    have p1 := List.pairwise_cons.1 s1
    have p2 := List.pairwise_cons.1 s2
    have p3 := List.pairwise_cons.1 hp
    have e : x = y := by
      apply Classical.byContradiction
      intro hne
      have hx : x ∈ b := by
        have := h.mem_iff.1 (List.mem_cons_self (a := x) (l := a))
        rcases List.mem_cons.1 this with e | this
        · exact absurd e hne
        · exact this
      have hy : y ∈ a := by
        have := h.mem_iff.2 (List.mem_cons_self (a := y) (l := b))
        rcases List.mem_cons.1 this with e | this
        · exact absurd e.symm hne
        · exact this
      have h1 := of_decide_eq_false (p1.1 y hy)
      have h2 := of_decide_eq_false (p2.1 x hx)
      have h3 := cmpL_anti x.Pq y.Pq
      exact p3.1 y hy ((cmpL_zero _ _).1 (by omega))
    subst e
    rw [srt_eq ((List.perm_cons x).1 h) p1.2 p2.2 p3.2]
theorem m56_val {N : Nat} {o : List R56} (ho : ∀ p,p ∈ o → shortU p) (h : o.length ≤ 100000) (hN : o.length + 30 < N) (hp : o.Pairwise (fun u v => u.Pq ≠ v.Pq)) : m56 N o = some (isr ltU [] o) := by
  obtain ⟨r,e,h1,h2⟩ := m65_val (N := N) (by omega) ho h (by omega)
  have : r = isr ltU [] o := srt_eq (h1.trans (isr_pm o).symm) h2 (isr_srt o) (h1.symm.pairwise hp fun h => h.symm)
  subst this
  unfold m56
  rw [e,Option.bind_some]
  unfold asrt
  rw [if_pos h1.length_eq.symm]
end Go.AB

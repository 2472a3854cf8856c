import Derived.Test.YtpcjbgfgimboiaaLk
namespace Go.AB
open Go
theorem r1_app {n : Nat} (K : List R27 → Option Bool) : ∀ (l acc : List R27),acc.length + l.length ≤ 1000000 → rangeL (m5_R1 n) l K acc = K (acc ++ l)
  | [],acc,_ => by simp [rangeL]
  | e :: l,acc,h => by
    rw [List.length_cons] at h
    rw [rangeL,m5_R1,apd_val (by simp; omega),Option.bind_some,r1_app K l _ (by simp; omega)]
    simp
theorem r2_take {n A : Nat} (hA : A < 256) (K : List R27 → Option Bool) : ∀ (l acc : List R27),acc.length + l.length ≤ 1000000 → acc.length ≤ A → rangeL (m5_R2 n (A : Int) K) l K acc = K ((acc ++ l).take A)
  | [],acc,_,h => by
    rw [rangeL,List.append_nil,List.take_of_length_le h]
  | e :: l,acc,h,h2 => by
    rw [List.length_cons] at h
    rw [rangeL,m5_R2,wrap64 (by omega) (by omega)]
    by_cases hc : acc.length = A
    · rw [if_pos (decide_eq_true (by omega)),← hc,List.take_left]
    · rw [if_neg (by rw [decide_eq_true_eq]; omega),apd_val (by simp; omega),Option.bind_some,r2_take hA K l _ (by simp; omega) (by simp; omega)]
      simp
theorem r3_app {n : Nat} (K : Int × List R27 × List R68 → Option Bool) : ∀ (l acc : List R27) (c : Int) (t : List R68),acc.length + l.length ≤ 1000000 → 0 < acc.length → rangeL (m5_R3 n) l K (c,acc,t) = K (c,acc ++ l,t)
  | [],acc,c,t,_,_ => by simp [rangeL]
  | e :: l,acc,c,t,h,h0 => by
    rw [List.length_cons] at h
    rw [rangeL,m5_R3,jn]
    dsimp only
    rw [if_neg (by rw [decide_eq_true_eq]; omega),apd_val (by simp; omega),Option.bind_some,r3_app K l _ c t (by simp; omega) (by simp)]
    simp
theorem r3_all {n : Nat} (K : Int × List R27 × List R68 → Option Bool) {e : R27} {l : List R27} {c c' : Int} {t t' : List R68} (h : l.length ≤ 100000) (hp : m19 n t c ⟨-4611686018427387904,0⟩ = some (c',t')) : rangeL (m5_R3 n) (e :: l) K (c,[],t) = K (c',e :: l,t') := by
  rw [rangeL,m5_R3,jn]
  dsimp only
  rw [if_pos (by rfl),hp,Option.bind_some]
  dsimp only
  rw [apd_val (by simp),Option.bind_some,r3_app K l _ c' t' (by simp; omega) (by simp)]
  rfl
theorem m5_gen {n A : Nat} {l : List R27} (h10 : m10 n = some true) (hn : 200001 < n) (hA : A < 256) : m5 n l (A : Int) = some true := by
  unfold m5
  rw [h10,Option.bind_some,if_neg (by simp)]
  by_cases hl : l.length ≤ 200
  · rw [if_neg (by rw [decide_eq_true_eq]; omega)]
    obtain ⟨t,e12,ht,hh⟩ := m12_val (n := n) (l := l) (by omega) (by omega)
    obtain ⟨s,e11,hs,hss⟩ := m11_val (n := n) (l := l) (by omega) (by omega)
    have hnt : nums t := nums_perm ht.symm (nums_ent l 0).1
    have htl : t.length = l.length := by rw [ht.length_eq,ent_len]
    have hsl : s.length = l.length := by rw [hs.length_eq,ent_len]
    obtain ⟨s',e33,hs',hss'⟩ := m33_val (n := n) (c := (l.length : Int)) hh hnt (by omega) (by omega)
    have : s' = s := sorted_eq (hs'.trans (ht.trans hs.symm)) hss' hss
    subst this
    have hm : (s'.map (·.x)).length = l.length := by rw [List.length_map,hsl]
    rw [e12,Option.bind_some,e11,Option.bind_some]
    dsimp only
    rw [show m20 n t (l.length : Int) = some () from rfl,Option.bind_some,e33,Option.bind_some,r1_app _ _ _ (by simp; omega),List.nil_append,Option.bind_some]
    unfold jn
    dsimp only
    rw [Option.bind_some,r2_take hA _ _ _ (by simp; omega) (by simp),List.nil_append]
    have hw : m14 n (s'.map (·.x)) (s'.map (·.x)) = some true := m14_self (by omega) (by omega)
    have hsl2 : slc (s'.map (·.x)) 0 (if (IntKind.wrap .i64 (A : Int)) < ((s'.map (·.x)).length : Int) then (IntKind.wrap .i64 (A : Int)) else ((s'.map (·.x)).length : Int)) = some ((s'.map (·.x)).take A) := by
      rw [wrap64 (by omega) (by omega)]
      by_cases hc : (A : Int) < ((s'.map (·.x)).length : Int)
      · rw [if_pos hc,slc_val (b := s'.map (·.x)) (l := 0) (i := 0) (j := A) rfl rfl (by omega) (by omega)]
        simp
      · rw [if_neg hc,slc_val (b := s'.map (·.x)) (l := 0) (i := 0) (j := (s'.map (·.x)).length) rfl rfl (by omega) (by omega)]
        rw [show (s'.map (·.x)).take A = s'.map (·.x) from List.take_of_length_le (by omega),List.drop_zero,Nat.sub_zero,List.take_length]
    have hw2 : m14 n ((s'.map (·.x)).take A) ((s'.map (·.x)).take A) = some true := m14_self (by rw [List.length_take]; omega) (by rw [List.length_take]; omega)
    rw [hw,Option.bind_some,show (!(!true)) = true from rfl,gdO_true,hsl2,Option.bind_some,gdO_true,hw2,Option.bind_some,show (!((!true) || (!true))) = true from rfl,gdO_true,show m16 n t (l.length : Int) = some (t.length : Int) from rfl,Option.bind_some,decide_eq_true (show (t.length : Int) = (l.length : Int) by omega),if_neg (by simp),Option.bind_some]
    cases l with
    | nil =>
      have : s' = [] := List.eq_nil_of_length_eq_zero hsl
      subst this
      rfl
    | cons x l =>
      obtain ⟨t',e19,ht',hh'⟩ := m19_val (n := n) (l := t) (c := ((x :: l).length : Int)) (x := ⟨-4611686018427387904,0⟩) hh (by omega) (by omega) (by omega)
      obtain ⟨y,s1,rfl⟩ : ∃ y s1,s' = y :: s1 := by
        cases s' with
        | nil => simp at hsl
        | cons y s1 => exact ⟨y,s1,rfl⟩
      have hwl : (List.map (·.x) (y :: s1)) = y.x :: s1.map (·.x) := rfl
      have hb : ∀ e,e ∈ t → e.number < ((x :: l).length : Int) := fun e he => by
        have := ent_lt (x :: l) 0 e (ht.subset he)
        omega
      have hbs : ∀ e,e ∈ (y :: s1) → e.number < (R68.mk ⟨-4611686018427387904,0⟩ ((x :: l).length : Int)).number := fun e he => hb e (hs'.subset he)
      have hS := insE_sorted (y :: s1) (R68.mk ⟨-4611686018427387904,0⟩ ((x :: l).length : Int)) hss hbs
      have hq : t'.Perm (insE (y :: s1) (R68.mk ⟨-4611686018427387904,0⟩ ((x :: l).length : Int))) := ht'.trans ((hs'.symm.append_right _).trans (insE_perm _ _).symm)
      have hnt' : nums t' := by
        refine nums_perm ht'.symm ?_
        unfold nums
        rw [List.map_append,List.map_singleton,List.nodup_append]
        refine ⟨hnt,List.nodup_cons.2 ⟨by simp,List.nodup_nil⟩,fun a ha b hb2 e => ?_⟩
        obtain ⟨e1,he1,rfl⟩ := List.mem_map.1 ha
        have := hb e1 he1
        rw [List.mem_singleton.1 hb2] at e
        dsimp only at e
        omega
      have hm22 : m22 n ((y :: s1).map (·.x)) ⟨-4611686018427387904,0⟩ = some ((insE (y :: s1) (R68.mk ⟨-4611686018427387904,0⟩ ((x :: l).length : Int))).map (·.x)) := by
        rw [m22_val (by omega) (by omega),ins_map]
      have ht'l : t'.length = (x :: l).length + 1 := by rw [ht'.length_eq,List.length_append,htl]; rfl
      obtain ⟨z,S,eS⟩ : ∃ z S,insE (y :: s1) (R68.mk ⟨-4611686018427387904,0⟩ ((x :: l).length : Int)) = z :: S := by
        rw [insE]
        split
        · exact ⟨_,_,rfl⟩
        · exact ⟨_,_,rfl⟩
      rw [eS] at hS hq hm22
      obtain ⟨t2,e21,_,_,ht2⟩ := pop_cons (n := n) (c := ((x :: l).length : Int) + 1) hh' hnt' hq hS (by omega) (by omega)
      have ht2l : t2.length = (x :: l).length := by
        have h1 := ht2.length_eq
        have h2 := hq.length_eq
        rw [List.length_cons] at h2
        omega
      rw [hwl,Option.bind_some,r3_all (l := s1.map (·.x)) _ (by rw [List.length_map]; rw [List.length_cons] at hsl; omega) e19,← hwl]
      dsimp only
      rw [if_neg (by rw [decide_eq_true_eq,List.length_cons]; omega),e21,Option.bind_some,hw,Option.bind_some]
      dsimp only
      rw [show (true && true) = true from rfl,gdO_true,hm22,Option.bind_some,gdO_true,show getIdx ((z :: S).map (·.x)) (0 : Int) = some z.x from rfl,Option.bind_some]
      rw [show (([z.x.Key,z.x.Tag] : List Int) == [z.x.Key,z.x.Tag]) = true from beq_self_eq_true _,show (true && true) = true from rfl,gdO_true,show m16 n t2 (((x :: l).length : Int) + 1) = some (t2.length : Int) from rfl,Option.bind_some,decide_eq_true (show (t2.length : Int) = ((x :: l).length : Int) by omega)]
      rfl
  · rw [if_pos (decide_eq_true (by omega))]
theorem m5_true (l : List R27) (a : Int) (h : (Lit.int .u8 a).wf = true) : m5 300000 l a = some true := by
  have hu : 0 ≤ a ∧ a < 256 := by
    simp [Lit.wf,IntKind.min,IntKind.max,IntKind.signed,IntKind.bits] at h
    omega
  obtain ⟨A,rfl⟩ : ∃ A : Nat,a = (A : Int) := ⟨a.toNat,by omega⟩
  exact m5_gen m10_big (by decide) (by omega)
end Go.AB

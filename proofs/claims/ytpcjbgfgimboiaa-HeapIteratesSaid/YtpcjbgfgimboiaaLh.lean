import Derived.Test.YtpcjbgfgimboiaaLg
namespace Go.AB
open Go
theorem m22_val {n : Nat} {w : List R27} {x : R27} (hn : w.length < n) (hl : w.length ≤ 100000) : m22 n w x = some (insR w x) := by
  unfold m22 jn
  refine loopM_ind (fun m s => ∃ j : Nat,j ≤ w.length ∧ m = w.length - j ∧ s = (j : Int) ∧ insR w x = w.take j ++ insR (w.drop j) x) (fun o => o = some (insR w x)) ?_ n w.length _ ⟨0,Nat.zero_le _,rfl,rfl,by simp⟩ hn
  rintro m s ⟨j,hj,rfl,rfl,hq⟩
  have stop : insR (w.drop j) x = x :: w.drop j → (slc w (0 : Int) (j : Int)).bind (fun s_10 => ((apd ([] : List R27) s_10).bind fun l2_11 => ((apd l2_11 ([(R27.mk x.Key x.Tag)] : List R27)).bind fun l2_12 => ((slc w (j : Int) (w.length : Int)).bind fun s_13 => ((apd l2_12 s_13).bind fun l2_14 => (some l2_14)))))) = some (insR w x) := by
    intro hs
    rw [slc_val (l := 0) (i := 0) (j := j) rfl rfl (Nat.zero_le _) hj,Option.bind_some,apd_val (by simp; omega),Option.bind_some,apd_val (by simp; omega),Option.bind_some,slc_val (i := j) (j := w.length) rfl rfl hj (Nat.le_refl _),Option.bind_some,apd_val (by simp; omega),hq,hs]
    simp
    exact List.take_of_length_le (by simp)
  rcases Nat.lt_or_ge j w.length with h1 | h1
  · by_cases hk : w[j].Key ≤ x.Key
    · refine .inl ⟨w.length - (j + 1),((j + 1 : Nat) : Int),by omega,⟨j + 1,h1,rfl,rfl,?_⟩,fun nx => ?_⟩
      · rw [hq,List.drop_eq_getElem_cons h1,insR,if_pos hk,List.take_succ_eq_append_getElem h1,List.append_assoc]
        rfl
      · rw [m22_L1,decide_eq_true (by omega),gdO_true,getIdx_at rfl h1,Option.bind_some,if_pos (by simpa using hk),letM_eq,wrap64 (by omega) (by omega)]
        rfl
    · refine .inr ⟨_,stop (by rw [List.drop_eq_getElem_cons h1,insR,if_neg hk]),fun nx => ?_⟩
      rw [m22_L1,decide_eq_true (by omega),gdO_true,getIdx_at rfl h1,Option.bind_some,if_neg (by simpa using hk)]
  · refine .inr ⟨_,stop (by rw [List.drop_eq_nil_of_le h1]; rfl),fun nx => ?_⟩
    rw [m22_L1,decide_eq_false (by omega),gdO_false,Option.bind_some,if_neg (by simp)]
theorem ent_lt : ∀ (l : List R27) (c : Int) (e : R68),e ∈ ent l c → e.number < c + (l.length : Int)
  | [],_,_,h => by simp [ent] at h
  | x :: l,c,e,h => by
    rw [ent] at h
    rw [List.length_cons]
    rcases List.mem_cons.1 h with rfl | h
    · dsimp only; omega
    · have := ent_lt l (c + 1) e h
      omega
theorem m11_val {n : Nat} {l : List R27} (hl : l.length ≤ 90000) (hn : 100000 < n) : ∃ s : List R68,m11 n l = some (s.map (·.x)) ∧ s.Perm (ent l 0) ∧ s.Pairwise lt := by
  unfold m11 jn
  refine loopM_ind (fun m x => ∃ (j : Nat) (s : List R68),j ≤ l.length ∧ x = (s.map (·.x),(j : Int)) ∧ m = l.length - j ∧ s.Perm (ent (l.take j) 0) ∧ s.Pairwise lt) (fun o => ∃ s : List R68,o = some (s.map (·.x)) ∧ s.Perm (ent l 0) ∧ s.Pairwise lt) ?_ n l.length _
    ⟨0,[],Nat.zero_le _,rfl,rfl,List.Perm.refl _,List.Pairwise.nil⟩ (by omega)
  rintro m x ⟨j,s,hj,rfl,rfl,hq,hs⟩
  have hsl : s.length = j := by rw [hq.length_eq,ent_len,List.length_take]; omega
  rcases Nat.lt_or_ge j l.length with h1 | h1
  · refine .inl ⟨l.length - (j + 1),((insE s (R68.mk l[j] (j : Int))).map (·.x),((j + 1 : Nat) : Int)),by omega,⟨j + 1,_,h1,rfl,rfl,?_,?_⟩,fun nx => ?_⟩
    · rw [ent_take l 0 j h1,Int.zero_add]
      exact (insE_perm _ _).trans (hq.append_right _)
    · refine insE_sorted _ _ hs fun y hy => ?_
      have := ent_lt _ _ _ (hq.subset hy)
      rw [List.length_take] at this
      dsimp only
      omega
    · rw [m11_L1,if_pos (by simp; omega)]
      dsimp only
      rw [getIdx_at rfl h1,Option.bind_some,m22_val (by rw [List.length_map]; omega) (by rw [List.length_map]; omega),Option.bind_some,letM_eq,wrap64 (by omega) (by omega),ins_map]
      rfl
  · have : j = l.length := by omega
    subst this
    rw [List.take_length] at hq
    refine .inr ⟨_,⟨s,rfl,hq,hs⟩,fun nx => ?_⟩
    rw [m11_L1,if_neg (by simp)]
theorem m14_self {n : Nat} {l : List R27} (hn : l.length < n) (hl : l.length ≤ 100000) : m14 n l l = some true := by
  unfold m14 jn
  rw [if_neg (by simp)]
  refine loopM_ind (fun m x => ∃ j : Nat,j ≤ l.length ∧ m = l.length - j ∧ x = (j : Int)) (fun o => o = some true) ?_ n l.length _ ⟨0,Nat.zero_le _,rfl,rfl⟩ hn
  rintro m x ⟨j,hj,rfl,rfl⟩
  rcases Nat.lt_or_ge j l.length with h1 | h1
  · refine .inl ⟨l.length - (j + 1),((j + 1 : Nat) : Int),by omega,⟨j + 1,h1,rfl,rfl⟩,fun nx => ?_⟩
    rw [m14_L1,if_pos (by simp; omega),getIdx_at rfl h1,Option.bind_some,Option.bind_some,if_neg (by simp),letM_eq,wrap64 (by omega) (by omega)]
    rfl
  · refine .inr ⟨_,rfl,fun nx => ?_⟩
    rw [m14_L1,if_neg (by simp; omega)]
theorem m10_big : m10 300000 = some true := by kernel_rfl
end Go.AB

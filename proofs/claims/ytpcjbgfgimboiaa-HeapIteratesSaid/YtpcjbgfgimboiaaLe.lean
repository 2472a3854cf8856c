import Derived.Test.YtpcjbgfgimboiaaLd
namespace Go.AB
open Go
theorem at_cons {a b : R68} {l l' : List R68} {j : Nat} (h0 : 0 < j) (hj : j < l.length + 1) : at' (a :: (l ++ l')) j = at' (b :: l) j := by
  obtain ⟨k,rfl⟩ : ∃ k,j = k + 1 := ⟨j - 1,by omega⟩
  unfold at'
  rw [List.getD_eq_getElem?_getD,List.getD_eq_getElem?_getD,List.getElem?_cons_succ,List.getElem?_cons_succ,List.getElem?_append_left (by omega)]
theorem pop_loop {n : Nat} {z : R68} {mid : List R68} {c : Int} {y : R68} (hd : down (z :: mid) 0) (hl : mid.length ≤ 100000) (hn : mid.length + 1 < n) :
    ∃ t',loopM (m21_L1 n c y ((mid.length + 1 : Nat) : Int)) n ((0 : Int),z :: mid) = some (y.x,true,c,t') ∧ hp t' ∧ t'.Perm (z :: mid) := by
  refine loopM_ind (fun m s => ∃ (i : Nat) (l : List R68),s = ((i : Int),l) ∧ m = mid.length + 1 - i ∧ i < l.length ∧ l.length = mid.length + 1 ∧ down l i ∧ l.Perm (z :: mid)) (fun o => ∃ t',o = some (y.x,true,c,t') ∧ hp t' ∧ t'.Perm (z :: mid)) ?_ n (mid.length + 1) _
    ⟨0,_,rfl,rfl,by simp,by simp,hd,List.Perm.refl _⟩ hn
  rintro m s ⟨i,l,rfl,rfl,hi,hll,hdn,hq⟩
  obtain ⟨b1,b2,b3⟩ := best_ok hi
  by_cases hb : best l i = i
  · rw [hb] at b3
    refine .inr ⟨_,⟨l,rfl,down_done hdn b3,hq⟩,fun nx => ?_⟩
    rw [← hll,m21_L1_val hi (by omega),if_pos hb]
  · rcases b2 with b2 | ⟨p1,p2,p3⟩
    · exact absurd b2 hb
    · refine .inl ⟨mid.length + 1 - best l i,(((best l i : Nat) : Int),sw l i (best l i)),by omega,⟨best l i,_,rfl,rfl,by rw [sw_len]; exact b1,by rw [sw_len]; exact hll,down_step b1 ⟨p1,p2⟩ hdn p3 b3,(sw_perm hi b1).trans hq⟩,fun nx => ?_⟩
      rw [← hll,m21_L1_val hi (by omega),if_neg hb]
theorem m21_val {n : Nat} {t : List R68} {c : Int} (hh : hp t) (h0 : 0 < t.length) (hl : t.length ≤ 100000) (hn : t.length < n) :
    ∃ a t',m21 n t c = some (a.x,true,c,t') ∧ hp t' ∧ (a :: t').Perm t ∧ ∀ b,b ∈ t → ¬ lt b a := by
  have hmin : ∀ b,b ∈ t → ¬ lt b (at' t 0) := by
    intro b hb
    obtain ⟨j,hj,rfl⟩ := List.getElem_of_mem hb
    rw [at_get hj]
    exact root_min hh j hj
  unfold m21
  rw [show m16 n t c = some (t.length : Int) from rfl,Option.bind_some,if_neg (by simp; intro h; subst h; simp at h0)]
  match t,h0 with
  | [a],_ =>
    refine ⟨a,[],?_,fun j _ h => absurd h (by simp),List.Perm.refl _,hmin⟩
    obtain ⟨n,rfl⟩ : ∃ n',n = n' + 1 := ⟨n - 1,by omega⟩
    rfl
  | a :: x :: r,_ =>
    obtain ⟨mid,z,hz⟩ : ∃ mid z,x :: r = mid ++ [z] := ⟨(x :: r).dropLast,(x :: r).getLast (by simp),(List.dropLast_concat_getLast _).symm⟩
    rw [hz] at hh hl hn hmin ⊢
    have e1 : (a :: (mid ++ [z])).length = mid.length + 2 := by simp
    rw [e1] at hl hn ⊢
    have hd : down (z :: mid) 0 := by
      refine ⟨fun j j0 j1 jp => ?_,fun h => absurd h (by omega)⟩
      rw [List.length_cons] at j1
      have := hh j j0 (by rw [e1]; omega)
      rw [at_cons (b := z) j0 (by omega),at_cons (b := z) (by omega) (by omega)] at this
      exact this
    obtain ⟨t',q1,q2,q3⟩ := pop_loop (n := n) (c := c) (y := a) hd (by omega) (by omega)
    refine ⟨a,t',?_,q2,?_,hmin⟩
    · rw [show getIdx (a :: (mid ++ [z])) 0 = some a from rfl,Option.bind_some,letM_eq,wrap64 (by omega) (by omega),show ((mid.length + 2 : Nat) : Int) - 1 = ((mid.length + 1 : Nat) : Int) from by omega]
      rw [getIdx_q (k := mid.length + 1) (y := z) rfl (by simp),Option.bind_some,Option.bind_some,setIdx_at (i := 0) (k := 0) rfl (by simp),Option.bind_some,List.set_cons_zero]
      rw [getIdx_q (k := mid.length + 1) (y := z) rfl (by simp),Option.bind_some,setIdx_at (k := mid.length + 1) rfl (by simp),Option.bind_some]
      rw [slc_val (l := 0) (i := 0) (j := mid.length + 1) rfl rfl (by omega) (by simp),Option.bind_some]
      rw [show (((R68.mk (R27.mk z.x.Key z.x.Tag) z.number :: (mid ++ [z])).set (mid.length + 1) (R68.mk (R27.mk 0 0) 0)).drop 0).take (mid.length + 1 - 0) = z :: mid from by simp]
      exact q1
    · refine List.Perm.cons _ (q3.trans ?_)
      exact (List.perm_append_singleton z mid).symm
end Go.AB

import Derived.Test.YtpcjbgfgimboiaaLb
namespace Go.AB
open Go
theorem at_app {l : List R68} {e : R68} {j : Nat} (h : j < l.length) : at' (l ++ [e]) j = at' l j := by
  unfold at'
  rw [List.getD_eq_getElem?_getD,List.getD_eq_getElem?_getD,List.getElem?_append_left h]
theorem up_new {l : List R68} {e : R68} (h : hp l) : up (l ++ [e]) l.length := by
  refine ⟨fun j j0 j1 jn => ?_,fun h0 j j0 j1 jp => ?_⟩
  · rw [List.length_append,List.length_singleton] at j1
    rw [at_app (by omega),at_app (by omega)]
    exact h j j0 (by omega)
  · rw [List.length_append,List.length_singleton] at j1
    omega
theorem half {i : Nat} (h0 : 0 < i) (h : i ≤ 1000000) : IntKind.wrap .i64 ((IntKind.wrap .i64 ((i : Int) - (1 : Int))).tdiv (2 : Int)) = (((i - 1) / 2 : Nat) : Int) := by
  rw [wrap64 (x := (i : Int) - 1) (by omega) (by omega),show (i : Int) - 1 = ((i - 1 : Nat) : Int) from by omega,show (2 : Int) = ((2 : Nat) : Int) from rfl,tdiv_nat,wrap64 (by omega) (by omega)]
theorem swap_model {R : Type} {l : List R68} {i p : Nat} (hi : i < l.length) (hp : p < l.length) (k : List R68 → Option R) :
    ((getIdx l (p : Int)).bind fun y_26 => ((getIdx l (i : Int)).bind fun y_27 => ((getIdx l (i : Int)).bind fun y_28 => ((setIdx l (i : Int) (R68.mk (R27.mk y_26.x.Key y_26.x.Tag) y_26.number)).bind fun l2_29 => ((getIdx l2_29 (p : Int)).bind fun y_30 => ((setIdx l2_29 (p : Int) (R68.mk (R27.mk y_27.x.Key y_27.x.Tag) y_27.number)).bind fun l2_31 => k l2_31)))))) = k (sw l i p) := by
  rw [getIdx_at rfl hp,Option.bind_some,getIdx_at rfl hi,Option.bind_some,Option.bind_some,setIdx_at rfl hi,Option.bind_some,getIdx_at (k := p) rfl (by simpa using hp),Option.bind_some,setIdx_at (k := p) rfl (by simpa using hp),Option.bind_some]
  rw [at_get hp,at_get hi]
  rfl
theorem m19_val {n : Nat} {l : List R68} {c : Int} {x : R27} (hh : hp l) (hn : l.length < n) (hl : l.length ≤ 100000) (hc : 0 ≤ c ∧ c ≤ 100000) :
    ∃ l',m19 n l c x = some (c + 1,l') ∧ l'.Perm (l ++ [R68.mk x c]) ∧ hp l' := by
  unfold m19 jn
  rw [apd_val (by simp; omega),Option.bind_some,letM_eq,letM_eq,wrap64 (x := c + 1) (by omega) (by omega)]
  rw [show IntKind.wrap .i64 (((l ++ [R68.mk (R27.mk x.Key x.Tag) c]).length : Int) - 1) = ((l.length : Nat) : Int) from by rw [List.length_append,List.length_singleton,wrap64 (by omega) (by omega)]; omega]
  refine loopM_ind (fun m s => ∃ (i : Nat) (t : List R68),s = ((i : Int),t) ∧ i = m ∧ i < t.length ∧ t.length ≤ 100001 ∧ up t i ∧ t.Perm (l ++ [R68.mk x c])) (fun o => ∃ l',o = some (c + 1,l') ∧ l'.Perm (l ++ [R68.mk x c]) ∧ hp l') ?_ n l.length _
    ⟨l.length,_,rfl,rfl,by simp,by simp; omega,up_new hh,List.Perm.refl _⟩ hn
  rintro m s ⟨i,t,rfl,rfl,hi,ht,hu,hq⟩
  rcases Nat.eq_zero_or_pos i with h0 | h0
  · subst h0
    refine .inr ⟨_,⟨t,rfl,hq,up_done hu (.inl rfl)⟩,fun nx => ?_⟩
    rw [m19_L1,if_neg (by simp)]
  · have hpl : (i - 1) / 2 < t.length := by omega
    by_cases hlt : lt (at' t i) (at' t ((i - 1) / 2))
    · refine .inl ⟨(i - 1) / 2,((((i - 1) / 2 : Nat) : Int),sw t i ((i - 1) / 2)),by omega,⟨(i - 1) / 2,_,rfl,rfl,by rw [sw_len]; omega,by rw [sw_len]; exact ht,up_step hi h0 hu hlt,(sw_perm hi hpl).trans hq⟩,fun nx => ?_⟩
      rw [m19_L1,if_pos (by simp; omega)]
      dsimp only
      rw [letM_eq,half h0 (by omega),m32_val hi hpl,Option.bind_some,at_get hi,at_get hpl,decide_eq_true hlt,if_neg (by simp)]
      exact swap_model hi hpl fun l2 => nx (_,l2)
    · refine .inr ⟨_,⟨t,rfl,hq,up_done hu (.inr hlt)⟩,fun nx => ?_⟩
      rw [m19_L1,if_pos (by simp; omega)]
      dsimp only
      rw [letM_eq,half h0 (by omega),m32_val hi hpl,Option.bind_some,at_get hi,at_get hpl,decide_eq_false hlt,if_pos (by simp)]
def ent : List R27 → Int → List R68
  | [],_ => []
  | x :: l,c => R68.mk x c :: ent l (c + 1)
theorem ent_len : ∀ (l : List R27) (c : Int),(ent l c).length = l.length
  | [],_ => rfl
  | x :: l,c => by rw [ent,List.length_cons,ent_len l,List.length_cons]
theorem ent_take : ∀ (l : List R27) (c : Int) (j : Nat) (h : j < l.length),ent (l.take (j + 1)) c = ent (l.take j) c ++ [R68.mk l[j] (c + (j : Int))]
  | [],_,_,h => absurd h (by simp)
  | x :: l,c,0,_ => by simp [ent]
  | x :: l,c,j + 1,h => by
    rw [List.take_succ_cons,List.take_succ_cons,ent,ent,ent_take l (c + 1) j (by simpa using h)]
    simp
    omega
theorem m12_val {n : Nat} {l : List R27} (hl : l.length ≤ 90000) (hn : 100000 < n) : ∃ t,m12 n l = some (R66.mk t (l.length : Int)) ∧ t.Perm (ent l 0) ∧ hp t := by
  unfold m12 jn
  rw [show m18 n = some (R66.mk [] 0) from rfl,Option.bind_some]
  refine loopM_ind (fun m s => ∃ (j : Nat) (t : List R68),j ≤ l.length ∧ s = ((j : Int),(j : Int),t) ∧ m = l.length - j ∧ t.Perm (ent (l.take j) 0) ∧ hp t) (fun o => ∃ t,o = some (R66.mk t (l.length : Int)) ∧ t.Perm (ent l 0) ∧ hp t) ?_ n l.length _
    ⟨0,[],Nat.zero_le _,rfl,rfl,List.Perm.refl _,fun j _ h => absurd h (by simp)⟩ (by omega)
  rintro m s ⟨j,t,hj,rfl,rfl,hq,hh⟩
  have htl : t.length = j := by rw [hq.length_eq,ent_len,List.length_take]; omega
  rcases Nat.lt_or_ge j l.length with h1 | h1
  · obtain ⟨t',e,q1,q2⟩ := m19_val (n := n) (x := l[j]) (c := (j : Int)) hh (by omega) (by omega) (by omega)
    refine .inl ⟨l.length - (j + 1),(((j + 1 : Nat) : Int),((j + 1 : Nat) : Int),t'),by omega,⟨j + 1,t',h1,rfl,rfl,?_,q2⟩,fun nx => ?_⟩
    · rw [ent_take l 0 j h1,Int.zero_add]
      exact q1.trans (hq.append_right _)
    · rw [m12_L1,if_pos (by simp; omega),getIdx_at rfl h1,Option.bind_some,show m19 n t (j : Int) (R27.mk l[j].Key l[j].Tag) = _ from e,Option.bind_some,letM_eq,wrap64 (by omega) (by omega)]
      rfl
  · have : j = l.length := by omega
    subst this
    rw [List.take_length] at hq
    refine .inr ⟨_,⟨t,rfl,hq,hh⟩,fun nx => ?_⟩
    rw [m12_L1,if_neg (by simp)]
end Go.AB

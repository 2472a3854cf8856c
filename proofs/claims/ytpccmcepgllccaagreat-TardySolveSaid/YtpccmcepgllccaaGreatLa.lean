import Derived.Test.YtpccmcepgllccaaGreatD
import Derived.Test.YtpccmcepgllccaaGreatLx
set_option linter.unusedVariables false
namespace Go.AB
open Go
theorem all_range {α : Type} {l : List α} {p : α → Bool} : (∀ i,i < l.length → (l[i]?).all p = true) ↔ l.all p = true := by
  rw [List.all_eq_true]
  constructor
  · intro h y hy
    obtain ⟨i,hi,rfl⟩ := List.getElem_of_mem hy
    have := h i hi
    rw [List.getElem?_eq_getElem hi] at this
    exact this
  · intro h i hi
    rw [List.getElem?_eq_getElem hi]
    exact h _ (List.getElem_mem hi)
def okJ (y : R63) : Bool := !(((((((decide (y.Rl < (0 : Int))) || (decide ((100000 : Int) < y.Rl))) || (decide (y.Ln < (1 : Int)))) || (decide ((10000 : Int) < y.Ln))) || (decide (y.Due < (0 : Int)))) || (decide ((1000000 : Int) < y.Due))))
def vld (l : List R63) : Bool := decide ((l.length : Int) ≤ 40) && l.all okJ
theorem okJ_iff {y : R63} : okJ y = true ↔ 0 ≤ y.Rl ∧ y.Rl ≤ 100000 ∧ 1 ≤ y.Ln ∧ y.Ln ≤ 10000 ∧ 0 ≤ y.Due ∧ y.Due ≤ 1000000 := by
  unfold okJ
  simp only [Bool.not_eq_true',Bool.or_eq_false_iff,decide_eq_false_iff_not]
  omega
theorem m47_val {n : Nat} {y : R63} : m47 n y = some (!okJ y) := by
  unfold m47
  rw [letM_eq]
  unfold okJ
  rw [Bool.not_not]
theorem m25_val {n : Nat} {l : List R63} (hn : 41 < n) : m25 n l = some (vld l) := by
  unfold m25 vld
  by_cases h : (l.length : Int) ≤ 40
  · rw [decide_eq_true h,gdO_true]
    unfold m48 m67 jn
    have key : (loopM (m67_L1 n l fun p => some (-1)) n 0).bind (fun y => some (decide (0 ≤ y))) = some (!l.all okJ) := by
      refine loop_findP (fun i => (i : Int)) l.length (fun i => (l[i]?).any fun y => !okJ y) (fun i => some (i : Int)) (some (-1)) (fun o => o.bind (fun y => some (decide (0 ≤ y))) = some (!l.all okJ)) ?_ ?_ ?_ (by omega) (fun i h1 h2 h3 => ?_) fun h1 => ?_
      rotate_left 3
      · rw [oB,decide_eq_true (by omega)]
        rw [List.getElem?_eq_getElem h1] at h2
        congr 1
        symm
        rw [Bool.not_eq_true',← Bool.not_eq_true]
        intro h
        have := List.all_eq_true.1 h _ (List.getElem_mem h1)
        simp [this] at h2
      · rw [oB]
        congr 1
        symm
        rw [show decide ((0 : Int) ≤ -1) = false from rfl,Bool.not_eq_false']
        refine all_range.1 fun i hi => ?_
        have := h1 i hi
        rw [List.getElem?_eq_getElem hi] at this ⊢
        simpa using this
      · intro i hi hp nx
        rw [List.getElem?_eq_getElem hi] at hp
        rw [m67_L1,if_pos (by simp; omega),getIdx_at rfl hi,oB,show R63.mk l[i].Rl l[i].Ln l[i].Due = l[i] from rfl,m47_val,oB,if_neg (by simpa using hp),letM_eq,wrap64 (by omega) (by omega)]
        rfl
      · intro i hi hp nx
        rw [List.getElem?_eq_getElem hi] at hp
        rw [m67_L1,if_pos (by simp; omega),getIdx_at rfl hi,oB,show R63.mk l[i].Rl l[i].Ln l[i].Due = l[i] from rfl,m47_val,oB,if_pos (by simpa using hp)]
      · intro nx
        rw [m67_L1,if_neg (by simp)]
    rw [key,oB]
    simp
  · rw [decide_eq_false h,gdO_false]
    rfl
theorem m19_val {n : Nat} {l : List R63} (hl : l.length ≤ 1000000) (hn : l.length < n) : m19 n l = some (vld l) := by
  unfold m19 jn
  refine (loop_all (fun i => (i : Int)) l.length (fun i => (l[i]?).all okJ) (some false) (some (decide ((l.length : Int) ≤ 40))) ?_ ?_ ?_ hn).trans ?_
  rotate_left 3
  · unfold vld
    by_cases h : l.all okJ = true
    · rw [if_pos (all_range.2 h),h,Bool.and_true]
    · rw [if_neg (fun h' => h (all_range.1 h')),(Bool.not_eq_true _).mp h,Bool.and_false]
  · intro i hi hp nx
    rw [List.getElem?_eq_getElem hi] at hp
    rw [m19_L1,if_pos (by simp; omega),getIdx_at rfl hi,oB,letM_eq]
    rw [if_neg (by unfold okJ at hp; simpa only [Option.all_some,Bool.not_eq_true',Bool.not_eq_true] using hp),letM_eq,wrap64 (by omega) (by omega)]
    rfl
  · intro i hi hp nx
    rw [List.getElem?_eq_getElem hi] at hp
    rw [m19_L1,if_pos (by simp; omega),getIdx_at rfl hi,oB,letM_eq]
    rw [if_pos (by unfold okJ at hp; simpa only [Option.all_some,Bool.not_eq_false'] using hp)]
  · intro nx
    rw [m19_L1,if_neg (by simp)]
theorem m58_val {n : Nat} {l : List Int} {x : Int} (hl : l.length ≤ 1000000) (hn : l.length < n) : m58 n l x = some (decide (x ∈ l)) := by
  unfold m58 jn
  dsimp only
  refine loop_findP (fun i => (i : Int)) l.length (fun i => decide (l[i]? = some x)) (fun _ => some true) (some false) (fun o => o = some (decide (x ∈ l))) ?_ ?_ ?_ hn (fun i h1 h2 _ => ?_) fun h1 => ?_
  rotate_left 3
  · rw [decide_eq_true (List.mem_of_getElem? (of_decide_eq_true h2))]
  · rw [decide_eq_false]
    intro h
    obtain ⟨i,hi,e⟩ := List.getElem_of_mem h
    have := h1 i hi
    rw [List.getElem?_eq_getElem hi,e] at this
    simp at this
  · intro i hi hp nx
    rw [List.getElem?_eq_getElem hi] at hp
    rw [m58_L1,if_pos (by simp; omega),getIdx_at rfl hi,oB,if_neg (by simpa using hp),letM_eq,wrap64 (by omega) (by omega)]
    rfl
  · intro i hi hp nx
    rw [List.getElem?_eq_getElem hi] at hp
    rw [m58_L1,if_pos (by simp; omega),getIdx_at rfl hi,oB,if_pos (by simpa using hp)]
  · intro nx
    rw [m58_L1,if_neg (by simp)]
theorem m51_val {n : Nat} {l : List Int} {x : Int} (hl : l.length ≤ 1000000) (hn : l.length < n) : m51 n l x = some (decide (x ∈ l)) := by
  unfold m51 m68 jn
  dsimp only
  refine loop_findP (fun i => (i : Int)) l.length (fun i => decide (l[i]? = some x)) (fun i => some (i : Int)) (some (-1)) (fun o => o.bind (fun y => some (decide (0 ≤ y))) = some (decide (x ∈ l))) ?_ ?_ ?_ hn (fun i h1 h2 _ => ?_) fun h1 => ?_
  rotate_left 3
  · rw [decide_eq_true (List.mem_of_getElem? (of_decide_eq_true h2)),oB,decide_eq_true (by omega)]
  · rw [decide_eq_false (p := x ∈ l),oB]
    · rfl
    · intro h
      obtain ⟨i,hi,e⟩ := List.getElem_of_mem h
      have := h1 i hi
      rw [List.getElem?_eq_getElem hi,e] at this
      simp at this
  · intro i hi hp nx
    rw [List.getElem?_eq_getElem hi] at hp
    rw [m68_L1,if_pos (by simp; omega),getIdx_at rfl hi,oB,if_neg (by simpa [eq_comm] using hp),letM_eq,wrap64 (by omega) (by omega)]
    rfl
  · intro i hi hp nx
    rw [List.getElem?_eq_getElem hi] at hp
    rw [m68_L1,if_pos (by simp; omega),getIdx_at rfl hi,oB,if_pos (by simpa [eq_comm] using hp)]
  · intro nx
    rw [m68_L1,if_neg (by simp)]
theorem m11_self {n : Nat} {l : List Int} (hl : l.length ≤ 1000000) (hn : l.length < n) : m11 n l l = some true := by
  unfold m11 jn
  rw [if_neg (by simp)]
  refine (loop_all (fun i => (i : Int)) l.length (fun _ => true) (some false) (some true) ?_ ?_ ?_ hn).trans ?_
  rotate_left 3
  · rw [if_pos fun _ _ => rfl]
  · intro i hi _ nx
    rw [m11_L1,if_pos (by simp; omega),getIdx_at rfl hi,oB,oB,if_neg (by simp),letM_eq,wrap64 (by omega) (by omega)]
    rfl
  · intro i hi h
    cases h
  · intro nx
    rw [m11_L1,if_neg (by simp)]
theorem foldN_take {α : Type} (l : List α) (d : α) : ∀ k,k ≤ l.length → foldN (fun i (s : List α) => s ++ [l.getD i d]) k [] = l.take k
  | 0,_ => by simp [foldN]
  | k + 1,h => by
    rw [foldN,foldN_take l d k (by omega),List.take_succ_eq_append_getElem (by omega)]
    simp [show k < l.length from by omega]
theorem m13_val {n : Nat} {l : List R63} (hl : l.length ≤ 1000000) (hn : l.length < n) : m13 n l = some l := by
  unfold m13 jn
  refine (loop_fold (S := List R63) (fun i s => ((i : Int),s)) l.length (fun i s => s ++ [l.getD i default]) (fun i s => s.length = i) (fun s => some s) ?_ ?_ rfl hn).trans ?_
  rotate_left 2
  · rw [foldN_take l default _ (Nat.le_refl _),List.take_length]
  · intro i s hi hs
    refine ⟨by simp [hs],fun nx => ?_⟩
    rw [m13_L1,if_pos (by simp; omega)]
    dsimp only
    rw [getIdx_at rfl hi,oB,apd_val (by simp; omega),oB,letM_eq,wrap64 (by omega) (by omega)]
    simp [hi]
  · intro s hs nx
    rw [m13_L1,if_neg (by simp)]
end Go.AB
set_option linter.unusedVariables false
namespace Go.AB
open Go
def ordB (k : Nat) (o : List Int) : Bool := decide (o.Nodup ∧ ∀ x,x ∈ o → 0 ≤ x ∧ x < (k : Int))
theorem ord_take {k : Nat} {o : List Int} {j : Nat} (hj : j < o.length) : ordB k (o.take (j + 1)) = (ordB k (o.take j) && decide (0 ≤ o[j] ∧ o[j] < (k : Int)) && !decide (o[j] ∈ o.take j)) := by
  unfold ordB
  rw [Bool.eq_iff_iff,List.take_succ_eq_append_getElem hj]
  simp only [Bool.and_eq_true,decide_eq_true_eq,Bool.not_eq_true',decide_eq_false_iff_not,List.nodup_append,List.mem_append,List.mem_singleton]
  constructor
  · rintro ⟨⟨h1,_,h2⟩,h3⟩
    exact ⟨⟨⟨h1,fun x hx => h3 x (.inl hx)⟩,h3 _ (.inr rfl)⟩,fun hm => h2 _ hm _ rfl rfl⟩
  · rintro ⟨⟨⟨h1,h2⟩,h3⟩,h4⟩
    refine ⟨⟨h1,by simp,fun a ha b hb e => ?_⟩,fun x hx => ?_⟩
    · subst hb e; exact h4 ha
    · rcases hx with hx | rfl
      · exact h2 x hx
      · exact h3
theorem ord_prefix {k : Nat} {o : List Int} {j : Nat} (h : ordB k (o.take j) = false) : ordB k o = false := by
  unfold ordB at h ⊢
  rw [decide_eq_false_iff_not] at h ⊢
  rintro ⟨h1,h2⟩
  exact h ⟨h1.sublist (List.take_sublist _ _),fun x hx => h2 x (List.mem_of_mem_take hx)⟩
theorem m36_val {n : Nat} {l : List R63} {o : List Int} (ho : o.length ≤ 100000) (hn : o.length < n) : m36 n l o = some (ordB l.length o) := by
  unfold m36 jn
  refine loopM_ind (fun m x => ∃ j : Nat,j ≤ o.length ∧ x = (j : Int) ∧ m = o.length - j ∧ ordB l.length (o.take j) = true) (fun r => r = some (ordB l.length o)) ?_ n o.length _ ⟨0,Nat.zero_le _,rfl,rfl,by simp [ordB]⟩ hn
  rintro m x ⟨j,hj,rfl,rfl,hq⟩
  rcases Nat.lt_or_ge j o.length with h1 | h1
  · have ht := ord_take (k := l.length) h1
    rw [hq,Bool.true_and] at ht
    have body : ∀ nx,m36_L1 n l o (fun _ => some true) nx (j : Int) = if ((decide (o[j] < (0 : Int)) || decide ((l.length : Int) ≤ o[j])) || decide (o[j] ∈ o.take j)) = true then some false else nx ((j + 1 : Nat) : Int) := by
      intro nx
      rw [m36_L1,if_pos (by simp; omega),getIdx_at rfl h1,oB]
      by_cases c1 : o[j] < 0
      · rw [decide_eq_true c1]
        simp [gdO_false]
      · rw [decide_eq_false c1,show (!false) = true from rfl,gdO_true,oB]
        by_cases c2 : (l.length : Int) ≤ o[j]
        · rw [decide_eq_true c2]
          simp [gdO_false]
        · rw [decide_eq_false c2,show (!(false || false)) = true from rfl,gdO_true,slc_val (l := 0) (i := 0) (j := j) rfl rfl (Nat.zero_le _) (by omega),oB,gdO_true,oB,gdO_true]
          rw [show (o.drop 0).take (j - 0) = o.take j from by simp,m58_val (by rw [List.length_take]; omega) (by rw [List.length_take]; omega),oB,letM_eq,wrap64 (by omega) (by omega)]
          rfl
    by_cases hb : ordB l.length (o.take (j + 1)) = true
    · refine .inl ⟨o.length - (j + 1),_,by omega,⟨j + 1,h1,rfl,rfl,hb⟩,fun nx => ?_⟩
      rw [hb] at ht
      have h3 := ht.symm
      simp only [Bool.and_eq_true,decide_eq_true_eq,Bool.not_eq_true',decide_eq_false_iff_not] at h3
      rw [body,if_neg]
      simp only [Bool.or_eq_true,decide_eq_true_eq]
      intro h
      rcases h with (h | h) | h
      · omega
      · omega
      · exact h3.2 h
    · have hb' := (Bool.not_eq_true _).mp hb
      refine .inr ⟨_,by rw [ord_prefix hb'],fun nx => ?_⟩
      rw [hb'] at ht
      rw [body,if_pos]
      simp only [Bool.or_eq_true,decide_eq_true_eq]
      by_cases c1 : o[j] < 0
      · exact .inl (.inl c1)
      · by_cases c2 : (l.length : Int) ≤ o[j]
        · exact .inl (.inr c2)
        · refine .inr ?_
          rw [decide_eq_true (show 0 ≤ o[j] ∧ o[j] < (l.length : Int) from by omega),Bool.true_and] at ht
          have := ht.symm
          simpa using this
  · have : j = o.length := by omega
    subst this
    rw [List.take_length] at hq
    refine .inr ⟨_,by rw [hq],fun nx => ?_⟩
    rw [m36_L1,if_neg (by simp)]
theorem m49_val {n : Nat} {l : List R63} {o : List Int} (hl : l.length ≤ 100000) (ho : o.length ≤ 100000) (hn : o.length < n) : m49 n l o = some (ordB l.length o) := by
  unfold m49 jn
  rw [mk_val rfl rfl (by omega),oB]
  refine loopM_ind (fun m x => ∃ (j : Nat) (u : List Bool),j ≤ o.length ∧ x = ((j : Int),u) ∧ m = o.length - j ∧ ordB l.length (o.take j) = true ∧ u.length = l.length ∧ ∀ x : Nat,x < l.length → u[x]? = some (decide ((x : Int) ∈ o.take j))) (fun r => r = some (ordB l.length o)) ?_ n o.length _
    ⟨0,_,Nat.zero_le _,rfl,rfl,by simp [ordB],by simp,fun x hx => by rw [List.getElem?_replicate,if_pos hx]; simp⟩ hn
  rintro m x ⟨j,u,hj,rfl,rfl,hq,hul,hu⟩
  rcases Nat.lt_or_ge j o.length with h1 | h1
  · have ht := ord_take (k := l.length) h1
    rw [hq,Bool.true_and] at ht
    by_cases c1 : o[j] < 0 ∨ (l.length : Int) ≤ o[j]
    · rw [decide_eq_false (show ¬ (0 ≤ o[j] ∧ o[j] < (l.length : Int)) from by omega),Bool.false_and] at ht
      refine .inr ⟨_,by rw [ord_prefix ht],fun nx => ?_⟩
      rw [m49_L1,if_pos (by simp; omega)]
      dsimp only
      rw [getIdx_at rfl h1,oB]
      have : (decide (o[j] < (0 : Int)) || decide ((l.length : Int) ≤ o[j])) = true := by simpa using c1
      rw [this]
      rfl
    · have c2 : 0 ≤ o[j] ∧ o[j] < (l.length : Int) := by omega
      obtain ⟨y,hy⟩ : ∃ y : Nat,o[j] = (y : Int) := ⟨o[j].toNat,by omega⟩
      have hyl : y < l.length := by omega
      have huy := hu y hyl
      rw [decide_eq_true c2,Bool.true_and] at ht
      have body : ∀ nx,m49_L1 n l o (fun _ => some true) nx ((j : Int),u) = if decide (o[j] ∈ o.take j) = true then some false else nx (((j + 1 : Nat) : Int),u.set y true) := by
        intro nx
        rw [m49_L1,if_pos (by simp; omega)]
        dsimp only
        rw [getIdx_at rfl h1,oB]
        rw [decide_eq_false (show ¬ o[j] < 0 from by omega),decide_eq_false (show ¬ (l.length : Int) ≤ o[j] from by omega),show (!(false || false)) = true from rfl,gdO_true,getIdx_q hy huy,oB,oB,setIdx_at hy (by omega),oB,letM_eq,wrap64 (by omega) (by omega),hy]
        rfl
      by_cases hb : o[j] ∈ o.take j
      · rw [decide_eq_true hb] at ht
        refine .inr ⟨_,by rw [ord_prefix ht],fun nx => ?_⟩
        rw [body,if_pos (decide_eq_true hb)]
      · rw [decide_eq_false hb] at ht
        refine .inl ⟨o.length - (j + 1),_,by omega,⟨j + 1,u.set y true,h1,rfl,rfl,ht,by simpa using hul,fun x hx => ?_⟩,fun nx => ?_⟩
        · rw [List.getElem?_set,List.take_succ_eq_append_getElem h1]
          by_cases e : y = x
          · subst e
            rw [if_pos rfl,if_pos (by omega),decide_eq_true (List.mem_append.2 (.inr (by simp [hy])))]
          · rw [if_neg e,hu x hx]
            congr 1
            apply decide_eq_decide.2
            rw [List.mem_append,List.mem_singleton]
            constructor
            · exact .inl
            · rintro (h | h)
              · exact h
              · rw [hy] at h; exact absurd (Int.ofNat.inj h).symm e
        · rw [body,if_neg (by simpa using hb)]
  · have : j = o.length := by omega
    subst this
    rw [List.take_length] at hq
    refine .inr ⟨_,by rw [hq],fun nx => ?_⟩
    rw [m49_L1,if_neg (by simp)]
theorem m34_val {n : Nat} {l : List R63} {o : List Int} (ho : o.length ≤ 100000) (hn : o.length < n) (hn2 : 41 < n) : m34 n l o = some (if vld l = true then (if ordB l.length o = true then 0 else 22) else 1) := by
  unfold m34
  rw [m25_val hn2,oB]
  by_cases h : vld l = true
  · have hl : l.length ≤ 100000 := by
      unfold vld at h
      simp only [Bool.and_eq_true,decide_eq_true_eq] at h
      omega
    rw [h,if_neg (by simp),m49_val hl ho hn,oB,if_pos rfl]
    by_cases h2 : ordB l.length o = true
    · rw [h2]; rfl
    · rw [(Bool.not_eq_true _).mp h2]; rfl
  · rw [(Bool.not_eq_true _).mp h]; rfl
end Go.AB
set_option linter.unusedVariables false
namespace Go.AB
open Go
def J (l : List R63) (i : Int) : R63 := l.getD i.toNat default
theorem gJ {l : List R63} {i : Int} (h0 : 0 ≤ i) (h1 : i < (l.length : Int)) : getIdx l i = some (J l i) := by
  refine getIdx_q (k := i.toNat) (by omega) ?_
  unfold J
  rw [List.getD_eq_getElem?_getD,List.getElem?_eq_getElem (by omega)]
  rfl
theorem J_mem {l : List R63} {i : Int} (h0 : 0 ≤ i) (h1 : i < (l.length : Int)) : J l i ∈ l := by
  have h : i.toNat < l.length := by omega
  unfold J
  rw [List.getD_eq_getElem?_getD,List.getElem?_eq_getElem h]
  exact List.getElem_mem h
def bd (l : List R63) : Prop := ∀ y,y ∈ l → 0 ≤ y.Rl ∧ y.Rl ≤ 1000000 ∧ 0 ≤ y.Ln ∧ y.Ln ≤ 10000 ∧ 0 ≤ y.Due ∧ y.Due ≤ 1000000
theorem bd_vld {l : List R63} (h : vld l = true) : bd l ∧ l.length ≤ 40 := by
  unfold vld at h
  simp only [Bool.and_eq_true,decide_eq_true_eq] at h
  refine ⟨fun y hy => ?_,by omega⟩
  have := okJ_iff.1 (List.all_eq_true.1 h.2 y hy)
  omega
def inR (k : Nat) (o : List Int) : Prop := ∀ x,x ∈ o → 0 ≤ x ∧ x < (k : Int)
theorem ord_iff {k : Nat} {o : List Int} : ordB k o = true ↔ o.Nodup ∧ inR k o := by
  unfold ordB inR
  rw [decide_eq_true_eq]
def fin (l : List R63) : Int → List Int → List Int
  | _,[] => []
  | t,i :: o => (max t (J l i).Rl + (J l i).Ln) :: fin l (max t (J l i).Rl + (J l i).Ln) o
theorem fin_len (l : List R63) : ∀ (o : List Int) (t : Int),(fin l t o).length = o.length
  | [],_ => rfl
  | i :: o,t => by rw [fin,List.length_cons,fin_len l o,List.length_cons]
def finS (l : List R63) (s : Int × List Int) (i : Int) : Int × List Int := (max s.1 (J l i).Rl + (J l i).Ln,s.2 ++ [max s.1 (J l i).Rl + (J l i).Ln])
theorem finS_fin (l : List R63) : ∀ (o : List Int) (t : Int) (out : List Int),(o.foldl (finS l) (t,out)).2 = out ++ fin l t o
  | [],t,out => by simp [fin]
  | i :: o,t,out => by
    rw [List.foldl_cons,finS,finS_fin l o,fin]
    simp
theorem fin_bd {l : List R63} (hb : bd l) : ∀ (o : List Int) (t M : Int),inR l.length o → 0 ≤ t → t ≤ M → 1000000 ≤ M → ∀ x,x ∈ fin l t o → 0 ≤ x ∧ x ≤ M + 10000 * (o.length : Int)
  | [],t,M,_,_,_,_,x,hx => by simp [fin] at hx
  | i :: o,t,M,ho,h0,h1,h2,x,hx => by
    have hi := ho i (by simp)
    have hj := hb _ (J_mem hi.1 hi.2)
    rw [fin] at hx
    have e : ((i :: o).length : Int) = (o.length : Int) + 1 := by simp
    have m1 : 0 ≤ max t (J l i).Rl := Int.le_trans h0 (Int.le_max_left _ _)
    have m2 : max t (J l i).Rl ≤ M := Int.max_le.2 ⟨h1,by omega⟩
    rcases List.mem_cons.1 hx with rfl | hx
    · omega
    · have := fin_bd hb o _ (M + 10000) (fun x hx => ho x (by simp [hx])) (by omega) (by omega) (by omega) x hx
      omega
theorem getD_fin {l : List R63} (hb : bd l) {o : List Int} (ho : inR l.length o) {i : Nat} (hi : i < o.length) : 0 ≤ (fin l 0 o).getD i 0 ∧ (fin l 0 o).getD i 0 ≤ 1000000 + 10000 * (o.length : Int) := by
  have hl : i < (fin l 0 o).length := by rw [fin_len]; exact hi
  rw [List.getD_eq_getElem?_getD,List.getElem?_eq_getElem hl]
  exact fin_bd hb o 0 1000000 ho (by omega) (by omega) (by omega) _ (List.getElem_mem hl)
theorem getD_mem {o : List Int} {i : Nat} (hi : i < o.length) : o.getD i 0 ∈ o := by
  rw [List.getD_eq_getElem?_getD,List.getElem?_eq_getElem hi]
  exact List.getElem_mem hi
theorem get_getD {α : Type} {o : List α} {d : α} {i : Nat} (hi : i < o.length) : getIdx o (i : Int) = some (o.getD i d) := by
  rw [getIdx_at rfl hi]; simp [hi]
theorem fin_loop {R : Type} {body : (Int × Int × (List Int) → Option R) → Int × Int × (List Int) → Option R} {n : Nat} {l : List R63} {o : List Int} (hb : bd l) (ho : inR l.length o) (hl : o.length ≤ 1000) (hn : o.length < n) (K : List Int → Option R)
    (step : ∀ (i : Nat) (t : Int) (out : List Int),i < o.length → out.length = i → 0 ≤ t → t ≤ 1000000 + 10000 * (i : Int) → ∀ nx,body nx (t,(i : Int),out) = nx (max t (J l (o.getD i 0)).Rl + (J l (o.getD i 0)).Ln,((i + 1 : Nat) : Int),out ++ [max t (J l (o.getD i 0)).Rl + (J l (o.getD i 0)).Ln]))
    (fin' : ∀ t out nx,body nx (t,(o.length : Int),out) = K out) : loopM body n ((0 : Int),(0 : Int),([] : List Int)) = K (fin l 0 o) := by
  refine (loop_fold (S := Int × List Int) (fun i s => (s.1,(i : Int),s.2)) o.length (fun i s => finS l s (o.getD i 0)) (fun i s => s.2.length = i ∧ 0 ≤ s.1 ∧ s.1 ≤ 1000000 + 10000 * (i : Int)) (fun s => K s.2) ?_ ?_ (s0 := (0,[])) ⟨rfl,by omega,by omega⟩ hn).trans ?_
  · rintro i ⟨t,out⟩ hi ⟨h1,h2,h3⟩
    have hm := ho _ (getD_mem hi)
    have hj := hb _ (J_mem hm.1 hm.2)
    dsimp only at h1 h2 h3 ⊢
    refine ⟨⟨by simp [finS,h1],?_,?_⟩,fun nx => ?_⟩
    · unfold finS; dsimp only
      have : 0 ≤ max t (J l (o.getD i 0)).Rl := Int.le_trans h2 (Int.le_max_left _ _)
      omega
    · unfold finS; dsimp only
      have : max t (J l (o.getD i 0)).Rl ≤ 1000000 + 10000 * (i : Int) := Int.max_le.2 ⟨h3,by omega⟩
      omega
    · rw [step i t out hi h1 h2 h3]
      rfl
  · rintro ⟨t,out⟩ _ nx
    exact fin' t out nx
  · rw [foldN_all (g := finS l),finS_fin,List.nil_append]
theorem m57_val {n : Nat} {l : List R63} {o : List Int} (hb : bd l) (ho : inR l.length o) (hl : o.length ≤ 1000) (hn : o.length < n) : m57 n l o = some (fin l 0 o) := by
  unfold m57 jn
  refine fin_loop hb ho hl hn (fun x => some x) ?_ ?_
  · intro i t out hi h1 h2 h3 nx
    have hm := ho _ (getD_mem hi)
    have hj := hb _ (J_mem hm.1 hm.2)
    have m1 : 0 ≤ max t (J l (o.getD i 0)).Rl := Int.le_trans h2 (Int.le_max_left _ _)
    have m2 : max t (J l (o.getD i 0)).Rl ≤ 1000000 + 10000 * (i : Int) := Int.max_le.2 ⟨h3,by omega⟩
    rw [m57_L1,if_pos (by simp; omega)]
    dsimp only
    rw [get_getD (d := 0) hi,oB,gJ hm.1 hm.2,oB,oB,iteMax,letM_eq,wrap64 (by omega) (by omega),apd_val (by simp; omega),oB,letM_eq,wrap64 (by omega) (by omega)]
    rfl
  · intro t out nx
    rw [m57_L1,if_neg (by simp)]
theorem m59_val {n : Nat} {l : List R63} {o : List Int} (hll : l.length ≤ 100000) (hl : o.length ≤ 1000) (hn : o.length < n) (hn2 : l.length < n) :
    m59 n l o = some (if vld l = true then (if ordB l.length o = true then (fin l 0 o,0) else ([],22)) else ([],1)) := by
  unfold m59
  rw [m19_val (by omega) hn2,oB]
  by_cases h : vld l = true
  · rw [h,if_neg (by simp),m36_val (by omega) hn,oB,if_pos rfl]
    by_cases h2 : ordB l.length o = true
    · rw [h2,if_neg (by simp),if_pos rfl]
      unfold jn
      dsimp only
      have ho := (ord_iff.1 h2).2
      have hb := (bd_vld h).1
      refine fin_loop hb ho hl hn (fun x => some (x,0)) ?_ ?_
      · intro i t out hi h1 h2 h3 nx
        have hm := ho _ (getD_mem hi)
        have hj := hb _ (J_mem hm.1 hm.2)
        have m1 : 0 ≤ max t (J l (o.getD i 0)).Rl := Int.le_trans h2 (Int.le_max_left _ _)
        have m2 : max t (J l (o.getD i 0)).Rl ≤ 1000000 + 10000 * (i : Int) := Int.max_le.2 ⟨h3,by omega⟩
        rw [m59_L1,if_pos (by simp; omega)]
        dsimp only
        rw [get_getD (d := 0) hi,oB,gJ hm.1 hm.2,oB,oB,gJ hm.1 hm.2,oB,iteMax,letM_eq,wrap64 (by omega) (by omega),apd_val (by simp; omega),oB,letM_eq,wrap64 (by omega) (by omega)]
        rfl
      · intro t out nx
        rw [m59_L1,if_neg (by simp)]
    · rw [(Bool.not_eq_true _).mp h2]; rfl
  · rw [(Bool.not_eq_true _).mp h]; rfl
def lat (l : List R63) (o : List Int) (i : Nat) : Int := (fin l 0 o).getD i 0 - (J l (o.getD i 0)).Due
def val (l : List R63) (o : List Int) (most : Bool) : Int := foldN (fun i n => if most = true then (if i = 0 ∨ n < lat l o i then lat l o i else n) else n + max 0 (lat l o i)) o.length 0
theorem lat_bd {l : List R63} (hb : bd l) {o : List Int} (ho : inR l.length o) (hl : o.length ≤ 1000) {i : Nat} (hi : i < o.length) : -1000000 ≤ lat l o i ∧ lat l o i ≤ 11000000 := by
  have h1 := getD_fin hb ho hi
  have hm := ho _ (getD_mem hi)
  have hj := hb _ (J_mem hm.1 hm.2)
  unfold lat; omega
theorem val_loop {R : Type} {body : (Int × Int → Option R) → Int × Int → Option R} {n : Nat} {l : List R63} {o : List Int} (most : Bool) (hb : bd l) (ho : inR l.length o) (hl : o.length ≤ 1000) (hn : o.length < n) (K : Int → Option R)
    (step : ∀ (i : Nat) (s : Int),i < o.length → -11000000000 ≤ s → s ≤ 11000000000 → ∀ nx,body nx (s,(i : Int)) = nx (if most = true then (if i = 0 ∨ s < lat l o i then lat l o i else s) else s + max 0 (lat l o i),((i + 1 : Nat) : Int)))
    (fin' : ∀ s nx,body nx (s,(o.length : Int)) = K s) : loopM body n ((0 : Int),(0 : Int)) = K (val l o most) := by
  refine (loop_fold (S := Int) (fun i s => (s,(i : Int))) o.length (fun i s => if most = true then (if i = 0 ∨ s < lat l o i then lat l o i else s) else s + max 0 (lat l o i)) (fun i s => -1000000 ≤ s ∧ s ≤ 11000000 * (i : Int)) K ?_ ?_ (s0 := 0) ⟨by omega,by omega⟩ hn).trans rfl
  · rintro i s hi ⟨h1,h2⟩
    have hd := lat_bd hb ho hl hi
    refine ⟨?_,fun nx => step i s hi (by omega) (by omega) nx⟩
    cases most with
    | true =>
      rw [if_pos rfl]
      split <;> omega
    | false =>
      rw [if_neg (by simp)]
      have : 0 ≤ max 0 (lat l o i) ∧ max 0 (lat l o i) ≤ 11000000 := ⟨Int.le_max_left _ _,Int.max_le.2 ⟨by omega,hd.2⟩⟩
      omega
  · intro s _ nx
    exact fin' s nx
theorem m35_val {n : Nat} {l : List R63} {o : List Int} {most : Bool} (hb : bd l) (ho : inR l.length o) (hl : o.length ≤ 1000) (hn : o.length < n) : m35 n l o most = some (val l o most) := by
  unfold m35
  rw [m57_val hb ho hl hn,oB]
  unfold jn
  dsimp only
  refine val_loop most hb ho hl hn (fun x => some x) ?_ ?_
  · intro i s hi h1 h2 nx
    have hm := ho _ (getD_mem hi)
    have hj := hb _ (J_mem hm.1 hm.2)
    have hd := lat_bd hb ho hl hi
    have hf := getD_fin hb ho hi
    rw [m35_L1,if_pos (by rw [fin_len]; simp; omega)]
    dsimp only
    rw [get_getD (d := 0) (by rw [fin_len]; exact hi),oB,get_getD (d := 0) hi,oB,gJ hm.1 hm.2,oB,letM_eq,wrap64 (x := _ - _) (by omega) (by omega),show (fin l 0 o).getD i 0 - (J l (o.getD i 0)).Due = lat l o i from rfl]
    unfold jn
    dsimp only
    rw [letM_eq,letM_eq,letM_eq,letM_eq,wrap64 (x := (i : Int) + 1) (by omega) (by omega)]
    cases most with
    | true =>
      rw [if_neg (by simp),if_pos rfl]
      by_cases c : i = 0 ∨ s < lat l o i
      · rw [if_pos (by simpa using c),if_pos c]
        rfl
      · rw [if_neg (by simpa using c),if_neg c]
        rfl
    | false =>
      rw [if_pos (show (!false) = true from rfl),if_neg (show ¬ false = true from by simp)]
      have e : (if lat l o i > 0 then lat l o i else 0) = max 0 (lat l o i) := iteMax _ _
      have : 0 ≤ max 0 (lat l o i) ∧ max 0 (lat l o i) ≤ 11000000 := ⟨Int.le_max_left _ _,Int.max_le.2 ⟨by omega,hd.2⟩⟩
      rw [e,wrap64 (by omega) (by omega)]
      rfl
  · intro s nx
    rw [m35_L1,if_neg (by rw [fin_len]; simp)]
theorem val_nil (l : List R63) (most : Bool) : val l [] most = 0 := rfl
theorem m37_val {n : Nat} {l : List R63} {o : List Int} (hll : l.length ≤ 100000) (hl : o.length ≤ 1000) (hn : o.length < n) (hn2 : l.length < n) :
    m37 n l o = some (if vld l = true then (if ordB l.length o = true then (val l o false,0) else (0,22)) else (0,1)) := by
  unfold m37
  rw [m59_val hll hl hn hn2,oB]
  obtain ⟨n,rfl⟩ : ∃ n',n = n' + 1 := ⟨n - 1,by omega⟩
  unfold jn
  by_cases h : vld l = true
  · by_cases h2 : ordB l.length o = true
    · rw [if_pos h,if_pos h2,if_pos h,if_pos h2]
      have ho := (ord_iff.1 h2).2
      have hb := (bd_vld h).1
      refine val_loop false hb ho hl hn (fun x => some (x,0)) ?_ ?_
      · intro i s hi h1 h2 nx
        have hm := ho _ (getD_mem hi)
        have hj := hb _ (J_mem hm.1 hm.2)
        have hd := lat_bd hb ho hl hi
        have hf := getD_fin hb ho hi
        rw [m37_L1,if_pos (by rw [fin_len]; simp; omega)]
        dsimp only
        rw [get_getD (d := 0) (by rw [fin_len]; exact hi),oB,get_getD (d := 0) hi,oB,gJ hm.1 hm.2,oB,wrap64 (x := (fin l 0 o).getD i 0 - (J l (o.getD i 0)).Due) (by omega) (by omega),show (fin l 0 o).getD i 0 - (J l (o.getD i 0)).Due = lat l o i from rfl]
        have e : (if lat l o i > 0 then lat l o i else 0) = max 0 (lat l o i) := iteMax _ _
        have : 0 ≤ max 0 (lat l o i) ∧ max 0 (lat l o i) ≤ 11000000 := ⟨Int.le_max_left _ _,Int.max_le.2 ⟨by omega,hd.2⟩⟩
        rw [e,letM_eq,wrap64 (by omega) (by omega),letM_eq,wrap64 (by omega) (by omega)]
        rfl
      · intro s nx
        rw [m37_L1,if_neg (by rw [fin_len]; simp)]
    · rw [if_pos h,if_neg h2,if_pos h,if_neg h2]; rfl
  · rw [if_neg h,if_neg h]; rfl
theorem m38_val {n : Nat} {l : List R63} {o : List Int} (hll : l.length ≤ 100000) (hl : o.length ≤ 1000) (hn : o.length < n) (hn2 : l.length < n) :
    m38 n l o = some (if vld l = true then (if ordB l.length o = true then (val l o true,0) else (0,22)) else (0,1)) := by
  unfold m38
  rw [m59_val hll hl hn hn2,oB]
  obtain ⟨n,rfl⟩ : ∃ n',n = n' + 1 := ⟨n - 1,by omega⟩
  unfold jn
  by_cases h : vld l = true
  · by_cases h2 : ordB l.length o = true
    · rw [if_pos h,if_pos h2,if_pos h,if_pos h2]
      have ho := (ord_iff.1 h2).2
      have hb := (bd_vld h).1
      refine val_loop true hb ho hl hn (fun x => some (x,0)) ?_ ?_
      · intro i s hi h1 h2 nx
        have hm := ho _ (getD_mem hi)
        have hj := hb _ (J_mem hm.1 hm.2)
        have hd := lat_bd hb ho hl hi
        have hf := getD_fin hb ho hi
        rw [m38_L1,if_pos (by rw [fin_len]; simp; omega)]
        dsimp only
        rw [get_getD (d := 0) (by rw [fin_len]; exact hi),oB,get_getD (d := 0) hi,oB,gJ hm.1 hm.2,oB,letM_eq,wrap64 (x := (fin l 0 o).getD i 0 - (J l (o.getD i 0)).Due) (by omega) (by omega),show (fin l 0 o).getD i 0 - (J l (o.getD i 0)).Due = lat l o i from rfl]
        unfold jn
        dsimp only
        rw [letM_eq,letM_eq,wrap64 (x := (i : Int) + 1) (by omega) (by omega),if_pos rfl]
        by_cases c : i = 0 ∨ s < lat l o i
        · rw [if_pos (by simpa using c),if_pos c]
          rfl
        · rw [if_neg (by simpa using c),if_neg c]
          rfl
      · intro s nx
        rw [m38_L1,if_neg (by rw [fin_len]; simp)]
    · rw [if_pos h,if_neg h2,if_pos h,if_neg h2]; rfl
  · rw [if_neg h,if_neg h]; rfl
theorem m15_val {n : Nat} {l : List R63} {o : List Int} {most : Bool} (hll : l.length ≤ 100000) (hl : o.length ≤ 1000) (hn : o.length < n) (hn2 : l.length < n) :
    m15 n l o most = some (if vld l = true ∧ ordB l.length o = true then val l o most else 0) := by
  unfold m15 jn
  rw [m37_val hll hl hn hn2,oB,m38_val hll hl hn hn2]
  dsimp only
  rw [oB]
  by_cases h : vld l = true
  · by_cases h2 : ordB l.length o = true
    · cases most <;> simp [h,h2]
    · cases most <;> simp [h,h2]
  · cases most <;> simp [h]
end Go.AB

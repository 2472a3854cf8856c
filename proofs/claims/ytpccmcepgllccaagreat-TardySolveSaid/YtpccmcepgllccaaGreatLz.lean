import Derived.Test.YtpccmcepgllccaaGreatLy
set_option linter.unusedVariables false
namespace Go.AB
open Go
theorem m76_true {n : Nat} {l : List R63} (hb : bd l) (hl : l.length ≤ 1000) (hn : 1000 < n) (K : Int → Option Int) : loopM (m76_L10 n l K) n ((0 : Int),false,(0 : Int)) = K (par l 1) := by
  refine (loop_fold (S := Int × Bool) (fun i s => (s.1,s.2,(i : Int))) l.length (fun i s => foldN (fun k s => parStep l 1 i k s) l.length s) (fun i s => True) (fun s => K s.1) ?_ ?_ (s0 := (0,false)) trivial (by omega)).trans rfl
  · rintro i ⟨best,some_⟩ hi _
    refine ⟨trivial,fun nx => ?_⟩
    rw [m76_L10,if_pos (by simp; omega)]
    unfold jn
    dsimp only
    refine (loop_fold (S := Int × Bool) (fun k s => (s.1,s.2,(k : Int))) l.length (fun k s => parStep l 1 i k s) (fun k s => True) (fun s => letM (IntKind.wrap .i64 ((i : Int) + 1)) fun t => nx (s.1,s.2,t)) ?_ ?_ (s0 := (best,some_)) trivial (by omega)).trans ?_
    · rintro k ⟨best',some_'⟩ hk _
      refine ⟨trivial,fun nx => ?_⟩
      rw [m76_L13,if_pos (by simp; omega)]
      unfold jn
      dsimp only
      have hs := spanSum_bd hb i k
      have h3 := hb _ (Jn_mem hi)
      have h4 := hb _ (Jn_mem hk)
      have hB := spanBd_bd hb (m := 1) (by omega) hi hk
      have eB : (Jn l i).Rl + spanSum l i k - (Jn l k).Due = spanBd l 1 i k := by
        unfold spanBd
        rw [show spanSum l i k + 1 - 1 = spanSum l i k from by omega,Int.tdiv_one]
      refine (loop_fold (S := Int) (fun j s => (s,(j : Int))) l.length (fun j s => s + (if within l i k j = true then (Jn l j).Ln else 0)) (fun j s => 0 ≤ s ∧ s ≤ 10000 * (j : Int)) (fun p_387 => ((getIdx l (i : Int)).bind fun y_389 => ((getIdx l (k : Int)).bind fun y_390 => (letM ((IntKind.wrap .i64 ((IntKind.wrap .i64 (y_389.Rl + p_387)) - y_390.Due))) fun t13_391 => if ((decide ((0 : Int) < p_387)) && ((!some_') || (decide (best' < t13_391)))) = true then letM (IntKind.wrap .i64 ((k : Int) + 1)) fun t => nx (t13_391,true,t) else letM (IntKind.wrap .i64 ((k : Int) + 1)) fun t => nx (best',some_',t))))) ?_ ?_ (s0 := 0) ⟨by omega,by omega⟩ (by omega)).trans ?_
      · rintro j s hj ⟨s0,s1⟩
        have h5 := hb _ (Jn_mem hj)
        refine ⟨by split <;> omega,fun nx => ?_⟩
        rw [m76_L14,if_pos (by simp; omega)]
        dsimp only
        rw [Jn_get hj,oB,Jn_get hi,oB]
        unfold jn
        dsimp only
        by_cases w1 : (Jn l i).Rl ≤ (Jn l j).Rl
        · rw [decide_eq_true w1,gdO_true,oB,gdO_true,Jn_get hk,oB,Bool.true_and,oB]
          by_cases w2 : (Jn l j).Due ≤ (Jn l k).Due
          · have hw : within l i k j = true := by unfold within; rw [decide_eq_true w1,decide_eq_true w2]; rfl
            rw [if_pos (decide_eq_true w2),if_pos hw,letM_eq,wrap64 (by omega) (by omega),letM_eq,wrap64 (by omega) (by omega)]
            rfl
          · have hw : ¬ within l i k j = true := by unfold within; rw [decide_eq_true w1,decide_eq_false w2]; simp
            rw [if_neg (by simpa using w2),if_neg hw,letM_eq,wrap64 (by omega) (by omega),Int.add_zero]
            rfl
        · have hw : ¬ within l i k j = true := by unfold within; rw [decide_eq_false w1]; simp
          rw [decide_eq_false w1,gdO_false,oB,gdO_false,oB,Bool.false_and,if_neg (by simp),if_neg hw,letM_eq,wrap64 (by omega) (by omega),Int.add_zero]
          rfl
      · rintro s _ nx
        rw [m76_L14,if_neg (by simp)]
      · rw [sumN_fold]
        rw [show sumN (fun j => if within l i k j = true then (Jn l j).Ln else 0) l.length = spanSum l i k from rfl]
        rw [Jn_get hi,oB,Jn_get hk,oB,wrap64 (x := (Jn l i).Rl + spanSum l i k) (by omega) (by omega),eB,wrap64 (x := spanBd l 1 i k) (by omega) (by omega),letM_eq,letM_eq,letM_eq,wrap64 (x := (k : Int) + 1) (by omega) (by omega)]
        unfold parStep
        by_cases c : 0 < spanSum l i k ∧ (some_' = false ∨ best' < spanBd l 1 i k)
        · rw [if_pos c,if_pos (by simpa using c)]
          rfl
        · rw [if_neg c,if_neg (by simpa using c)]
          rfl
    · rintro ⟨best,some_⟩ _ nx
      rw [m76_L13,if_neg (by simp)]
    · rw [letM_eq,wrap64 (by omega) (by omega)]
      rfl
  · rintro ⟨best,some_⟩ _ nx
    rw [m76_L10,if_neg (by simp)]
theorem m76_first {n : Nat} {l : List R63} (hl : l.length ≤ 1000) (hn : 1000 < n) (K : Int → Option Int) : ∃ f,loopM (m76_L1 n l K) n ((0 : Int),(0 : Int)) = K f ∧ (l = [] → f = 0) ∧ (l ≠ [] → ∃ j,j < l.length ∧ (Jn l j).Rl = f) ∧ ∀ j,j < l.length → f ≤ (Jn l j).Rl := by
  obtain ⟨f,hf,hK⟩ := loopM_indK (R := Int) (body := m76_L1 n l) (fun m x => ∃ (k : Nat) (f : Int),k ≤ l.length ∧ x = (f,(k : Int)) ∧ m = l.length - k ∧ (k = 0 → f = 0) ∧ (0 < k → ∃ j,j < k ∧ (Jn l j).Rl = f) ∧ ∀ j,j < k → f ≤ (Jn l j).Rl) (fun f => (l = [] → f = 0) ∧ (l ≠ [] → ∃ j,j < l.length ∧ (Jn l j).Rl = f) ∧ ∀ j,j < l.length → f ≤ (Jn l j).Rl) (fun m x => by
      rintro ⟨k,f,hk,rfl,rfl,h0,h1,h2⟩
      rcases Nat.lt_or_ge k l.length with hlt | hge
      · by_cases c : k = 0 ∨ (Jn l k).Rl < f
        · refine .inl ⟨l.length - (k + 1),((Jn l k).Rl,((k + 1 : Nat) : Int)),by omega,⟨k + 1,_,hlt,rfl,rfl,fun h => by omega,fun _ => ⟨k,by omega,rfl⟩,fun j hj => ?_⟩,fun K nx => ?_⟩
          · by_cases e : j = k
            · rw [e]; exact Int.le_refl _
            · have := h2 j (by omega)
              omega
          · rw [m76_L1,if_pos (by simp; omega)]
            unfold jn
            dsimp only
            by_cases c0 : (k : Int) = 0
            · rw [decide_eq_true c0,show (!true) = false from rfl,gdO_false,oB,Bool.true_or,if_pos rfl,Jn_get hlt,oB,letM_eq,wrap64 (by omega) (by omega)]
              rfl
            · rw [decide_eq_false c0,show (!false) = true from rfl,gdO_true,Jn_get hlt,oB,Bool.false_or,if_pos (decide_eq_true (by omega)),oB,letM_eq,wrap64 (by omega) (by omega)]
              rfl
        · refine .inl ⟨l.length - (k + 1),(f,((k + 1 : Nat) : Int)),by omega,⟨k + 1,f,hlt,rfl,rfl,fun h => by omega,fun _ => ?_,fun j hj => ?_⟩,fun K nx => ?_⟩
          · obtain ⟨j,hj,e⟩ := h1 (by omega)
            exact ⟨j,by omega,e⟩
          · by_cases e : j = k
            · rw [e]; omega
            · exact h2 j (by omega)
          · rw [m76_L1,if_pos (by simp; omega)]
            unfold jn
            dsimp only
            rw [decide_eq_false (show ¬ (k : Int) = 0 from by omega),show (!false) = true from rfl,gdO_true,Jn_get hlt,oB,Bool.false_or,if_neg (by simp; omega),letM_eq,wrap64 (by omega) (by omega)]
            rfl
      · have e : k = l.length := by omega
        subst e
        refine .inr ⟨f,⟨fun h => h0 (by rw [h]; rfl),fun h => h1 (List.length_pos_iff.2 h),h2⟩,fun K nx => ?_⟩
        rw [m76_L1,if_neg (by simp)]) n l.length _ ⟨0,0,Nat.zero_le _,rfl,rfl,fun _ => rfl,fun h => by omega,fun j hj => by omega⟩ (by omega)
  exact ⟨f,hK K,hf⟩
def moved (f : Int) (l : List R63) : List R63 := l.map fun y => R63.mk (y.Rl - f) y.Ln 0
theorem moved_at {f : Int} {l : List R63} {j : Nat} (hj : j < l.length) : Jn (moved f l) j = R63.mk ((Jn l j).Rl - f) (Jn l j).Ln 0 := by
  simp [Jn,moved,hj]
theorem m76_false {n : Nat} {l : List R63} (hb : bd l) (hp : ∀ y,y ∈ l → 1 ≤ y.Ln) (hsp : ∀ f,(∀ j,j < l.length → f ≤ (Jn l j).Rl) → (l ≠ [] → ∃ j,j < l.length ∧ (Jn l j).Rl = f) → ∀ j,j < l.length → (Jn l j).Rl - f ≤ 100000) (hl : l.length ≤ 12) (hn : 6000 < n) :
    ∃ o,m76 n l false = some (sumB l o) ∧ Runs l 0 (lens l) [] o ∧ o.length = l.length := by
  unfold m76 jn
  dsimp only
  obtain ⟨f,e,hf0,hf1,hf2⟩ := m76_first (n := n) (l := l) (by omega) (by omega) (fun p_20 => (if false = true then (loopM (m76_L10 n l fun p => some p) n ((0 : Int),false,(0 : Int))) else (loopM (m76_L15 n l p_20 fun p_422 => ((m88 n p_422.1).bind fun y_424 => ((m89 n p_422.2).bind fun y_425 => (loopM (m76_L16 n p_20 y_424 y_425 fun p => some p) n ((0 : Int),(0 : Int)))))) n ((0 : Int),([] : List R63),([] : List Int)))))
  have hfb : 0 ≤ f ∧ f ≤ 1000000 := by
    by_cases h : l = []
    · have := hf0 h; omega
    · obtain ⟨j,hj,ej⟩ := hf1 h
      have := hb _ (Jn_mem hj)
      omega
  have hsp' := hsp f hf2 hf1
  have hml : (moved f l).length = l.length := by simp [moved]
  have hmv : vld (moved f l) = true := by
    unfold vld
    rw [Bool.and_eq_true,decide_eq_true_eq,List.all_eq_true]
    refine ⟨by omega,fun x hx => ?_⟩
    obtain ⟨j,hj,rfl⟩ := List.getElem_of_mem hx
    rw [hml] at hj
    have e1 : (moved f l)[j] = Jn (moved f l) j := by simp [Jn,hml,hj]
    rw [e1,moved_at hj,okJ_iff]
    have h1 := hb _ (Jn_mem hj)
    have h2 := hp _ (Jn_mem hj)
    have h3 := hf2 j hj
    have h4 := hsp' j hj
    dsimp only
    omega
  obtain ⟨om,e33,hrm,hom⟩ := (m88_val (n := n) (l := moved f l) (by omega) (by rw [hml]; omega)).1 hmv
  have hlat : later f (moved f l) l := ⟨hml.symm,fun j hj => by rw [hml] at hj; rw [moved_at hj]; dsimp only; omega⟩
  have elens : lens (moved f l) = lens l := by simp [lens,moved]
  have hrun : Runs l 0 (lens l) [] (om.map (· + f)) := by
    have h1 := hrm.later hlat
    rw [elens] at h1
    refine Runs.ahead (c := 0 + f) (by omega) (fun j hj => by have := hf2 j hj; omega) (fun j hj => ?_) h1
    rw [lens_at hj]
    have := hp _ (Jn_mem hj)
    omega
  have hol : (om.map (· + f)).length = l.length := by rw [List.length_map,hom,hml]
  have hob := hrun.bd hb (WF.start hp) (fun x hx => absurd hx (by simp))
  have hobm := hrm.bd (bd_vld hmv).1 (WF.start (vld_pos' hmv)) (fun x hx => absurd hx (by simp))
  refine ⟨_,?_,hrun,hol⟩
  refine e.trans ?_
  rw [if_neg (by simp)]
  refine (loop_fold (S := List R63 × List Int) (fun i s => ((i : Int),s.1,s.2)) l.length (fun i s => (s.1 ++ [R63.mk ((Jn l i).Rl - f) (Jn l i).Ln 0],s.2 ++ [(Jn l i).Due])) (fun i s => s.1.length = i ∧ s.2.length = i) (fun p_422 => ((m88 n p_422.1).bind fun y_424 => ((m89 n p_422.2).bind fun y_425 => (loopM (m76_L16 n f y_424 y_425 fun p => some p) n ((0 : Int),(0 : Int)))))) ?_ ?_ (s0 := ([],[])) ⟨rfl,rfl⟩ (by omega)).trans ?_
  · rintro i ⟨s1,s2⟩ hi ⟨h1,h2⟩
    have hbi := hb _ (Jn_mem hi)
    dsimp only at h1 h2
    refine ⟨⟨by simp [h1],by simp [h2]⟩,fun nx => ?_⟩
    rw [m76_L15,if_pos (by simp; omega)]
    dsimp only
    rw [Jn_get hi,oB,oB,wrap64 (x := (Jn l i).Rl - f) (by omega) (by omega),apd_val (by simp; omega),oB,oB,apd_val (by simp; omega),oB,letM_eq,wrap64 (by omega) (by omega)]
    rfl
  · rintro ⟨s1,s2⟩ _ nx
    rw [m76_L15,if_neg (by simp)]
  · have hfold : ∀ k,k ≤ l.length → foldN (fun i (s : List R63 × List Int) => (s.1 ++ [R63.mk ((Jn l i).Rl - f) (Jn l i).Ln 0],s.2 ++ [(Jn l i).Due])) k ([],[]) = ((moved f l).take k,(dues l).take k) := by
      intro k
      induction k with
      | zero => intro _; simp [foldN]
      | succ k ih =>
        intro hk
        rw [foldN,ih (by omega),List.take_succ_eq_append_getElem (l := moved f l) (by omega),List.take_succ_eq_append_getElem (l := dues l) (by simp [dues]; omega)]
        simp [moved,dues,Jn,show k < l.length from by omega]
    rw [hfold _ (Nat.le_refl _),List.take_of_length_le (by omega),List.take_of_length_le (by simp [dues])]
    dsimp only
    rw [e33,oB,m89_val (by simp [dues]; omega) (by omega),oB]
    have dl := (ds_facts l hb).1
    refine sumB_loop hb (by omega) (by omega) (o := om.map (· + f)) (fun k hk => hob _ (getD_mem (by omega))) (fun p => some p) ?_ ?_
    · intro k s hk h1 h2 h3 h4 nx
      have hko : k < om.length := by rw [hom,hml]; exact hk
      have e1 : (om.map (· + f)).getD k 0 = om.getD k 0 + f := by
        rw [List.getD_eq_getElem?_getD,List.getElem?_map,List.getD_eq_getElem?_getD,List.getElem?_eq_getElem hko]; rfl
      have q1 := hobm _ (getD_mem hko)
      have q2 := (ds_facts l hb).2 k hk
      rw [e1] at h3 h4 ⊢
      rw [m76_L16,if_pos (by simp; omega)]
      dsimp only
      rw [get_getD (d := 0) hko,oB,get_getD (d := 0) (by omega),oB,wrap64 (x := om.getD k 0 + f) (by omega) (by omega),wrap64 (x := om.getD k 0 + f - _) (by omega) (by omega),iteMax,letM_eq,wrap64 (by omega) (by omega),letM_eq,wrap64 (by omega) (by omega)]
      rfl
    · intro s nx
      rw [m76_L16,if_neg (by simp; omega)]
theorem m70_val {n : Nat} {l : List R63} {d : List Int} {m : Bool} {b : Int} (hv : vld l = true) (hd : ordB l.length d = true) (hl : l.length ≤ 12) (hn : 6000 < n) : ∃ v,m70 n ⟨l,d,m,b⟩ = some v ∧ Prv l d m v := by
  have hb := (bd_vld hv).1
  obtain ⟨hnd,hin⟩ := ord_iff.1 hd
  have hdl := nodup_le _ _ hnd hin
  obtain ⟨r1,r2,r3,r4⟩ := rst_ok hv hin (by omega)
  have hvb := val_bd hb hin (by omega) m
  unfold m70
  dsimp only
  rw [m59_val (by omega) (by omega) (by omega) (by omega),if_pos hv,if_pos hd,oB]
  unfold jn
  dsimp only
  have hlast : ∀ (K : Int → Option Int),(if (decide ((0 : Int) < ((fin l 0 d).length : Int))) = true then ((getIdx (fin l 0 d) (IntKind.wrap .i64 (((fin l 0 d).length : Int) - (1 : Int)))).bind fun y_2 => (K y_2)) else (K (0 : Int))) = K (lastF l d) := by
    intro K
    unfold lastF
    rw [fin_len]
    by_cases h0 : d.length = 0
    · rw [if_neg (fun hh => by have := of_decide_eq_true hh; omega),if_pos h0]
    · rw [if_pos (decide_eq_true (by omega)),if_neg h0,wrap64 (by omega) (by omega),show (d.length : Int) - 1 = ((d.length - 1 : Nat) : Int) from by omega,get_getD (d := 0) (by rw [fin_len]; omega),oB]
  have hrest : ∀ (K : List R63 → Option Int),loopM (m70_L1 n ⟨l,d,m,b⟩ (lastF l d) K) n ((0 : Int),([] : List R63)) = K (rst l d) := by
    intro K
    refine (loop_fold (S := List R63) (fun i s => ((i : Int),s)) l.length (rstS l d (lastF l d)) (fun i s => s.length ≤ i) K ?_ ?_ (s0 := []) (by simp) (by omega)).trans rfl
    · intro i s hi hs
      refine ⟨?_,fun nx => ?_⟩
      · unfold rstS; split
        · omega
        · simp; omega
      · rw [m70_L1,if_pos (by simp; omega)]
        unfold jn rstS
        dsimp only
        rw [Jn_get hi,oB,m58_val (by omega) (by omega),oB]
        by_cases hm : (i : Int) ∈ d
        · rw [decide_eq_true hm,if_neg (by simp),if_pos hm,letM_eq,wrap64 (by omega) (by omega)]
          rfl
        · rw [decide_eq_false hm,if_pos (show (!false) = true from rfl),if_neg hm,iteMax,apd_val (by simp; omega),oB,letM_eq,wrap64 (by omega) (by omega)]
          rfl
    · intro s _ nx
      rw [m70_L1,if_neg (by simp)]
  have e71 : m76 n (rst l d) true = some (par (rst l d) 1) := by
    unfold m76 jn
    dsimp only
    obtain ⟨f,e,_⟩ := m76_first (n := n) (l := rst l d) (by omega) (by omega) (fun p_20 => (if true = true then (loopM (m76_L10 n (rst l d) fun p => some p) n ((0 : Int),false,(0 : Int))) else (loopM (m76_L15 n (rst l d) p_20 fun p_422 => ((m88 n p_422.1).bind fun y_424 => ((m89 n p_422.2).bind fun y_425 => (loopM (m76_L16 n p_20 y_424 y_425 fun p => some p) n ((0 : Int),(0 : Int)))))) n ((0 : Int),([] : List R63),([] : List Int)))))
    refine e.trans ?_
    rw [if_pos rfl,m76_true r1 (by omega) (by omega)]
  have key : ∃ v,(fun p_27 : List R63 => (if (!m) = true then ((m37 n l d).bind fun y_29 => ((m76 n p_27 false).bind fun y_30 => (letM ((IntKind.wrap .i64 (y_29.1 + y_30))) fun t2_31 => (some t2_31)))) else ((m38 n l d).bind fun y_32 => (if (decide ((p_27.length : Int) = (0 : Int))) = true then (some y_32.1) else (if (decide ((d.length : Int) = (0 : Int))) = true then ((m76 n p_27 true).bind fun y_33 => (some y_33)) else ((m76 n p_27 true).bind fun y_34 => (letM ((if y_34 > y_32.1 then y_34 else y_32.1)) fun t2_35 => (some t2_35)))))))) (rst l d) = some v ∧ Prv l d m v := by
    dsimp only
    unfold Prv
    cases m with
    | false =>
      obtain ⟨o,e,hr,hol⟩ := m76_false (n := n) r1 r2 (fun f hf hex j hj => by
        have h1 := (r4 _ (Jn_mem hj)).2
        have h2 := hf j hj
        by_cases hne : rst l d = []
        · rw [hne] at hj; simp at hj
        · obtain ⟨j0,hj0,e0⟩ := hex hne
          have h3 := (r4 _ (Jn_mem hj0)).1
          have h4 := lastF_bd hv hin (by omega)
          omega) (by omega) (by omega)
      have hob := hr.bd r1 (WF.start r2) (fun x hx => absurd hx (by simp))
      have hsb := sumB_bd r1 (by omega) hol hob
      refine ⟨_,?_,(if_neg (show ¬ false = true from by simp)).mpr ⟨o,hr,hol,rfl⟩⟩
      rw [if_pos (show (!false) = true from rfl),m37_val (by omega) (by omega) (by omega) (by omega),if_pos hv,if_pos hd,oB,e,oB,letM_eq,wrap64 (by dsimp only; omega) (by dsimp only; omega)]
    | true =>
      rw [if_neg (show ¬ (!true) = true from by simp),m38_val (by omega) (by omega) (by omega) (by omega),if_pos hv,if_pos hd,oB]
      by_cases h0 : rst l d = []
      · refine ⟨_,?_,(if_pos (show true = true from rfl)).mpr (if_pos h0).symm⟩
        rw [h0]
        rfl
      · have h0' : ¬ ((rst l d).length : Int) = 0 := fun hh => h0 (List.eq_nil_of_length_eq_zero (by omega))
        rw [if_neg (by simpa using h0'),e71]
        by_cases h1 : d = []
        · refine ⟨par (rst l d) 1,?_,(if_pos (show true = true from rfl)).mpr ?_⟩
          · rw [if_pos (by rw [h1]; rfl)]; rfl
          · rw [if_neg h0,if_pos h1]
        · have h1' : ¬ (d.length : Int) = 0 := fun hh => h1 (List.eq_nil_of_length_eq_zero (by omega))
          refine ⟨max (val l d true) (par (rst l d) 1),?_,(if_pos (show true = true from rfl)).mpr ?_⟩
          · rw [if_neg (by simpa using h1'),oB,letM_eq,iteMax]
          · rw [if_neg h0,if_neg h1]
  obtain ⟨v,e,hp⟩ := key
  refine ⟨v,?_,hp⟩
  refine (hlast _).trans ?_
  refine (hrest _).trans ?_
  exact e
theorem leaf_same {n : Nat} {l : List R63} {d a : List Int} {m : Bool} {b : Int} (hl : l.length ≤ 12) (hd : d.length ≤ 1000) (hn : 6000 < n) : ∃ r,m30 n ⟨l,d,m,b⟩ a = some r ∧ m55 n ⟨l,d,m,b⟩ a = some r := by
  unfold m30 m55
  dsimp only
  rw [m31_val (by omega) hd (by omega),oB]
  by_cases h0 : (a.length : Int) = 0
  · rw [decide_eq_true h0,gdO_true,m27_val hd (by omega),oB]
    by_cases hp : possB l d b = true
    · obtain ⟨hv,hlp,ho⟩ := poss_iff hp
      obtain ⟨v,e1,p1⟩ := m42_val (n := n) (b := b) (m := m) hv ho hl hn
      obtain ⟨w,e2,p2⟩ := m70_val (n := n) (b := b) (m := m) hv ho hl hn
      rw [hp,show (true && true) = true from rfl,gdO_true,e1,oB,gdO_true,e2,oB,p1.uniq p2]
      exact ⟨_,rfl,rfl⟩
    · rw [(Bool.not_eq_true _).mp hp]
      exact ⟨_,rfl,rfl⟩
  · rw [decide_eq_false h0]
    refine ⟨false,rfl,?_⟩
    rw [Bool.and_false,gdO_false,oB]
    rfl
end Go.AB

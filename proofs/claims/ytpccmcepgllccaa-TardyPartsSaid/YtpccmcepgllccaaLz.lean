import Derived.Test.YtpccmcepgllccaaLy
set_option linter.unusedVariables false
namespace Go.AB
open Go
theorem m71_true {n : Nat} {l : List R38} (hb : bd l) (hl : l.length ≤ 1000) (hn : 1000 < n) (K : Int → Option Int) : loopM (m71_L10 n l K) n ((0 : Int),false,(0 : Int)) = K (par l 1) := by
  refine (loop_fold (S := Int × Bool) (fun i s => (s.1,s.2,(i : Int))) l.length (fun i s => foldN (fun k s => parStep l 1 i k s) l.length s) (fun i s => True) (fun s => K s.1) ?_ ?_ (s0 := (0,false)) trivial (by omega)).trans rfl
  · rintro i ⟨best,some_⟩ hi _
    refine ⟨trivial,fun nx => ?_⟩
    rw [m71_L10,if_pos (by simp; omega)]
    unfold jn
    dsimp only
    refine (loop_fold (S := Int × Bool) (fun k s => (s.1,s.2,(k : Int))) l.length (fun k s => parStep l 1 i k s) (fun k s => True) (fun s => letM (IntKind.wrap .i64 ((i : Int) + 1)) fun t => nx (s.1,s.2,t)) ?_ ?_ (s0 := (best,some_)) trivial (by omega)).trans ?_
    · rintro k ⟨best',some_'⟩ hk _
      refine ⟨trivial,fun nx => ?_⟩
      rw [m71_L13,if_pos (by simp; omega)]
      unfold jn
      dsimp only
      have hs := spanSum_bd hb i k
      have h3 := hb _ (Jn_mem hi)
      have h4 := hb _ (Jn_mem hk)
      have hB := spanBd_bd hb (m := 1) (by omega) hi hk
      have eB : (Jn l i).Release + spanSum l i k - (Jn l k).Due = spanBd l 1 i k := by
        unfold spanBd
        rw [show spanSum l i k + 1 - 1 = spanSum l i k from by omega,Int.tdiv_one]
      refine (loop_fold (S := Int) (fun j s => (s,(j : Int))) l.length (fun j s => s + (if within l i k j = true then (Jn l j).Length else 0)) (fun j s => 0 ≤ s ∧ s ≤ 10000 * (j : Int)) (fun p_387 => ((getIdx l (i : Int)).bind fun y_389 => ((getIdx l (k : Int)).bind fun y_390 => (letM ((IntKind.wrap .i64 ((IntKind.wrap .i64 (y_389.Release + p_387)) - y_390.Due))) fun t13_391 => if ((decide ((0 : Int) < p_387)) && ((!some_') || (decide (best' < t13_391)))) = true then letM (IntKind.wrap .i64 ((k : Int) + 1)) fun t => nx (t13_391,true,t) else letM (IntKind.wrap .i64 ((k : Int) + 1)) fun t => nx (best',some_',t))))) ?_ ?_ (s0 := 0) ⟨by omega,by omega⟩ (by omega)).trans ?_
      · rintro j s hj ⟨s0,s1⟩
        have h5 := hb _ (Jn_mem hj)
        refine ⟨by split <;> omega,fun nx => ?_⟩
        rw [m71_L14,if_pos (by simp; omega)]
        dsimp only
        rw [Jn_get hj,Option.bind_some,Jn_get hi,Option.bind_some]
        unfold jn
        dsimp only
        by_cases w1 : (Jn l i).Release ≤ (Jn l j).Release
        · rw [decide_eq_true w1,gdO_true,Option.bind_some,gdO_true,Jn_get hk,Option.bind_some,Bool.true_and,Option.bind_some]
          by_cases w2 : (Jn l j).Due ≤ (Jn l k).Due
          · have hw : within l i k j = true := by unfold within; rw [decide_eq_true w1,decide_eq_true w2]; rfl
            rw [if_pos (decide_eq_true w2),if_pos hw,letM_eq,wrap64 (by omega) (by omega),letM_eq,wrap64 (by omega) (by omega)]
            rfl
          · have hw : ¬ within l i k j = true := by unfold within; rw [decide_eq_true w1,decide_eq_false w2]; simp
            rw [if_neg (by simpa using w2),if_neg hw,letM_eq,wrap64 (by omega) (by omega),Int.add_zero]
            rfl
        · have hw : ¬ within l i k j = true := by unfold within; rw [decide_eq_false w1]; simp
          rw [decide_eq_false w1,gdO_false,Option.bind_some,gdO_false,Option.bind_some,Bool.false_and,if_neg (by simp),if_neg hw,letM_eq,wrap64 (by omega) (by omega),Int.add_zero]
          rfl
      · rintro s _ nx
        rw [m71_L14,if_neg (by simp)]
      · rw [sumN_fold]
        rw [show sumN (fun j => if within l i k j = true then (Jn l j).Length else 0) l.length = spanSum l i k from rfl]
        rw [Jn_get hi,Option.bind_some,Jn_get hk,Option.bind_some,wrap64 (x := (Jn l i).Release + spanSum l i k) (by omega) (by omega),eB,wrap64 (x := spanBd l 1 i k) (by omega) (by omega),letM_eq,letM_eq,letM_eq,wrap64 (x := (k : Int) + 1) (by omega) (by omega)]
        unfold parStep
        by_cases c : 0 < spanSum l i k ∧ (some_' = false ∨ best' < spanBd l 1 i k)
        · rw [if_pos c,if_pos (by simpa using c)]
          rfl
        · rw [if_neg c,if_neg (by simpa using c)]
          rfl
    · rintro ⟨best,some_⟩ _ nx
      rw [m71_L13,if_neg (by simp)]
    · rw [letM_eq,wrap64 (by omega) (by omega)]
      rfl
  · rintro ⟨best,some_⟩ _ nx
    rw [m71_L10,if_neg (by simp)]
theorem m71_first {n : Nat} {l : List R38} (hl : l.length ≤ 1000) (hn : 1000 < n) (K : Int → Option Int) : ∃ f,loopM (m71_L1 n l K) n ((0 : Int),(0 : Int)) = K f ∧ (l = [] → f = 0) ∧ (l ≠ [] → ∃ j,j < l.length ∧ (Jn l j).Release = f) ∧ ∀ j,j < l.length → f ≤ (Jn l j).Release := by
  obtain ⟨f,hf,hK⟩ := loopM_indK (R := Int) (body := m71_L1 n l) (fun m x => ∃ (k : Nat) (f : Int),k ≤ l.length ∧ x = (f,(k : Int)) ∧ m = l.length - k ∧ (k = 0 → f = 0) ∧ (0 < k → ∃ j,j < k ∧ (Jn l j).Release = f) ∧ ∀ j,j < k → f ≤ (Jn l j).Release) (fun f => (l = [] → f = 0) ∧ (l ≠ [] → ∃ j,j < l.length ∧ (Jn l j).Release = f) ∧ ∀ j,j < l.length → f ≤ (Jn l j).Release) (fun m x => by
      rintro ⟨k,f,hk,rfl,rfl,h0,h1,h2⟩
      rcases Nat.lt_or_ge k l.length with hlt | hge
      · by_cases c : k = 0 ∨ (Jn l k).Release < f
        · refine .inl ⟨l.length - (k + 1),((Jn l k).Release,((k + 1 : Nat) : Int)),by omega,⟨k + 1,_,hlt,rfl,rfl,fun h => by omega,fun _ => ⟨k,by omega,rfl⟩,fun j hj => ?_⟩,fun K nx => ?_⟩
          · by_cases e : j = k
            · rw [e]; exact Int.le_refl _
            · have := h2 j (by omega)
              omega
          · rw [m71_L1,if_pos (by simp; omega)]
            unfold jn
            dsimp only
            by_cases c0 : (k : Int) = 0
            · rw [decide_eq_true c0,show (!true) = false from rfl,gdO_false,Option.bind_some,Bool.true_or,if_pos rfl,Jn_get hlt,Option.bind_some,letM_eq,wrap64 (by omega) (by omega)]
              rfl
            · rw [decide_eq_false c0,show (!false) = true from rfl,gdO_true,Jn_get hlt,Option.bind_some,Bool.false_or,if_pos (decide_eq_true (by omega)),Option.bind_some,letM_eq,wrap64 (by omega) (by omega)]
              rfl
        · refine .inl ⟨l.length - (k + 1),(f,((k + 1 : Nat) : Int)),by omega,⟨k + 1,f,hlt,rfl,rfl,fun h => by omega,fun _ => ?_,fun j hj => ?_⟩,fun K nx => ?_⟩
          · obtain ⟨j,hj,e⟩ := h1 (by omega)
            exact ⟨j,by omega,e⟩
          · by_cases e : j = k
            · rw [e]; omega
            · exact h2 j (by omega)
          · rw [m71_L1,if_pos (by simp; omega)]
            unfold jn
            dsimp only
            rw [decide_eq_false (show ¬ (k : Int) = 0 from by omega),show (!false) = true from rfl,gdO_true,Jn_get hlt,Option.bind_some,Bool.false_or,if_neg (by simp; omega),letM_eq,wrap64 (by omega) (by omega)]
            rfl
      · have e : k = l.length := by omega
        subst e
        refine .inr ⟨f,⟨fun h => h0 (by rw [h]; rfl),fun h => h1 (List.length_pos_iff.2 h),h2⟩,fun K nx => ?_⟩
        rw [m71_L1,if_neg (by simp)]) n l.length _ ⟨0,0,Nat.zero_le _,rfl,rfl,fun _ => rfl,fun h => by omega,fun j hj => by omega⟩ (by omega)
  exact ⟨f,hK K,hf⟩
def moved (f : Int) (l : List R38) : List R38 := l.map fun y => R38.mk (y.Release - f) y.Length 0
theorem moved_at {f : Int} {l : List R38} {j : Nat} (hj : j < l.length) : Jn (moved f l) j = R38.mk ((Jn l j).Release - f) (Jn l j).Length 0 := by
  simp [Jn,moved,hj]
theorem m71_false {n : Nat} {l : List R38} (hb : bd l) (hp : ∀ y,y ∈ l → 1 ≤ y.Length) (hsp : ∀ f,(∀ j,j < l.length → f ≤ (Jn l j).Release) → (l ≠ [] → ∃ j,j < l.length ∧ (Jn l j).Release = f) → ∀ j,j < l.length → (Jn l j).Release - f ≤ 100000) (hl : l.length ≤ 12) (hn : 6000 < n) :
    ∃ o,m71 n l false = some (sumB l o) ∧ Runs l 0 (lens l) [] o ∧ o.length = l.length := by
  unfold m71 jn
  dsimp only
  obtain ⟨f,e,hf0,hf1,hf2⟩ := m71_first (n := n) (l := l) (by omega) (by omega) (fun p_20 => (if false = true then (loopM (m71_L10 n l fun p => some p) n ((0 : Int),false,(0 : Int))) else (loopM (m71_L15 n l p_20 fun p_422 => ((m33 n p_422.1).bind fun y_424 => ((m51 n p_422.2).bind fun y_425 => (loopM (m71_L16 n p_20 y_424 y_425 fun p => some p) n ((0 : Int),(0 : Int)))))) n ((0 : Int),([] : List R38),([] : List Int)))))
  have hfb : 0 ≤ f ∧ f ≤ 1000000 := by
    by_cases h : l = []
    · have := hf0 h; omega
    · obtain ⟨j,hj,ej⟩ := hf1 h
      have := hb _ (Jn_mem hj)
      omega
  have hsp' := hsp f hf2 hf1
  have hml : (moved f l).length = l.length := by simp [moved]
  have hmv : vld (moved f l) = true := by
    unfold vld
    rw [Bool.and_eq_true,decide_eq_true_eq,List.all_eq_true]
    refine ⟨by omega,fun x hx => ?_⟩
    obtain ⟨j,hj,rfl⟩ := List.getElem_of_mem hx
    rw [hml] at hj
    have e1 : (moved f l)[j] = Jn (moved f l) j := by simp [Jn,hml,hj]
    rw [e1,moved_at hj,okJ_iff]
    have h1 := hb _ (Jn_mem hj)
    have h2 := hp _ (Jn_mem hj)
    have h3 := hf2 j hj
    have h4 := hsp' j hj
    dsimp only
    omega
  obtain ⟨om,e33,hrm,hom⟩ := (m33_val (n := n) (l := moved f l) (by omega) (by rw [hml]; omega)).1 hmv
  have hlat : later f (moved f l) l := ⟨hml.symm,fun j hj => by rw [hml] at hj; rw [moved_at hj]; dsimp only; omega⟩
  have elens : lens (moved f l) = lens l := by simp [lens,moved]
  have hrun : Runs l 0 (lens l) [] (om.map (· + f)) := by
    have h1 := hrm.later hlat
    rw [elens] at h1
    refine Runs.ahead (c := 0 + f) (by omega) (fun j hj => by have := hf2 j hj; omega) (fun j hj => ?_) h1
    rw [lens_at hj]
    have := hp _ (Jn_mem hj)
    omega
  have hol : (om.map (· + f)).length = l.length := by rw [List.length_map,hom,hml]
  have hob := hrun.bd hb (WF.start hp) (fun x hx => absurd hx (by simp))
  have hobm := hrm.bd (bd_vld hmv).1 (WF.start (vld_pos' hmv)) (fun x hx => absurd hx (by simp))
  refine ⟨_,?_,hrun,hol⟩
  refine e.trans ?_
  rw [if_neg (by simp)]
  refine (loop_fold (S := List R38 × List Int) (fun i s => ((i : Int),s.1,s.2)) l.length (fun i s => (s.1 ++ [R38.mk ((Jn l i).Release - f) (Jn l i).Length 0],s.2 ++ [(Jn l i).Due])) (fun i s => s.1.length = i ∧ s.2.length = i) (fun p_422 => ((m33 n p_422.1).bind fun y_424 => ((m51 n p_422.2).bind fun y_425 => (loopM (m71_L16 n f y_424 y_425 fun p => some p) n ((0 : Int),(0 : Int)))))) ?_ ?_ (s0 := ([],[])) ⟨rfl,rfl⟩ (by omega)).trans ?_
  · rintro i ⟨s1,s2⟩ hi ⟨h1,h2⟩
    have hbi := hb _ (Jn_mem hi)
    dsimp only at h1 h2
    refine ⟨⟨by simp [h1],by simp [h2]⟩,fun nx => ?_⟩
    rw [m71_L15,if_pos (by simp; omega)]
    dsimp only
    rw [Jn_get hi,Option.bind_some,Option.bind_some,wrap64 (x := (Jn l i).Release - f) (by omega) (by omega),apd_val (by simp; omega),Option.bind_some,Option.bind_some,apd_val (by simp; omega),Option.bind_some,letM_eq,wrap64 (by omega) (by omega)]
    rfl
  · rintro ⟨s1,s2⟩ _ nx
    rw [m71_L15,if_neg (by simp)]
  · have hfold : ∀ k,k ≤ l.length → foldN (fun i (s : List R38 × List Int) => (s.1 ++ [R38.mk ((Jn l i).Release - f) (Jn l i).Length 0],s.2 ++ [(Jn l i).Due])) k ([],[]) = ((moved f l).take k,(dues l).take k) := by
      intro k
      induction k with
      | zero => intro _; simp [foldN]
      | succ k ih =>
        intro hk
        rw [foldN,ih (by omega),List.take_succ_eq_append_getElem (l := moved f l) (by omega),List.take_succ_eq_append_getElem (l := dues l) (by simp [dues]; omega)]
        simp [moved,dues,Jn,show k < l.length from by omega]
    rw [hfold _ (Nat.le_refl _),List.take_of_length_le (by omega),List.take_of_length_le (by simp [dues])]
    dsimp only
    rw [e33,Option.bind_some,m51_val (by simp [dues]; omega) (by omega),Option.bind_some]
    have dl := (ds_facts l hb).1
    refine sumB_loop hb (by omega) (by omega) (o := om.map (· + f)) (fun k hk => hob _ (getD_mem (by omega))) (fun p => some p) ?_ ?_
    · intro k s hk h1 h2 h3 h4 nx
      have hko : k < om.length := by rw [hom,hml]; exact hk
      have e1 : (om.map (· + f)).getD k 0 = om.getD k 0 + f := by
        rw [List.getD_eq_getElem?_getD,List.getElem?_map,List.getD_eq_getElem?_getD,List.getElem?_eq_getElem hko]; rfl
      have q1 := hobm _ (getD_mem hko)
      have q2 := (ds_facts l hb).2 k hk
      rw [e1] at h3 h4 ⊢
      rw [m71_L16,if_pos (by simp; omega)]
      dsimp only
      rw [get_getD (d := 0) hko,Option.bind_some,get_getD (d := 0) (by omega),Option.bind_some,wrap64 (x := om.getD k 0 + f) (by omega) (by omega),wrap64 (x := om.getD k 0 + f - _) (by omega) (by omega),iteMax,letM_eq,wrap64 (by omega) (by omega),letM_eq,wrap64 (by omega) (by omega)]
      rfl
    · intro s nx
      rw [m71_L16,if_neg (by simp; omega)]
theorem m57_val {n : Nat} {l : List R38} {d : List Int} {m : Bool} {b : Int} (hv : vld l = true) (hd : ordB l.length d = true) (hl : l.length ≤ 12) (hn : 6000 < n) : ∃ v,m57 n ⟨l,d,m,b⟩ = some v ∧ Prv l d m v := by
  have hb := (bd_vld hv).1
  obtain ⟨hnd,hin⟩ := ord_iff.1 hd
  have hdl := nodup_le _ _ hnd hin
  obtain ⟨r1,r2,r3,r4⟩ := rst_ok hv hin (by omega)
  have hvb := val_bd hb hin (by omega) m
  unfold m57
  dsimp only
  rw [m23_val (by omega) (by omega) (by omega) (by omega),if_pos hv,if_pos hd,Option.bind_some]
  unfold jn
  dsimp only
  have hlast : ∀ (K : Int → Option Int),(if (decide ((0 : Int) < ((fin l 0 d).length : Int))) = true then ((getIdx (fin l 0 d) (IntKind.wrap .i64 (((fin l 0 d).length : Int) - (1 : Int)))).bind fun y_2 => (K y_2)) else (K (0 : Int))) = K (lastF l d) := by
    intro K
    unfold lastF
    rw [fin_len]
    by_cases h0 : d.length = 0
    · rw [if_neg (fun hh => by have := of_decide_eq_true hh; omega),if_pos h0]
    · rw [if_pos (decide_eq_true (by omega)),if_neg h0,wrap64 (by omega) (by omega),show (d.length : Int) - 1 = ((d.length - 1 : Nat) : Int) from by omega,get_getD (d := 0) (by rw [fin_len]; omega),Option.bind_some]
  have hrest : ∀ (K : List R38 → Option Int),loopM (m57_L1 n ⟨l,d,m,b⟩ (lastF l d) K) n ((0 : Int),([] : List R38)) = K (rst l d) := by
    intro K
    refine (loop_fold (S := List R38) (fun i s => ((i : Int),s)) l.length (rstS l d (lastF l d)) (fun i s => s.length ≤ i) K ?_ ?_ (s0 := []) (by simp) (by omega)).trans rfl
    · intro i s hi hs
      refine ⟨?_,fun nx => ?_⟩
      · unfold rstS; split
        · omega
        · simp; omega
      · rw [m57_L1,if_pos (by simp; omega)]
        unfold jn rstS
        dsimp only
        rw [Jn_get hi,Option.bind_some,m41_val (by omega) (by omega),Option.bind_some]
        by_cases hm : (i : Int) ∈ d
        · rw [decide_eq_true hm,if_neg (by simp),if_pos hm,letM_eq,wrap64 (by omega) (by omega)]
          rfl
        · rw [decide_eq_false hm,if_pos (show (!false) = true from rfl),if_neg hm,iteMax,apd_val (by simp; omega),Option.bind_some,letM_eq,wrap64 (by omega) (by omega)]
          rfl
    · intro s _ nx
      rw [m57_L1,if_neg (by simp)]
  have e71 : m71 n (rst l d) true = some (par (rst l d) 1) := by
    unfold m71 jn
    dsimp only
    obtain ⟨f,e,_⟩ := m71_first (n := n) (l := rst l d) (by omega) (by omega) (fun p_20 => (if true = true then (loopM (m71_L10 n (rst l d) fun p => some p) n ((0 : Int),false,(0 : Int))) else (loopM (m71_L15 n (rst l d) p_20 fun p_422 => ((m33 n p_422.1).bind fun y_424 => ((m51 n p_422.2).bind fun y_425 => (loopM (m71_L16 n p_20 y_424 y_425 fun p => some p) n ((0 : Int),(0 : Int)))))) n ((0 : Int),([] : List R38),([] : List Int)))))
    refine e.trans ?_
    rw [if_pos rfl,m71_true r1 (by omega) (by omega)]
  have key : ∃ v,(fun p_27 : List R38 => (if (!m) = true then ((m27 n l d).bind fun y_29 => ((m71 n p_27 false).bind fun y_30 => (letM ((IntKind.wrap .i64 (y_29.1 + y_30))) fun t2_31 => (some t2_31)))) else ((m25 n l d).bind fun y_32 => (if (decide ((p_27.length : Int) = (0 : Int))) = true then (some y_32.1) else (if (decide ((d.length : Int) = (0 : Int))) = true then ((m71 n p_27 true).bind fun y_33 => (some y_33)) else ((m71 n p_27 true).bind fun y_34 => (letM ((if y_34 > y_32.1 then y_34 else y_32.1)) fun t2_35 => (some t2_35)))))))) (rst l d) = some v ∧ Prv l d m v := by
    dsimp only
    unfold Prv
    cases m with
    | false =>
      obtain ⟨o,e,hr,hol⟩ := m71_false (n := n) r1 r2 (fun f hf hex j hj => by
        have h1 := (r4 _ (Jn_mem hj)).2
        have h2 := hf j hj
        by_cases hne : rst l d = []
        · rw [hne] at hj; simp at hj
        · obtain ⟨j0,hj0,e0⟩ := hex hne
          have h3 := (r4 _ (Jn_mem hj0)).1
          have h4 := lastF_bd hv hin (by omega)
          omega) (by omega) (by omega)
      have hob := hr.bd r1 (WF.start r2) (fun x hx => absurd hx (by simp))
      have hsb := sumB_bd r1 (by omega) hol hob
      refine ⟨_,?_,(if_neg (show ¬ false = true from by simp)).mpr ⟨o,hr,hol,rfl⟩⟩
      rw [if_pos (show (!false) = true from rfl),m27_val (by omega) (by omega) (by omega) (by omega),if_pos hv,if_pos hd,Option.bind_some,e,Option.bind_some,letM_eq,wrap64 (by dsimp only; omega) (by dsimp only; omega)]
    | true =>
      rw [if_neg (show ¬ (!true) = true from by simp),m25_val (by omega) (by omega) (by omega) (by omega),if_pos hv,if_pos hd,Option.bind_some]
      by_cases h0 : rst l d = []
      · refine ⟨_,?_,(if_pos (show true = true from rfl)).mpr (if_pos h0).symm⟩
        rw [h0]
        rfl
      · have h0' : ¬ ((rst l d).length : Int) = 0 := fun hh => h0 (List.eq_nil_of_length_eq_zero (by omega))
        rw [if_neg (by simpa using h0'),e71]
        by_cases h1 : d = []
        · refine ⟨par (rst l d) 1,?_,(if_pos (show true = true from rfl)).mpr ?_⟩
          · rw [if_pos (by rw [h1]; rfl)]; rfl
          · rw [if_neg h0,if_pos h1]
        · have h1' : ¬ (d.length : Int) = 0 := fun hh => h1 (List.eq_nil_of_length_eq_zero (by omega))
          refine ⟨max (val l d true) (par (rst l d) 1),?_,(if_pos (show true = true from rfl)).mpr ?_⟩
          · rw [if_neg (by simpa using h1'),Option.bind_some,letM_eq,iteMax]
          · rw [if_neg h0,if_neg h1]
  obtain ⟨v,e,hp⟩ := key
  refine ⟨v,?_,hp⟩
  refine (hlast _).trans ?_
  refine (hrest _).trans ?_
  exact e
theorem leaf_same {n : Nat} {l : List R38} {d a : List Int} {m : Bool} {b : Int} (hl : l.length ≤ 12) (hd : d.length ≤ 1000) (hn : 6000 < n) : ∃ r,m38 n ⟨l,d,m,b⟩ a = some r ∧ m39 n ⟨l,d,m,b⟩ a = some r := by
  unfold m38 m39
  dsimp only
  rw [m55_val (by omega) hd (by omega),Option.bind_some]
  by_cases h0 : (a.length : Int) = 0
  · rw [decide_eq_true h0,gdO_true,m52_val hd (by omega),Option.bind_some]
    by_cases hp : possB l d b = true
    · obtain ⟨hv,hlp,ho⟩ := poss_iff hp
      obtain ⟨v,e1,p1⟩ := m56_val (n := n) (b := b) (m := m) hv ho hl hn
      obtain ⟨w,e2,p2⟩ := m57_val (n := n) (b := b) (m := m) hv ho hl hn
      rw [hp,show (true && true) = true from rfl,gdO_true,e1,Option.bind_some,gdO_true,e2,Option.bind_some,p1.uniq p2]
      exact ⟨_,rfl,rfl⟩
    · rw [(Bool.not_eq_true _).mp hp]
      exact ⟨_,rfl,rfl⟩
  · rw [decide_eq_false h0]
    refine ⟨false,rfl,?_⟩
    rw [Bool.and_false,gdO_false,Option.bind_some]
    rfl
theorem m9_loop {n : Nat} {ks : List R59} {w1 w2 : Bool} (hk : ks.length ≤ 1000) (hd : ∀ x,x ∈ ks → x.Done.length ≤ 1000) (hn : 6000 < n) : loopM (m9_L1 n (ks.map cv,w1) (ks,w2) fun _ => some true) n (0 : Int) = some true := by
  refine loopM_ind (fun m x => ∃ j : Nat,j ≤ ks.length ∧ x = (j : Int) ∧ m = ks.length - j) (fun r => r = some true) ?_ n ks.length _ ⟨0,Nat.zero_le _,rfl,rfl⟩ (by omega)
  rintro m x ⟨j,hj,rfl,rfl⟩
  rcases Nat.lt_or_ge j ks.length with h1 | h1
  · refine .inl ⟨ks.length - (j + 1),((j + 1 : Nat) : Int),by omega,⟨j + 1,h1,rfl,rfl⟩,fun nx => ?_⟩
    have hdj := hd _ (List.getElem_mem h1)
    have g1 : getIdx (ks.map cv) (j : Int) = some (cv ks[j]) := getIdx_q rfl (by rw [List.getElem?_map,List.getElem?_eq_getElem h1]; rfl)
    have g2 : getIdx ks (j : Int) = some ks[j] := getIdx_at rfl h1
    rw [m9_L1,if_pos (by simp; omega)]
    dsimp only
    rw [g1,Option.bind_some,g2,Option.bind_some]
    rw [show m19 n (cv ks[j]).Done ks[j].Done = some true from m19_self (l := ks[j].Done) (by omega) (by omega),Option.bind_some,show (!(!true)) = true from rfl,gdO_true,Option.bind_some,gdO_true,Option.bind_some]
    rw [show (cv ks[j]).Most = ks[j].Most from rfl,show (!((!true) || (ks[j].Most != ks[j].Most))) = true from by simp,gdO_true,Option.bind_some,gdO_true,Option.bind_some]
    rw [show (cv ks[j]).Bound = ks[j].Bound from rfl,show (!(((!true) || (ks[j].Most != ks[j].Most)) || (!decide (ks[j].Bound = ks[j].Bound)))) = true from by simp,gdO_true,Option.bind_some,gdO_true,Option.bind_some]
    rw [show (cv ks[j]).Jobs = ks[j].Jobs from rfl,if_neg (by simp),letM_eq,wrap64 (by omega) (by omega)]
    rfl
  · have : j = ks.length := by omega
    subst this
    refine .inr ⟨_,rfl,fun nx => ?_⟩
    rw [m9_L1,if_neg (by simp)]
theorem m9_gen {n : Nat} {l : List R38} {d : List Int} {m : Bool} {b at_ : Int} {a : List Int} (h10 : m10 n = some true) (hn : 6000 < n) : m9 n ⟨l,d,m,b⟩ at_ a = some true := by
  unfold m9
  dsimp only
  rw [h10,Option.bind_some,show (!(!true)) = true from rfl,gdO_true,m11,Option.bind_some]
  by_cases hl : l.length ≤ 10
  · by_cases hd : d.length ≤ 12
    · by_cases ha : a.length ≤ 5
      · rw [decide_eq_true (show (l.length : Int) ≤ 10 from by omega),decide_eq_false (show ¬ (12 : Int) < (d.length : Int) from by omega),decide_eq_false (show ¬ (5 : Int) < (a.length : Int) from by omega),if_neg (by simp)]
        have e36 : m36 n ⟨l,d,m,b⟩ = some ⟨l,d,m,b⟩ := by
          unfold m36
          dsimp only
          rw [m13_val (by omega) (by omega)]
          rfl
        obtain ⟨r1,f1,f2⟩ := leaf_same (n := n) (l := l) (d := d) (a := a) (m := m) (b := b) (by omega) (by omega) hn
        obtain ⟨r2,f3,f4⟩ := leaf_same (n := n) (l := l) (d := d) (a := []) (m := m) (b := b) (by omega) (by omega) hn
        rw [e36,Option.bind_some]
        dsimp only
        rw [m35_val (by omega) (by omega) (by omega),Option.bind_some,m37_val (by omega) (by omega) (by omega),Option.bind_some]
        by_cases c : at_ = 0 ∧ possB l d b = true ∧ d.length ≠ l.length
        · rw [if_pos c,if_pos c]
          have kf := kids_facts l d m b l.length
          rw [show (!(((((kids l d m b).map cv,true) : List R64 × Bool).2 != (((kids l d m b),true) : List R59 × Bool).2) || (!decide ((((((kids l d m b).map cv,true) : List R64 × Bool).1.length : Nat) : Int) = (((((kids l d m b),true) : List R59 × Bool).1.length : Nat) : Int))))) = true from by simp]
          rw [gdO_true,Option.bind_some]
          dsimp only
          rw [gdO_true,f1,Option.bind_some,gdO_true,f2,Option.bind_some]
          rw [show (!(((true != true) || (!decide ((((kids l d m b).map cv).length : Int) = ((kids l d m b).length : Int)))) || (r1 != r1))) = true from by simp,gdO_true,Option.bind_some]
          dsimp only
          rw [gdO_true,f3,Option.bind_some,gdO_true,f4,Option.bind_some,if_neg (by simp)]
          unfold jn
          exact m9_loop (by unfold kids; omega) (fun x hx => by have := (kf.2 x hx).1; omega) hn
        · rw [if_neg c,if_neg c]
          rw [show (!(((([],false) : List R64 × Bool).2 != (([],false) : List R59 × Bool).2) || (!decide ((((([],false) : List R64 × Bool).1.length : Nat) : Int) = ((([],false) : List R59 × Bool).1.length : Nat) )))) = true from rfl]
          rw [gdO_true,Option.bind_some]
          dsimp only
          rw [gdO_true,f1,Option.bind_some,gdO_true,f2,Option.bind_some]
          rw [show (!(((false != false) || (!decide (((([] : List R64).length : Nat) : Int) = (([] : List R59).length : Nat)))) || (r1 != r1))) = true from by simp,gdO_true,Option.bind_some]
          dsimp only
          rw [gdO_true,f3,Option.bind_some,gdO_true,f4,Option.bind_some,if_neg (by simp)]
          unfold jn
          exact m9_loop (ks := []) (by simp) (fun x hx => absurd hx (by simp)) hn
      · rw [decide_eq_true (show (5 : Int) < (a.length : Int) from by omega),Bool.or_true]
        rfl
    · rw [decide_eq_true (show (12 : Int) < (d.length : Int) from by omega),Bool.or_true,Bool.true_or]
      rfl
  · rw [decide_eq_false (show ¬ (l.length : Int) ≤ 10 from by omega)]
    rfl
theorem m9_true (g : R59) (at_ : Int) (a : List Int) : m9 7000 g at_ a = some true := m9_gen m10_7 (by decide)
end Go.AB

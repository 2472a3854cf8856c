import Derived.Test.YtpccmcepgllccaaGreatLv
set_option linter.unusedVariables false
namespace Go.AB
open Go
def possB (l : List R63) (d : List Int) (b : Int) : Bool := ((((vld l) && (decide ((0 : Int) < (l.length : Int)))) && (ordB l.length d)) && (decide ((-1073741824 : Int) ≤ b))) && (decide (b ≤ (1073741824 : Int)))
theorem m27_val {n : Nat} {l : List R63} {d : List Int} {m : Bool} {b : Int} (hd : d.length ≤ 1000) (hn : 1000 < n) : m27 n ⟨l,d,m,b⟩ = some (possB l d b) := by
  unfold m27 possB
  dsimp only
  rw [m25_val (by omega),oB]
  by_cases h : (vld l && decide ((0 : Int) < (l.length : Int))) = true
  · have hv : vld l = true := by
      rw [Bool.and_eq_true] at h
      exact h.1
    have := bd_vld hv
    rw [h,gdO_true,m49_val (by omega) (by omega) (by omega),oB]
  · rw [(Bool.not_eq_true _).mp h,gdO_false,oB]
    rfl
theorem m31_val {n : Nat} {l : List R63} {d : List Int} {m : Bool} {b : Int} (hl : l.length ≤ 1000) (hd : d.length ≤ 1000) (hn : 1000 < n) : m31 n ⟨l,d,m,b⟩ = some (possB l d b) := by
  unfold m31 possB
  dsimp only
  by_cases h0 : (0 : Int) < (l.length : Int)
  · rw [decide_eq_true h0,gdO_true,m19_val (by omega) (by omega),oB]
    by_cases hv : vld l = true
    · rw [hv,show (true && true) = true from rfl,gdO_true,m36_val (by omega) (by omega),oB]
    · rw [(Bool.not_eq_true _).mp hv]
      rfl
  · rw [decide_eq_false h0,gdO_false,oB]
    simp [gdO_false]
theorem poss_iff {l : List R63} {d : List Int} {b : Int} (h : possB l d b = true) : vld l = true ∧ 0 < l.length ∧ ordB l.length d = true := by
  unfold possB at h
  simp only [Bool.and_eq_true,decide_eq_true_eq] at h
  exact ⟨h.1.1.1.1,by omega,h.1.1.2⟩
def kid (l : List R63) (d : List Int) (m : Bool) (b : Int) (i : Nat) (s : List R24) : List R24 := if (i : Int) ∈ d then s else s ++ [R24.mk l (d ++ [(i : Int)]) m b]
def kids (l : List R63) (d : List Int) (m : Bool) (b : Int) : List R24 := foldN (kid l d m b) l.length []
def cv (x : R24) : R36 := R36.mk x.Jb x.Dn x.Mt x.Bo
theorem m56_val {n : Nat} {l : List R63} {d : List Int} {m : Bool} {b a : Int} (hl : l.length ≤ 1000) (hd : d.length ≤ 1000) (hn : 2000 < n) :
    m56 n ⟨l,d,m,b⟩ a = some (if a = 0 ∧ possB l d b = true ∧ d.length ≠ l.length then (kids l d m b,true) else ([],false)) := by
  unfold m56
  rw [m31_val hl hd (by omega),oB]
  by_cases h : a = 0 ∧ possB l d b = true ∧ d.length ≠ l.length
  · rw [if_pos h,if_neg (by simp [h.1,h.2.1]; have := h.2.2; omega)]
    unfold jn
    dsimp only
    refine (loop_fold (S := List R24) (fun i s => ((i : Int),s)) l.length (kid l d m b) (fun i s => s.length ≤ i) (fun s => some (s,true)) ?_ ?_ (s0 := []) (by simp) (by omega)).trans rfl
    · intro i s hi hs
      refine ⟨?_,fun nx => ?_⟩
      · unfold kid; split
        · omega
        · simp; omega
      · rw [m56_L1,if_pos (by simp; omega)]
        unfold jn kid
        dsimp only
        rw [m58_val (by omega) (by omega),oB]
        by_cases hm : (i : Int) ∈ d
        · rw [decide_eq_true hm,if_neg (by simp),if_pos hm,letM_eq,wrap64 (by omega) (by omega)]
          rfl
        · rw [decide_eq_false hm,if_pos (show (!false) = true from rfl),if_neg hm,apd_val (by simp; omega),oB,List.nil_append,apd_val (by simp; omega),oB,apd_val (by simp; omega),oB,letM_eq,wrap64 (by omega) (by omega)]
          rfl
    · intro s _ nx
      rw [m56_L1,if_neg (by simp)]
  · rw [if_neg h,if_pos]
    simp only [Bool.or_eq_true,Bool.not_eq_true',decide_eq_false_iff_not,decide_eq_true_eq]
    by_cases h1 : possB l d b = true
    · by_cases h2 : a = 0
      · exact .inr (Classical.byContradiction fun h3 => h ⟨h2,h1,fun h4 => h3 (by omega)⟩)
      · exact .inl (.inr h2)
    · exact .inl (.inl ((Bool.not_eq_true _).mp h1))
theorem kids_cv (l : List R63) (d : List Int) (m : Bool) (b : Int) : ∀ k,foldN (fun i (s : List R36) => if (i : Int) ∈ d then s else s ++ [R36.mk l (d ++ [(i : Int)]) m b]) k [] = (foldN (kid l d m b) k []).map cv
  | 0 => rfl
  | k + 1 => by
    rw [foldN,foldN,kids_cv l d m b k,kid]
    split
    · rfl
    · rw [List.map_append]; rfl
theorem m29_val {n : Nat} {l : List R63} {d : List Int} {m : Bool} {b a : Int} (hl : l.length ≤ 1000) (hd : d.length ≤ 1000) (hn : 2000 < n) :
    m29 n ⟨l,d,m,b⟩ a = some (if a = 0 ∧ possB l d b = true ∧ d.length ≠ l.length then ((kids l d m b).map cv,true) else ([],false)) := by
  unfold m29
  dsimp only
  by_cases ha : a = 0
  · rw [decide_eq_true ha,show (!(!true)) = true from rfl,gdO_true,m27_val hd (by omega),oB]
    by_cases h : possB l d b = true ∧ d.length ≠ l.length
    · rw [if_pos (show a = 0 ∧ possB l d b = true ∧ d.length ≠ l.length from ⟨ha,h⟩),if_neg (by simp [h.1]; have := h.2; omega)]
      unfold jn
      dsimp only
      refine (loop_fold (S := List R36) (fun i s => ((i : Int),s)) l.length (fun i (s : List R36) => if (i : Int) ∈ d then s else s ++ [R36.mk l (d ++ [(i : Int)]) m b]) (fun i s => s.length ≤ i) (fun s => some (s,true)) ?_ ?_ (s0 := []) (by simp) (by omega)).trans ?_
      · intro i s hi hs
        refine ⟨?_,fun nx => ?_⟩
        · split
          · omega
          · simp; omega
        · rw [m29_L1,if_pos (by simp; omega)]
          unfold jn
          dsimp only
          rw [m51_val (by omega) (by omega),oB]
          by_cases hm : (i : Int) ∈ d
          · rw [decide_eq_true hm,if_neg (by simp),if_pos hm,letM_eq,wrap64 (by omega) (by omega)]
            rfl
          · rw [decide_eq_false hm,if_pos (show (!false) = true from rfl),if_neg hm,show m52o n d = some d from by unfold m52o; rw [apd_val (by simp; omega)]; rfl,oB,apd_val (by simp; omega),oB,apd_val (by simp; omega),oB,letM_eq,wrap64 (by omega) (by omega)]
            rfl
      · intro s _ nx
        rw [m29_L1,if_neg (by simp)]
      · rw [kids_cv]; rfl
    · rw [if_neg (show ¬ (a = 0 ∧ possB l d b = true ∧ d.length ≠ l.length) from fun hh => h hh.2),if_pos]
      simp only [Bool.or_eq_true,Bool.not_eq_true',decide_eq_true_eq]
      by_cases h1 : possB l d b = true
      · exact .inr (Classical.byContradiction fun h3 => h ⟨h1,fun h4 => h3 (by omega)⟩)
      · exact .inl (.inr ((Bool.not_eq_true _).mp h1))
  · rw [decide_eq_false ha,if_neg fun hh => ha hh.1]
    rfl
def lastF (l : List R63) (d : List Int) : Int := if d.length = 0 then 0 else (fin l 0 d).getD (d.length - 1) 0
def rstS (l : List R63) (d : List Int) (t : Int) (j : Nat) (s : List R63) : List R63 := if (j : Int) ∈ d then s else s ++ [R63.mk (max (Jn l j).Rl t) (Jn l j).Ln (Jn l j).Due]
def rst (l : List R63) (d : List Int) : List R63 := foldN (rstS l d (lastF l d)) l.length []
theorem rst_facts (l : List R63) (d : List Int) (t : Int) : ∀ k,k ≤ l.length → (foldN (rstS l d t) k []).length ≤ k ∧ ∀ x,x ∈ foldN (rstS l d t) k [] → ∃ y,y ∈ l ∧ x = R63.mk (max y.Rl t) y.Ln y.Due
  | 0,_ => ⟨Nat.le_refl _,fun x hx => absurd hx (by simp [foldN])⟩
  | k + 1,hk => by
    obtain ⟨h1,h2⟩ := rst_facts l d t k (by omega)
    rw [foldN,rstS]
    split
    · exact ⟨by omega,h2⟩
    · refine ⟨by simp; omega,fun x hx => ?_⟩
      rcases List.mem_append.1 hx with hx | hx
      · exact h2 x hx
      · rw [List.mem_singleton.1 hx]
        exact ⟨_,Jn_mem (by omega),rfl⟩
theorem fin_bd2 {l : List R63} (hb : bd l) (hr : ∀ y,y ∈ l → y.Rl ≤ 100000) : ∀ (o : List Int) (t M : Int),inR l.length o → 0 ≤ t → t ≤ M → 100000 ≤ M → ∀ x,x ∈ fin l t o → 0 ≤ x ∧ x ≤ M + 10000 * (o.length : Int)
  | [],t,M,_,_,_,_,x,hx => by simp [fin] at hx
  | i :: o,t,M,ho,h0,h1,h2,x,hx => by
    have hi := ho i (by simp)
    have hj := hb _ (J_mem hi.1 hi.2)
    have hjr := hr _ (J_mem hi.1 hi.2)
    rw [fin] at hx
    have e : ((i :: o).length : Int) = (o.length : Int) + 1 := by simp
    have m1 : 0 ≤ max t (J l i).Rl := Int.le_trans h0 (Int.le_max_left _ _)
    have m2 : max t (J l i).Rl ≤ M := Int.max_le.2 ⟨h1,by omega⟩
    rcases List.mem_cons.1 hx with rfl | hx
    · omega
    · have := fin_bd2 hb hr o _ (M + 10000) (fun x hx => ho x (by simp [hx])) (by omega) (by omega) (by omega) x hx
      omega
theorem vld_rel {l : List R63} (h : vld l = true) : ∀ y,y ∈ l → y.Rl ≤ 100000 := by
  unfold vld at h
  simp only [Bool.and_eq_true,decide_eq_true_eq] at h
  intro y hy
  have := okJ_iff.1 (List.all_eq_true.1 h.2 y hy)
  omega
theorem lastF_bd {l : List R63} {d : List Int} (hv : vld l = true) (hd : inR l.length d) (hdl : d.length ≤ 40) : 0 ≤ lastF l d ∧ lastF l d ≤ 500000 := by
  unfold lastF
  split
  · omega
  · have hl : d.length - 1 < (fin l 0 d).length := by rw [fin_len]; omega
    have := fin_bd2 (bd_vld hv).1 (vld_rel hv) d 0 100000 hd (by omega) (by omega) (by omega) _ (getD_mem (o := fin l 0 d) hl)
    omega
theorem rst_ok {l : List R63} {d : List Int} (hv : vld l = true) (hd : inR l.length d) (hdl : d.length ≤ 40) : bd (rst l d) ∧ (∀ y,y ∈ rst l d → 1 ≤ y.Ln) ∧ (rst l d).length ≤ l.length ∧ ∀ y,y ∈ rst l d → lastF l d ≤ y.Rl ∧ (y.Rl ≤ 100000 ∨ y.Rl = lastF l d) := by
  have hb := (bd_vld hv).1
  have hp := vld_pos' hv
  have hr := vld_rel hv
  have ht := lastF_bd hv hd hdl
  obtain ⟨h1,h2⟩ := rst_facts l d (lastF l d) l.length (Nat.le_refl _)
  refine ⟨fun x hx => ?_,fun x hx => ?_,h1,fun x hx => ?_⟩
  · obtain ⟨y,hy,rfl⟩ := h2 x hx
    have h3 := hb y hy
    have m1 : 0 ≤ max y.Rl (lastF l d) := Int.le_trans ht.1 (Int.le_max_right _ _)
    have m2 : max y.Rl (lastF l d) ≤ 1000000 := Int.max_le.2 ⟨by omega,by omega⟩
    exact ⟨m1,m2,h3.2.2.1,h3.2.2.2.1,h3.2.2.2.2.1,h3.2.2.2.2.2⟩
  · obtain ⟨y,hy,rfl⟩ := h2 x hx
    exact hp y hy
  · obtain ⟨y,hy,rfl⟩ := h2 x hx
    have := hr y hy
    dsimp only
    refine ⟨Int.le_max_right _ _,?_⟩
    rw [Int.max_def]
    split <;> omega
theorem val_bd {l : List R63} (hb : bd l) {o : List Int} (ho : inR l.length o) (hl : o.length ≤ 1000) (most : Bool) : -1000000 ≤ val l o most ∧ val l o most ≤ 11000000000 := by
  have := foldN_inv (f := fun i n => if most = true then (if i = 0 ∨ n < lat l o i then lat l o i else n) else n + max 0 (lat l o i)) (s0 := (0 : Int)) (len := o.length) (I := fun i s => -1000000 ≤ s ∧ s ≤ 11000000 * (i : Int)) ⟨by omega,by omega⟩ (fun i s hi hs => by
    have hd := lat_bd hb ho hl hi
    have : 0 ≤ max 0 (lat l o i) ∧ max 0 (lat l o i) ≤ 11000000 := ⟨Int.le_max_left _ _,Int.max_le.2 ⟨by omega,hd.2⟩⟩
    cases most with
    | true => rw [if_pos rfl]; split <;> omega
    | false => rw [if_neg (by simp)]; omega) o.length (Nat.le_refl _)
  unfold val
  omega
theorem sumB_bd {l : List R63} (hb : bd l) {o : List Int} (hl : l.length ≤ 100) (hol : o.length = l.length) (hob : ∀ x,x ∈ o → 0 ≤ x ∧ x ≤ 1000000 + 10000 * (l.length : Int)) : 0 ≤ sumB l o ∧ sumB l o ≤ 1000000000 := by
  have := sumN_bd (g := fun k => max 0 (o.getD k 0 - (isr ltN [] (dues l)).getD k 0)) (B := 2000000) (k := l.length) fun k hk => by
    have q1 := hob _ (getD_mem (show k < o.length from by omega))
    have q2 := (ds_facts l hb).2 k hk
    exact ⟨Int.le_max_left _ _,Int.max_le.2 ⟨by omega,by omega⟩⟩
  unfold sumB
  omega
def Prv (l : List R63) (d : List Int) (m : Bool) (v : Int) : Prop :=
  if m = true then v = if rst l d = [] then val l d true else if d = [] then par (rst l d) 1 else max (val l d true) (par (rst l d) 1)
  else ∃ o,Runs (rst l d) 0 (lens (rst l d)) [] o ∧ o.length = (rst l d).length ∧ v = val l d false + sumB (rst l d) o
theorem Prv.uniq {l : List R63} {d : List Int} {m : Bool} {v w : Int} (h : Prv l d m v) (h' : Prv l d m w) : v = w := by
  unfold Prv at h h'
  cases m with
  | true => rw [if_pos rfl] at h h'; rw [h,h']
  | false =>
    rw [if_neg (by simp)] at h h'
    obtain ⟨o,h1,_,rfl⟩ := h
    obtain ⟨o',h2,_,rfl⟩ := h'
    rw [h1.uniq h2]
theorem m42_val {n : Nat} {l : List R63} {d : List Int} {m : Bool} {b : Int} (hv : vld l = true) (hd : ordB l.length d = true) (hl : l.length ≤ 12) (hn : 6000 < n) : ∃ v,m42 n ⟨l,d,m,b⟩ = some v ∧ Prv l d m v := by
  have hb := (bd_vld hv).1
  obtain ⟨hnd,hin⟩ := ord_iff.1 hd
  have hdl := nodup_le _ _ hnd hin
  obtain ⟨r1,r2,r3,r4⟩ := rst_ok hv hin (by omega)
  have hvb := val_bd hb hin (by omega) m
  unfold m42
  dsimp only
  rw [m57_val hb hin (by omega) (by omega),oB]
  unfold jn
  dsimp only
  have hlast : ∀ (K : Int → Option Int),(if (decide ((0 : Int) < ((fin l 0 d).length : Int))) = true then ((getIdx (fin l 0 d) (IntKind.wrap .i64 (((fin l 0 d).length : Int) - (1 : Int)))).bind fun y_2 => (K y_2)) else (K (0 : Int))) = K (lastF l d) := by
    intro K
    unfold lastF
    rw [fin_len]
    by_cases h0 : d.length = 0
    · rw [if_neg (fun hh => by have := of_decide_eq_true hh; omega),if_pos h0]
    · rw [if_pos (decide_eq_true (by omega)),if_neg h0,wrap64 (by omega) (by omega),show (d.length : Int) - 1 = ((d.length - 1 : Nat) : Int) from by omega,get_getD (d := 0) (by rw [fin_len]; omega),oB]
  have hrest : ∀ (K : List R63 → Option Int),loopM (m42_L1 n ⟨l,d,m,b⟩ (lastF l d) K) n ((0 : Int),([] : List R63)) = K (rst l d) := by
    intro K
    refine (loop_fold (S := List R63) (fun i s => ((i : Int),s)) l.length (rstS l d (lastF l d)) (fun i s => s.length ≤ i) K ?_ ?_ (s0 := []) (by simp) (by omega)).trans rfl
    · intro i s hi hs
      refine ⟨?_,fun nx => ?_⟩
      · unfold rstS; split
        · omega
        · simp; omega
      · rw [m42_L1,if_pos (by simp; omega)]
        unfold jn rstS
        dsimp only
        rw [Jn_get hi,oB,m51_val (by omega) (by omega),oB]
        by_cases hm : (i : Int) ∈ d
        · rw [decide_eq_true hm,if_neg (by simp),if_pos hm,letM_eq,wrap64 (by omega) (by omega)]
          rfl
        · rw [decide_eq_false hm,if_pos (show (!false) = true from rfl),if_neg hm,letM_eq,iteMax,apd_val (by simp; omega),oB,letM_eq,wrap64 (by omega) (by omega)]
          rfl
    · intro s _ nx
      rw [m42_L1,if_neg (by simp)]
  have key : ∃ v,(fun p_30 : List R63 => ((m35 n l d m).bind fun y_32 => (if (!m) = true then ((m64 n p_30).bind fun y_33 => (letM ((IntKind.wrap .i64 (y_32 + y_33))) fun t2_34 => (some t2_34))) else (if (decide ((p_30.length : Int) = (0 : Int))) = true then (some y_32) else (if (decide ((d.length : Int) = (0 : Int))) = true then ((m46 n p_30 (1 : Int)).bind fun y_35 => (some y_35)) else ((m46 n p_30 (1 : Int)).bind fun y_36 => (letM ((if y_36 > y_32 then y_36 else y_32)) fun t2_37 => (some t2_37)))))))) (rst l d) = some v ∧ Prv l d m v := by
    dsimp only
    rw [m35_val hb hin (by omega) (by omega),oB]
    unfold Prv
    cases m with
    | false =>
      obtain ⟨o,e,_,hr,hol⟩ := m64_val (n := n) r1 r2 (by omega) (by omega)
      have hob := hr.bd r1 (WF.start r2) (fun x hx => absurd hx (by simp))
      have hsb := sumB_bd r1 (by omega) hol hob
      refine ⟨_,?_,(if_neg (show ¬ false = true from by simp)).mpr ⟨o,hr,hol,rfl⟩⟩
      rw [if_pos (show (!false) = true from rfl),e,oB,letM_eq,wrap64 (by omega) (by omega)]
    | true =>
      rw [if_neg (show ¬ (!true) = true from by simp)]
      by_cases h0 : rst l d = []
      · refine ⟨_,?_,(if_pos (show true = true from rfl)).mpr (if_pos h0).symm⟩
        rw [h0]
        rfl
      · have h0' : ¬ ((rst l d).length : Int) = 0 := fun hh => h0 (List.eq_nil_of_length_eq_zero (by omega))
        rw [if_neg (by simpa using h0'),m46_val r1 (by omega) (by omega) (by omega)]
        by_cases h1 : d = []
        · refine ⟨par (rst l d) 1,?_,(if_pos (show true = true from rfl)).mpr ?_⟩
          · rw [if_pos (by rw [h1]; rfl)]; rfl
          · rw [if_neg h0,if_pos h1]
        · have h1' : ¬ (d.length : Int) = 0 := fun hh => h1 (List.eq_nil_of_length_eq_zero (by omega))
          refine ⟨max (val l d true) (par (rst l d) 1),?_,(if_pos (show true = true from rfl)).mpr ?_⟩
          · rw [if_neg (by simpa using h1'),oB,letM_eq,iteMax]
          · rw [if_neg h0,if_neg h1]
  obtain ⟨v,e,hp⟩ := key
  refine ⟨v,?_,hp⟩
  refine (hlast _).trans ?_
  refine (hrest _).trans ?_
  exact e
end Go.AB

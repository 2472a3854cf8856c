import Derived.Test.YtiginjokbkemcaaLp
set_option linter.unusedVariables false
namespace Go.AB
open Go
theorem K74.ind {Q : K74 → Prop} (h : ∀ s k l,(∀ y ∈ k,Q y) → Q (.mk s k l)) : ∀ y,Q y
  | .mk s k l => h s k l fun y hy => K74.ind h y
def Fit (n : Nat) : Nat → R74 → Prop
  | 0,_ => False
  | f + 1,y => y.Kd.length < n ∧ y.Kd.length ≤ 2513169434916 ∧ ∀ z ∈ y.Kd,Fit n f z.out
theorem Fit.mono {n n' : Nat} (hn : n ≤ n') : ∀ {f f' : Nat} {y : R74},f ≤ f' → Fit n f y → Fit n' f' y
  | 0,_,_,_,h => h.elim
  | f + 1,0,_,hf,_ => absurd hf (by omega)
  | f + 1,f' + 1,y,hf,h => ⟨Nat.lt_of_lt_of_le h.1 hn,h.2.1,fun z hz => Fit.mono hn (by omega) (h.2.2 z hz)⟩
inductive OkK : K74 → Prop
  | mk (s : Int) (k : List K74) (l : List Int) (h : k.length ≤ 2513169434916) (hk : ∀ y ∈ k,OkK y) : OkK (.mk s k l)
theorem fit_list {k : List K74} (h : ∀ y ∈ k,∃ N,Fit N N y.out) : ∃ N,∀ y ∈ k,Fit N N y.out := by
  induction k with
  | nil => exact ⟨0,fun y hy => by cases hy⟩
  | cons a t ih =>
    obtain ⟨N1,h1⟩ := h a (by simp)
    obtain ⟨N2,h2⟩ := ih fun y hy => h y (by simp [hy])
    refine ⟨max N1 N2,fun y hy => ?_⟩
    rcases List.mem_cons.1 hy with rfl | hy
    · exact h1.mono (by omega) (by omega)
    · exact (h2 y hy).mono (by omega) (by omega)
theorem OkK.fit : ∀ y : K74,OkK y → ∃ N,Fit N N y.out := by
  refine K74.ind fun s k l ih h => ?_
  cases h with
  | mk _ _ _ h hk =>
  obtain ⟨N,hN⟩ := fit_list fun y hy => ih y hy (hk y hy)
  exact ⟨max (N + 1) (k.length + 1),by
    have : ∃ q,max (N + 1) (k.length + 1) = q + 1 := ⟨max N k.length,by omega⟩
    obtain ⟨q,hq⟩ := this
    have hx : Fit (q + 1) (q + 1) (K74.mk s k l).out := ⟨by show k.length < q + 1; omega,h,fun z hz => (hN z hz).mono (by omega) (by omega)⟩
    rw [hq]; exact hx⟩
theorem wIncL {i : Nat} (h : i ≤ 1000000000000000) : IntKind.wrap .i64 ((i : Int) + 1) = ((i + 1 : Nat) : Int) := wrap64 (by omega) (by omega)
theorem eta74 (y : R74) : R74.mk y.Split y.Kd y.Lf = y := rfl
theorem eta79 (y : R79) : R79.mk y.Split y.Kd y.Lf = y := rfl
def ownF : Nat → R74 → R79
  | 0,_ => default
  | f + 1,y => ⟨y.Split,y.Kd.map fun z => K79.of (ownF f z.out),y.Lf⟩
theorem ownF_at {f : Nat} {y : R74} {i : Nat} (h : i < y.Kd.length) : getIdx (ownF (f + 1) y).Kd (i : Int) = some (K79.of (ownF f (y.Kd[i]).out)) := by
  refine getIdx_q rfl ?_
  show (y.Kd.map fun z => K79.of (ownF f z.out))[i]? = _
  rw [List.getElem?_map,List.getElem?_eq_getElem h]; rfl
theorem ownF_len {f : Nat} {y : R74} : (ownF (f + 1) y).Kd.length = y.Kd.length := by simp [ownF]
theorem m41F_val {n : Nat} : ∀ (f : Nat) (y : R74),Fit n f y → m41F n f y = some (ownF f y)
  | f + 1,y,h => by
    obtain ⟨h1,h2,h3⟩ := h
    unfold m41F m41B
    rw [jn]
    refine (loop_run (n := n) (fun i => ((i : Int),(y.Kd.take i).map fun z => K79.of (ownF f z.out))) y.Kd.length (some (ownF (f + 1) y)) (by simp) (fun i hi nx => ?_) (fun nx => ?_) h1)
    · rw [m41_L1,if_pos (decide_eq_true (by omega))]
      dsimp only [letM]
      rw [getIdx_at rfl hi,oB,eta74,m41F_val f _ (h3 _ (List.getElem_mem hi)),oB]
      unfold apk
      rw [if_pos (by simp; omega),oB,wIncL (by omega),List.take_succ_eq_append_getElem hi,List.map_append]
      rfl
    · rw [m41_L1,if_neg (by simp),List.take_length]
      rfl
def nodF : Nat → R74 → Int
  | 0,_ => 0
  | f + 1,y => y.Kd.foldl (fun s z => IntKind.wrap .i64 (s + nodF f z.out)) 1
theorem m74F_val {n : Nat} : ∀ (f : Nat) (y : R74),Fit n f y → m74F n f y = some (nodF f y)
  | f + 1,y,h => by
    obtain ⟨h1,h2,h3⟩ := h
    unfold m74F m74B
    rw [jn]
    refine (loop_run (n := n) (fun i => ((y.Kd.take i).foldl (fun s z => IntKind.wrap .i64 (s + nodF f z.out)) 1,(i : Int))) y.Kd.length (some (nodF (f + 1) y)) (by simp) (fun i hi nx => ?_) (fun nx => ?_) h1)
    · rw [m74_L1,if_pos (decide_eq_true (by omega))]
      dsimp only [letM]
      rw [getIdx_at rfl hi,oB,eta74,m74F_val f _ (h3 _ (List.getElem_mem hi)),oB,wIncL (by omega),foldl_take hi]
    · rw [m74_L1,if_neg (by simp),List.take_length]
      rfl
theorem m106F_val {n : Nat} : ∀ (f : Nat) (y : R74),Fit n f y → m106F n f (ownF f y) = some (nodF f y)
  | f + 1,y,h => by
    obtain ⟨h1,h2,h3⟩ := h
    have hl := ownF_len (f := f) (y := y)
    unfold m106F m106B
    rw [jn]
    refine (loop_run (n := n) (fun i => ((y.Kd.take i).foldl (fun s z => IntKind.wrap .i64 (s + nodF f z.out)) 1,(i : Int))) y.Kd.length (some (nodF (f + 1) y)) (by simp) (fun i hi nx => ?_) (fun nx => ?_) h1)
    · rw [m106_L1,hl,if_pos (decide_eq_true (by omega))]
      dsimp only [letM]
      rw [ownF_at hi,oB]
      rw [show m106F n f (R79.mk (K79.of (ownF f (y.Kd[i]).out)).out.Split (K79.of (ownF f (y.Kd[i]).out)).out.Kd (K79.of (ownF f (y.Kd[i]).out)).out.Lf) = some (nodF f (y.Kd[i]).out) from m106F_val f _ (h3 _ (List.getElem_mem hi)),oB,wIncL (by omega),foldl_take hi]
    · rw [m106_L1,hl,if_neg (by simp),List.take_length]
      rfl
def mxF (g : K74 → Int) (l : List K74) : Int := l.foldl (fun s z => if g z > s then g z else s) 0
def depF : Nat → R74 → Int
  | 0,_ => 0
  | f + 1,y => IntKind.wrap .i64 (mxF (fun z => depF f z.out) y.Kd + 1)
theorem m100F_val {n : Nat} : ∀ (f : Nat) (y : R74),Fit n f y → m100F n f y = some (depF f y)
  | f + 1,y,h => by
    obtain ⟨h1,h2,h3⟩ := h
    unfold m100F m100B
    rw [jn]
    refine (loop_run (n := n) (fun i => (mxF (fun z => depF f z.out) (y.Kd.take i),(i : Int))) y.Kd.length (some (depF (f + 1) y)) (by simp [mxF]) (fun i hi nx => ?_) (fun nx => ?_) h1)
    · rw [m100_L1,if_pos (decide_eq_true (by omega))]
      dsimp only [letM]
      rw [getIdx_at rfl hi,oB,eta74,m100F_val f _ (h3 _ (List.getElem_mem hi)),oB,wIncL (by omega)]
      unfold mxF
      rw [foldl_take hi]
    · rw [m100_L1,if_neg (by simp),List.take_length]
      rfl
theorem m107F_val {n : Nat} : ∀ (f : Nat) (y : R74),Fit n f y → m107F n f (ownF f y) = some (depF f y)
  | f + 1,y,h => by
    obtain ⟨h1,h2,h3⟩ := h
    have hl := ownF_len (f := f) (y := y)
    unfold m107F m107B
    rw [jn]
    refine (loop_run (n := n) (fun i => (mxF (fun z => depF f z.out) (y.Kd.take i),(i : Int))) y.Kd.length (some (depF (f + 1) y)) (by simp [mxF]) (fun i hi nx => ?_) (fun nx => ?_) h1)
    · rw [m107_L1,hl,if_pos (decide_eq_true (by omega))]
      dsimp only [letM]
      rw [ownF_at hi,oB]
      rw [show m107F n f (R79.mk (K79.of (ownF f (y.Kd[i]).out)).out.Split (K79.of (ownF f (y.Kd[i]).out)).out.Kd (K79.of (ownF f (y.Kd[i]).out)).out.Lf) = some (depF f (y.Kd[i]).out) from m107F_val f _ (h3 _ (List.getElem_mem hi)),oB,wIncL (by omega)]
      unfold mxF
      rw [foldl_take hi]
    · rw [m107_L1,hl,if_neg (by simp),List.take_length]
      rfl
def smB (x : Int) : Bool := decide ((-1073741824 : Int) ≤ x) && decide (x ≤ (1073741824 : Int))
def nodeB (y : R74) : Bool := smB y.Split && decide (y.Kd.length ≤ 100) && decide (y.Lf.length ≤ 40) && (decide (y.Kd.length = 0) || decide (y.Lf.length = 0)) && (decide (y.Kd.length ≠ 0) || decide (y.Split = 0)) && y.Lf.all smB
def frmF : Nat → R74 → Bool
  | 0,_ => false
  | f + 1,y => nodeB y && y.Kd.all fun z => frmF f z.out
theorem nodeB_iff {y : R74} : nodeB y = true ↔ smB y.Split = true ∧ y.Kd.length ≤ 100 ∧ y.Lf.length ≤ 40 ∧ (y.Kd.length = 0 ∨ y.Lf.length = 0) ∧ (y.Kd.length ≠ 0 ∨ y.Split = 0) ∧ y.Lf.all smB = true := by
  unfold nodeB
  simp only [Bool.and_eq_true,Bool.or_eq_true,decide_eq_true_eq]
  constructor
  · rintro ⟨⟨⟨⟨⟨a,b⟩,c⟩,d⟩,e⟩,f⟩
    exact ⟨a,b,c,d,e,f⟩
  · rintro ⟨a,b,c,d,e,f⟩
    exact ⟨⟨⟨⟨⟨a,b⟩,c⟩,d⟩,e⟩,f⟩
theorem m99F_val {n : Nat} (hn : 1000 < n) : ∀ (f : Nat) (y : R74),Fit n f y → m99F n f y = some (frmF f y)
  | f + 1,y,h => by
    obtain ⟨h1,h2,h3⟩ := h
    unfold m99F m99B
    rw [show m109 n y.Split = some (smB y.Split) from rfl,oB]
    dsimp only [letM]
    by_cases hc : smB y.Split = true ∧ y.Kd.length ≤ 100 ∧ y.Lf.length ≤ 40 ∧ (y.Kd.length = 0 ∨ y.Lf.length = 0) ∧ (y.Kd.length ≠ 0 ∨ y.Split = 0)
    · obtain ⟨a,b,c,d,e⟩ := hc
      rw [if_neg (by
        rw [a]
        simp only [Bool.not_true,Bool.false_or,Bool.or_eq_true,Bool.and_eq_true,decide_eq_true_eq,Bool.not_eq_true',decide_eq_false_iff_not]
        omega),jn]
      refine (loop_all (n := n) (fun i => (i : Int)) y.Lf.length (fun i => (y.Lf[i]?).all smB) (some false) (some (y.Kd.all fun z => frmF f z.out)) ?_ ?_ ?_ (by omega)).trans ?_
      · intro i hi hp nx
        rw [List.getElem?_eq_getElem hi] at hp
        have hp' : smB y.Lf[i] = true := hp
        rw [m99_L1,if_pos (decide_eq_true (by omega)),getIdx_at rfl hi,oB,show m109 n y.Lf[i] = some (smB y.Lf[i]) from rfl,oB,hp',if_neg (by simp),letM_eq,wInc (by omega)]
      · intro i hi hp nx
        rw [List.getElem?_eq_getElem hi] at hp
        have hp' : smB y.Lf[i] = false := hp
        rw [m99_L1,if_pos (decide_eq_true (by omega)),getIdx_at rfl hi,oB,show m109 n y.Lf[i] = some (smB y.Lf[i]) from rfl,oB,hp',if_pos (by rfl)]
      · intro nx
        rw [m99_L1,if_neg (by simp),jn]
        refine (loop_all (n := n) (fun i => (i : Int)) y.Kd.length (fun i => (y.Kd[i]?).all fun z => frmF f z.out) (some false) (some true) ?_ ?_ ?_ (by omega)).trans ?_
        · intro i hi hp nx
          rw [List.getElem?_eq_getElem hi] at hp
          have hp' : frmF f (y.Kd[i]).out = true := hp
          rw [m99_L2,if_pos (decide_eq_true (by omega)),getIdx_at rfl hi,oB,eta74,m99F_val hn f _ (h3 _ (List.getElem_mem hi)),oB,hp',if_neg (by simp),letM_eq,wInc (by omega)]
        · intro i hi hp nx
          rw [List.getElem?_eq_getElem hi] at hp
          have hp' : frmF f (y.Kd[i]).out = false := hp
          rw [m99_L2,if_pos (decide_eq_true (by omega)),getIdx_at rfl hi,oB,eta74,m99F_val hn f _ (h3 _ (List.getElem_mem hi)),oB,hp',if_pos (by rfl)]
        · intro nx
          rw [m99_L2,if_neg (by simp)]
        · by_cases hk : (y.Kd.all fun z => frmF f z.out) = true
          · rw [hk,if_pos]
            intro i hi
            rw [List.getElem?_eq_getElem hi]
            exact List.all_eq_true.1 hk _ (List.getElem_mem hi)
          · rw [if_neg,(Bool.not_eq_true _).mp hk]
            intro h
            apply hk
            rw [List.all_eq_true]
            intro z hz
            obtain ⟨i,hi,rfl⟩ := List.getElem_of_mem hz
            have := h i hi
            rw [List.getElem?_eq_getElem hi] at this
            exact this
      · rw [show frmF (f + 1) y = (nodeB y && y.Kd.all fun z => frmF f z.out) from rfl]
        by_cases hl : y.Lf.all smB = true
        · rw [nodeB_iff.2 ⟨a,b,c,d,e,hl⟩,Bool.true_and,if_pos]
          intro i hi
          rw [List.getElem?_eq_getElem hi]
          exact List.all_eq_true.1 hl _ (List.getElem_mem hi)
        · have hno : nodeB y = false := by
            rw [← Bool.not_eq_true,nodeB_iff]
            exact fun h => hl h.2.2.2.2.2
          rw [hno,Bool.false_and,if_neg]
          intro h
          apply hl
          rw [List.all_eq_true]
          intro z hz
          obtain ⟨i,hi,rfl⟩ := List.getElem_of_mem hz
          have := h i hi
          rw [List.getElem?_eq_getElem hi] at this
          exact this
    · have hno : nodeB y = false := by
        rw [← Bool.not_eq_true,nodeB_iff]
        rintro ⟨a,b,c,d,e,_⟩
        exact hc ⟨a,b,c,d,e⟩
      rw [show frmF (f + 1) y = (nodeB y && y.Kd.all fun z => frmF f z.out) from rfl,hno,Bool.false_and,if_pos]
      simp only [Bool.or_eq_true,Bool.and_eq_true,decide_eq_true_eq,Bool.not_eq_true',decide_eq_false_iff_not]
      by_cases hs : smB y.Split = true
      · have : ¬ (y.Kd.length ≤ 100 ∧ y.Lf.length ≤ 40 ∧ (y.Kd.length = 0 ∨ y.Lf.length = 0) ∧ (y.Kd.length ≠ 0 ∨ y.Split = 0)) := fun h => hc ⟨hs,h⟩
        rw [hs]
        omega
      · rw [(Bool.not_eq_true _).mp hs]
        simp
theorem m101x1_eq {n : Nat} {xs : List Int} {k : Unit → Option Int} : m101x1_L1 n xs k = idxL xs (fun y => m120 n y) k := rfl
theorem m121x1_eq {n : Nat} {xs : List K79} {rc : R79 → Option Bool} {k : Unit → Option Int} : m121x1_L1 n xs rc k = idxL xs (fun y => m115 n rc (R79.mk y.out.Split y.out.Kd y.out.Lf)) k := rfl
theorem m113_val {n f : Nat} (hn : 1000 < n) (y : R74) : m113 n (ownF (f + 1) y) = some (nodeB y) := by
  have hl := ownF_len (f := f) (y := y)
  have hs : (ownF (f + 1) y).Split = y.Split := rfl
  have hf : (ownF (f + 1) y).Lf = y.Lf := rfl
  unfold m113
  rw [hl,hs,hf]
  have e : ∀ b : Bool,b = nodeB y ↔ (b = true ↔ nodeB y = true) := fun b => Bool.eq_iff_iff
  by_cases hk : y.Kd.length = 0
  · rw [if_neg (by rw [decide_eq_true_eq]; omega)]
    by_cases hc : y.Split = 0 ∧ y.Lf.length ≤ 40
    · obtain ⟨c1,c2⟩ := hc
      have h80 : m80x1 n y.Lf = some (!y.Lf.all smB) := by
        unfold m80x1 m101x1
        rw [jn,m101x1_eq,← any_not]
        exact idx_any (fun y _ => rfl) (by omega) (by omega)
      rw [decide_eq_true c1,decide_eq_true (show (y.Lf.length : Int) ≤ 40 by omega),Bool.and_self,gdO_true,h80,oB,Bool.not_not,Bool.true_and]
      congr 1
      rw [e,nodeB_iff]
      have : smB y.Split = true := by rw [c1]; rfl
      exact ⟨fun h => ⟨this,by omega,c2,.inl hk,.inr c1,h⟩,fun h => h.2.2.2.2.2⟩
    · have hno : nodeB y = false := by
        rw [← Bool.not_eq_true,nodeB_iff]
        rintro ⟨a,b,c,d,e,_⟩
        exact hc ⟨by omega,c⟩
      have hd : (decide (y.Split = (0 : Int)) && decide ((y.Lf.length : Int) ≤ (40 : Int))) = false := by
        rw [← Bool.not_eq_true,Bool.and_eq_true,decide_eq_true_eq,decide_eq_true_eq]
        omega
      rw [hd,gdO_false,oB,hno]; rfl
  · rw [if_pos (decide_eq_true (by omega))]
    by_cases hc : y.Lf.length = 0 ∧ y.Kd.length ≤ 100
    · obtain ⟨c1,c2⟩ := hc
      rw [decide_eq_true (show (y.Lf.length : Int) = 0 by omega),decide_eq_true (show (y.Kd.length : Int) ≤ 100 by omega),Bool.and_self,gdO_true,show m119 n y.Split = some (smB y.Split) from rfl,oB,Bool.true_and]
      congr 1
      rw [e,nodeB_iff]
      have : y.Lf.all smB = true := by rw [List.length_eq_zero_iff.1 c1]; rfl
      exact ⟨fun h => ⟨h,c2,by omega,.inr c1,.inl hk,this⟩,fun h => h.1⟩
    · have hno : nodeB y = false := by
        rw [← Bool.not_eq_true,nodeB_iff]
        rintro ⟨a,b,c,d,e,_⟩
        exact hc ⟨by omega,b⟩
      have hd : (decide ((y.Lf.length : Int) = (0 : Int)) && decide ((y.Kd.length : Int) ≤ (100 : Int))) = false := by
        rw [← Bool.not_eq_true,Bool.and_eq_true,decide_eq_true_eq,decide_eq_true_eq]
        omega
      rw [hd,gdO_false,oB,hno]; rfl
theorem m108F_val {n : Nat} (hn : 1000 < n) : ∀ (f : Nat) (y : R74),Fit n f y → m108F n f (ownF f y) = some (frmF f y)
  | f + 1,y,h => by
    obtain ⟨h1,h2,h3⟩ := h
    unfold m108F m108B
    rw [eta79,m113_val hn,oB,show frmF (f + 1) y = (nodeB y && y.Kd.all fun z => frmF f z.out) from rfl]
    cases hnb : nodeB y with
    | false => rfl
    | true =>
      obtain ⟨a,b,c,d,e,g⟩ := nodeB_iff.1 hnb
      have hk : m114x1 n (m108F n f) (ownF (f + 1) y).Kd = some (!y.Kd.all fun z => frmF f z.out) := by
        unfold m114x1 m121x1
        rw [jn,m121x1_eq]
        have hw : ∀ w ∈ (ownF (f + 1) y).Kd,(fun y => m115 n (m108F n f) (R79.mk y.out.Split y.out.Kd y.out.Lf)) w = some ((fun w : K79 => !((m108F n f w.out).getD false)) w) := by
          intro w hw
          obtain ⟨z,hz,rfl⟩ := List.mem_map.1 hw
          have := m108F_val hn f _ (h3 z hz)
          show m115 n (m108F n f) (ownF f z.out) = some (!((m108F n f (ownF f z.out)).getD false))
          unfold m115
          rw [eta79,this]; rfl
        refine (idx_any (q := fun w : K79 => !((m108F n f w.out).getD false)) hw (by rw [ownF_len]; omega) (by rw [ownF_len]; omega)).trans ?_
        congr 1
        show ((y.Kd.map fun z => K79.of (ownF f z.out)).any _) = _
        rw [List.any_map,List.not_all_eq_any_not]
        rw [Bool.eq_iff_iff,List.any_eq_true,List.any_eq_true]
        constructor
        · rintro ⟨z,hz,hq⟩
          refine ⟨z,hz,?_⟩
          have := m108F_val hn f _ (h3 z hz)
          have hq' : (!((m108F n f (ownF f z.out)).getD false)) = true := hq
          rw [this] at hq'
          exact hq'
        · rintro ⟨z,hz,hq⟩
          refine ⟨z,hz,?_⟩
          have := m108F_val hn f _ (h3 z hz)
          show (!((m108F n f (ownF f z.out)).getD false)) = true
          rw [this]; exact hq
      rw [gdO_true,hk,oB,Bool.not_not]
def treB (n : Nat) (y : R74) : Bool := frmF n y && (decide (nodF n y ≤ 2000) && decide (depF n y ≤ 40))
theorem m76_val {n : Nat} (hn : 1000 < n) {y : R74} (h : Fit n n y) : m76 n y = some (treB n y) := by
  unfold m76 treB
  rw [eta74,show m99 n y = _ from m99F_val hn n y h,oB,show m74 n y = _ from m74F_val n y h]
  cases frmF n y with
  | false => rfl
  | true =>
    rw [gdO_true,oB,Bool.true_and]
    by_cases hc : nodF n y ≤ 2000
    · rw [decide_eq_true hc,gdO_true,show m100 n y = _ from m100F_val n y h,oB]
      rfl
    · rw [decide_eq_false hc]; rfl
theorem m97_val {n : Nat} (hn : 1000 < n) {y : R74} (h : Fit n n y) : m97 n (ownF n y) = some (treB n y) := by
  unfold m97 treB
  rw [eta79,show m106 n (ownF n y) = _ from m106F_val n y h,oB]
  by_cases hc : nodF n y ≤ 2000
  · rw [decide_eq_true hc,gdO_true,show m107 n (ownF n y) = _ from m107F_val n y h,oB,Bool.true_and]
    by_cases hd : depF n y ≤ 40
    · rw [decide_eq_true hd,gdO_true,show m108 n (ownF n y) = _ from m108F_val hn n y h,oB]
      simp
    · rw [decide_eq_false hd]
      simp [gdO]
  · rw [decide_eq_false hc]
    simp [gdO]
end Go.AB

import Derived.Test.YtiginjokbkemcaaGreatLp
set_option linter.unusedVariables false
namespace Go.AB
open Go
def Fit (n : Nat) : Nat → R41 → Prop
  | 0,_ => False
  | f + 1,y => y.Kd.length < n ∧ y.Kd.length ≤ 2513169434916 ∧ ∀ z ∈ y.Kd,Fit n f z.out
inductive OkK : K41 → Prop
  | mk (s : Int) (k : List K41) (l : List Int) (h : k.length ≤ 2513169434916) (hk : ∀ y ∈ k,OkK y) : OkK (.mk s k l)
theorem wIncL {i : Nat} (h : i ≤ 1000000000000000) : IntKind.wrap .i64 ((i : Int) + 1) = ((i + 1 : Nat) : Int) := wrap64 (by omega) (by omega)
theorem eta41 (y : R41) : R41.mk y.Sp y.Kd y.Lf = y := rfl
theorem eta30 (y : R30) : R30.mk y.Sp y.Kd y.Lf = y := rfl
def ownF : Nat → R41 → R30
  | 0,_ => default
  | f + 1,y => ⟨y.Sp,y.Kd.map fun z => K30.of (ownF f z.out),y.Lf⟩
theorem ownF_at {f : Nat} {y : R41} {i : Nat} (h : i < y.Kd.length) : getIdx (ownF (f + 1) y).Kd (i : Int) = some (K30.of (ownF f (y.Kd[i]).out)) := by
  refine getIdx_q rfl ?_
  show (y.Kd.map fun z => K30.of (ownF f z.out))[i]? = _
  rw [List.getElem?_map,List.getElem?_eq_getElem h]; rfl
theorem ownF_len {f : Nat} {y : R41} : (ownF (f + 1) y).Kd.length = y.Kd.length := by simp [ownF]
def nodF : Nat → R41 → Int
  | 0,_ => 0
  | f + 1,y => y.Kd.foldl (fun s z => IntKind.wrap .i64 (s + nodF f z.out)) 1
theorem m85F_val {n : Nat} : ∀ (f : Nat) (y : R41),Fit n f y → m85F n f y = some (nodF f y)
  | f + 1,y,h => by
    obtain ⟨h1,h2,h3⟩ := h
    unfold m85F m85B
    rw [jn]
    refine (loop_run (n := n) (fun i => ((y.Kd.take i).foldl (fun s z => IntKind.wrap .i64 (s + nodF f z.out)) 1,(i : Int))) y.Kd.length (some (nodF (f + 1) y)) (by simp) (fun i hi nx => ?_) (fun nx => ?_) h1)
    · rw [m85_L1,if_pos (decide_eq_true (by omega))]
      dsimp only [letM]
      rw [getIdx_at rfl hi,oB,eta41,m85F_val f _ (h3 _ (List.getElem_mem hi)),oB,wIncL (by omega),foldl_take hi]
    · rw [m85_L1,if_neg (by simp),List.take_length]
      rfl
theorem m30F_val {n : Nat} : ∀ (f : Nat) (y : R41),Fit n f y → m30F n f (ownF f y) = some (nodF f y)
  | f + 1,y,h => by
    obtain ⟨h1,h2,h3⟩ := h
    have hl := ownF_len (f := f) (y := y)
    unfold m30F m30B
    rw [jn]
    refine (loop_run (n := n) (fun i => ((y.Kd.take i).foldl (fun s z => IntKind.wrap .i64 (s + nodF f z.out)) 1,(i : Int))) y.Kd.length (some (nodF (f + 1) y)) (by simp) (fun i hi nx => ?_) (fun nx => ?_) h1)
    · rw [m30_L1,hl,if_pos (decide_eq_true (by omega))]
      dsimp only [letM]
      rw [ownF_at hi,oB]
      rw [show m30F n f (R30.mk (K30.of (ownF f (y.Kd[i]).out)).out.Sp (K30.of (ownF f (y.Kd[i]).out)).out.Kd (K30.of (ownF f (y.Kd[i]).out)).out.Lf) = some (nodF f (y.Kd[i]).out) from m30F_val f _ (h3 _ (List.getElem_mem hi)),oB,wIncL (by omega),foldl_take hi]
    · rw [m30_L1,hl,if_neg (by simp),List.take_length]
      rfl
def mxF (g : K41 → Int) (l : List K41) : Int := l.foldl (fun s z => if g z > s then g z else s) 0
def depF : Nat → R41 → Int
  | 0,_ => 0
  | f + 1,y => IntKind.wrap .i64 (mxF (fun z => depF f z.out) y.Kd + 1)
theorem m86F_val {n : Nat} : ∀ (f : Nat) (y : R41),Fit n f y → m86F n f y = some (depF f y)
  | f + 1,y,h => by
    obtain ⟨h1,h2,h3⟩ := h
    unfold m86F m86B
    rw [jn]
    refine (loop_run (n := n) (fun i => (mxF (fun z => depF f z.out) (y.Kd.take i),(i : Int))) y.Kd.length (some (depF (f + 1) y)) (by simp [mxF]) (fun i hi nx => ?_) (fun nx => ?_) h1)
    · rw [m86_L1,if_pos (decide_eq_true (by omega))]
      dsimp only [letM]
      rw [getIdx_at rfl hi,oB,eta41,m86F_val f _ (h3 _ (List.getElem_mem hi)),oB,wIncL (by omega)]
      unfold mxF
      rw [foldl_take hi]
    · rw [m86_L1,if_neg (by simp),List.take_length]
      rfl
theorem m31F_val {n : Nat} : ∀ (f : Nat) (y : R41),Fit n f y → m31F n f (ownF f y) = some (depF f y)
  | f + 1,y,h => by
    obtain ⟨h1,h2,h3⟩ := h
    have hl := ownF_len (f := f) (y := y)
    unfold m31F m31B
    rw [jn]
    refine (loop_run (n := n) (fun i => (mxF (fun z => depF f z.out) (y.Kd.take i),(i : Int))) y.Kd.length (some (depF (f + 1) y)) (by simp [mxF]) (fun i hi nx => ?_) (fun nx => ?_) h1)
    · rw [m31_L1,hl,if_pos (decide_eq_true (by omega))]
      dsimp only [letM]
      rw [ownF_at hi,oB]
      rw [show m31F n f (R30.mk (K30.of (ownF f (y.Kd[i]).out)).out.Sp (K30.of (ownF f (y.Kd[i]).out)).out.Kd (K30.of (ownF f (y.Kd[i]).out)).out.Lf) = some (depF f (y.Kd[i]).out) from m31F_val f _ (h3 _ (List.getElem_mem hi)),oB,wIncL (by omega)]
      unfold mxF
      rw [foldl_take hi]
    · rw [m31_L1,hl,if_neg (by simp),List.take_length]
      rfl
def smB (x : Int) : Bool := decide ((-1073741824 : Int) ≤ x) && decide (x ≤ (1073741824 : Int))
def nodeB (y : R41) : Bool := smB y.Sp && decide (y.Kd.length ≤ 100) && decide (y.Lf.length ≤ 40) && (decide (y.Kd.length = 0) || decide (y.Lf.length = 0)) && (decide (y.Kd.length ≠ 0) || decide (y.Sp = 0)) && y.Lf.all smB
def frmF : Nat → R41 → Bool
  | 0,_ => false
  | f + 1,y => nodeB y && y.Kd.all fun z => frmF f z.out
theorem nodeB_iff {y : R41} : nodeB y = true ↔ smB y.Sp = true ∧ y.Kd.length ≤ 100 ∧ y.Lf.length ≤ 40 ∧ (y.Kd.length = 0 ∨ y.Lf.length = 0) ∧ (y.Kd.length ≠ 0 ∨ y.Sp = 0) ∧ y.Lf.all smB = true := by
  unfold nodeB
  simp only [Bool.and_eq_true,Bool.or_eq_true,decide_eq_true_eq]
  constructor
  · rintro ⟨⟨⟨⟨⟨a,b⟩,c⟩,d⟩,e⟩,f⟩
    exact ⟨a,b,c,d,e,f⟩
  · rintro ⟨a,b,c,d,e,f⟩
    exact ⟨⟨⟨⟨⟨a,b⟩,c⟩,d⟩,e⟩,f⟩
theorem m84F_val {n : Nat} (hn : 1000 < n) : ∀ (f : Nat) (y : R41),Fit n f y → m84F n f y = some (frmF f y)
  | f + 1,y,h => by
    obtain ⟨h1,h2,h3⟩ := h
    unfold m84F m84B
    rw [show m96 n y.Sp = some (smB y.Sp) from rfl,oB]
    dsimp only [letM]
    by_cases hc : smB y.Sp = true ∧ y.Kd.length ≤ 100 ∧ y.Lf.length ≤ 40 ∧ (y.Kd.length = 0 ∨ y.Lf.length = 0) ∧ (y.Kd.length ≠ 0 ∨ y.Sp = 0)
    · obtain ⟨a,b,c,d,e⟩ := hc
      rw [if_neg (by
        rw [a]
        simp only [Bool.not_true,Bool.false_or,Bool.or_eq_true,Bool.and_eq_true,decide_eq_true_eq,Bool.not_eq_true',decide_eq_false_iff_not]
        omega),jn]
      refine (loop_all (n := n) (fun i => (i : Int)) y.Lf.length (fun i => (y.Lf[i]?).all smB) (some false) (some (y.Kd.all fun z => frmF f z.out)) ?_ ?_ ?_ (by omega)).trans ?_
      · intro i hi hp nx
        rw [List.getElem?_eq_getElem hi] at hp
        have hp' : smB y.Lf[i] = true := hp
        rw [m84_L1,if_pos (decide_eq_true (by omega)),getIdx_at rfl hi,oB,show m96 n y.Lf[i] = some (smB y.Lf[i]) from rfl,oB,hp',if_neg (by simp),letM_eq,wInc (by omega)]
      · intro i hi hp nx
        rw [List.getElem?_eq_getElem hi] at hp
        have hp' : smB y.Lf[i] = false := hp
        rw [m84_L1,if_pos (decide_eq_true (by omega)),getIdx_at rfl hi,oB,show m96 n y.Lf[i] = some (smB y.Lf[i]) from rfl,oB,hp',if_pos (by rfl)]
      · intro nx
        rw [m84_L1,if_neg (by simp),jn]
        refine (loop_all (n := n) (fun i => (i : Int)) y.Kd.length (fun i => (y.Kd[i]?).all fun z => frmF f z.out) (some false) (some true) ?_ ?_ ?_ (by omega)).trans ?_
        · intro i hi hp nx
          rw [List.getElem?_eq_getElem hi] at hp
          have hp' : frmF f (y.Kd[i]).out = true := hp
          rw [m84_L2,if_pos (decide_eq_true (by omega)),getIdx_at rfl hi,oB,eta41,m84F_val hn f _ (h3 _ (List.getElem_mem hi)),oB,hp',if_neg (by simp),letM_eq,wInc (by omega)]
        · intro i hi hp nx
          rw [List.getElem?_eq_getElem hi] at hp
          have hp' : frmF f (y.Kd[i]).out = false := hp
          rw [m84_L2,if_pos (decide_eq_true (by omega)),getIdx_at rfl hi,oB,eta41,m84F_val hn f _ (h3 _ (List.getElem_mem hi)),oB,hp',if_pos (by rfl)]
        · intro nx
          rw [m84_L2,if_neg (by simp)]
        · by_cases hk : (y.Kd.all fun z => frmF f z.out) = true
          · rw [hk,if_pos]
            intro i hi
            rw [List.getElem?_eq_getElem hi]
            exact List.all_eq_true.1 hk _ (List.getElem_mem hi)
          · rw [if_neg,(Bool.not_eq_true _).mp hk]
            intro h
            apply hk
            rw [List.all_eq_true]
            intro z hz
            obtain ⟨i,hi,rfl⟩ := List.getElem_of_mem hz
            have := h i hi
            rw [List.getElem?_eq_getElem hi] at this
            exact this
      · rw [show frmF (f + 1) y = (nodeB y && y.Kd.all fun z => frmF f z.out) from rfl]
        by_cases hl : y.Lf.all smB = true
        · rw [nodeB_iff.2 ⟨a,b,c,d,e,hl⟩,Bool.true_and,if_pos]
          intro i hi
          rw [List.getElem?_eq_getElem hi]
          exact List.all_eq_true.1 hl _ (List.getElem_mem hi)
        · have hno : nodeB y = false := by
            rw [← Bool.not_eq_true,nodeB_iff]
            exact fun h => hl h.2.2.2.2.2
          rw [hno,Bool.false_and,if_neg]
          intro h
          apply hl
          rw [List.all_eq_true]
          intro z hz
          obtain ⟨i,hi,rfl⟩ := List.getElem_of_mem hz
          have := h i hi
          rw [List.getElem?_eq_getElem hi] at this
          exact this
    · have hno : nodeB y = false := by
        rw [← Bool.not_eq_true,nodeB_iff]
        rintro ⟨a,b,c,d,e,_⟩
        exact hc ⟨a,b,c,d,e⟩
      rw [show frmF (f + 1) y = (nodeB y && y.Kd.all fun z => frmF f z.out) from rfl,hno,Bool.false_and,if_pos]
      simp only [Bool.or_eq_true,Bool.and_eq_true,decide_eq_true_eq,Bool.not_eq_true',decide_eq_false_iff_not]
      by_cases hs : smB y.Sp = true
      · have : ¬ (y.Kd.length ≤ 100 ∧ y.Lf.length ≤ 40 ∧ (y.Kd.length = 0 ∨ y.Lf.length = 0) ∧ (y.Kd.length ≠ 0 ∨ y.Sp = 0)) := fun h => hc ⟨hs,h⟩
        rw [hs]
        omega
      · rw [(Bool.not_eq_true _).mp hs]
        simp
theorem m91x1_eq {n : Nat} {xs : List Int} {k : Unit → Option Int} : m91x1_L1 n xs k = idxL xs (fun y => m78 n y) k := rfl
theorem m90x1_eq {n : Nat} {xs : List K30} {rc : R30 → Option Bool} {k : Unit → Option Int} : m90x1_L1 n xs rc k = idxL xs (fun y => m66 n rc (R30.mk y.out.Sp y.out.Kd y.out.Lf)) k := rfl
theorem m51_val {n f : Nat} (hn : 1000 < n) (y : R41) : m51 n (ownF (f + 1) y) = some (nodeB y) := by
  have hl := ownF_len (f := f) (y := y)
  have hs : (ownF (f + 1) y).Sp = y.Sp := rfl
  have hf : (ownF (f + 1) y).Lf = y.Lf := rfl
  unfold m51
  rw [hl,hs,hf]
  have e : ∀ b : Bool,b = nodeB y ↔ (b = true ↔ nodeB y = true) := fun b => Bool.eq_iff_iff
  by_cases hk : y.Kd.length = 0
  · rw [if_neg (by rw [decide_eq_true_eq]; omega)]
    by_cases hc : y.Sp = 0 ∧ y.Lf.length ≤ 40
    · obtain ⟨c1,c2⟩ := hc
      have h80 : m68x1 n y.Lf = some (!y.Lf.all smB) := by
        unfold m68x1 m91x1
        rw [jn,m91x1_eq,← any_not]
        exact idx_any (fun y _ => rfl) (by omega) (by omega)
      rw [decide_eq_true c1,decide_eq_true (show (y.Lf.length : Int) ≤ 40 by omega),Bool.and_self,gdO_true,h80,oB,Bool.not_not,Bool.true_and]
      congr 1
      rw [e,nodeB_iff]
      have : smB y.Sp = true := by rw [c1]; rfl
      exact ⟨fun h => ⟨this,by omega,c2,.inl hk,.inr c1,h⟩,fun h => h.2.2.2.2.2⟩
    · have hno : nodeB y = false := by
        rw [← Bool.not_eq_true,nodeB_iff]
        rintro ⟨a,b,c,d,e,_⟩
        exact hc ⟨by omega,c⟩
      have hd : (decide (y.Sp = (0 : Int)) && decide ((y.Lf.length : Int) ≤ (40 : Int))) = false := by
        rw [← Bool.not_eq_true,Bool.and_eq_true,decide_eq_true_eq,decide_eq_true_eq]
        omega
      rw [hd,gdO_false,oB,hno]; rfl
  · rw [if_pos (decide_eq_true (by omega))]
    by_cases hc : y.Lf.length = 0 ∧ y.Kd.length ≤ 100
    · obtain ⟨c1,c2⟩ := hc
      rw [decide_eq_true (show (y.Lf.length : Int) = 0 by omega),decide_eq_true (show (y.Kd.length : Int) ≤ 100 by omega),Bool.and_self,gdO_true,show m52 n y.Sp = some (smB y.Sp) from rfl,oB,Bool.true_and]
      congr 1
      rw [e,nodeB_iff]
      have : y.Lf.all smB = true := by rw [List.length_eq_zero_iff.1 c1]; rfl
      exact ⟨fun h => ⟨h,c2,by omega,.inr c1,.inl hk,this⟩,fun h => h.1⟩
    · have hno : nodeB y = false := by
        rw [← Bool.not_eq_true,nodeB_iff]
        rintro ⟨a,b,c,d,e,_⟩
        exact hc ⟨by omega,b⟩
      have hd : (decide ((y.Lf.length : Int) = (0 : Int)) && decide ((y.Kd.length : Int) ≤ (100 : Int))) = false := by
        rw [← Bool.not_eq_true,Bool.and_eq_true,decide_eq_true_eq,decide_eq_true_eq]
        omega
      rw [hd,gdO_false,oB,hno]; rfl
theorem m32F_val {n : Nat} (hn : 1000 < n) : ∀ (f : Nat) (y : R41),Fit n f y → m32F n f (ownF f y) = some (frmF f y)
  | f + 1,y,h => by
    obtain ⟨h1,h2,h3⟩ := h
    unfold m32F m32B
    rw [eta30,m51_val hn,oB,show frmF (f + 1) y = (nodeB y && y.Kd.all fun z => frmF f z.out) from rfl]
    cases hnb : nodeB y with
    | false => rfl
    | true =>
      obtain ⟨a,b,c,d,e,g⟩ := nodeB_iff.1 hnb
      have hk : m65x1 n (m32F n f) (ownF (f + 1) y).Kd = some (!y.Kd.all fun z => frmF f z.out) := by
        unfold m65x1 m90x1
        rw [jn,m90x1_eq]
        have hw : ∀ w ∈ (ownF (f + 1) y).Kd,(fun y => m66 n (m32F n f) (R30.mk y.out.Sp y.out.Kd y.out.Lf)) w = some ((fun w : K30 => !((m32F n f w.out).getD false)) w) := by
          intro w hw
          obtain ⟨z,hz,rfl⟩ := List.mem_map.1 hw
          have := m32F_val hn f _ (h3 z hz)
          show m66 n (m32F n f) (ownF f z.out) = some (!((m32F n f (ownF f z.out)).getD false))
          unfold m66
          rw [eta30,this]; rfl
        refine (idx_any (q := fun w : K30 => !((m32F n f w.out).getD false)) hw (by rw [ownF_len]; omega) (by rw [ownF_len]; omega)).trans ?_
        congr 1
        show ((y.Kd.map fun z => K30.of (ownF f z.out)).any _) = _
        rw [List.any_map,List.not_all_eq_any_not]
        rw [Bool.eq_iff_iff,List.any_eq_true,List.any_eq_true]
        constructor
        · rintro ⟨z,hz,hq⟩
          refine ⟨z,hz,?_⟩
          have := m32F_val hn f _ (h3 z hz)
          have hq' : (!((m32F n f (ownF f z.out)).getD false)) = true := hq
          rw [this] at hq'
          exact hq'
        · rintro ⟨z,hz,hq⟩
          refine ⟨z,hz,?_⟩
          have := m32F_val hn f _ (h3 z hz)
          show (!((m32F n f (ownF f z.out)).getD false)) = true
          rw [this]; exact hq
      rw [gdO_true,hk,oB,Bool.not_not]
def treB (n : Nat) (y : R41) : Bool := frmF n y && (decide (nodF n y ≤ 2000) && decide (depF n y ≤ 40))
theorem m61_val {n : Nat} (hn : 1000 < n) {y : R41} (h : Fit n n y) : m61 n y = some (treB n y) := by
  unfold m61 treB
  rw [eta41,show m84 n y = _ from m84F_val hn n y h,oB,show m85 n y = _ from m85F_val n y h]
  cases frmF n y with
  | false => rfl
  | true =>
    rw [gdO_true,oB,Bool.true_and]
    by_cases hc : nodF n y ≤ 2000
    · rw [decide_eq_true hc,gdO_true,show m86 n y = _ from m86F_val n y h,oB]
      rfl
    · rw [decide_eq_false hc]; rfl
theorem m12_val {n : Nat} (hn : 1000 < n) {y : R41} (h : Fit n n y) : m12 n (ownF n y) = some (treB n y) := by
  unfold m12 treB
  rw [eta30,show m30 n (ownF n y) = _ from m30F_val n y h,oB]
  by_cases hc : nodF n y ≤ 2000
  · rw [decide_eq_true hc,gdO_true,show m31 n (ownF n y) = _ from m31F_val n y h,oB,Bool.true_and]
    by_cases hd : depF n y ≤ 40
    · rw [decide_eq_true hd,gdO_true,show m32 n (ownF n y) = _ from m32F_val hn n y h,oB]
      simp
    · rw [decide_eq_false hd]
      simp [gdO]
  · rw [decide_eq_false hc]
    simp [gdO]
end Go.AB

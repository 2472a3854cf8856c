import Derived.Test.YtpccmcepgllccaaGreatLz
import Derived.Test.YtpccmcepgllccaaGreatLu
set_option linter.unusedVariables false
namespace Go.AB
open Go
theorem loop_cnt {σ R : Type} {body : (σ → Option R) → σ → Option R} (enc : Nat → σ) (len : Nat) (K : Option R)
    (go : ∀ i,i < len → ∀ nx,body nx (enc i) = nx (enc (i + 1))) (fin : ∀ nx,body nx (enc len) = K) {n : Nat} (hn : len < n) : loopM body n (enc 0) = K := by
  rcases loop_find enc len (fun _ => false) (fun _ => K) K (fun i h _ => go i h) (fun i h hp => by cases hp) fin hn with ⟨i,h1,h2,_⟩ | ⟨_,e⟩
  · cases h2
  · exact e
theorem loop_run {σ R : Type} {body : (σ → Option R) → σ → Option R} {n : Nat} {x0 : σ} (enc : Nat → σ) (len : Nat) (K : Option R) (h0 : x0 = enc 0)
    (go : ∀ i,i < len → ∀ nx,body nx (enc i) = nx (enc (i + 1))) (fin : ∀ nx,body nx (enc len) = K) (hn : len < n) : loopM body n x0 = K := by
  subst h0
  exact loop_cnt enc len K go fin hn
theorem wInc {i : Nat} (h : i ≤ 1000000000) : IntKind.wrap .i64 ((i : Int) + 1) = ((i + 1 : Nat) : Int) := wrap64 (by omega) (by omega)
def idxL {α : Type} (xs : List α) (p : α → Option Bool) (k : Unit → Option Int) (nx : Int → Option Int) (x : Int) : Option Int :=
  if (decide (x < (xs.length : Int))) = true then ((getIdx xs x).bind fun y => ((p y).bind fun b => (if b = true then (some x) else (letM ((IntKind.wrap .i64 (x + (1 : Int)))) fun t => (nx t))))) else (k ())
theorem any_iff {α : Type} {xs : List α} {q : α → Bool} : xs.any q = true ↔ ∃ i,i < xs.length ∧ (xs[i]?).any q = true := by
  rw [List.any_eq_true]
  constructor
  · rintro ⟨x,hx,hq⟩
    obtain ⟨i,hi,rfl⟩ := List.getElem_of_mem hx
    exact ⟨i,hi,by rw [List.getElem?_eq_getElem hi]; exact hq⟩
  · rintro ⟨i,hi,h⟩
    rw [List.getElem?_eq_getElem hi] at h
    exact ⟨_,List.getElem_mem hi,h⟩
theorem idx_any {α : Type} {xs : List α} {p : α → Option Bool} {q : α → Bool} {n : Nat} (h : ∀ y ∈ xs,p y = some (q y)) (hl : xs.length ≤ 1000000) (hn : xs.length < n) :
    (loopM (idxL xs p fun _ => some (-1)) n 0).bind (fun y => some (decide ((0 : Int) ≤ y))) = some (xs.any q) := by
  refine loop_findP (body := idxL xs p fun _ => some (-1)) (fun i => (i : Int)) xs.length (fun i => (xs[i]?).any q) (fun i => some (i : Int)) (some (-1)) (fun o => o.bind (fun y => some (decide ((0 : Int) ≤ y))) = some (xs.any q)) ?_ ?_ ?_ hn (fun i h1 h2 _ => ?_) fun h1 => ?_
  · intro i hi hp nx
    rw [List.getElem?_eq_getElem hi] at hp
    have hq : q xs[i] = false := hp
    rw [idxL,if_pos (by simp; omega),getIdx_at rfl hi,Option.bind_some,h _ (List.getElem_mem hi),Option.bind_some,hq,if_neg (by simp),letM_eq,wInc (by omega)]
  · intro i hi hp nx
    rw [List.getElem?_eq_getElem hi] at hp
    have hq : q xs[i] = true := hp
    rw [idxL,if_pos (by simp; omega),getIdx_at rfl hi,Option.bind_some,h _ (List.getElem_mem hi),Option.bind_some,hq,if_pos rfl]
  · intro nx
    rw [idxL,if_neg (by simp)]
  · rw [Option.bind_some,decide_eq_true (by omega),any_iff.2 ⟨i,h1,h2⟩]
  · rw [Option.bind_some]
    congr 1
    symm
    rw [show decide ((0 : Int) ≤ -1) = false from rfl,← Bool.not_eq_true]
    intro hh
    obtain ⟨i,hi,h2⟩ := any_iff.1 hh
    rw [h1 i hi] at h2
    cases h2
theorem any_not {α : Type} {xs : List α} {q : α → Bool} : (xs.any fun y => !q y) = !xs.all q := by
  rw [List.not_all_eq_any_not]
theorem foldl_take {α S : Type} {f : S → α → S} {s : S} {l : List α} {i : Nat} (hi : i < l.length) : (l.take (i + 1)).foldl f s = f ((l.take i).foldl f s) l[i] := by
  rw [List.take_succ_eq_append_getElem hi,List.foldl_append]; rfl
def Fit (n : Nat) : Nat → R27 → Prop
  | 0,_ => False
  | f + 1,y => y.Kd.length < n ∧ y.Kd.length ≤ 2513169434916 ∧ ∀ z ∈ y.Kd,Fit n f z.out
inductive OkK : K27 → Prop
  | mk (s : Int) (k : List K27) (l : List Int) (h : k.length ≤ 2513169434916) (hk : ∀ y ∈ k,OkK y) : OkK (.mk s k l)
theorem wIncL {i : Nat} (h : i ≤ 1000000000000000) : IntKind.wrap .i64 ((i : Int) + 1) = ((i + 1 : Nat) : Int) := wrap64 (by omega) (by omega)
theorem eta27 (y : R27) : R27.mk y.Sp y.Kd y.Lf = y := rfl
theorem eta40 (y : R40) : R40.mk y.Sp y.Kd y.Lf = y := rfl
def ownF : Nat → R27 → R40
  | 0,_ => default
  | f + 1,y => ⟨y.Sp,y.Kd.map fun z => K40.of (ownF f z.out),y.Lf⟩
theorem ownF_at {f : Nat} {y : R27} {i : Nat} (h : i < y.Kd.length) : getIdx (ownF (f + 1) y).Kd (i : Int) = some (K40.of (ownF f (y.Kd[i]).out)) := by
  refine getIdx_q rfl ?_
  show (y.Kd.map fun z => K40.of (ownF f z.out))[i]? = _
  rw [List.getElem?_map,List.getElem?_eq_getElem h]; rfl
theorem ownF_len {f : Nat} {y : R27} : (ownF (f + 1) y).Kd.length = y.Kd.length := by simp [ownF]
def nodF : Nat → R27 → Int
  | 0,_ => 0
  | f + 1,y => y.Kd.foldl (fun s z => IntKind.wrap .i64 (s + nodF f z.out)) 1
theorem m26F_val {n : Nat} : ∀ (f : Nat) (y : R27),Fit n f y → m26F n f y = some (nodF f y)
  | f + 1,y,h => by
    obtain ⟨h1,h2,h3⟩ := h
    unfold m26F m26B
    rw [jn]
    refine (loop_run (n := n) (fun i => ((y.Kd.take i).foldl (fun s z => IntKind.wrap .i64 (s + nodF f z.out)) 1,(i : Int))) y.Kd.length (some (nodF (f + 1) y)) (by simp) (fun i hi nx => ?_) (fun nx => ?_) h1)
    · rw [m26_L1,if_pos (decide_eq_true (by omega))]
      dsimp only [letM]
      rw [getIdx_at rfl hi,Option.bind_some,eta27,m26F_val f _ (h3 _ (List.getElem_mem hi)),Option.bind_some,wIncL (by omega),foldl_take hi]
    · rw [m26_L1,if_neg (by simp),List.take_length]
      rfl
theorem m43F_val {n : Nat} : ∀ (f : Nat) (y : R27),Fit n f y → m43F n f (ownF f y) = some (nodF f y)
  | f + 1,y,h => by
    obtain ⟨h1,h2,h3⟩ := h
    have hl := ownF_len (f := f) (y := y)
    unfold m43F m43B
    rw [jn]
    refine (loop_run (n := n) (fun i => ((y.Kd.take i).foldl (fun s z => IntKind.wrap .i64 (s + nodF f z.out)) 1,(i : Int))) y.Kd.length (some (nodF (f + 1) y)) (by simp) (fun i hi nx => ?_) (fun nx => ?_) h1)
    · rw [m43_L1,hl,if_pos (decide_eq_true (by omega))]
      dsimp only [letM]
      rw [ownF_at hi,Option.bind_some]
      rw [show m43F n f (R40.mk (K40.of (ownF f (y.Kd[i]).out)).out.Sp (K40.of (ownF f (y.Kd[i]).out)).out.Kd (K40.of (ownF f (y.Kd[i]).out)).out.Lf) = some (nodF f (y.Kd[i]).out) from m43F_val f _ (h3 _ (List.getElem_mem hi)),Option.bind_some,wIncL (by omega),foldl_take hi]
    · rw [m43_L1,hl,if_neg (by simp),List.take_length]
      rfl
def mxF (g : K27 → Int) (l : List K27) : Int := l.foldl (fun s z => if g z > s then g z else s) 0
def depF : Nat → R27 → Int
  | 0,_ => 0
  | f + 1,y => IntKind.wrap .i64 (mxF (fun z => depF f z.out) y.Kd + 1)
theorem m54F_val {n : Nat} : ∀ (f : Nat) (y : R27),Fit n f y → m54F n f y = some (depF f y)
  | f + 1,y,h => by
    obtain ⟨h1,h2,h3⟩ := h
    unfold m54F m54B
    rw [jn]
    refine (loop_run (n := n) (fun i => (mxF (fun z => depF f z.out) (y.Kd.take i),(i : Int))) y.Kd.length (some (depF (f + 1) y)) (by simp [mxF]) (fun i hi nx => ?_) (fun nx => ?_) h1)
    · rw [m54_L1,if_pos (decide_eq_true (by omega))]
      dsimp only [letM]
      rw [getIdx_at rfl hi,Option.bind_some,eta27,m54F_val f _ (h3 _ (List.getElem_mem hi)),Option.bind_some,wIncL (by omega)]
      unfold mxF
      rw [foldl_take hi]
    · rw [m54_L1,if_neg (by simp),List.take_length]
      rfl
theorem m44F_val {n : Nat} : ∀ (f : Nat) (y : R27),Fit n f y → m44F n f (ownF f y) = some (depF f y)
  | f + 1,y,h => by
    obtain ⟨h1,h2,h3⟩ := h
    have hl := ownF_len (f := f) (y := y)
    unfold m44F m44B
    rw [jn]
    refine (loop_run (n := n) (fun i => (mxF (fun z => depF f z.out) (y.Kd.take i),(i : Int))) y.Kd.length (some (depF (f + 1) y)) (by simp [mxF]) (fun i hi nx => ?_) (fun nx => ?_) h1)
    · rw [m44_L1,hl,if_pos (decide_eq_true (by omega))]
      dsimp only [letM]
      rw [ownF_at hi,Option.bind_some]
      rw [show m44F n f (R40.mk (K40.of (ownF f (y.Kd[i]).out)).out.Sp (K40.of (ownF f (y.Kd[i]).out)).out.Kd (K40.of (ownF f (y.Kd[i]).out)).out.Lf) = some (depF f (y.Kd[i]).out) from m44F_val f _ (h3 _ (List.getElem_mem hi)),Option.bind_some,wIncL (by omega)]
      unfold mxF
      rw [foldl_take hi]
    · rw [m44_L1,hl,if_neg (by simp),List.take_length]
      rfl
def smB (x : Int) : Bool := decide ((-1073741824 : Int) ≤ x) && decide (x ≤ (1073741824 : Int))
def nodeB (y : R27) : Bool := smB y.Sp && decide (y.Kd.length ≤ 100) && decide (y.Lf.length ≤ 40) && (decide (y.Kd.length = 0) || decide (y.Lf.length = 0)) && (decide (y.Kd.length ≠ 0) || decide (y.Sp = 0)) && y.Lf.all smB
def frmF : Nat → R27 → Bool
  | 0,_ => false
  | f + 1,y => nodeB y && y.Kd.all fun z => frmF f z.out
theorem nodeB_iff {y : R27} : nodeB y = true ↔ smB y.Sp = true ∧ y.Kd.length ≤ 100 ∧ y.Lf.length ≤ 40 ∧ (y.Kd.length = 0 ∨ y.Lf.length = 0) ∧ (y.Kd.length ≠ 0 ∨ y.Sp = 0) ∧ y.Lf.all smB = true := by
  unfold nodeB
  simp only [Bool.and_eq_true,Bool.or_eq_true,decide_eq_true_eq]
  constructor
  · rintro ⟨⟨⟨⟨⟨a,b⟩,c⟩,d⟩,e⟩,f⟩
    exact ⟨a,b,c,d,e,f⟩
  · rintro ⟨a,b,c,d,e,f⟩
    exact ⟨⟨⟨⟨⟨a,b⟩,c⟩,d⟩,e⟩,f⟩
theorem m53F_val {n : Nat} (hn : 1000 < n) : ∀ (f : Nat) (y : R27),Fit n f y → m53F n f y = some (frmF f y)
  | f + 1,y,h => by
    obtain ⟨h1,h2,h3⟩ := h
    unfold m53F m53B
    rw [show m69 n y.Sp = some (smB y.Sp) from rfl,Option.bind_some]
    dsimp only [letM]
    by_cases hc : smB y.Sp = true ∧ y.Kd.length ≤ 100 ∧ y.Lf.length ≤ 40 ∧ (y.Kd.length = 0 ∨ y.Lf.length = 0) ∧ (y.Kd.length ≠ 0 ∨ y.Sp = 0)
    · obtain ⟨a,b,c,d,e⟩ := hc
      rw [if_neg (by
        rw [a]
        simp only [Bool.not_true,Bool.false_or,Bool.or_eq_true,Bool.and_eq_true,decide_eq_true_eq,Bool.not_eq_true',decide_eq_false_iff_not]
        omega),jn]
      refine (loop_all (n := n) (fun i => (i : Int)) y.Lf.length (fun i => (y.Lf[i]?).all smB) (some false) (some (y.Kd.all fun z => frmF f z.out)) ?_ ?_ ?_ (by omega)).trans ?_
      · intro i hi hp nx
        rw [List.getElem?_eq_getElem hi] at hp
        have hp' : smB y.Lf[i] = true := hp
        rw [m53_L1,if_pos (decide_eq_true (by omega)),getIdx_at rfl hi,Option.bind_some,show m69 n y.Lf[i] = some (smB y.Lf[i]) from rfl,Option.bind_some,hp',if_neg (by simp),letM_eq,wInc (by omega)]
      · intro i hi hp nx
        rw [List.getElem?_eq_getElem hi] at hp
        have hp' : smB y.Lf[i] = false := hp
        rw [m53_L1,if_pos (decide_eq_true (by omega)),getIdx_at rfl hi,Option.bind_some,show m69 n y.Lf[i] = some (smB y.Lf[i]) from rfl,Option.bind_some,hp',if_pos (by rfl)]
      · intro nx
        rw [m53_L1,if_neg (by simp),jn]
        refine (loop_all (n := n) (fun i => (i : Int)) y.Kd.length (fun i => (y.Kd[i]?).all fun z => frmF f z.out) (some false) (some true) ?_ ?_ ?_ (by omega)).trans ?_
        · intro i hi hp nx
          rw [List.getElem?_eq_getElem hi] at hp
          have hp' : frmF f (y.Kd[i]).out = true := hp
          rw [m53_L2,if_pos (decide_eq_true (by omega)),getIdx_at rfl hi,Option.bind_some,eta27,m53F_val hn f _ (h3 _ (List.getElem_mem hi)),Option.bind_some,hp',if_neg (by simp),letM_eq,wInc (by omega)]
        · intro i hi hp nx
          rw [List.getElem?_eq_getElem hi] at hp
          have hp' : frmF f (y.Kd[i]).out = false := hp
          rw [m53_L2,if_pos (decide_eq_true (by omega)),getIdx_at rfl hi,Option.bind_some,eta27,m53F_val hn f _ (h3 _ (List.getElem_mem hi)),Option.bind_some,hp',if_pos (by rfl)]
        · intro nx
          rw [m53_L2,if_neg (by simp)]
        · by_cases hk : (y.Kd.all fun z => frmF f z.out) = true
          · rw [hk,if_pos]
            intro i hi
            rw [List.getElem?_eq_getElem hi]
            exact List.all_eq_true.1 hk _ (List.getElem_mem hi)
          · rw [if_neg,(Bool.not_eq_true _).mp hk]
            intro h
            apply hk
            rw [List.all_eq_true]
            intro z hz
            obtain ⟨i,hi,rfl⟩ := List.getElem_of_mem hz
            have := h i hi
            rw [List.getElem?_eq_getElem hi] at this
            exact this
      · rw [show frmF (f + 1) y = (nodeB y && y.Kd.all fun z => frmF f z.out) from rfl]
        by_cases hl : y.Lf.all smB = true
        · rw [nodeB_iff.2 ⟨a,b,c,d,e,hl⟩,Bool.true_and,if_pos]
          intro i hi
          rw [List.getElem?_eq_getElem hi]
          exact List.all_eq_true.1 hl _ (List.getElem_mem hi)
        · have hno : nodeB y = false := by
            rw [← Bool.not_eq_true,nodeB_iff]
            exact fun h => hl h.2.2.2.2.2
          rw [hno,Bool.false_and,if_neg]
          intro h
          apply hl
          rw [List.all_eq_true]
          intro z hz
          obtain ⟨i,hi,rfl⟩ := List.getElem_of_mem hz
          have := h i hi
          rw [List.getElem?_eq_getElem hi] at this
          exact this
    · have hno : nodeB y = false := by
        rw [← Bool.not_eq_true,nodeB_iff]
        rintro ⟨a,b,c,d,e,_⟩
        exact hc ⟨a,b,c,d,e⟩
      rw [show frmF (f + 1) y = (nodeB y && y.Kd.all fun z => frmF f z.out) from rfl,hno,Bool.false_and,if_pos]
      simp only [Bool.or_eq_true,Bool.and_eq_true,decide_eq_true_eq,Bool.not_eq_true',decide_eq_false_iff_not]
      by_cases hs : smB y.Sp = true
      · have : ¬ (y.Kd.length ≤ 100 ∧ y.Lf.length ≤ 40 ∧ (y.Kd.length = 0 ∨ y.Lf.length = 0) ∧ (y.Kd.length ≠ 0 ∨ y.Sp = 0)) := fun h => hc ⟨hs,h⟩
        rw [hs]
        omega
      · rw [(Bool.not_eq_true _).mp hs]
        simp
theorem m77_eq {n : Nat} {xs : List Int} {k : Unit → Option Int} : m77_L1 n xs k = idxL xs (fun y => m72 n y) k := rfl
theorem m75x1_eq {n : Nat} {xs : List K40} {rc : R40 → Option Bool} {k : Unit → Option Int} : m75x1_L1 n xs rc k = idxL xs (fun y => m66 n rc (R40.mk y.out.Sp y.out.Kd y.out.Lf)) k := rfl
theorem m62_val {n f : Nat} (hn : 1000 < n) (y : R27) : m62 n (ownF (f + 1) y) = some (nodeB y) := by
  have hl := ownF_len (f := f) (y := y)
  have hs : (ownF (f + 1) y).Sp = y.Sp := rfl
  have hf : (ownF (f + 1) y).Lf = y.Lf := rfl
  unfold m62
  rw [hl,hs,hf]
  have e : ∀ b : Bool,b = nodeB y ↔ (b = true ↔ nodeB y = true) := fun b => Bool.eq_iff_iff
  by_cases hk : y.Kd.length = 0
  · rw [if_neg (by rw [decide_eq_true_eq]; omega)]
    by_cases hc : y.Sp = 0 ∧ y.Lf.length ≤ 40
    · obtain ⟨c1,c2⟩ := hc
      have h80 : m71 n y.Lf = some (!y.Lf.all smB) := by
        unfold m71 m77
        rw [jn,m77_eq,← any_not]
        exact idx_any (fun y _ => rfl) (by omega) (by omega)
      rw [decide_eq_true c1,decide_eq_true (show (y.Lf.length : Int) ≤ 40 by omega),Bool.and_self,gdO_true,h80,Option.bind_some,Bool.not_not,Bool.true_and]
      congr 1
      rw [e,nodeB_iff]
      have : smB y.Sp = true := by rw [c1]; rfl
      exact ⟨fun h => ⟨this,by omega,c2,.inl hk,.inr c1,h⟩,fun h => h.2.2.2.2.2⟩
    · have hno : nodeB y = false := by
        rw [← Bool.not_eq_true,nodeB_iff]
        rintro ⟨a,b,c,d,e,_⟩
        exact hc ⟨by omega,c⟩
      have hd : (decide (y.Sp = (0 : Int)) && decide ((y.Lf.length : Int) ≤ (40 : Int))) = false := by
        rw [← Bool.not_eq_true,Bool.and_eq_true,decide_eq_true_eq,decide_eq_true_eq]
        omega
      rw [hd,gdO_false,Option.bind_some,hno]; rfl
  · rw [if_pos (decide_eq_true (by omega))]
    by_cases hc : y.Lf.length = 0 ∧ y.Kd.length ≤ 100
    · obtain ⟨c1,c2⟩ := hc
      rw [decide_eq_true (show (y.Lf.length : Int) = 0 by omega),decide_eq_true (show (y.Kd.length : Int) ≤ 100 by omega),Bool.and_self,gdO_true,show m63 n y.Sp = some (smB y.Sp) from rfl,Option.bind_some,Bool.true_and]
      congr 1
      rw [e,nodeB_iff]
      have : y.Lf.all smB = true := by rw [List.length_eq_zero_iff.1 c1]; rfl
      exact ⟨fun h => ⟨h,c2,by omega,.inr c1,.inl hk,this⟩,fun h => h.1⟩
    · have hno : nodeB y = false := by
        rw [← Bool.not_eq_true,nodeB_iff]
        rintro ⟨a,b,c,d,e,_⟩
        exact hc ⟨by omega,b⟩
      have hd : (decide ((y.Lf.length : Int) = (0 : Int)) && decide ((y.Kd.length : Int) ≤ (100 : Int))) = false := by
        rw [← Bool.not_eq_true,Bool.and_eq_true,decide_eq_true_eq,decide_eq_true_eq]
        omega
      rw [hd,gdO_false,Option.bind_some,hno]; rfl
theorem m45F_val {n : Nat} (hn : 1000 < n) : ∀ (f : Nat) (y : R27),Fit n f y → m45F n f (ownF f y) = some (frmF f y)
  | f + 1,y,h => by
    obtain ⟨h1,h2,h3⟩ := h
    unfold m45F m45B
    rw [eta40,m62_val hn,Option.bind_some,show frmF (f + 1) y = (nodeB y && y.Kd.all fun z => frmF f z.out) from rfl]
    cases hnb : nodeB y with
    | false => rfl
    | true =>
      obtain ⟨a,b,c,d,e,g⟩ := nodeB_iff.1 hnb
      have hk : m65x1 n (m45F n f) (ownF (f + 1) y).Kd = some (!y.Kd.all fun z => frmF f z.out) := by
        unfold m65x1 m75x1
        rw [jn,m75x1_eq]
        have hw : ∀ w ∈ (ownF (f + 1) y).Kd,(fun y => m66 n (m45F n f) (R40.mk y.out.Sp y.out.Kd y.out.Lf)) w = some ((fun w : K40 => !((m45F n f w.out).getD false)) w) := by
          intro w hw
          obtain ⟨z,hz,rfl⟩ := List.mem_map.1 hw
          have := m45F_val hn f _ (h3 z hz)
          show m66 n (m45F n f) (ownF f z.out) = some (!((m45F n f (ownF f z.out)).getD false))
          unfold m66
          rw [eta40,this]; rfl
        refine (idx_any (q := fun w : K40 => !((m45F n f w.out).getD false)) hw (by rw [ownF_len]; omega) (by rw [ownF_len]; omega)).trans ?_
        congr 1
        show ((y.Kd.map fun z => K40.of (ownF f z.out)).any _) = _
        rw [List.any_map,List.not_all_eq_any_not]
        rw [Bool.eq_iff_iff,List.any_eq_true,List.any_eq_true]
        constructor
        · rintro ⟨z,hz,hq⟩
          refine ⟨z,hz,?_⟩
          have := m45F_val hn f _ (h3 z hz)
          have hq' : (!((m45F n f (ownF f z.out)).getD false)) = true := hq
          rw [this] at hq'
          exact hq'
        · rintro ⟨z,hz,hq⟩
          refine ⟨z,hz,?_⟩
          have := m45F_val hn f _ (h3 z hz)
          show (!((m45F n f (ownF f z.out)).getD false)) = true
          rw [this]; exact hq
      rw [gdO_true,hk,Option.bind_some,Bool.not_not]
def treB (n : Nat) (y : R27) : Bool := frmF n y && (decide (nodF n y ≤ 2000) && decide (depF n y ≤ 40))
theorem m32_val {n : Nat} (hn : 1000 < n) {y : R27} (h : Fit n n y) : m32 n y = some (treB n y) := by
  unfold m32 treB
  rw [eta27,show m53 n y = _ from m53F_val hn n y h,Option.bind_some,show m26 n y = _ from m26F_val n y h]
  cases frmF n y with
  | false => rfl
  | true =>
    rw [gdO_true,Option.bind_some,Bool.true_and]
    by_cases hc : nodF n y ≤ 2000
    · rw [decide_eq_true hc,gdO_true,show m54 n y = _ from m54F_val n y h,Option.bind_some]
      rfl
    · rw [decide_eq_false hc]; rfl
theorem m22_val {n : Nat} (hn : 1000 < n) {y : R27} (h : Fit n n y) : m22 n (ownF n y) = some (treB n y) := by
  unfold m22 treB
  rw [eta40,show m43 n (ownF n y) = _ from m43F_val n y h,Option.bind_some]
  by_cases hc : nodF n y ≤ 2000
  · rw [decide_eq_true hc,gdO_true,show m44 n (ownF n y) = _ from m44F_val n y h,Option.bind_some,Bool.true_and]
    by_cases hd : depF n y ≤ 40
    · rw [decide_eq_true hd,gdO_true,show m45 n (ownF n y) = _ from m45F_val hn n y h,Option.bind_some]
      simp
    · rw [decide_eq_false hd]
      simp [gdO]
  · rw [decide_eq_false hc]
    simp [gdO]
end Go.AB

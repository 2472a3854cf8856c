import Derived.Test.YtpccmcepgllccaaGreatLl
import Derived.Test.YtpccmcepgllccaaGreatLs
set_option linter.unusedVariables false
namespace Go.AB
open Go
theorem vld_pos' {l : List R63} (h : vld l = true) : ∀ y,y ∈ l → 1 ≤ y.Ln := by
  unfold vld at h
  simp only [Bool.and_eq_true,decide_eq_true_eq] at h
  intro y hy
  have := okJ_iff.1 (List.all_eq_true.1 h.2 y hy)
  omega
theorem m88_val {n : Nat} {l : List R63} (hn : 5000 < n) (hll : l.length ≤ 4000) : (vld l = true → ∃ o,m88 n l = some (o,0) ∧ Runs l 0 (lens l) [] o ∧ o.length = l.length) ∧ (vld l = false → m88 n l = some ([],1)) := by
  unfold m88
  rw [m19_val (by omega) (by omega),oB]
  constructor
  · intro h
    have hb := bd_vld h
    rw [h,if_neg (by simp)]
    unfold jn
    dsimp only
    obtain ⟨o,e,h1,h2⟩ := m88_loop (n := n) hb.1 (vld_pos' h) (by omega) hn (fun p => some (p,0))
    refine ⟨o,(lens_loop (n := n) (l := l) (by omega) (fun p => loopM (m88_L4 n l fun p => some (p,0)) n (0,p,[])) ?_ ?_).trans e,h1,h2⟩
    · intro i s hi hs nx
      rw [m88_L1,if_pos (by simp; omega)]
      dsimp only
      rw [Jn_get hi,oB,apd_val (by simp; omega),oB,letM_eq,wrap64 (by omega) (by omega)]
      rfl
    · intro s nx
      rw [m88_L1,if_neg (by simp)]
  · intro h
    rw [h]
    rfl
def ltR (l : List R63) (a b : Int) : Bool := decide ((J l a).Rl < (J l b).Rl)
def cmpI (a b : Int) : Int := if a < b then -1 else if b < a then 1 else 0
theorem m82_val {n : Nat} {a b : Int} : m82 n a b = some (cmpI a b) := by
  unfold m82 cmpI
  rw [show ∀ a,m102 n a = some false from fun a => by unfold m102; simp,oB,show ∀ a,m102 n a = some false from fun a => by unfold m102; simp,oB]
  by_cases h : a < b
  · simp [h]
  · by_cases h2 : b < a <;> simp [h,h2]
theorem m81_val {n : Nat} {l : List R63} {a b : Int} (ha : 0 ≤ a ∧ a < (l.length : Int)) (hb : 0 ≤ b ∧ b < (l.length : Int)) : m81 n a b l = some (cmpI (J l a).Rl (J l b).Rl) := by
  unfold m81
  rw [gJ ha.1 ha.2,oB,gJ hb.1 hb.2,oB,m82_val]
  rfl
theorem tR {l : List R63} {x p : Int} (h : ltR l x p = true) : (decide (cmpI (J l x).Rl (J l p).Rl < 0)) = true := by
  unfold ltR at h
  have := of_decide_eq_true h
  unfold cmpI
  rw [if_pos this]
  rfl
theorem tR' {l : List R63} {x p : Int} (h : (decide (cmpI (J l x).Rl (J l p).Rl < 0)) = true) : ltR l x p = true := by
  unfold cmpI at h
  unfold ltR
  by_cases c : (J l x).Rl < (J l p).Rl
  · exact decide_eq_true c
  · rw [if_neg c] at h
    split at h <;> simp at h
def ltN (a b : Int) : Bool := decide (a < b)
theorem m96_val {n : Nat} {a b : Int} : m96 n a b = some (ltN a b) := by
  unfold m96 ltN
  rw [show ∀ a,m102 n a = some false from fun a => by unfold m102; simp,oB]
  simp [gdO_false]
theorem tN {x p : Int} (h : ltN x p = true) : ltN x p = true := h
theorem tN' {x p : Int} (h : ltN x p = true) : ltN x p = true := h
def inL (l : List R63) (x : Int) : Prop := 0 ≤ x ∧ x < (l.length : Int)
def anyI (x : Int) : Prop := True
theorem m108_L4_val {N : Nat} {l : List R63} {x : Int} (hx : inL l x) (k : List Int → Option (List Int)) : ∀ (ps qs : List Int) (n : Nat),(∀ p,p ∈ ps → inL l p) → ps.length ≤ 1000 → ps.length < n →
    loopM (m108_L4 N 0 l k) n ((ps.length : Int),ps.reverse ++ x :: qs) = k ((insR (ltR l) x ps).reverse ++ qs)
  | [],qs,n + 1,_,_,_ => by
    rw [loopM_succ,m108_L4]
    simp [gdO,insR]
  | p :: ps,qs,n + 1,ho,hl,hn => by
    have hp := ho p (by simp)
    have hc : decide ((0 : Int) < (((p :: ps).length : Nat) : Int)) = true := by simp
    simp only [List.length_cons] at hl hn
    have e1 : (p :: ps).reverse ++ x :: qs = ps.reverse ++ p :: x :: qs := by simp
    have e2 : ps.reverse ++ p :: x :: qs = (ps.reverse ++ [p]) ++ x :: qs := by simp
    have e3 : (((p :: ps).length : Nat) : Int) = (((ps.reverse ++ [p]).length : Nat) : Int) := by simp
    have e4 : IntKind.wrap .i64 ((((p :: ps).length : Nat) : Int) - 1) = ((ps.reverse.length : Nat) : Int) := by
      rw [wrap64 (by simp only [List.length_cons]; omega) (by simp only [List.length_cons]; omega)]; simp only [List.length_cons,List.length_reverse]; omega
    rw [loopM_succ,m108_L4]
    simp only [hc,gdO_true,Bool.true_and]
    rw [e1,e2,get_mid e3]
    simp only [oB]
    rw [← e2,e4,get_mid rfl]
    simp only [oB]
    rw [m81_val hx hp]
    simp only [oB]
    by_cases h : (ltR l) x p = true
    · rw [if_pos (tR h),e2,put_mid e3]
      simp only [oB]
      rw [show ps.reverse ++ [p] ++ p :: qs = ps.reverse ++ p :: p :: qs by simp,get_mid rfl]
      simp only [oB]
      rw [put_mid rfl]
      simp only [oB,letM_eq]
      have ih := m108_L4_val (N := N) hx k ps (p :: qs) n (fun q hq => ho q (List.mem_cons_of_mem _ hq)) (by omega) (by omega)
      rw [List.length_reverse]
      refine Eq.trans ih ?_
      rw [insR,if_pos h]
      simp
    · rw [if_neg (fun hh => h (tR' hh)),insR,if_neg h]
      simp
theorem m108_L3_val {N : Nat} {l : List R63} (k : List Int → Option (List Int)) (e : Nat) : ∀ (xs acc qs : List Int) (n : Nat),(∀ p,p ∈ acc → inL l p) → (∀ p,p ∈ xs → inL l p) → acc.length + xs.length = e → e ≤ 1000 → xs.length < n → 1000 < N →
    loopM (m108_L3 N 0 (e : Int) l k) n ((acc.length : Int),acc.reverse ++ xs ++ qs) = k (isr (ltR l) acc xs ++ qs)
  | [],acc,qs,n + 1,ha,hx,hl,h2,hn,hN => by
    simp only [List.length_nil,Nat.add_zero] at hl
    rw [loopM_succ,m108_L3,if_neg (by simp; omega)]
    simp [isr]
  | x :: xs,acc,qs,n + 1,ha,hx,hl,h2,hn,hN => by
    simp only [List.length_cons] at hl hn
    have hxx := hx x (by simp)
    rw [loopM_succ,m108_L3,if_pos (by simp; omega),show acc.reverse ++ x :: xs ++ qs = acc.reverse ++ x :: (xs ++ qs) by simp,jn]
    refine (m108_L4_val hxx _ acc (xs ++ qs) N ha (by omega) (by omega)).trans ?_
    simp only [letM_eq]
    rw [wrap64 (by omega) (by omega)]
    have ih := m108_L3_val (N := N) k e xs (insR (ltR l) x acc) qs n (fun p hp => ?_) (fun p hp => hx p (List.mem_cons_of_mem _ hp)) (by rw [insR_len]; omega) h2 (by omega) hN
    · rw [insR_len] at ih
      refine Eq.trans ?_ ih
      simp
    · rcases List.mem_cons.1 ((insR_perm (ltR l) x acc).mem_iff.1 hp) with rfl | hp
      · exact hxx
      · exact ha p hp
theorem m108_val {N : Nat} {l : List R63} {o : List Int} (ho : ∀ p,p ∈ o → inL l p) (h : o.length ≤ 1000) (hN : 1001 < N) : m108 N o 0 (o.length : Int) l = some (isr (ltR l) [] o) := by
  cases o with
  | nil =>
    unfold m108 jn
    simp only [letM_eq]
    rw [wrap64 (by omega) (by omega)]
    obtain ⟨N,rfl⟩ : ∃ M,N = M + 1 := ⟨N - 1,by omega⟩
    rw [loopM_succ,m108_L3]
    simp [isr]
  | cons x xs =>
    have := m108_L3_val (N := N) some (x :: xs).length xs [x] [] N (fun p hp => ho p (by simp at hp; simp [hp])) (fun p hp => ho p (List.mem_cons_of_mem _ hp)) (by simp; omega) h (by simp at h; omega) (by omega)
    unfold m108 jn
    simp only [letM_eq]
    rw [wrap64 (by omega) (by omega)]
    simp only [List.reverse_cons,List.reverse_nil,List.nil_append,List.append_nil,List.singleton_append] at this
    exact this
theorem m90_L4_val {N : Nat}  {x : Int} (hx : anyI x) (k : List Int → Option (List Int)) : ∀ (ps qs : List Int) (n : Nat),(∀ p,p ∈ ps → anyI p) → ps.length ≤ 1000 → ps.length < n →
    loopM (m90_L4 N 0 k) n ((ps.length : Int),ps.reverse ++ x :: qs) = k ((insR ltN x ps).reverse ++ qs)
  | [],qs,n + 1,_,_,_ => by
    rw [loopM_succ,m90_L4]
    simp [gdO,insR]
  | p :: ps,qs,n + 1,ho,hl,hn => by
    have hp := ho p (by simp)
    have hc : decide ((0 : Int) < (((p :: ps).length : Nat) : Int)) = true := by simp
    simp only [List.length_cons] at hl hn
    have e1 : (p :: ps).reverse ++ x :: qs = ps.reverse ++ p :: x :: qs := by simp
    have e2 : ps.reverse ++ p :: x :: qs = (ps.reverse ++ [p]) ++ x :: qs := by simp
    have e3 : (((p :: ps).length : Nat) : Int) = (((ps.reverse ++ [p]).length : Nat) : Int) := by simp
    have e4 : IntKind.wrap .i64 ((((p :: ps).length : Nat) : Int) - 1) = ((ps.reverse.length : Nat) : Int) := by
      rw [wrap64 (by simp only [List.length_cons]; omega) (by simp only [List.length_cons]; omega)]; simp only [List.length_cons,List.length_reverse]; omega
    rw [loopM_succ,m90_L4]
    simp only [hc,gdO_true,Bool.true_and]
    rw [e1,e2,get_mid e3]
    simp only [oB]
    rw [← e2,e4,get_mid rfl]
    simp only [oB]
    rw [m96_val]
    simp only [oB]
    by_cases h : ltN x p = true
    · rw [if_pos (tN h),e2,put_mid e3]
      simp only [oB]
      rw [show ps.reverse ++ [p] ++ p :: qs = ps.reverse ++ p :: p :: qs by simp,get_mid rfl]
      simp only [oB]
      rw [put_mid rfl]
      simp only [oB,letM_eq]
      have ih := m90_L4_val (N := N) hx k ps (p :: qs) n (fun q hq => ho q (List.mem_cons_of_mem _ hq)) (by omega) (by omega)
      rw [List.length_reverse]
      refine Eq.trans ih ?_
      rw [insR,if_pos h]
      simp
    · rw [if_neg (fun hh => h (tN' hh)),insR,if_neg h]
      simp
theorem m90_L3_val {N : Nat}  (k : List Int → Option (List Int)) (e : Nat) : ∀ (xs acc qs : List Int) (n : Nat),(∀ p,p ∈ acc → anyI p) → (∀ p,p ∈ xs → anyI p) → acc.length + xs.length = e → e ≤ 1000 → xs.length < n → 1000 < N →
    loopM (m90_L3 N 0 (e : Int) k) n ((acc.length : Int),acc.reverse ++ xs ++ qs) = k (isr ltN acc xs ++ qs)
  | [],acc,qs,n + 1,ha,hx,hl,h2,hn,hN => by
    simp only [List.length_nil,Nat.add_zero] at hl
    rw [loopM_succ,m90_L3,if_neg (by simp; omega)]
    simp [isr]
  | x :: xs,acc,qs,n + 1,ha,hx,hl,h2,hn,hN => by
    simp only [List.length_cons] at hl hn
    have hxx := hx x (by simp)
    rw [loopM_succ,m90_L3,if_pos (by simp; omega),show acc.reverse ++ x :: xs ++ qs = acc.reverse ++ x :: (xs ++ qs) by simp,jn]
    refine (m90_L4_val hxx _ acc (xs ++ qs) N ha (by omega) (by omega)).trans ?_
    simp only [letM_eq]
    rw [wrap64 (by omega) (by omega)]
    have ih := m90_L3_val (N := N) k e xs (insR ltN x acc) qs n (fun p hp => ?_) (fun p hp => hx p (List.mem_cons_of_mem _ hp)) (by rw [insR_len]; omega) h2 (by omega) hN
    · rw [insR_len] at ih
      refine Eq.trans ?_ ih
      simp
    · rcases List.mem_cons.1 ((insR_perm ltN x acc).mem_iff.1 hp) with rfl | hp
      · exact hxx
      · exact ha p hp
theorem m90_val {N : Nat}  {o : List Int} (ho : ∀ p,p ∈ o → anyI p) (h : o.length ≤ 1000) (hN : 1001 < N) : m90 N o 0 (o.length : Int) = some (isr ltN [] o) := by
  cases o with
  | nil =>
    unfold m90 jn
    simp only [letM_eq]
    rw [wrap64 (by omega) (by omega)]
    obtain ⟨N,rfl⟩ : ∃ M,N = M + 1 := ⟨N - 1,by omega⟩
    rw [loopM_succ,m90_L3]
    simp [isr]
  | cons x xs =>
    have := m90_L3_val (N := N) some (x :: xs).length xs [x] [] N (fun p hp => ho p (by simp at hp; simp [hp])) (fun p hp => ho p (List.mem_cons_of_mem _ hp)) (by simp; omega) h (by simp at h; omega) (by omega)
    unfold m90 jn
    simp only [letM_eq]
    rw [wrap64 (by omega) (by omega)]
    simp only [List.reverse_cons,List.reverse_nil,List.nil_append,List.append_nil,List.singleton_append] at this
    exact this
theorem m73_val {n : Nat} {o : List Int} (h : o.length ≤ 12) (hn : 1001 < n) : m73 n o = some (isr ltN [] o) := by
  have e73 : ∃ v,m79 n (IntKind.wrap .u64 (o.length : Int)) = some v := by
    generalize o.length = k at h
    have : k = 0 ∨ k = 1 ∨ k = 2 ∨ k = 3 ∨ k = 4 ∨ k = 5 ∨ k = 6 ∨ k = 7 ∨ k = 8 ∨ k = 9 ∨ k = 10 ∨ k = 11 ∨ k = 12 := by omega
    rcases this with rfl | rfl | rfl | rfl | rfl | rfl | rfl | rfl | rfl | rfl | rfl | rfl | rfl <;> exact ⟨_,rfl⟩
  obtain ⟨v,e⟩ := e73
  unfold m73 m78
  rw [e,oB]
  have h77 := m90_val (N := n) (o := o) (fun p _ => trivial) (by omega) hn
  have hl : (isr ltN [] o).length = o.length := by rw [isr_len]; simp
  obtain ⟨n',hn'⟩ : ∃ M,n = M + 1 := ⟨n - 1,by omega⟩
  have e72 : loopM (m78_L1 n o 0 (o.length : Int)) n () = some (isr ltN [] o) := by
    conv => lhs; arg 2; rw [hn']
    rw [loopM_succ,m78_L1,letM_eq,wrap64 (by omega) (by omega),if_pos (by simp; omega),h77,oB,asrt_pos hl.symm]
  rw [e72,oB,asrt_pos hl.symm]
theorem m80_val {N : Nat} {l : List R63} {o : List Int} (ho : ∀ p,p ∈ o → inL l p) (h : o.length < 20) (hN : 1001 < N) : m80 N o l = some (isr (ltR l) [] o) := by
  have hl : (isr (ltR l) [] o).length = o.length := by rw [isr_len]; simp
  have h2 := m108_val (N := N) ho (by omega) hN
  obtain ⟨n,hn⟩ : ∃ M,N = M + 2 := ⟨N - 2,by omega⟩
  have tail : ∀ k,loopM (m101_L2 N (o.length : Int) k) N () = k () := fun k => by
    conv => lhs; arg 2; rw [hn]
    rw [loopM_succ,m101_L2,if_neg (by simp; omega)]
  have key : ∀ k,loopM (m101_L1 N (o.length : Int) l k) N ((0 : Int),(20 : Int),o) = k (0,o) := by
    intro k
    conv => lhs; arg 2; rw [hn]
    rw [loopM_succ,m101_L1,if_neg (by simp; omega)]
  unfold m80
  have e : m101 N o (o.length : Int) l = some (isr (ltR l) [] o) := by
    rw [m101,jn]
    refine (key _).trans ?_
    simp only
    rw [h2]
    simp only [oB]
    rw [asrt_pos hl.symm,jn]
    exact tail _
  rw [e,oB,asrt_pos hl.symm]
end Go.AB
set_option linter.unusedVariables false
namespace Go.AB
open Go
theorem m85_val {n : Nat} {a b : Int} (hn : 3 < n) : m85 n [a,b] = some (if a ≠ 0 then a else b) := by
  obtain ⟨n,rfl⟩ : ∃ n',n = n' + 3 := ⟨n - 3,by omega⟩
  unfold m85 jn
  dsimp only
  by_cases h1 : a = 0
  · subst h1
    by_cases h2 : b = 0
    · subst h2; rfl
    · rw [if_neg (by simp)]
      show (if (decide ((0 : Int) < 2)) = true then ((getIdx [0,b] (0 : Int)).bind fun y_9 => if (!decide (y_9 = 0)) = true then some y_9 else letM (IntKind.wrap .i64 ((0 : Int) + 1)) fun t8_10 => loopM (m85_L1 (n + 3) [0,b] fun _ => some 0) (n + 2) t8_10) else some 0) = some b
      rw [if_pos (by rfl),show getIdx [0,b] (0 : Int) = some 0 from rfl,oB,if_neg (by simp),letM_eq,wrap64 (by omega) (by omega)]
      rw [show (0 : Int) + 1 = 1 from rfl]
      rw [loopM_succ,m85_L1,if_pos (by rfl),show getIdx [0,b] (1 : Int) = some b from rfl,oB,if_pos (by simpa using h2)]
  · rw [if_pos h1,loopM_succ,m85_L1,if_pos (by rfl),show getIdx [a,b] (0 : Int) = some a from rfl,oB,if_pos (by simpa using h1)]
theorem m84_val {n : Nat} {rest : List Int} {a b : Int} (hn : 3 < n) (ha : 0 ≤ a ∧ a < (rest.length : Int)) (hb : 0 ≤ b ∧ b < (rest.length : Int)) :
    ∃ v,m84 n a b rest = some v ∧ (v < 0 ↔ rest.getD a.toNat 0 < rest.getD b.toNat 0 ∨ (rest.getD a.toNat 0 = rest.getD b.toNat 0 ∧ a < b)) := by
  have g : ∀ x : Int,0 ≤ x ∧ x < (rest.length : Int) → getIdx rest x = some (rest.getD x.toNat 0) := fun x hx => by
    have : getIdx rest ((x.toNat : Nat) : Int) = some (rest.getD x.toNat 0) := get_getD (by omega)
    rwa [show ((x.toNat : Nat) : Int) = x from by omega] at this
  refine ⟨if cmpI (rest.getD a.toNat 0) (rest.getD b.toNat 0) ≠ 0 then cmpI (rest.getD a.toNat 0) (rest.getD b.toNat 0) else cmpI a b,?_,?_⟩
  · unfold m84
    rw [g a ha,oB,g b hb,oB,m82_val,oB,m82_val,oB,m85_val hn]
    rfl
  · unfold cmpI
    split <;> split <;> (try split) <;> (try split) <;> (try split) <;> omega
theorem m83_val {n : Nat} {ready rest : List Int} (hn : 1000 < n) (h0 : ready ≠ []) (hr : inR rest.length ready) (hl : ready.length ≤ 100) :
    ∃ i,i ∈ ready ∧ m83 n ready rest = some i ∧ ∀ j,j ∈ ready → rest.getD i.toNat 0 < rest.getD j.toNat 0 ∨ (rest.getD i.toNat 0 = rest.getD j.toNat 0 ∧ i ≤ j) := by
  match ready,h0 with
  | x :: xs,_ =>
  have hlen : (x :: xs).length = xs.length + 1 := rfl
  unfold m83
  rw [if_neg (by simp; omega),show getIdx (x :: xs) (0 : Int) = some x from rfl,oB]
  unfold jn
  dsimp only
  refine loopM_ind (fun m s => ∃ (k : Nat) (i : Int),1 ≤ k ∧ k ≤ (x :: xs).length ∧ s = (i,(k : Int)) ∧ m = (x :: xs).length - k ∧ i ∈ x :: xs ∧ ∀ j,j ∈ (x :: xs).take k → rest.getD i.toNat 0 < rest.getD j.toNat 0 ∨ (rest.getD i.toNat 0 = rest.getD j.toNat 0 ∧ i ≤ j))
    (fun r => ∃ i,i ∈ x :: xs ∧ r = some i ∧ ∀ j,j ∈ x :: xs → rest.getD i.toNat 0 < rest.getD j.toNat 0 ∨ (rest.getD i.toNat 0 = rest.getD j.toNat 0 ∧ i ≤ j)) ?_ n xs.length _
    ⟨1,x,Nat.le_refl _,by simp,rfl,by simp,by simp,fun j hj => by
      have : j = x := by simpa using hj
      subst this; exact .inr ⟨rfl,Int.le_refl _⟩⟩ (by omega)
  rintro m s ⟨k,i,hk1,hk,rfl,rfl,hi,hB⟩
  rcases Nat.lt_or_ge k (x :: xs).length with h1 | h1
  · have hgk : (x :: xs)[k]'h1 ∈ x :: xs := List.getElem_mem h1
    have hk3 := hr _ hgk
    have hi3 := hr _ hi
    obtain ⟨v,e,hv⟩ := m84_val (n := n) (rest := rest) (by omega) hk3 hi3
    by_cases c : v < 0
    · refine .inl ⟨(x :: xs).length - (k + 1),((x :: xs)[k],((k + 1 : Nat) : Int)),by omega,⟨k + 1,_,by omega,h1,rfl,rfl,hgk,fun j hj => ?_⟩,fun nx => ?_⟩
      · have := hv.1 c
        rw [List.take_succ_eq_append_getElem h1] at hj
        rcases List.mem_append.1 hj with hj | hj
        · have := hB j hj
          omega
        · rw [List.mem_singleton.1 hj]; exact .inr ⟨rfl,Int.le_refl _⟩
      · rw [m83_L1,if_pos (by simp only [decide_eq_true_eq]; omega)]
        unfold jn
        dsimp only
        rw [getIdx_at rfl h1,oB,e,oB,if_pos (decide_eq_true c),oB,letM_eq,wrap64 (by omega) (by omega)]
        rfl
    · refine .inl ⟨(x :: xs).length - (k + 1),(i,((k + 1 : Nat) : Int)),by omega,⟨k + 1,i,by omega,h1,rfl,rfl,hi,fun j hj => ?_⟩,fun nx => ?_⟩
      · have hnv : ¬ _ := fun hh => c (hv.2 hh)
        rw [List.take_succ_eq_append_getElem h1] at hj
        rcases List.mem_append.1 hj with hj | hj
        · exact hB j hj
        · rw [List.mem_singleton.1 hj]; omega
      · rw [m83_L1,if_pos (by simp only [decide_eq_true_eq]; omega)]
        unfold jn
        dsimp only
        rw [getIdx_at rfl h1,oB,e,oB,if_neg (by simpa using c),letM_eq,wrap64 (by omega) (by omega)]
        rfl
  · have : k = (x :: xs).length := by omega
    subst this
    rw [List.take_length] at hB
    refine .inr ⟨_,⟨i,hi,rfl,hB⟩,fun nx => ?_⟩
    rw [m83_L1,if_neg (by simp)]
theorem m86o_val {n : Nat} {ready : List Int} {i : Int} (hn : 1000 < n) (hd : ready.Nodup) (hi : i ∈ ready) (hl : ready.length ≤ 100) : m86o n ready i = some (ready.erase i) := by
  have hkl := List.idxOf_lt_length_of_mem hi
  generalize hk : ready.idxOf i = k at hkl
  have hki : ready[k] = i := by subst hk; exact List.getElem_idxOf hkl
  have hne : ∀ j (h : j < ready.length),j ≠ k → ready[j] ≠ i := fun j h hjk e => hjk (by
    have := List.Nodup.idxOf_getElem hd j h
    rw [e,hk] at this
    exact this.symm)
  have e76 : m77x1 n ready i = some (k : Int) := by
    unfold m77x1 jn
    dsimp only
    refine loop_findP (fun j => (j : Int)) ready.length (fun j => decide (j = k)) (fun j => some (j : Int)) (some (-1)) (fun r => r = some (k : Int)) ?_ ?_ ?_ (by omega) (fun j h1 h2 _ => ?_) fun h1 => ?_
    · intro j hj hq nx
      rw [m77x1_L1,if_pos (by simp; omega),getIdx_at rfl hj,oB,show m87 n ready[j] i = some (decide (ready[j] = i)) from rfl,oB,if_neg (by simpa using hne j hj (of_decide_eq_false hq)),letM_eq,wrap64 (by omega) (by omega)]
      rfl
    · intro j hj hq nx
      have := of_decide_eq_true hq
      subst this
      rw [m77x1_L1,if_pos (by simp; omega),getIdx_at rfl hj,oB,show m87 n ready[j] i = some (decide (ready[j] = i)) from rfl,oB,if_pos (by simpa using hki)]
    · intro nx
      rw [m77x1_L1,if_neg (by simp)]
    · rw [of_decide_eq_true h2]
    · have := h1 k hkl
      simp at this
  unfold m86o
  rw [e76,oB,if_neg (by simp),letM_eq,wrap64 (by omega) (by omega)]
  unfold jn
  dsimp only
  have base := loopM_ind (body := m86o_L1 n i fun p_31 => (slc p_31.2 (0 : Int) p_31.1).bind fun l1_33 => some l1_33) (fun m s => ∃ (j : Nat) (u : List Int),k < j ∧ j ≤ ready.length ∧ s = (((j - 1 : Nat) : Int),(j : Int),u) ∧ m = ready.length - j ∧ u.length = ready.length ∧ ∀ x,u[x]? = if k ≤ x ∧ x + 1 < j then ready[x + 1]? else ready[x]?)
    (fun r => r = some (ready.eraseIdx k)) ?_ n (ready.length - (k + 1)) (((k : Nat) : Int),((k : Nat) : Int) + 1,ready)
    ⟨k + 1,ready,by omega,by omega,by simp,rfl,rfl,fun x => by rw [if_neg (by omega)]⟩ (by omega)
  · rw [List.erase_eq_eraseIdx_of_idxOf hk]
    exact base
  rintro m s ⟨j,u,hkj,hj,rfl,rfl,hul,hu⟩
  rcases Nat.lt_or_ge j ready.length with h1 | h1
  · have huj : u[j]? = some ready[j] := by rw [hu j,if_neg (by omega),List.getElem?_eq_getElem h1]
    refine .inl ⟨ready.length - (j + 1),(((j : Nat) : Int),((j + 1 : Nat) : Int),u.set (j - 1) ready[j]),by omega,⟨j + 1,_,by omega,h1,rfl,rfl,by simpa using hul,fun x => ?_⟩,fun nx => ?_⟩
    · rw [List.getElem?_set]
      by_cases e : j - 1 = x
      · subst e
        rw [if_pos rfl,if_pos (by omega),if_pos (by omega),show j - 1 + 1 = j from by omega,List.getElem?_eq_getElem h1]
      · rw [if_neg e,hu x]
        by_cases c : k ≤ x ∧ x + 1 < j
        · rw [if_pos c,if_pos (by omega)]
        · rw [if_neg c,if_neg (by omega)]
    · have huw : u[j - 1]? = some (u[j - 1]'(by omega)) := List.getElem?_eq_getElem (by omega)
      rw [m86o_L1,if_pos (by simp only [decide_eq_true_eq]; omega)]
      unfold jn
      dsimp only
      rw [getIdx_q rfl huj,oB,show m87 n ready[j] i = some (decide (ready[j] = i)) from rfl,oB,decide_eq_false (hne j h1 (by omega)),if_pos (by rfl),getIdx_q rfl huw,oB,setIdx_at (k := j - 1) rfl (by omega),oB,letM_eq,wrap64 (by omega) (by omega),letM_eq,wrap64 (by omega) (by omega),show ((j - 1 : Nat) : Int) + 1 = ((j : Nat) : Int) from by omega]
      rfl
  · have ej : j = ready.length := by omega
    subst ej
    refine .inr ⟨_,rfl,fun nx => ?_⟩
    rw [m86o_L1,if_neg (by simp only [decide_eq_true_eq]; omega)]
    dsimp only
    rw [slc_val (l := 0) (i := 0) (j := ready.length - 1) rfl rfl (by omega) (by omega),oB]
    congr 1
    apply List.ext_getElem?
    intro x
    rw [List.drop_zero,Nat.sub_zero,List.getElem?_take,List.getElem?_eraseIdx,hu x]
    by_cases c : x < ready.length - 1
    · rw [if_pos c]
      by_cases c2 : k ≤ x
      · rw [if_pos (by omega),if_neg (by omega)]
      · rw [if_neg (by omega),if_pos (by omega)]
    · rw [if_neg c]
      by_cases c2 : x < k
      · omega
      · rw [if_neg c2,List.getElem?_eq_none (by omega)]
end Go.AB
set_option linter.unusedVariables false
namespace Go.AB
open Go
theorem loopM_indK {σ R τ : Type} {body : (τ → Option R) → (σ → Option R) → σ → Option R} (I : Nat → σ → Prop) (Q : τ → Prop)
    (step : ∀ i x,I i x → (∃ i' x',i' < i ∧ I i' x' ∧ ∀ K nx,body K nx x = nx x') ∨ (∃ o,Q o ∧ ∀ K nx,body K nx x = K o)) : ∀ (n i : Nat) (x : σ),I i x → i < n → ∃ o,Q o ∧ ∀ K,loopM (body K) n x = K o
  | 0,_,_,_,h => absurd h (Nat.not_lt_zero _)
  | n + 1,i,x,hI,h => by
    rcases step i x hI with ⟨i',x',hlt,hI',hb⟩ | ⟨o,ho,hb⟩
    · obtain ⟨o,ho,hq⟩ := loopM_indK I Q step n i' x' hI' (by omega)
      exact ⟨o,ho,fun K => by rw [loopM_succ,hb]; exact hq K⟩
    · exact ⟨o,ho,fun K => by rw [loopM_succ,hb]⟩
structure Ord (l : List R63) (ord : List Int) : Prop where
  nd : ord.Nodup
  len : ord.length = l.length
  mem : ∀ x,x ∈ ord ↔ 0 ≤ x ∧ x < (l.length : Int)
  srt : ord.Pairwise fun a b => (J l a).Rl ≤ (J l b).Rl
structure PI (l : List R63) (ord : List Int) (t : Int) (next : Nat) (ready out rest R : List Int) : Prop where
  wf : WF l t R out
  nx : next ≤ l.length
  rl : rest.length = l.length
  rel1 : ∀ j : Nat,j < l.length → (j : Int) ∈ ord.drop next → R.getD j 0 = (Jn l j).Ln ∧ t ≤ (Jn l j).Rl ∧ ¬ (j : Int) ∈ ready
  rel2 : ∀ j : Nat,j < l.length → ¬ (j : Int) ∈ ord.drop next → R.getD j 0 = rest.getD j 0 ∧ (Jn l j).Rl ≤ t ∧ (rest.getD j 0 ≠ 0 ↔ (j : Int) ∈ ready)
  rnd : ready.Nodup
  rin : inR l.length ready
section
variable {l : List R63} {ord : List Int} (ho : Ord l ord) {t : Int} {next : Nat} {ready out rest R : List Int}
include ho
theorem Ord.at (hn : next < l.length) : ∃ q : Nat,q < l.length ∧ ord[next]? = some (q : Int) ∧ ord.drop next = (q : Int) :: ord.drop (next + 1) ∧ ¬ (q : Int) ∈ ord.drop (next + 1) ∧ (∀ j : Nat,(j : Int) ∈ ord.drop next → (Jn l q).Rl ≤ (Jn l j).Rl) := by
  have hl : next < ord.length := by rw [ho.len]; exact hn
  have hm := (ho.mem ord[next]).1 (List.getElem_mem hl)
  obtain ⟨q,hq⟩ : ∃ q : Nat,ord[next] = (q : Int) := ⟨ord[next].toNat,by omega⟩
  have hd := List.drop_eq_getElem_cons hl
  rw [hq] at hd
  have hnd : (ord.drop next).Nodup := ho.nd.sublist (List.drop_sublist _ _)
  have hsr : (ord.drop next).Pairwise _ := ho.srt.sublist (List.drop_sublist _ _)
  rw [hd] at hnd hsr
  refine ⟨q,by omega,by rw [List.getElem?_eq_getElem hl,hq],hd,(List.nodup_cons.1 hnd).1,fun j hj => ?_⟩
  rw [hd] at hj
  rcases List.mem_cons.1 hj with e | hj
  · rw [Int.ofNat.inj e]; exact Int.le_refl _
  · have := (List.pairwise_cons.1 hsr).1 _ hj
    rw [J_nat,J_nat] at this
    exact this
theorem ins_loop {n : Nat} (hb : bd l) (hp : ∀ y,y ∈ l → 1 ≤ y.Ln) (hN : l.length ≤ 100) (hn : 1000 < n) (h : PI l ord t next ready out rest R) (hs : ready ≠ [] ∨ ∃ q,ord[next]? = some q ∧ (J l q).Rl ≤ t) :
    ∃ o : Int × List Int × List Int,(∃ (next' : Nat) (ready' rest' : List Int),o = ((next' : Int),ready',rest') ∧ PI l ord t next' ready' out rest' R ∧ ready' ≠ [] ∧ ∀ j : Nat,j < l.length → (j : Int) ∈ ord.drop next' → t < (Jn l j).Rl) ∧
      ∀ K : Int × List Int × List Int → Option (List Int),loopM (m74_L5 n l ord t K) n ((next : Int),ready,rest) = K o := by
  refine loopM_indK (body := m74_L5 n l ord t) (fun m s => ∃ (k : Nat) (rd rs : List Int),s = ((k : Int),rd,rs) ∧ m = l.length - k ∧ PI l ord t k rd out rs R ∧ (rd ≠ [] ∨ ∃ q,ord[k]? = some q ∧ (J l q).Rl ≤ t)) _ ?_ n (l.length - next) _ ⟨next,ready,rest,rfl,rfl,h,hs⟩ (by omega)
  rintro m s ⟨k,rd,rs,rfl,rfl,hP,hs⟩
  have hol := ho.len
  rcases Nat.lt_or_ge k l.length with h1 | h1
  · obtain ⟨q,hq,eq,hd,hqn,hqm⟩ := Ord.at ho h1
    have hqd : (q : Int) ∈ ord.drop k := by rw [hd]; simp
    by_cases c : (Jn l q).Rl ≤ t
    · have hqr : q < rs.length := by rw [hP.rl]; exact hq
      have hq1 := hP.rel1 q hq hqd
      have hql := hp _ (Jn_mem hq)
      have hrl : rd.length ≤ l.length := nodup_le _ _ hP.rnd hP.rin
      have hP' : PI l ord t (k + 1) (rd ++ [(q : Int)]) out (rs.set q (Jn l q).Ln) R := by
        refine ⟨hP.wf,h1,by simpa using hP.rl,fun j hj hm => ?_,fun j hj hm => ?_,?_,?_⟩
        · have h2 := hP.rel1 j hj (by rw [hd]; exact List.mem_cons_of_mem _ hm)
          refine ⟨h2.1,h2.2.1,fun hh => ?_⟩
          rcases List.mem_append.1 hh with hh | hh
          · exact h2.2.2 hh
          · rw [List.mem_singleton.1 hh] at hm; exact hqn hm
        · rw [getD_set hqr]
          by_cases e : j = q
          · subst e
            rw [if_pos rfl]
            exact ⟨hq1.1,c,⟨fun _ => by simp,fun _ => by omega⟩⟩
          · have h2 := hP.rel2 j hj (fun hh => by
              rw [hd] at hh
              rcases List.mem_cons.1 hh with hh | hh
              · exact e (Int.ofNat.inj hh)
              · exact hm hh)
            rw [if_neg e]
            refine ⟨h2.1,h2.2.1,h2.2.2.trans ⟨fun hh => List.mem_append.2 (.inl hh),fun hh => ?_⟩⟩
            rcases List.mem_append.1 hh with hh | hh
            · exact hh
            · exact absurd (Int.ofNat.inj (List.mem_singleton.1 hh)) e
        · rw [List.nodup_append]
          exact ⟨hP.rnd,by simp,fun a ha b hb' e => by rw [List.mem_singleton.1 hb'] at e; subst e; exact hq1.2.2 ha⟩
        · intro x hx
          rcases List.mem_append.1 hx with hx | hx
          · exact hP.rin x hx
          · rw [List.mem_singleton.1 hx]; omega
      refine .inl ⟨l.length - (k + 1),(((k + 1 : Nat) : Int),rd ++ [(q : Int)],rs.set q (Jn l q).Ln),by omega,⟨k + 1,_,_,rfl,rfl,hP',.inl (by simp)⟩,fun K nx => ?_⟩
      have gq : getIdx l (q : Int) = some (Jn l q) := Jn_get hq
      rw [m74_L5]
      dsimp only
      rw [decide_eq_true (show (k : Int) < (ord.length : Int) from by omega),gdO_true,getIdx_q rfl eq,oB,gdO_true,gq,oB,decide_eq_true c,if_pos (by rfl),oB,gq,oB,get_getD (d := 0) hqr,oB,setIdx_at rfl hqr,oB,apd_val (by simp; omega),oB,letM_eq,wrap64 (by omega) (by omega)]
      rfl
    · refine .inr ⟨_,⟨k,rd,rs,rfl,hP,?_,fun j hj hm => ?_⟩,fun K nx => ?_⟩
      · rcases hs with hs | ⟨q',e',hs⟩
        · exact hs
        · rw [eq] at e'
          have := Option.some.inj e'
          subst this
          rw [J_nat] at hs
          exact absurd hs c
      · have := hqm j hm
        omega
      · have gq : getIdx l (q : Int) = some (Jn l q) := Jn_get hq
        rw [m74_L5]
        dsimp only
        rw [decide_eq_true (show (k : Int) < (ord.length : Int) from by omega),gdO_true,getIdx_q rfl eq,oB,gdO_true,gq,oB,decide_eq_false c,if_neg (by simp)]
  · have : k = l.length := by have := hP.nx; omega
    subst this
    refine .inr ⟨_,⟨l.length,rd,rs,rfl,hP,?_,fun j hj hm => ?_⟩,fun K nx => ?_⟩
    · rcases hs with hs | ⟨q',e',hs⟩
      · exact hs
      · rw [List.getElem?_eq_none (by omega)] at e'
        cases e'
    · rw [List.drop_of_length_le (by omega)] at hm
      simp at hm
    · rw [m74_L5]
      dsimp only
      rw [decide_eq_false (show ¬ (l.length : Int) < (ord.length : Int) from by omega),gdO_false,oB,gdO_false,oB,Bool.false_and,if_neg (by simp)]
end
end Go.AB

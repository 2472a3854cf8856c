import Derived.Test.YtnmglighdhaccaaLk
set_option linter.unusedVariables false
namespace Go.AB
open Go Go.Proofs
def exP : R23 := ⟨[5,3],[2,3],11,1⟩
theorem exP_all : allR exP (-1) = ([[2,0],[1,1],[0,3]],0) := by kernel_rfl
theorem exP_mat : matP exP = 2 := by kernel_rfl
theorem exP_v : vP exP = true := by kernel_rfl
theorem m10_val {n : Nat} (hn : 1100 < n) : m10 n = some true := by
  unfold m10
  have e1 : m13 n (R23.mk [5,3] [2,3] 11 1) = some ([[2,0],[1,1],[0,3]],0) := by
    have := m13_val (p := exP) hn
    rw [exP_v,if_pos rfl,exP_all] at this
    exact this
  have e2 : m22 n (R23.mk [5,3] [2,3] 11 1) = some (2,0) := by
    have := m22_val (n := n) (p := exP) (by omega)
    rw [exP_v,if_pos rfl,exP_mat] at this
    exact this
  have e3 : m21 n (R23.mk [5,3] [2,3] 11 1) = some true := by
    have := m21_val (n := n) (p := exP) (by omega)
    rw [exP_v] at this
    exact this
  have e4 : m20 n [[2,0],[1,1],[0,3]] [[2,0],[1,1],[0,3]] = some true := m20_refl (by simp) (by simp; omega) (by simp) (by omega)
  simp only [e1,e2,e3,e4,Option.bind_some,gdO,decide_true,Bool.and_self,if_true,Bool.true_and,Bool.and_true]
def U (l : List R56) (i : Nat) : R56 := l.getD i default
theorem U_at {l : List R56} {i : Nat} (h : i < l.length) : l[i] = U l i := by simp [U,h]
theorem getIdx_U {l : List R56} {i : Int} {k : Nat} (hi : i = (k : Int)) (h : k < l.length) : getIdx l i = some (U l k) := by rw [getIdx_at hi h,U_at h]
theorem U_mem {l : List R56} {i : Nat} (h : i < l.length) : U l i ∈ l := by rw [← U_at h]; exact List.getElem_mem h
theorem mkU (u : R56) : R56.mk u.Pattern u.Count = u := rfl
theorem m51_val {n : Nat} {u : R56} {a : List Int} {c : Int} (ha : a.length ≤ 1000000) (hn : a.length < n) : m51 n u a c = some (decide (a = u.Pattern)) := by
  unfold m51
  rw [m52_val ha hn,Option.bind_some]
theorem add_val {n : Nat} {acc : List R56} {u : R56} (hl : acc.length ≤ 1000000) (hn : acc.length < n) (hp : u.Pattern.length ≤ 25) (hn2 : 30 < n) (hc : ∀ v,v ∈ acc → -1000000000 ≤ v.Count + u.Count ∧ v.Count + u.Count ≤ 1000000000) {K : List R56 → Option (List R56)} :
    ((m50 n acc u.Pattern u.Count).bind fun y_26 => (if (decide ((0 : Int) ≤ y_26)) = true then ((getIdx acc y_26).bind fun y_27 => ((getIdx acc y_26).bind fun y_28 => ((setIdx acc y_26 ({ y_28 with Count := (IntKind.wrap .i64 (y_27.Count + u.Count)) })).bind fun l1_29 => (K l1_29)))) else ((m53 n u.Pattern).bind fun y_30 => ((apd acc ([(R56.mk y_30 u.Count)] : List R56)).bind fun l1_31 => (K l1_31))))) = K (addU acc u) := by
  unfold m50 jn
  dsimp only
  refine loop_findP (fun i => (i : Int)) acc.length (fun i => decide (u.Pattern = (U acc i).Pattern)) (fun i => some (i : Int)) (some (-1)) (fun o => (o.bind fun y_26 => (if (decide ((0 : Int) ≤ y_26)) = true then ((getIdx acc y_26).bind fun y_27 => ((getIdx acc y_26).bind fun y_28 => ((setIdx acc y_26 ({ y_28 with Count := (IntKind.wrap .i64 (y_27.Count + u.Count)) })).bind fun l1_29 => (K l1_29)))) else ((m53 n u.Pattern).bind fun y_30 => ((apd acc ([(R56.mk y_30 u.Count)] : List R56)).bind fun l1_31 => (K l1_31))))) = K (addU acc u)) ?_ ?_ ?_ hn (fun i h1 h2 h3 => ?_) fun h1 => ?_
  · intro i hi hp2 nx
    rw [m50_L1,if_pos (by simp; omega),getIdx_U rfl hi,Option.bind_some,mkU,m51_val (by omega) (by omega),Option.bind_some,hp2,if_neg (by simp),letM_eq,wrap64 (by omega) (by omega)]
    rfl
  · intro i hi hp2 nx
    rw [m50_L1,if_pos (by simp; omega),getIdx_U rfl hi,Option.bind_some,mkU,m51_val (by omega) (by omega),Option.bind_some,hp2,if_pos rfl]
  · intro nx
    rw [m50_L1,if_neg (by simp)]
  · have e := of_decide_eq_true h2
    have hb := hc _ (U_mem h1)
    rw [Option.bind_some,if_pos (by simp),getIdx_U rfl h1,Option.bind_some,Option.bind_some,setIdx_at rfl h1,Option.bind_some,wrap64 (by omega) (by omega)]
    congr 1
    rw [← U_at h1] at e ⊢
    exact addU_set h1 (fun j hj => by
      have := of_decide_eq_false (h3 j hj)
      rw [← U_at (by omega)] at this
      exact fun e => this e.symm) e.symm
  · rw [Option.bind_some,if_neg (by simp)]
    unfold m53
    rw [apd_val (by simp; omega),Option.bind_some,List.nil_append,Option.bind_some,apd_val (by simp; omega),Option.bind_some,mkU]
    congr 1
    exact addU_none fun j hj => by
      have := of_decide_eq_false (h1 j hj)
      rw [← U_at hj] at this
      exact fun e => this e.symm
theorem m50x1_val {n : Nat} {l : List R56} (hl : l.length ≤ 1000000) (hn : l.length < n) (hc : ∀ u,u ∈ l → 1 ≤ u.Count) : m50x1 n l = some (-1) := by
  unfold m50x1 jn
  refine loop_findP (fun i => (i : Int)) l.length (fun i => decide ((U l i).Count < 1)) (fun i => some (i : Int)) (some (-1)) (fun o => o = some (-1)) ?_ ?_ ?_ hn (fun i h1 h2 h3 => ?_) fun h1 => rfl
  · intro i hi hp2 nx
    rw [m50x1_L1,if_pos (by simp; omega),getIdx_U rfl hi,Option.bind_some,mkU]
    unfold m55
    rw [Option.bind_some,hp2,if_neg (by simp),letM_eq,wrap64 (by omega) (by omega)]
    rfl
  · intro i hi hp2 nx
    rw [m50x1_L1,if_pos (by simp; omega),getIdx_U rfl hi,Option.bind_some,mkU]
    unfold m55
    rw [Option.bind_some,hp2,if_pos rfl]
  · intro nx
    rw [m50x1_L1,if_neg (by simp)]
  · have := hc _ (U_mem h1)
    have := of_decide_eq_true h2
    omega
theorem m54o_val {n : Nat} {l : List R56} (hl : l.length ≤ 1000000) (hn : l.length < n) (hc : ∀ u,u ∈ l → 1 ≤ u.Count) : m54o n l = some l := by
  unfold m54o
  rw [m50x1_val hl hn hc,Option.bind_some,if_pos (by rfl)]
def shortU (u : R56) : Prop := u.Pattern.length ≤ 25
theorem m57_val {n : Nat} {u v : R56} (hu : shortU u) (hv : shortU v) (hn : 30 < n) : m57 n u v = some (cmpL v.Pattern u.Pattern) := by
  unfold shortU at *
  unfold m57
  rw [m58_val (by omega) (by omega),Option.bind_some]
theorem m75_L4_val {N : Nat} (hN : 30 < N) {x : R56} (hx : shortU x) (k : List R56 → Option (List R56)) : ∀ (ps qs : List R56) (n : Nat),(∀ p,p ∈ ps → shortU p) → ps.length ≤ 1000 → ps.length < n →
    loopM (m75_L4 N 0 k) n ((ps.length : Int),ps.reverse ++ x :: qs) = k ((insR ltU x ps).reverse ++ qs)
  | [],qs,n + 1,_,_,_ => by
    rw [loopM_succ,m75_L4]
    simp [gdO,insR]
  | p :: ps,qs,n + 1,ho,hl,hn => by
    have hp := ho p (by simp)
    have hc : decide ((0 : Int) < (((p :: ps).length : Nat) : Int)) = true := by simp
    simp only [List.length_cons] at hl hn
    have e1 : (p :: ps).reverse ++ x :: qs = ps.reverse ++ p :: x :: qs := by simp
    have e2 : ps.reverse ++ p :: x :: qs = (ps.reverse ++ [p]) ++ x :: qs := by simp
    have e3 : (((p :: ps).length : Nat) : Int) = (((ps.reverse ++ [p]).length : Nat) : Int) := by simp
    have e4 : IntKind.wrap .i64 ((((p :: ps).length : Nat) : Int) - 1) = ((ps.reverse.length : Nat) : Int) := by
      rw [wrap64 (by simp only [List.length_cons]; omega) (by simp only [List.length_cons]; omega)]; simp only [List.length_cons,List.length_reverse]; omega
    rw [loopM_succ,m75_L4]
    simp only [hc,gdO_true,Bool.true_and]
    rw [e1,e2,get_mid e3]
    simp only [Option.bind_some]
    rw [← e2,e4,get_mid rfl]
    simp only [Option.bind_some,mkU]
    rw [m57_val hx hp hN]
    simp only [Option.bind_some]
    by_cases h : ltU x p = true
    · rw [if_pos (show decide (cmpL p.Pattern x.Pattern < 0) = true from h),e2,put_mid e3]
      simp only [Option.bind_some]
      rw [show ps.reverse ++ [p] ++ p :: qs = ps.reverse ++ p :: p :: qs by simp,get_mid rfl]
      simp only [Option.bind_some]
      rw [put_mid rfl]
      simp only [Option.bind_some,letM_eq]
      have ih := m75_L4_val hN hx k ps (p :: qs) n (fun q hq => ho q (List.mem_cons_of_mem _ hq)) (by omega) (by omega)
      rw [List.length_reverse]
      refine Eq.trans ih ?_
      rw [insR,if_pos h]
      simp
    · rw [if_neg (show ¬ decide (cmpL p.Pattern x.Pattern < 0) = true from h),insR,if_neg h]
      simp
theorem m75_L3_val {N : Nat} (k : List R56 → Option (List R56)) (e : Nat) : ∀ (xs acc qs : List R56) (n : Nat),(∀ p,p ∈ acc → shortU p) → (∀ p,p ∈ xs → shortU p) → acc.length + xs.length = e → e ≤ 1000 → xs.length < n → 1000 < N →
    loopM (m75_L3 N 0 (e : Int) k) n ((acc.length : Int),acc.reverse ++ xs ++ qs) = k (isr ltU acc xs ++ qs)
  | [],acc,qs,n + 1,ha,hx,hl,h2,hn,hN => by
    simp only [List.length_nil,Nat.add_zero] at hl
    rw [loopM_succ,m75_L3,if_neg (by simp; omega)]
    simp [isr]
  | x :: xs,acc,qs,n + 1,ha,hx,hl,h2,hn,hN => by
    simp only [List.length_cons] at hl hn
    have hxx := hx x (by simp)
    rw [loopM_succ,m75_L3,if_pos (by simp; omega),show acc.reverse ++ x :: xs ++ qs = acc.reverse ++ x :: (xs ++ qs) by simp,jn]
    refine (m75_L4_val (by omega) hxx _ acc (xs ++ qs) N ha (by omega) (by omega)).trans ?_
    simp only [letM_eq]
    rw [wrap64 (by omega) (by omega)]
    have ih := m75_L3_val (N := N) k e xs (insR ltU x acc) qs n (fun p hp => ?_) (fun p hp => hx p (List.mem_cons_of_mem _ hp)) (by rw [insR_len]; omega) h2 (by omega) hN
    · rw [insR_len] at ih
      refine Eq.trans ?_ ih
      simp
    · rcases List.mem_cons.1 ((insR_perm ltU x acc).mem_iff.1 hp) with rfl | hp
      · exact hxx
      · exact ha p hp
theorem m75_val {N : Nat} {o : List R56} (ho : ∀ p,p ∈ o → shortU p) (h : o.length ≤ 1000) (hN : 1001 < N) : m75 N o 0 (o.length : Int) = some (isr ltU [] o) := by
  cases o with
  | nil =>
    unfold m75 jn
    simp only [letM_eq]
    rw [wrap64 (by omega) (by omega)]
    obtain ⟨N,rfl⟩ : ∃ M,N = M + 1 := ⟨N - 1,by omega⟩
    rw [loopM_succ,m75_L3]
    simp [isr]
  | cons x xs =>
    have := m75_L3_val (N := N) some (x :: xs).length xs [x] [] N (fun p hp => ho p (by simp at hp; simp [hp])) (fun p hp => ho p (List.mem_cons_of_mem _ hp)) (by simp; omega) h (by simp at h; omega) (by omega)
    unfold m75 jn
    simp only [letM_eq]
    rw [wrap64 (by omega) (by omega)]
    simp only [List.reverse_cons,List.reverse_nil,List.nil_append,List.append_nil,List.singleton_append] at this
    exact this
theorem m56_val {N : Nat} {o : List R56} (ho : ∀ p,p ∈ o → shortU p) (h : o.length < 20) (hN : 1001 < N) : m56 N o = some (isr ltU [] o) := by
  unfold m56 m65 jn
  obtain ⟨M,hM⟩ : ∃ M,N = M + 1 := ⟨N - 1,by omega⟩
  have e1 : ∀ k,loopM (m65_L1 N (o.length : Int) k) N ((0 : Int),(20 : Int),o) = k (0,o) := by
    intro k
    conv => lhs; rw [hM]
    rw [loopM_succ,m65_L1,if_neg (by simp; omega)]
  have e2 : ∀ k,loopM (m65_L3 N (o.length : Int) k) N (20 : Int) = k () := by
    intro k
    conv => lhs; rw [hM]
    rw [loopM_succ,m65_L3,if_neg (by simp; omega)]
  have hlen : o.length = (isr ltU [] o).length := by rw [isr_len]; simp
  dsimp only
  rw [e1]
  dsimp only
  rw [m75_val ho (by omega) hN,Option.bind_some]
  unfold asrt
  rw [if_pos hlen,e2,Option.bind_some,if_pos hlen]
structure Nrm (l : List R56) : Prop where
  len : l.length < 20
  pat : ∀ u,u ∈ l → u.Pattern.length ≤ 25
  cnt : ∀ u,u ∈ l → 1 ≤ u.Count ∧ u.Count ≤ 100000
theorem m31_val {n : Nat} {l : List R56} (h : Nrm l) (hn : 1100 < n) : m31 n l = some (normL l) := by
  have hlen := h.len
  unfold m31 jn
  refine (loop_fold (fun i s => (((i : Int),s) : Int × List R56)) l.length (fun i s => addU s (U l i)) (fun i s => s.length ≤ i ∧ ∀ v,v ∈ s → v.Pattern.length ≤ 25 ∧ 1 ≤ v.Count ∧ v.Count ≤ 100000 * (i : Int)) (fun p => ((m54o n p).bind fun y_37 => ((m56 n y_37).bind fun y_38 => (asrt (y_37.length = y_38.length) (some y_38))))) (fun i s hi hs => ?_) (fun s hs nx => ?_) (s0 := []) (by simp) (by omega)).trans ?_
  · obtain ⟨h1,h2⟩ := hs
    have hu := h.cnt _ (U_mem hi)
    have hp := h.pat _ (U_mem hi)
    refine ⟨⟨by have := addU_len s (U l i); omega,fun v hv => ?_⟩,fun nx => ?_⟩
    · have e : 100000 * ((i + 1 : Nat) : Int) = 100000 * (i : Int) + 100000 := by omega
      rw [e]
      rcases mem_addU hv with rfl | hv | ⟨v',q1,q2,q3⟩
      · exact ⟨hp,by omega,by omega⟩
      · have := h2 v hv; exact ⟨this.1,by omega,by omega⟩
      · have := h2 v' q1
        rw [q2,q3]; exact ⟨this.1,by omega,by omega⟩
    · have := add_val (n := n) (acc := s) (u := U l i) (by omega) (by omega) hp (by omega) (fun v hv => by have := h2 v hv; omega) (K := fun p_32 => letM ((IntKind.wrap .i64 ((i : Int) + (1 : Int)))) fun t9_34 => (nx (t9_34,p_32)))
      rw [m31_L1,if_pos (by simp; omega)]
      unfold jn
      dsimp only
      rw [getIdx_U rfl hi,Option.bind_some]
      refine this.trans ?_
      rw [letM_eq,wrap64 (by omega) (by omega)]
      rfl
  · rw [m31_L1,if_neg (by simp)]
  · rw [show foldN (fun i s => addU s (U l i)) l.length [] = l.foldl addU [] from foldN_all (g := addU) (l := l) (d := default) (s := [])]
    have hfl := foldU_len l []
    have hpos : ∀ u,u ∈ l.foldl addU [] → 1 ≤ u.Count := fun u hu => normL_pos (fun v hv => (h.cnt v hv).1) u ((normL_perm l).mem_iff.2 hu)
    have hpat : ∀ u,u ∈ l.foldl addU [] → u.Pattern.length ≤ 25 := fun u hu => normL_pat (Q := fun a => a.length ≤ 25) h.pat u ((normL_perm l).mem_iff.2 hu)
    simp only [List.length_nil,Nat.zero_add] at hfl
    rw [m54o_val (by omega) (by omega) hpos,Option.bind_some,m56_val hpat (by omega) (by omega),Option.bind_some]
    unfold asrt
    rw [if_pos (by rw [isr_len]; simp)]
    rfl
theorem copy_loop {l : List R56} {n : Nat} {B : (List R56 → Option (List R56)) → ((Int × List R56) → Option (List R56)) → (Int × List R56) → Option (List R56)} (hl : l.length ≤ 1000000000) (hn : l.length < n)
    (hB : ∀ k nx x,B k nx x = (if (decide (x.1 < (l.length : Int))) = true then ((getIdx l x.1).bind fun y_11 => ((apd x.2 ([(R56.mk y_11.Pattern y_11.Count)] : List R56)).bind fun l1_12 => (letM ((IntKind.wrap .i64 (x.1 + (1 : Int)))) fun t8_13 => (nx (t8_13,l1_12))))) else (k x.2))) : loopM (B some) n ((0 : Int),[]) = some l := by
  refine (loop_fold (fun i s => (((i : Int),s) : Int × List R56)) l.length (fun i s => s ++ [U l i]) (fun i s => s.length = i) (fun p => some p) (fun i s hi hs => ⟨by simp [hs],fun nx => ?_⟩) (fun s hs nx => ?_) (s0 := []) rfl hn).trans ?_
  · rw [hB,if_pos (by simp; omega)]
    dsimp only
    rw [getIdx_U rfl hi,Option.bind_some,mkU,apd_val (by simp; omega),Option.bind_some,letM_eq,wrap64 (by omega) (by omega)]
    rfl
  · rw [hB,if_neg (by simp)]
  · congr 1
    have key : ∀ k,k ≤ l.length → foldN (fun i s => s ++ [U l i]) k [] = l.take k := by
      intro k
      induction k with
      | zero => simp [foldN]
      | succ k ih =>
        intro hk
        rw [foldN,ih (by omega),← U_at (by omega),List.take_succ_eq_append_getElem (by omega)]
    rw [key _ (Nat.le_refl _),List.take_length]
theorem m32_val {n : Nat} {l : List R56} (hl : l.length ≤ 1000000000) (hn : l.length < n) : m32 n l = some l := by
  unfold m32 jn
  exact copy_loop (B := m32_L1 n l) hl hn fun k nx x => rfl
theorem m37_val {n : Nat} {l : List R56} (hl : l.length ≤ 1000000000) (hn : l.length < n) : m37 n l = some l := by
  unfold m37 jn
  exact copy_loop (B := m37_L1 n l) hl hn fun k nx x => rfl
theorem m36_refl {n : Nat} {l : List R56} (hl : l.length ≤ 1000000) (hn : l.length < n) (hb : ∀ u,u ∈ l → u.Pattern.length ≤ 25) (hn2 : 30 < n) : m36 n l l = some true := by
  unfold m36
  rw [if_neg (by simp)]
  unfold jn
  refine (loop_all (fun i => (i : Int)) l.length (fun _ => true) (some false) (some true) ?_ (fun i _ h => by cases h) ?_ hn).trans (if_pos fun _ _ => rfl)
  · intro i hi _ nx
    have := hb _ (U_mem hi)
    rw [m36_L1,if_pos (by simp; omega),getIdx_U rfl hi,Option.bind_some,Option.bind_some]
    simp only [decide_true,Bool.not_true,Bool.not_false,gdO_true,Option.bind_some]
    rw [m34_refl (by omega) (by omega),Option.bind_some,if_neg (by simp),letM_eq,wrap64 (by omega) (by omega)]
    rfl
  · intro nx
    rw [m36_L1,if_neg (by simp)]
theorem sumU_take {g : List Int → Int} {l : List R56} {k : Nat} (h : k < l.length) : sumU g (l.take (k + 1)) = sumU g (l.take k) + g (U l k).Pattern * (U l k).Count := by
  rw [List.take_succ_eq_append_getElem h,sumU_append,U_at h]; simp [sumU]
theorem sumU_bd {g : List Int → Int} {B : Int} : ∀ {l : List R56},(∀ u,u ∈ l → 0 ≤ g u.Pattern * u.Count ∧ g u.Pattern * u.Count ≤ B) → 0 ≤ sumU g l ∧ sumU g l ≤ B * (l.length : Int)
  | [],_ => by simp [sumU]
  | u :: l,h => by
    have h1 := sumU_bd (l := l) fun v hv => h v (List.mem_cons_of_mem _ hv)
    have h2 := h u (by simp)
    rw [sumU,List.length_cons,show B * ((l.length + 1 : Nat) : Int) = B * (l.length : Int) + B from by rw [Int.natCast_succ,Int.mul_add,Int.mul_one]]
    omega
def barsU (l : List R56) : Int := sumU (fun _ => 1) l
theorem m35_val {n : Nat} {l : List R56} (hl : l.length ≤ 1000) (hn : l.length < n) (hc : ∀ u,u ∈ l → 1 ≤ u.Count ∧ u.Count ≤ 100000) : m35 n l = some (barsU l) := by
  unfold m35 jn
  refine (loop_fold (fun i s => ((s,(i : Int)) : Int × Int)) l.length (fun i s => s + (U l i).Count) (fun i s => s = barsU (l.take i)) (fun p => some p) (fun i s hi hs => ?_) (fun s hs nx => ?_) (s0 := 0) rfl hn).trans ?_
  · subst hs
    have h1 := sumU_bd (g := fun _ => 1) (B := 100000) (l := l.take i) fun u hu => by have := hc u (List.mem_of_mem_take hu); omega
    have h2 := hc _ (U_mem hi)
    rw [List.length_take] at h1
    have hu : barsU (l.take i) = sumU (fun _ => 1) (l.take i) := rfl
    rw [← hu] at h1
    refine ⟨?_,fun nx => ?_⟩
    · show barsU (l.take i) + (U l i).Count = sumU (fun _ => 1) (l.take (i + 1))
      rw [sumU_take hi]
      show barsU (l.take i) + (U l i).Count = barsU (l.take i) + 1 * (U l i).Count
      omega
    · rw [m35_L1,if_pos (by simp; omega)]
      dsimp only
      rw [getIdx_U rfl hi,Option.bind_some,letM_eq,wrap64 (by omega) (by omega),letM_eq,wrap64 (by omega) (by omega)]
      rfl
  · rw [m35_L1,if_neg (by simp)]
  · congr 1
    have key : ∀ k,k ≤ l.length → foldN (fun i s => s + (U l i).Count) k 0 = barsU (l.take k) := by
      intro k
      induction k with
      | zero => intro _; rfl
      | succ k ih =>
        intro hk
        rw [foldN,ih (by omega)]
        show barsU (l.take k) + (U l k).Count = sumU (fun _ => 1) (l.take (k + 1))
        rw [sumU_take (by omega)]
        show barsU (l.take k) + (U l k).Count = barsU (l.take k) + 1 * (U l k).Count
        omega
    rw [key _ (Nat.le_refl _),List.take_length]
structure Snd (p : R23) (l : List R56) : Prop where
  vp : Vp p
  len : l.length ≤ 1000
  fit : ∀ u,u ∈ l → Fit p u.Pattern
  cnt : ∀ u,u ∈ l → 1 ≤ u.Count ∧ u.Count ≤ 1000
theorem Snd.pl {p : R23} {l : List R56} (h : Snd p l) : ∀ u,u ∈ l → u.Pattern.length ≤ 25 := fun u hu => by
  have := (h.fit u hu).1
  have := h.vp.l2
  omega
theorem m67_val {n : Nat} {p : R23} {u : R56} (hp : u.Pattern.length ≤ 25) (hn : 30 < n) : m67 n u p.Lengths p.Demand p.Stock p.Kerf = some (!decide (1 ≤ u.Count ∧ u.Count ≤ 1000 ∧ vP p = true ∧ Fit p u.Pattern)) := by
  unfold m67
  rw [mkP,m26_val hp hn]
  by_cases h1 : u.Count < 1
  · rw [decide_eq_true h1,decide_eq_false (show ¬ (1 ≤ u.Count ∧ u.Count ≤ 1000 ∧ vP p = true ∧ Fit p u.Pattern) from fun h => by omega)]; rfl
  · by_cases h2 : 1000 < u.Count
    · rw [decide_eq_true h2,decide_eq_false (show ¬ (1 ≤ u.Count ∧ u.Count ≤ 1000 ∧ vP p = true ∧ Fit p u.Pattern) from fun h => by omega),decide_eq_false h1]; rfl
    · rw [decide_eq_false h1,decide_eq_false h2]
      simp only [Bool.or_self,Bool.not_false,gdO_true,Option.bind_some,Bool.false_or]
      congr 2
      apply decide_eq_decide.2
      constructor
      · exact fun h => ⟨by omega,by omega,h⟩
      · exact fun h => h.2.2
theorem m59_val {n : Nat} {p : R23} {l : List R56} (h : Snd p l) (hn : 1100 < n) : m59 n p l = some true := by
  have hl := h.len
  have e68 : m68 n l p.Lengths p.Demand p.Stock p.Kerf = some false := by
    unfold m68 m50x2 jn
    have : loopM (m50x2_L1 n l p.Lengths p.Demand p.Stock p.Kerf fun _ => some (-1 : Int)) n (0 : Int) = some (-1) := by
      refine loop_findP (fun i => (i : Int)) l.length (fun i => false) (fun i => some (i : Int)) (some (-1)) (fun o => o = some (-1)) ?_ (fun i _ h => by cases h) ?_ (by omega) (fun i _ h => by cases h) fun h1 => rfl
      · intro i hi _ nx
        have hm := U_mem hi
        have hcn := h.cnt _ hm
        rw [m50x2_L1,if_pos (by simp; omega),getIdx_U rfl hi,Option.bind_some,mkU,m67_val (h.pl _ hm) (by omega),Option.bind_some,decide_eq_true ⟨hcn.1,hcn.2,vP_iff.2 h.vp,h.fit _ hm⟩,if_neg (by simp),letM_eq,wrap64 (by omega) (by omega)]
        rfl
      · intro nx
        rw [m50x2_L1,if_neg (by simp)]
    dsimp only
    rw [this]; rfl
  unfold m59
  rw [mkP,m21_val (by omega),Option.bind_some,vP_iff.2 h.vp,decide_eq_true (by omega),e68]
  rfl
def madeL (p : R23) (l : List R56) : List Int := (List.range p.Lengths.length).map fun k => sumU (fun a => a.getD k 0) l
theorem m33_val {n : Nat} {p : R23} {l : List R56} (h : Snd p l) (hn : 1100 < n) : m33 n p l = some (madeL p l,0) := by
  have hl := h.len; have hl2 := h.vp.l2
  unfold m33
  rw [mkP,m59_val h hn,Option.bind_some,if_neg (by simp),mk_val (k := p.Lengths.length) rfl rfl (by omega),Option.bind_some]
  unfold jn
  dsimp only
  have term : ∀ u,u ∈ l → ∀ j,j < p.Lengths.length → 0 ≤ u.Pattern.getD j 0 * u.Count ∧ u.Pattern.getD j 0 * u.Count ≤ 2000 * 1000 := fun u hu j hj => by
    have h1 := (h.fit u hu).small h.vp j (by rw [(h.fit u hu).1]; exact hj)
    have h2 := h.cnt u hu
    exact mulB h1.1 h1.2 (by omega) h2.2
  have sumb : ∀ i,i ≤ l.length → ∀ j,j < p.Lengths.length → 0 ≤ sumU (fun a => a.getD j 0) (l.take i) ∧ sumU (fun a => a.getD j 0) (l.take i) ≤ 2000000000 := fun i hi j hj => by
    have := sumU_bd (g := fun a => a.getD j 0) (B := 2000 * 1000) (l := l.take i) fun u hu => term u (List.mem_of_mem_take hu) j hj
    rw [List.length_take] at this
    omega
  refine loopM_ind (fun m x => ∃ (i : Nat) (o : List Int),i ≤ l.length ∧ m = l.length - i ∧ x = ((i : Int),o) ∧ o.length = p.Lengths.length ∧ ∀ j,j < p.Lengths.length → o.getD j 0 = sumU (fun a => a.getD j 0) (l.take i)) (fun o => o = some (madeL p l,0)) ?_ n l.length _ ⟨0,List.replicate p.Lengths.length 0,by omega,rfl,rfl,by simp,fun j hj => ?_⟩ (by omega)
  · rintro m x ⟨i,o,hi,rfl,rfl,hol,ho⟩
    rcases Nat.lt_or_ge i l.length with h1 | h1
    · have hm := U_mem h1
      have hpl : (U l i).Pattern.length = p.Lengths.length := (h.fit _ hm).1
      have hcn := h.cnt _ hm
      have inner : ∀ K : List Int → Option (List Int × Int),∃ o',loopM (m33_L4 n (U l i) K) n ((0 : Int),o) = K o' ∧ o'.length = p.Lengths.length ∧ ∀ j,j < p.Lengths.length → o'.getD j 0 = o.getD j 0 + (U l i).Pattern.getD j 0 * (U l i).Count := by
        intro K
        refine loopM_ind (fun m x => ∃ (k : Nat) (q : List Int),k ≤ p.Lengths.length ∧ m = p.Lengths.length - k ∧ x = ((k : Int),q) ∧ q.length = p.Lengths.length ∧ ∀ j,j < p.Lengths.length → q.getD j 0 = o.getD j 0 + if j < k then (U l i).Pattern.getD j 0 * (U l i).Count else 0)
          (fun r => ∃ o',r = K o' ∧ o'.length = p.Lengths.length ∧ ∀ j,j < p.Lengths.length → o'.getD j 0 = o.getD j 0 + (U l i).Pattern.getD j 0 * (U l i).Count) ?_ n p.Lengths.length _ ⟨0,o,by omega,rfl,rfl,hol,fun j hj => by rw [if_neg (by omega),Int.add_zero]⟩ (by omega)
        rintro m x ⟨k,q,hk,rfl,rfl,hql,hq⟩
        rcases Nat.lt_or_ge k p.Lengths.length with h2 | h2
        · have hb := sumb i (by omega) k h2
          have ht := term _ hm k h2
          have hqk := hq k h2
          rw [if_neg (by omega),Int.add_zero,ho k h2] at hqk
          refine .inl ⟨p.Lengths.length - (k + 1),(((k + 1 : Nat) : Int),q.set k (q.getD k 0 + (U l i).Pattern.getD k 0 * (U l i).Count)),by omega,⟨k + 1,_,h2,rfl,rfl,by rw [List.length_set]; exact hql,fun j hj => ?_⟩,fun nx => ?_⟩
          · rw [getD_set (by omega)]
            by_cases e : j = k
            · subst e
              rw [if_pos rfl,if_pos (by omega),hq j hj,if_neg (by omega),Int.add_zero]
            · rw [if_neg e,hq j hj]
              by_cases e2 : j < k
              · rw [if_pos e2,if_pos (by omega)]
              · rw [if_neg e2,if_neg (by omega)]
          · rw [m33_L4,if_pos (by simp; omega)]
            dsimp only
            rw [getIdx_D rfl (by omega),Option.bind_some,getIdx_D rfl (by omega),Option.bind_some,Option.bind_some,wrap64 (x := (U l i).Pattern.getD k 0 * (U l i).Count) (by omega) (by omega),wrap64 (x := q.getD k 0 + (U l i).Pattern.getD k 0 * (U l i).Count) (by omega) (by omega),setIdx_at rfl (by omega),Option.bind_some,letM_eq,wrap64 (by omega) (by omega)]
            rfl
        · have : k = p.Lengths.length := by omega
          subst this
          refine .inr ⟨_,⟨q,rfl,hql,fun j hj => ?_⟩,fun nx => ?_⟩
          · rw [hq j hj,if_pos hj]
          · rw [m33_L4,if_neg (by simp; omega)]
      refine .inl ?_
      have inner2 := fun nx : Int × List Int → Option (List Int × Int) => inner fun p_73 => letM ((IntKind.wrap .i64 ((i : Int) + (1 : Int)))) fun t21_75 => (nx (t21_75,p_73))
      -- the row is the same whatever comes then
      obtain ⟨o',_,q1,q2⟩ := inner fun _ => none
      have huniq : ∀ o'',o''.length = p.Lengths.length → (∀ j,j < p.Lengths.length → o''.getD j 0 = o.getD j 0 + (U l i).Pattern.getD j 0 * (U l i).Count) → o'' = o' := by
        intro o'' w1 w2
        refine List.ext_getElem (by omega) fun j w3 w4 => ?_
        rw [getD_at w3,getD_at w4,w2 j (by omega),q2 j (by omega)]
      refine ⟨l.length - (i + 1),(((i + 1 : Nat) : Int),o'),by omega,⟨i + 1,o',h1,rfl,rfl,q1,fun j hj => ?_⟩,fun nx => ?_⟩
      · rw [q2 j hj,ho j hj,sumU_take h1]
      · rw [m33_L3,if_pos (by simp; omega)]
        unfold jn
        dsimp only
        rw [getIdx_U rfl h1,Option.bind_some]
        obtain ⟨o'',w0,w1,w2⟩ := inner2 nx
        rw [w0,huniq o'' w1 w2,letM_eq,wrap64 (by omega) (by omega)]
        rfl
    · have : i = l.length := by omega
      subst this
      refine .inr ⟨_,rfl,fun nx => ?_⟩
      rw [m33_L3,if_neg (by simp)]
      dsimp only
      congr 2
      unfold madeL
      refine ext_at hol fun j hj => ?_
      have := ho j hj
      rw [List.take_length] at this
      rw [← this,List.getElem?_eq_getElem (by omega),getD_at]
  · simp only [List.take_zero,sumU,List.getD_eq_getElem?_getD,List.getElem?_replicate]
    rw [if_pos hj]; rfl
end Go.AB

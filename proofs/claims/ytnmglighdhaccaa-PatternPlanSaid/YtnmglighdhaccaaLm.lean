import Derived.Test.YtnmglighdhaccaaLk
set_option linter.unusedVariables false
namespace Go.AB
open Go Go.Proofs
def exP : R23 := ⟨[5,3],[2,3],11,1⟩
theorem exP_all : allR exP (-1) = ([[2,0],[1,1],[0,3]],0) := by kernel_rfl
theorem exP_mat : matP exP = 2 := by kernel_rfl
theorem exP_v : vP exP = true := by kernel_rfl
theorem m10_val {n : Nat} (hn : 1100 < n) : m10 n = some true := by
  unfold m10
  have e1 : m13 n (R23.mk [5,3] [2,3] 11 1) = some ([[2,0],[1,1],[0,3]],0) := by
    have := m13_val (p := exP) hn
    rw [exP_v,if_pos rfl,exP_all] at this
    exact this
  have e2 : m22 n (R23.mk [5,3] [2,3] 11 1) = some (2,0) := by
    have := m22_val (n := n) (p := exP) (by omega)
    rw [exP_v,if_pos rfl,exP_mat] at this
    exact this
  have e3 : m21 n (R23.mk [5,3] [2,3] 11 1) = some true := by
    have := m21_val (n := n) (p := exP) (by omega)
    rw [exP_v] at this
    exact this
  have e4 : m20 n [[2,0],[1,1],[0,3]] [[2,0],[1,1],[0,3]] = some true := m20_refl (by simp) (by simp; omega) (by simp) (by omega)
  simp only [e1,e2,e3,e4,oB,gdO,decide_true,Bool.and_self,if_true,Bool.true_and,Bool.and_true]
def U (l : List R56) (i : Nat) : R56 := l.getD i default
theorem U_at {l : List R56} {i : Nat} (h : i < l.length) : l[i] = U l i := by simp [U,h]
theorem getIdx_U {l : List R56} {i : Int} {k : Nat} (hi : i = (k : Int)) (h : k < l.length) : getIdx l i = some (U l k) := by rw [getIdx_at hi h,U_at h]
theorem U_mem {l : List R56} {i : Nat} (h : i < l.length) : U l i ∈ l := by rw [← U_at h]; exact List.getElem_mem h
theorem mkU (u : R56) : R56.mk u.Pq u.Cq = u := rfl
theorem m51_val {n : Nat} {u : R56} {a : List Int} {c : Int} (ha : a.length ≤ 1000000) (hn : a.length < n) : m51 n u a c = some (decide (a = u.Pq)) := by
  unfold m51
  rw [m52_val ha hn,oB]
def shortU (u : R56) : Prop := u.Pq.length ≤ 25
theorem m57_val {n : Nat} {u v : R56} (hu : shortU u) (hv : shortU v) (hn : 30 < n) : m57 n u v = some (cmpL v.Pq u.Pq) := by
  unfold shortU at *
  unfold m57
  rw [m58_val (by omega) (by omega),oB]
theorem copy_loop {l : List R56} {n : Nat} {B : (List R56 → Option (List R56)) → ((Int × List R56) → Option (List R56)) → (Int × List R56) → Option (List R56)} (hl : l.length ≤ 1000000000) (hn : l.length < n)
    (hB : ∀ k nx x,B k nx x = (if (decide (x.1 < (l.length : Int))) = true then ((getIdx l x.1).bind fun y_11 => ((apd x.2 ([(R56.mk y_11.Pq y_11.Cq)] : List R56)).bind fun l1_12 => (letM ((IntKind.wrap .i64 (x.1 + (1 : Int)))) fun t8_13 => (nx (t8_13,l1_12))))) else (k x.2))) : loopM (B some) n ((0 : Int),[]) = some l := by
  refine (loop_fold (fun i s => (((i : Int),s) : Int × List R56)) l.length (fun i s => s ++ [U l i]) (fun i s => s.length = i) (fun p => some p) (fun i s hi hs => ⟨by simp [hs],fun nx => ?_⟩) (fun s hs nx => ?_) (s0 := []) rfl hn).trans ?_
  · rw [hB,if_pos (by simp; omega)]
    dsimp only
    rw [getIdx_U rfl hi,oB,mkU,apd_val (by simp; omega),oB,letM_eq,wrap64 (by omega) (by omega)]
    rfl
  · rw [hB,if_neg (by simp)]
  · congr 1
    have key : ∀ k,k ≤ l.length → foldN (fun i s => s ++ [U l i]) k [] = l.take k := by
      intro k
      induction k with
      | zero => simp [foldN]
      | succ k ih =>
        intro hk
        rw [foldN,ih (by omega),← U_at (by omega),List.take_succ_eq_append_getElem (by omega)]
    rw [key _ (Nat.le_refl _),List.take_length]
theorem m32_val {n : Nat} {l : List R56} (hl : l.length ≤ 1000000000) (hn : l.length < n) : m32 n l = some l := by
  unfold m32 jn
  exact copy_loop (B := m32_L1 n l) hl hn fun k nx x => rfl
theorem m37_val {n : Nat} {l : List R56} (hl : l.length ≤ 1000000000) (hn : l.length < n) : m37 n l = some l := by
  unfold m37 jn
  exact copy_loop (B := m37_L1 n l) hl hn fun k nx x => rfl
theorem m36_refl {n : Nat} {l : List R56} (hl : l.length ≤ 1000000) (hn : l.length < n) (hb : ∀ u,u ∈ l → u.Pq.length ≤ 25) (hn2 : 30 < n) : m36 n l l = some true := by
  unfold m36
  rw [if_neg (by simp)]
  unfold jn
  refine (loop_all (fun i => (i : Int)) l.length (fun _ => true) (some false) (some true) ?_ (fun i _ h => by cases h) ?_ hn).trans (if_pos fun _ _ => rfl)
  · intro i hi _ nx
    have := hb _ (U_mem hi)
    rw [m36_L1,if_pos (by simp; omega),getIdx_U rfl hi,oB,oB]
    simp only [decide_true,Bool.not_true,Bool.not_false,gdO_true,oB]
    rw [m34_refl (by omega) (by omega),oB,if_neg (by simp),letM_eq,wrap64 (by omega) (by omega)]
    rfl
  · intro nx
    rw [m36_L1,if_neg (by simp)]
theorem sumU_take {g : List Int → Int} {l : List R56} {k : Nat} (h : k < l.length) : sumU g (l.take (k + 1)) = sumU g (l.take k) + g (U l k).Pq * (U l k).Cq := by
  rw [List.take_succ_eq_append_getElem h,sumU_append,U_at h]; simp [sumU]
theorem sumU_bd {g : List Int → Int} {B : Int} : ∀ {l : List R56},(∀ u,u ∈ l → 0 ≤ g u.Pq * u.Cq ∧ g u.Pq * u.Cq ≤ B) → 0 ≤ sumU g l ∧ sumU g l ≤ B * (l.length : Int)
  | [],_ => by simp [sumU]
  | u :: l,h => by
    have h1 := sumU_bd (l := l) fun v hv => h v (List.mem_cons_of_mem _ hv)
    have h2 := h u (by simp)
    rw [sumU,List.length_cons,show B * ((l.length + 1 : Nat) : Int) = B * (l.length : Int) + B from by rw [Int.natCast_succ,Int.mul_add,Int.mul_one]]
    omega
def barsU (l : List R56) : Int := sumU (fun _ => 1) l
structure Snd (p : R23) (l : List R56) : Prop where
  vp : Vp p
  len : l.length ≤ 1000
  fit : ∀ u,u ∈ l → Fit p u.Pq
  cnt : ∀ u,u ∈ l → 1 ≤ u.Cq ∧ u.Cq ≤ 1000
theorem Snd.pl {p : R23} {l : List R56} (h : Snd p l) : ∀ u,u ∈ l → u.Pq.length ≤ 25 := fun u hu => by
  have := (h.fit u hu).1
  have := h.vp.l2
  omega
theorem m67_val {n : Nat} {p : R23} {u : R56} (hp : u.Pq.length ≤ 25) (hn : 30 < n) : m67 n u p.Lq p.Dq p.Sq p.Kq = some (!decide (1 ≤ u.Cq ∧ u.Cq ≤ 1000 ∧ vP p = true ∧ Fit p u.Pq)) := by
  unfold m67
  rw [mkP,m26_val hp hn]
  by_cases h1 : u.Cq < 1
  · rw [decide_eq_true h1,decide_eq_false (show ¬ (1 ≤ u.Cq ∧ u.Cq ≤ 1000 ∧ vP p = true ∧ Fit p u.Pq) from fun h => by omega)]; rfl
  · by_cases h2 : 1000 < u.Cq
    · rw [decide_eq_true h2,decide_eq_false (show ¬ (1 ≤ u.Cq ∧ u.Cq ≤ 1000 ∧ vP p = true ∧ Fit p u.Pq) from fun h => by omega),decide_eq_false h1]; rfl
    · rw [decide_eq_false h1,decide_eq_false h2]
      simp only [Bool.or_self,Bool.not_false,gdO_true,oB,Bool.false_or]
      congr 2
      apply decide_eq_decide.2
      constructor
      · exact fun h => ⟨by omega,by omega,h⟩
      · exact fun h => h.2.2
theorem m59_val {n : Nat} {p : R23} {l : List R56} (h : Snd p l) (hn : 1100 < n) : m59 n p l = some true := by
  have hl := h.len
  have e68 : m68 n l p.Lq p.Dq p.Sq p.Kq = some false := by
    unfold m68 m50x2 jn
    have : loopM (m50x2_L1 n l p.Lq p.Dq p.Sq p.Kq fun _ => some (-1 : Int)) n (0 : Int) = some (-1) := by
      refine loop_findP (fun i => (i : Int)) l.length (fun i => false) (fun i => some (i : Int)) (some (-1)) (fun o => o = some (-1)) ?_ (fun i _ h => by cases h) ?_ (by omega) (fun i _ h => by cases h) fun h1 => rfl
      · intro i hi _ nx
        have hm := U_mem hi
        have hcn := h.cnt _ hm
        rw [m50x2_L1,if_pos (by simp; omega),getIdx_U rfl hi,oB,mkU,m67_val (h.pl _ hm) (by omega),oB,decide_eq_true ⟨hcn.1,hcn.2,vP_iff.2 h.vp,h.fit _ hm⟩,if_neg (by simp),letM_eq,wrap64 (by omega) (by omega)]
        rfl
      · intro nx
        rw [m50x2_L1,if_neg (by simp)]
    dsimp only
    rw [this]; rfl
  unfold m59
  rw [mkP,m21_val (by omega),oB,vP_iff.2 h.vp,decide_eq_true (by omega),e68]
  rfl
def madeL (p : R23) (l : List R56) : List Int := (List.range p.Lq.length).map fun k => sumU (fun a => a.getD k 0) l
theorem m33_val {n : Nat} {p : R23} {l : List R56} (h : Snd p l) (hn : 1100 < n) : m33 n p l = some (madeL p l,0) := by
  have hl := h.len; have hl2 := h.vp.l2
  unfold m33
  rw [mkP,m59_val h hn,oB,if_neg (by simp),mk_val (k := p.Lq.length) rfl rfl (by omega),oB]
  unfold jn
  dsimp only
  have term : ∀ u,u ∈ l → ∀ j,j < p.Lq.length → 0 ≤ u.Pq.getD j 0 * u.Cq ∧ u.Pq.getD j 0 * u.Cq ≤ 2000 * 1000 := fun u hu j hj => by
    have h1 := (h.fit u hu).small h.vp j (by rw [(h.fit u hu).1]; exact hj)
    have h2 := h.cnt u hu
    exact mulB h1.1 h1.2 (by omega) h2.2
  have sumb : ∀ i,i ≤ l.length → ∀ j,j < p.Lq.length → 0 ≤ sumU (fun a => a.getD j 0) (l.take i) ∧ sumU (fun a => a.getD j 0) (l.take i) ≤ 2000000000 := fun i hi j hj => by
    have := sumU_bd (g := fun a => a.getD j 0) (B := 2000 * 1000) (l := l.take i) fun u hu => term u (List.mem_of_mem_take hu) j hj
    rw [List.length_take] at this
    omega
  refine loopM_ind (fun m x => ∃ (i : Nat) (o : List Int),i ≤ l.length ∧ m = l.length - i ∧ x = ((i : Int),o) ∧ o.length = p.Lq.length ∧ ∀ j,j < p.Lq.length → o.getD j 0 = sumU (fun a => a.getD j 0) (l.take i)) (fun o => o = some (madeL p l,0)) ?_ n l.length _ ⟨0,List.replicate p.Lq.length 0,by omega,rfl,rfl,by simp,fun j hj => ?_⟩ (by omega)
  · rintro m x ⟨i,o,hi,rfl,rfl,hol,ho⟩
    rcases Nat.lt_or_ge i l.length with h1 | h1
    · have hm := U_mem h1
      have hpl : (U l i).Pq.length = p.Lq.length := (h.fit _ hm).1
      have hcn := h.cnt _ hm
      have inner : ∀ K : List Int → Option (List Int × Int),∃ o',loopM (m33_L4 n (U l i) K) n ((0 : Int),o) = K o' ∧ o'.length = p.Lq.length ∧ ∀ j,j < p.Lq.length → o'.getD j 0 = o.getD j 0 + (U l i).Pq.getD j 0 * (U l i).Cq := by
        intro K
        refine loopM_ind (fun m x => ∃ (k : Nat) (q : List Int),k ≤ p.Lq.length ∧ m = p.Lq.length - k ∧ x = ((k : Int),q) ∧ q.length = p.Lq.length ∧ ∀ j,j < p.Lq.length → q.getD j 0 = o.getD j 0 + if j < k then (U l i).Pq.getD j 0 * (U l i).Cq else 0)
          (fun r => ∃ o',r = K o' ∧ o'.length = p.Lq.length ∧ ∀ j,j < p.Lq.length → o'.getD j 0 = o.getD j 0 + (U l i).Pq.getD j 0 * (U l i).Cq) ?_ n p.Lq.length _ ⟨0,o,by omega,rfl,rfl,hol,fun j hj => by rw [if_neg (by omega),Int.add_zero]⟩ (by omega)
        rintro m x ⟨k,q,hk,rfl,rfl,hql,hq⟩
        rcases Nat.lt_or_ge k p.Lq.length with h2 | h2
        · have hb := sumb i (by omega) k h2
          have ht := term _ hm k h2
          have hqk := hq k h2
          rw [if_neg (by omega),Int.add_zero,ho k h2] at hqk
          refine .inl ⟨p.Lq.length - (k + 1),(((k + 1 : Nat) : Int),q.set k (q.getD k 0 + (U l i).Pq.getD k 0 * (U l i).Cq)),by omega,⟨k + 1,_,h2,rfl,rfl,by rw [List.length_set]; exact hql,fun j hj => ?_⟩,fun nx => ?_⟩
          · rw [getD_set (by omega)]
            by_cases e : j = k
            · subst e
              rw [if_pos rfl,if_pos (by omega),hq j hj,if_neg (by omega),Int.add_zero]
            · rw [if_neg e,hq j hj]
              by_cases e2 : j < k
              · rw [if_pos e2,if_pos (by omega)]
              · rw [if_neg e2,if_neg (by omega)]
          · rw [m33_L4,if_pos (by simp; omega)]
            dsimp only
            rw [getIdx_D rfl (by omega),oB,getIdx_D rfl (by omega),oB,oB,wrap64 (x := (U l i).Pq.getD k 0 * (U l i).Cq) (by omega) (by omega),wrap64 (x := q.getD k 0 + (U l i).Pq.getD k 0 * (U l i).Cq) (by omega) (by omega),setIdx_at rfl (by omega),oB,letM_eq,wrap64 (by omega) (by omega)]
            rfl
        · have : k = p.Lq.length := by omega
          subst this
          refine .inr ⟨_,⟨q,rfl,hql,fun j hj => ?_⟩,fun nx => ?_⟩
          · rw [hq j hj,if_pos hj]
          · rw [m33_L4,if_neg (by simp; omega)]
      refine .inl ?_
      have inner2 := fun nx : Int × List Int → Option (List Int × Int) => inner fun p_73 => letM ((IntKind.wrap .i64 ((i : Int) + (1 : Int)))) fun t21_75 => (nx (t21_75,p_73))
      -- the row is the same whatever comes then
      obtain ⟨o',_,q1,q2⟩ := inner fun _ => none
      have huniq : ∀ o'',o''.length = p.Lq.length → (∀ j,j < p.Lq.length → o''.getD j 0 = o.getD j 0 + (U l i).Pq.getD j 0 * (U l i).Cq) → o'' = o' := by
        intro o'' w1 w2
        refine List.ext_getElem (by omega) fun j w3 w4 => ?_
        rw [getD_at w3,getD_at w4,w2 j (by omega),q2 j (by omega)]
      refine ⟨l.length - (i + 1),(((i + 1 : Nat) : Int),o'),by omega,⟨i + 1,o',h1,rfl,rfl,q1,fun j hj => ?_⟩,fun nx => ?_⟩
      · rw [q2 j hj,ho j hj,sumU_take h1]
      · rw [m33_L3,if_pos (by simp; omega)]
        unfold jn
        dsimp only
        rw [getIdx_U rfl h1,oB]
        obtain ⟨o'',w0,w1,w2⟩ := inner2 nx
        rw [w0,huniq o'' w1 w2,letM_eq,wrap64 (by omega) (by omega)]
        rfl
    · have : i = l.length := by omega
      subst this
      refine .inr ⟨_,rfl,fun nx => ?_⟩
      rw [m33_L3,if_neg (by simp)]
      dsimp only
      congr 2
      unfold madeL
      refine ext_at hol fun j hj => ?_
      have := ho j hj
      rw [List.take_length] at this
      rw [← this,List.getElem?_eq_getElem (by omega),getD_at]
  · simp only [List.take_zero,sumU,List.getD_eq_getElem?_getD,List.getElem?_replicate]
    rw [if_pos hj]; rfl
end Go.AB

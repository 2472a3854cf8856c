import Derived.Test.YtnmglighdhaccaaMx
import Derived.Test.YtnmglighdhaccaaLn
set_option linter.unusedVariables false
namespace Go.AB
open Go Go.Proofs
def okU (p : R23) (u : R56) : Bool := decide (1 ≤ u.Cq ∧ u.Cq ≤ 1000 ∧ vP p = true ∧ Fit p u.Pq)
def sndB (p : R23) (l : List R56) : Bool := vP p && decide (l.length ≤ 1000) && l.all (okU p)
theorem sndB_iff {p : R23} {l : List R56} : sndB p l = true ↔ Snd p l := by
  unfold sndB
  rw [Bool.and_eq_true,Bool.and_eq_true,decide_eq_true_eq,List.all_eq_true]
  constructor
  · rintro ⟨⟨h1,h2⟩,h3⟩
    exact ⟨vP_iff.1 h1,h2,fun u hu => (of_decide_eq_true (h3 u hu)).2.2.2,fun u hu => ⟨(of_decide_eq_true (h3 u hu)).1,(of_decide_eq_true (h3 u hu)).2.1⟩⟩
  · intro h
    exact ⟨⟨vP_iff.2 h.vp,h.len⟩,fun u hu => decide_eq_true ⟨(h.cnt u hu).1,(h.cnt u hu).2,vP_iff.2 h.vp,h.fit u hu⟩⟩
theorem all_U {p : R56 → Bool} {l : List R56} : (∀ i,i < l.length → p (U l i) = true) ↔ l.all p = true := by
  rw [List.all_eq_true]
  constructor
  · intro h u hu
    obtain ⟨i,hi,rfl⟩ := List.getElem_of_mem hu
    have := h i hi
    rwa [← U_at hi] at this
  · exact fun h i hi => h _ (U_mem hi)
theorem m59_all {n : Nat} {p : R23} {l : List R56} (hl : l.length ≤ 100000) (hp : ∀ u,u ∈ l → u.Pq.length ≤ 25) (hn : 30 < n) (hn2 : l.length < n) : m59 n p l = some (sndB p l) := by
  have e68 : m68 n l p.Lq p.Dq p.Sq p.Kq = some (!l.all (okU p)) := by
    unfold m68 m50x2 jn
    dsimp only
    refine loop_findP (body := m50x2_L1 n l p.Lq p.Dq p.Sq p.Kq fun _ => some (-1 : Int)) (fun i => (i : Int)) l.length (fun i => !okU p (U l i)) (fun i => some (i : Int)) (some (-1)) (fun o => (o.bind fun y_1 => (some (decide ((0 : Int) ≤ y_1)))) = some (!l.all (okU p))) ?_ ?_ ?_ hn2 (fun i h1 h2 h3 => ?_) fun h1 => ?_
    · intro i hi hp2 nx
      have hm := U_mem hi
      have hp2 : okU p (U l i) = true := by simpa using hp2
      rw [m50x2_L1,if_pos (by simp; omega),getIdx_U rfl hi,Option.bind_some,mkU,m67_val (hp _ hm) (by omega),Option.bind_some,show decide (1 ≤ (U l i).Cq ∧ (U l i).Cq ≤ 1000 ∧ vP p = true ∧ Fit p (U l i).Pq) = true from hp2,if_neg (by simp),letM_eq,wrap64 (by omega) (by omega)]
      rfl
    · intro i hi hp2 nx
      have hm := U_mem hi
      have hp2 : okU p (U l i) = false := by simpa using hp2
      rw [m50x2_L1,if_pos (by simp; omega),getIdx_U rfl hi,Option.bind_some,mkU,m67_val (hp _ hm) (by omega),Option.bind_some,show decide (1 ≤ (U l i).Cq ∧ (U l i).Cq ≤ 1000 ∧ vP p = true ∧ Fit p (U l i).Pq) = false from hp2,if_pos (by rfl)]
    · intro nx
      rw [m50x2_L1,if_neg (by simp)]
    · have : l.all (okU p) = false := by
        cases h : l.all (okU p) with
        | false => rfl
        | true =>
          have := all_U.2 h i h1
          rw [this] at h2; simp at h2
      rw [this,Option.bind_some,decide_eq_true (by omega)]; rfl
    · have : l.all (okU p) = true := all_U.1 fun i hi => by simpa using h1 i hi
      rw [this]; rfl
  unfold m59 sndB
  rw [mkP,m21_val (by omega),Option.bind_some,e68]
  have e : decide ((l.length : Int) ≤ 1000) = decide (l.length ≤ 1000) := decide_eq_decide.2 (by omega)
  rw [e]
  cases vP p && decide (l.length ≤ 1000) with
  | false => rfl
  | true => simp [gdO]
theorem m30_val {n : Nat} {p : R23} {l : List R56} (hp : ∀ u,u ∈ l → u.Pq.length ≤ 25) (hn : 1100 < n) : m30 n p l = some (sndB p l) := by
  unfold m30
  rw [mkP,m12_val (by omega),Option.bind_some]
  unfold sndB
  by_cases hv : vP p = true ∧ l.length ≤ 1000
  · rw [if_neg (by simp [hv.1]; omega),hv.1,decide_eq_true hv.2]
    unfold jn
    dsimp only
    have key := loop_all (body := m30_L1 n p l fun _ => some true) (fun i => (i : Int)) l.length (fun i => okU p (U l i)) (some false) (some true) (fun i hi hp2 nx => by
        obtain ⟨q2,q3,_,q1⟩ := of_decide_eq_true hp2
        rw [m30_L1,if_pos (by simp; omega),getIdx_U rfl hi,Option.bind_some,mkP,m27_val (hp _ (U_mem hi)) (by omega),Option.bind_some,decide_eq_true (show vP p = true ∧ Fit p (U l i).Pq from ⟨hv.1,q1⟩)]
        simp only [Bool.not_true,Bool.not_false,gdO_true,Option.bind_some,Bool.false_or]
        rw [decide_eq_false (show ¬ (U l i).Cq < 1 by omega)]
        simp only [Bool.not_false,gdO_true,Option.bind_some,Bool.false_or]
        rw [decide_eq_false (show ¬ 1000 < (U l i).Cq by omega),if_neg (by simp),letM_eq,wrap64 (by omega) (by omega)]
        rfl) (fun i hi hp2 nx => by
        have hp2 := of_decide_eq_false hp2
        rw [m30_L1,if_pos (by simp; omega),getIdx_U rfl hi,Option.bind_some,mkP,m27_val (hp _ (U_mem hi)) (by omega),Option.bind_some]
        by_cases q1 : Fit p (U l i).Pq
        · rw [decide_eq_true (show vP p = true ∧ Fit p (U l i).Pq from ⟨hv.1,q1⟩)]
          simp only [Bool.not_true,Bool.not_false,gdO_true,Option.bind_some,Bool.false_or]
          by_cases q2 : (U l i).Cq < 1
          · rw [decide_eq_true q2]; rfl
          · rw [decide_eq_false q2]
            simp only [Bool.not_false,gdO_true,Option.bind_some,Bool.false_or]
            have : 1000 < (U l i).Cq := by
              apply Classical.byContradiction
              intro h
              exact hp2 ⟨by omega,by omega,hv.1,q1⟩
            rw [decide_eq_true this,if_pos rfl]
        · rw [decide_eq_false (show ¬ (vP p = true ∧ Fit p (U l i).Pq) from fun h => q1 h.2)]; rfl) (fun nx => by rw [m30_L1,if_neg (by simp)]) (show l.length < n by omega)
    refine key.trans ?_
    by_cases h : l.all (okU p) = true
    · rw [if_pos (all_U.2 h),h]; rfl
    · rw [if_neg fun hh => h (all_U.1 hh)]
      have : l.all (okU p) = false := by simpa using h
      rw [this]; rfl
  · have : (vP p && decide (l.length ≤ 1000)) = false := by
      cases h : vP p with
      | false => rfl
      | true => rw [Bool.true_and]; exact decide_eq_false fun h2 => hv ⟨h,h2⟩
    rw [this,if_pos ?_]
    · rfl
    · cases h : vP p with
      | false => rfl
      | true =>
        rw [h,Bool.true_and] at this
        have := of_decide_eq_false this
        simp; omega
theorem m38_ok {n : Nat} {p : R23} {l : List R56} (h : Snd p l) (hn : 1100 < n) : m38 n p l = some (madeL p l,0) := by
  have hl := h.len; have hl2 := h.vp.l2
  have hpl := h.pl
  unfold m38
  rw [mkP,m30_val hpl (by omega),sndB_iff.2 h,Option.bind_some,if_neg (by simp),mk_val (k := p.Lq.length) rfl rfl (by omega),Option.bind_some]
  unfold jn
  dsimp only
  have term : ∀ u,u ∈ l → ∀ j,j < p.Lq.length → 0 ≤ u.Pq.getD j 0 * u.Cq ∧ u.Pq.getD j 0 * u.Cq ≤ 2000 * 1000 := fun u hu j hj => by
    have h1 := (h.fit u hu).small h.vp j (by rw [(h.fit u hu).1]; exact hj)
    have h2 := h.cnt u hu
    exact mulB h1.1 h1.2 (by omega) h2.2
  have sumb : ∀ i,i ≤ l.length → ∀ j,j < p.Lq.length → 0 ≤ sumU (fun a => a.getD j 0) (l.take i) ∧ sumU (fun a => a.getD j 0) (l.take i) ≤ 2000000000 := fun i hi j hj => by
    have := sumU_bd (g := fun a => a.getD j 0) (B := 2000 * 1000) (l := l.take i) fun u hu => term u (List.mem_of_mem_take hu) j hj
    rw [List.length_take] at this
    omega
  refine loopM_ind (fun m x => ∃ (i : Nat) (o : List Int),i ≤ l.length ∧ m = l.length - i ∧ x = ((i : Int),o) ∧ o.length = p.Lq.length ∧ ∀ j,j < p.Lq.length → o.getD j 0 = sumU (fun a => a.getD j 0) (l.take i)) (fun o => o = some (madeL p l,0)) ?_ n l.length _ ⟨0,List.replicate p.Lq.length 0,by omega,rfl,rfl,by simp,fun j hj => ?_⟩ (by omega)
  · rintro m x ⟨i,o,hi,rfl,rfl,hol,ho⟩
    rcases Nat.lt_or_ge i l.length with h1 | h1
    · have hm := U_mem h1
      have hpl : (U l i).Pq.length = p.Lq.length := (h.fit _ hm).1
      have hcn := h.cnt _ hm
      have inner : ∀ K : List Int → Option (List Int × Int),∃ o',loopM (m38_L4 n l ((i : Int),o) K) n ((0 : Int),o) = K o' ∧ o'.length = p.Lq.length ∧ ∀ j,j < p.Lq.length → o'.getD j 0 = o.getD j 0 + (U l i).Pq.getD j 0 * (U l i).Cq := by
        intro K
        refine loopM_ind (fun m x => ∃ (k : Nat) (q : List Int),k ≤ p.Lq.length ∧ m = p.Lq.length - k ∧ x = ((k : Int),q) ∧ q.length = p.Lq.length ∧ ∀ j,j < p.Lq.length → q.getD j 0 = o.getD j 0 + if j < k then (U l i).Pq.getD j 0 * (U l i).Cq else 0)
          (fun r => ∃ o',r = K o' ∧ o'.length = p.Lq.length ∧ ∀ j,j < p.Lq.length → o'.getD j 0 = o.getD j 0 + (U l i).Pq.getD j 0 * (U l i).Cq) ?_ n p.Lq.length _ ⟨0,o,by omega,rfl,rfl,hol,fun j hj => by rw [if_neg (by omega),Int.add_zero]⟩ (by omega)
        rintro m x ⟨k,q,hk,rfl,rfl,hql,hq⟩
        rcases Nat.lt_or_ge k p.Lq.length with h2 | h2
        · have hb := sumb i (by omega) k h2
          have ht := term _ hm k h2
          have hqk := hq k h2
          rw [if_neg (by omega),Int.add_zero,ho k h2] at hqk
          refine .inl ⟨p.Lq.length - (k + 1),(((k + 1 : Nat) : Int),q.set k (q.getD k 0 + (U l i).Pq.getD k 0 * (U l i).Cq)),by omega,⟨k + 1,_,h2,rfl,rfl,by rw [List.length_set]; exact hql,fun j hj => ?_⟩,fun nx => ?_⟩
          · rw [getD_set (by omega)]
            by_cases e : j = k
            · subst e
              rw [if_pos rfl,if_pos (by omega),hq j hj,if_neg (by omega),Int.add_zero]
            · rw [if_neg e,hq j hj]
              by_cases e2 : j < k
              · rw [if_pos e2,if_pos (by omega)]
              · rw [if_neg e2,if_neg (by omega)]
          · rw [m38_L4,if_pos (by simp; omega)]
            dsimp only
            rw [getIdx_D rfl (by omega),Option.bind_some,getIdx_U rfl h1,Option.bind_some,getIdx_D rfl (by omega),Option.bind_some,Option.bind_some,Option.bind_some,wrap64 (x := (U l i).Pq.getD k 0 * (U l i).Cq) (by omega) (by omega),wrap64 (x := q.getD k 0 + (U l i).Pq.getD k 0 * (U l i).Cq) (by omega) (by omega),setIdx_at rfl (by omega),Option.bind_some,letM_eq,wrap64 (by omega) (by omega)]
            rfl
        · have : k = p.Lq.length := by omega
          subst this
          refine .inr ⟨_,⟨q,rfl,hql,fun j hj => ?_⟩,fun nx => ?_⟩
          · rw [hq j hj,if_pos hj]
          · rw [m38_L4,if_neg (by simp; omega)]
      refine .inl ?_
      have inner2 := fun nx : Int × List Int → Option (List Int × Int) => inner fun p_73 => letM ((IntKind.wrap .i64 ((i : Int) + (1 : Int)))) fun t7_90 => (nx (t7_90,p_73))
      -- the row is the same whatever comes then
      obtain ⟨o',_,q1,q2⟩ := inner fun _ => none
      have huniq : ∀ o'',o''.length = p.Lq.length → (∀ j,j < p.Lq.length → o''.getD j 0 = o.getD j 0 + (U l i).Pq.getD j 0 * (U l i).Cq) → o'' = o' := by
        intro o'' w1 w2
        refine List.ext_getElem (by omega) fun j w3 w4 => ?_
        rw [getD_at w3,getD_at w4,w2 j (by omega),q2 j (by omega)]
      refine ⟨l.length - (i + 1),(((i + 1 : Nat) : Int),o'),by omega,⟨i + 1,o',h1,rfl,rfl,q1,fun j hj => ?_⟩,fun nx => ?_⟩
      · rw [q2 j hj,ho j hj,sumU_take h1]
      · rw [m38_L3,if_pos (by simp; omega)]
        unfold jn
        dsimp only
        obtain ⟨o'',w0,w1,w2⟩ := inner2 nx
        rw [w0,huniq o'' w1 w2,letM_eq,wrap64 (by omega) (by omega)]
        rfl
    · have : i = l.length := by omega
      subst this
      refine .inr ⟨_,rfl,fun nx => ?_⟩
      rw [m38_L3,if_neg (by simp)]
      dsimp only
      congr 2
      unfold madeL
      refine ext_at hol fun j hj => ?_
      have := ho j hj
      rw [List.take_length] at this
      rw [← this,List.getElem?_eq_getElem (by omega),getD_at]
  · simp only [List.take_zero,sumU,List.getD_eq_getElem?_getD,List.getElem?_replicate]
    rw [if_pos hj]; rfl
theorem m33_all {n : Nat} {p : R23} {l : List R56} (hl : l.length ≤ 1000) (hp : ∀ u,u ∈ l → u.Pq.length ≤ 25) (hn : 1100 < n) : m33 n p l = some (if sndB p l = true then (madeL p l,0) else ([],1)) := by
  cases h : sndB p l with
  | true => rw [if_pos rfl]; exact m33_val (sndB_iff.1 h) hn
  | false =>
    unfold m33
    rw [mkP,m59_all (by omega) hp (by omega) (by omega),h]; rfl
theorem m38_all {n : Nat} {p : R23} {l : List R56} (hl : l.length ≤ 1000) (hp : ∀ u,u ∈ l → u.Pq.length ≤ 25) (hn : 1100 < n) : m38 n p l = some (if sndB p l = true then (madeL p l,0) else ([],1)) := by
  cases h : sndB p l with
  | true => rw [if_pos rfl]; exact m38_ok (sndB_iff.1 h) hn
  | false =>
    unfold m38
    rw [mkP,m30_val hp (by omega),h]; rfl
theorem m33o_eq (n : Nat) (p : R23) (l : List R56) : m33o n p l = m33 n p l := rfl
theorem m38o_eq (n : Nat) (p : R23) (l : List R56) : m38o n p l = m38 n p l := rfl
theorem madeL_len (p : R23) (l : List R56) : (madeL p l).length = p.Lq.length := by simp [madeL]
theorem madeL_at {p : R23} {l : List R56} {k : Nat} (h : k < p.Lq.length) : (madeL p l).getD k 0 = sumU (fun a => a.getD k 0) l := by simp [madeL,h]
def mtB (p : R23) (l : List R56) : Bool := decide (∀ i,i < p.Lq.length → p.Dq.getD i 0 ≤ (madeL p l).getD i 0)
theorem m41_val {n : Nat} {p : R23} {l : List R56} (hl : l.length ≤ 1000) (hp : ∀ u,u ∈ l → u.Pq.length ≤ 25) (hn : 1100 < n) : m41 n p l = some (sndB p l && mtB p l) := by
  unfold m41
  rw [mkP,m33_all hl hp hn,Option.bind_some]
  unfold jn
  dsimp only
  cases h : sndB p l with
  | false =>
    rw [if_neg (by simp)]
    obtain ⟨n,rfl⟩ : ∃ m,n = m + 1 := ⟨n - 1,by omega⟩
    rw [loopM_succ,m41_L1,if_neg (by simp)]
    rfl
  | true =>
    have hv := (sndB_iff.1 h).vp
    rw [if_pos rfl]
    refine (loop_all (fun i => (i : Int)) p.Lq.length (fun i => decide (p.Dq.getD i 0 ≤ (madeL p l).getD i 0)) (some false) (some true) (fun i hi hp2 nx => ?_) (fun i hi hp2 nx => ?_) (fun nx => ?_) (by have := hv.l2; omega)).trans ?_
    · have hp2 := of_decide_eq_true hp2
      have := hv.l2
      rw [m41_L1,if_pos (by rw [madeL_len]; simp; omega)]
      dsimp only
      rw [getIdx_D rfl (by rw [madeL_len]; exact hi),Option.bind_some,getIdx_D rfl (by rw [hv.dl]; exact hi),Option.bind_some,if_neg (by rw [decide_eq_true_eq]; omega),letM_eq,wrap64 (by omega) (by omega)]
      rfl
    · have hp2 := of_decide_eq_false hp2
      rw [m41_L1,if_pos (by rw [madeL_len]; simp; omega)]
      dsimp only
      rw [getIdx_D rfl (by rw [madeL_len]; exact hi),Option.bind_some,getIdx_D rfl (by rw [hv.dl]; exact hi),Option.bind_some,if_pos (by rw [decide_eq_true_eq]; omega)]
    · rw [m41_L1,if_neg (by rw [madeL_len]; simp)]
      rfl
    · unfold mtB
      simp only [decide_eq_true_eq]
      split
      · rename_i q; rw [decide_eq_true q]; rfl
      · rename_i q; rw [decide_eq_false q]; rfl
theorem m42_val {n : Nat} {p : R23} {l : List R56} (hl : l.length ≤ 1000) (hp : ∀ u,u ∈ l → u.Pq.length ≤ 25) (hn : 1100 < n) : m42 n p l = some (sndB p l && mtB p l) := by
  unfold m42
  rw [mkP,m38_all hl hp hn,Option.bind_some]
  cases h : sndB p l with
  | false =>
    rw [if_neg (show ¬ (false = true) by simp)]
    rfl
  | true =>
    have hv := (sndB_iff.1 h).vp
    rw [if_pos rfl,if_neg (by simp)]
    unfold jn
    dsimp only
    refine (loop_all (fun i => (i : Int)) p.Lq.length (fun i => decide (p.Dq.getD i 0 ≤ (madeL p l).getD i 0)) (some false) (some true) (fun i hi hp2 nx => ?_) (fun i hi hp2 nx => ?_) (fun nx => ?_) (by have := hv.l2; omega)).trans ?_
    · have hp2 := of_decide_eq_true hp2
      have := hv.l2
      rw [m42_L1,if_pos (by rw [madeL_len]; simp; omega)]
      dsimp only
      rw [getIdx_D rfl (by rw [madeL_len]; exact hi),Option.bind_some,getIdx_D rfl (by rw [hv.dl]; exact hi),Option.bind_some,if_neg (by rw [decide_eq_true_eq]; omega),letM_eq,wrap64 (by omega) (by omega)]
      rfl
    · have hp2 := of_decide_eq_false hp2
      rw [m42_L1,if_pos (by rw [madeL_len]; simp; omega)]
      dsimp only
      rw [getIdx_D rfl (by rw [madeL_len]; exact hi),Option.bind_some,getIdx_D rfl (by rw [hv.dl]; exact hi),Option.bind_some,if_pos (by rw [decide_eq_true_eq]; omega)]
    · rw [m42_L1,if_neg (by rw [madeL_len]; simp)]
    · unfold mtB
      simp only [decide_eq_true_eq]
      split
      · rename_i q; rw [decide_eq_true q]; rfl
      · rename_i q; rw [decide_eq_false q]; rfl
def barsW (l : List R56) : Int := l.foldl (fun s u => IntKind.wrap .i64 (s + u.Cq)) 0
theorem m35_all {n : Nat} {l : List R56} (hl : l.length ≤ 1000000) (hn : l.length < n) : m35 n l = some (barsW l) := by
  unfold m35 jn
  refine (loop_fold (fun i s => ((s,(i : Int)) : Int × Int)) l.length (fun i s => IntKind.wrap .i64 (s + (U l i).Cq)) (fun i s => True) (fun p => some p) (fun i s hi hs => ⟨trivial,fun nx => ?_⟩) (fun s hs nx => ?_) (s0 := 0) trivial hn).trans ?_
  · rw [m35_L1,if_pos (by simp; omega)]
    dsimp only
    rw [getIdx_U rfl hi,Option.bind_some,letM_eq,letM_eq,wrap64 (x := (i : Int) + 1) (by omega) (by omega)]
    rfl
  · rw [m35_L1,if_neg (by simp)]
  · rw [show foldN (fun i s => IntKind.wrap .i64 (s + (U l i).Cq)) l.length 0 = barsW l from foldN_all (g := fun s u => IntKind.wrap .i64 (s + u.Cq)) (l := l) (d := default) (s := 0)]
theorem m43_all {n : Nat} {l : List R56} (hl : l.length ≤ 1000000) (hn : l.length < n) : m43 n l = some (barsW l) := by
  unfold m43 jn
  refine (loop_fold (fun i s => ((s,(i : Int)) : Int × Int)) l.length (fun i s => IntKind.wrap .i64 (s + (U l i).Cq)) (fun i s => True) (fun p => some p) (fun i s hi hs => ⟨trivial,fun nx => ?_⟩) (fun s hs nx => ?_) (s0 := 0) trivial hn).trans ?_
  · rw [m43_L1,if_pos (by simp; omega)]
    dsimp only
    rw [getIdx_U rfl hi,Option.bind_some,letM_eq,letM_eq,wrap64 (x := (i : Int) + 1) (by omega) (by omega)]
    rfl
  · rw [m43_L1,if_neg (by simp)]
  · rw [show foldN (fun i s => IntKind.wrap .i64 (s + (U l i).Cq)) l.length 0 = barsW l from foldN_all (g := fun s u => IntKind.wrap .i64 (s + u.Cq)) (l := l) (d := default) (s := 0)]
end Go.AB

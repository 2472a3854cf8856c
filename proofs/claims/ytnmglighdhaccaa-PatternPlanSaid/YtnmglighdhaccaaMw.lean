import Derived.Test.YtnmglighdhaccaaMv
set_option linter.unusedVariables false
namespace Go.AB
open Go Go.Proofs
def addW : List R56 → R56 → List R56
  | [],u => [u]
  | v :: vs,u => if v.Pq = u.Pq then ⟨v.Pq,IntKind.wrap .i64 (v.Cq + u.Cq)⟩ :: vs else v :: addW vs u
def posU (u : R56) : Bool := !decide (u.Cq < 1)
def normW (l : List R56) : List R56 := isr ltU [] ((l.foldl addW []).filter posU)
theorem addW_pat : ∀ {l : List R56} {u w : R56},w ∈ addW l u → w.Pq = u.Pq ∨ ∃ v,v ∈ l ∧ w.Pq = v.Pq
  | [],u,w,h => by simp [addW] at h; exact .inl (by rw [h])
  | v :: vs,u,w,h => by
    rw [addW] at h
    by_cases e : v.Pq = u.Pq
    · rw [if_pos e] at h
      rcases List.mem_cons.1 h with rfl | h
      · exact .inl e
      · exact .inr ⟨w,List.mem_cons_of_mem _ h,rfl⟩
    · rw [if_neg e] at h
      rcases List.mem_cons.1 h with rfl | h
      · exact .inr ⟨w,by simp,rfl⟩
      · rcases addW_pat h with h | ⟨x,h1,h2⟩
        · exact .inl h
        · exact .inr ⟨x,List.mem_cons_of_mem _ h1,h2⟩
theorem addW_pw : ∀ {l : List R56} {u : R56},l.Pairwise (fun u v => u.Pq ≠ v.Pq) → (addW l u).Pairwise (fun u v => u.Pq ≠ v.Pq)
  | [],u,_ => by simp [addW]
  | v :: vs,u,h => by
    rw [List.pairwise_cons] at h
    rw [addW]
    split
    · exact List.pairwise_cons.2 ⟨fun w hw => h.1 w hw,h.2⟩
    · rename_i e
      refine List.pairwise_cons.2 ⟨fun w hw => ?_,addW_pw h.2⟩
      rcases addW_pat hw with q | ⟨x,h1,h2⟩
      · rw [q]; exact e
      · rw [h2]; exact h.1 x h1
theorem addW_len : ∀ (l : List R56) (u : R56),(addW l u).length ≤ l.length + 1
  | [],u => by simp [addW]
  | v :: vs,u => by
    rw [addW]
    split
    · simp
    · simp only [List.length_cons]; have := addW_len vs u; omega
theorem addW_set : ∀ {l : List R56} {u : R56} {i : Nat} (h : i < l.length),(∀ j (hj : j < i),(l[j]'(by omega)).Pq ≠ u.Pq) → l[i].Pq = u.Pq → l.set i ⟨l[i].Pq,IntKind.wrap .i64 (l[i].Cq + u.Cq)⟩ = addW l u
  | [],u,i,h,_,_ => by simp at h
  | v :: vs,u,0,h,_,h2 => by
    have h2 : v.Pq = u.Pq := h2
    rw [addW,if_pos h2]; rfl
  | v :: vs,u,i + 1,h,h1,h2 => by
    have h3 : v.Pq ≠ u.Pq := h1 0 (by omega)
    rw [addW,if_neg h3,← addW_set (l := vs) (by simpa using h) (fun j hj => h1 (j + 1) (by omega)) h2]
    rfl
theorem addW_none : ∀ {l : List R56} {u : R56},(∀ j (hj : j < l.length),l[j].Pq ≠ u.Pq) → l ++ [u] = addW l u
  | [],u,_ => rfl
  | v :: vs,u,h => by
    have h3 : v.Pq ≠ u.Pq := h 0 (by simp)
    rw [addW,if_neg h3,List.cons_append,addW_none (l := vs) fun j hj => h (j + 1) (by simp; omega)]
theorem foldW {P : List R56 → Prop} : ∀ (l : List R56) (acc : List R56),P acc → (∀ acc u,u ∈ l → P acc → P (addW acc u)) → P (l.foldl addW acc)
  | [],acc,h,_ => h
  | u :: l,acc,h,st => foldW l (addW acc u) (st acc u (by simp) h) fun acc v hv => st acc v (List.mem_cons_of_mem _ hv)
theorem foldW_len : ∀ (l acc : List R56),(l.foldl addW acc).length ≤ acc.length + l.length
  | [],acc => by simp
  | u :: l,acc => by
    have := foldW_len l (addW acc u)
    have := addW_len acc u
    simp only [List.foldl_cons,List.length_cons]; omega
theorem foldW_pw (l : List R56) : (l.foldl addW []).Pairwise (fun u v => u.Pq ≠ v.Pq) := foldW l [] (by simp) fun acc u _ h => addW_pw h
theorem foldW_pat {l : List R56} {Q : List Int → Prop} (h : ∀ u,u ∈ l → Q u.Pq) : ∀ u,u ∈ l.foldl addW [] → Q u.Pq :=
  foldW (P := fun acc => ∀ u,u ∈ acc → Q u.Pq) l [] (by simp) fun acc v hv ha w hw => by
    rcases addW_pat hw with e | ⟨v',h1,e⟩
    · rw [e]; exact h v hv
    · rw [e]; exact ha v' h1
theorem addW_addU : ∀ {l : List R56} {u : R56},(∀ v,v ∈ l → -9223372036854775808 ≤ v.Cq + u.Cq ∧ v.Cq + u.Cq ≤ 9223372036854775807) → addW l u = addU l u
  | [],u,_ => rfl
  | v :: vs,u,h => by
    rw [addW,addU]
    have hv := h v (by simp)
    rw [wrap64 hv.1 hv.2,addW_addU fun w hw => h w (List.mem_cons_of_mem _ hw)]
theorem foldW_foldU {C : Int} : ∀ (l acc : List R56) (B : Int),(∀ v,v ∈ acc → 0 ≤ v.Cq ∧ v.Cq ≤ B) → (∀ u,u ∈ l → 1 ≤ u.Cq ∧ u.Cq ≤ C) → 0 ≤ C → 0 ≤ B → B + C * (l.length : Int) ≤ 9223372036854775807 → l.foldl addW acc = l.foldl addU acc
  | [],acc,B,_,_,_,_,_ => rfl
  | u :: l,acc,B,ha,hl,hC,hB,hb => by
    have hu := hl u (by simp)
    have e : C * ((u :: l).length : Int) = C * (l.length : Int) + C := by rw [List.length_cons,Int.natCast_succ,Int.mul_add,Int.mul_one]
    have hp : 0 ≤ C * (l.length : Int) := Int.mul_nonneg hC (Int.natCast_nonneg _)
    rw [List.foldl_cons,List.foldl_cons,addW_addU fun v hv => by have := ha v hv; omega]
    refine foldW_foldU l _ (B + C) (fun v hv => ?_) (fun v hv => hl v (List.mem_cons_of_mem _ hv)) hC (by omega) (by omega)
    rcases mem_addU hv with rfl | hv | ⟨v',q1,q2,q3⟩
    · omega
    · have := ha v hv; omega
    · have := ha v' q1; omega
theorem normW_normL {l : List R56} (hl : l.length ≤ 100000) (hc : ∀ u,u ∈ l → 1 ≤ u.Cq ∧ u.Cq ≤ 1000000) : normW l = normL l := by
  unfold normW normL
  rw [foldW_foldU (C := 1000000) l [] 0 (by simp) hc (by omega) (by omega) (by omega)]
  congr 1
  refine List.filter_eq_self.2 fun u hu => ?_
  have := normL_pos (fun v hv => (hc v hv).1) u ((normL_perm l).mem_iff.2 hu)
  unfold posU
  rw [decide_eq_false (by omega)]; rfl
theorem m34_val {n : Nat} {a b : List Int} (ha : a.length ≤ 1000000) (hn : a.length < n) : m34 n a b = some (decide (a = b)) := by
  unfold m34
  by_cases hl : a.length = b.length
  · rw [if_neg (by simp [hl])]
    unfold jn
    refine (loop_all (fun i => (i : Int)) a.length (fun i => decide (a.getD i 0 = b.getD i 0)) (some false) (some true) ?_ ?_ ?_ hn).trans ?_
    · intro i hi hp nx
      rw [m34_L1,if_pos (by simp; omega),getIdx_D rfl hi,Option.bind_some,getIdx_D rfl (by omega),Option.bind_some,hp,if_neg (by simp),letM_eq,wrap64 (by omega) (by omega)]
      rfl
    · intro i hi hp nx
      rw [m34_L1,if_pos (by simp; omega),getIdx_D rfl hi,Option.bind_some,getIdx_D rfl (by omega),Option.bind_some,hp,if_pos (by simp)]
    · intro nx
      rw [m34_L1,if_neg (by simp)]
    · by_cases hq : ∀ i,i < a.length → decide (a.getD i 0 = b.getD i 0) = true
      · rw [if_pos hq,decide_eq_true]
        refine List.ext_getElem hl fun i h1 h2 => ?_
        rw [getD_at h1,getD_at h2]
        exact of_decide_eq_true (hq i h1)
      · rw [if_neg hq,decide_eq_false]
        rintro rfl
        exact hq fun i _ => decide_eq_true rfl
  · rw [if_pos (by simp; omega),decide_eq_false (by rintro rfl; exact hl rfl)]
theorem addW_val {n : Nat} {acc : List R56} {u : R56} (hl : acc.length ≤ 1000000) (hn : acc.length < n) (hp : u.Pq.length ≤ 25) (hn2 : 30 < n) {K : List R56 → Option (List R56)} :
    ((m50 n acc u.Pq u.Cq).bind fun y_26 => (if (decide ((0 : Int) ≤ y_26)) = true then ((getIdx acc y_26).bind fun y_27 => ((getIdx acc y_26).bind fun y_28 => ((setIdx acc y_26 ({ y_28 with Cq := (IntKind.wrap .i64 (y_27.Cq + u.Cq)) })).bind fun l1_29 => (K l1_29)))) else ((m53 n u.Pq).bind fun y_30 => ((apd acc ([(R56.mk y_30 u.Cq)] : List R56)).bind fun l1_31 => (K l1_31))))) = K (addW acc u) := by
  unfold m50 jn
  dsimp only
  refine loop_findP (fun i => (i : Int)) acc.length (fun i => decide (u.Pq = (U acc i).Pq)) (fun i => some (i : Int)) (some (-1)) (fun o => (o.bind fun y_26 => (if (decide ((0 : Int) ≤ y_26)) = true then ((getIdx acc y_26).bind fun y_27 => ((getIdx acc y_26).bind fun y_28 => ((setIdx acc y_26 ({ y_28 with Cq := (IntKind.wrap .i64 (y_27.Cq + u.Cq)) })).bind fun l1_29 => (K l1_29)))) else ((m53 n u.Pq).bind fun y_30 => ((apd acc ([(R56.mk y_30 u.Cq)] : List R56)).bind fun l1_31 => (K l1_31))))) = K (addW acc u)) ?_ ?_ ?_ hn (fun i h1 h2 h3 => ?_) fun h1 => ?_
  · intro i hi hp2 nx
    rw [m50_L1,if_pos (by simp; omega),getIdx_U rfl hi,Option.bind_some,mkU,m51_val (by omega) (by omega),Option.bind_some,hp2,if_neg (by simp),letM_eq,wrap64 (by omega) (by omega)]
    rfl
  · intro i hi hp2 nx
    rw [m50_L1,if_pos (by simp; omega),getIdx_U rfl hi,Option.bind_some,mkU,m51_val (by omega) (by omega),Option.bind_some,hp2,if_pos rfl]
  · intro nx
    rw [m50_L1,if_neg (by simp)]
  · have e := of_decide_eq_true h2
    rw [Option.bind_some,if_pos (by simp),getIdx_U rfl h1,Option.bind_some,Option.bind_some,setIdx_at rfl h1,Option.bind_some]
    congr 1
    rw [← U_at h1] at e ⊢
    exact addW_set h1 (fun j hj => by
      have := of_decide_eq_false (h3 j hj)
      rw [← U_at (by omega)] at this
      exact fun e => this e.symm) e.symm
  · rw [Option.bind_some,if_neg (by simp)]
    unfold m53
    rw [apd_val (by simp; omega),Option.bind_some,List.nil_append,Option.bind_some,apd_val (by simp; omega),Option.bind_some,mkU]
    congr 1
    exact addW_none fun j hj => by
      have := of_decide_eq_false (h1 j hj)
      rw [← U_at hj] at this
      exact fun e => this e.symm
theorem m54o_L1_val {N : Nat} {k : Int × List R56 → Option (List R56)} (hk : ∀ K D : List R56,K.length + D.length ≤ 1000000 → k ((K.length : Int),K ++ D) = some K) : ∀ (T K D : List R56) (n : Nat),0 < D.length → K.length + D.length + T.length ≤ 1000000 → T.length < n →
    loopM (m54o_L1 N k) n ((K.length : Int),((K.length + D.length : Nat) : Int),K ++ D ++ T) = some (K ++ T.filter posU)
  | [],K,D,n + 1,hD,hs,hn => by
    rw [loopM_succ,m54o_L1,if_neg (by simp)]
    dsimp only
    rw [List.append_nil,hk K D (by simpa using hs)]
    simp
  | u :: T,K,d :: D,n + 1,hD,hs,hn => by
    simp only [List.length_cons] at hs hn
    rw [loopM_succ,m54o_L1,if_pos (by simp; omega)]
    dsimp only
    rw [get_mid (a := K ++ d :: D) (by simp),Option.bind_some,mkU]
    unfold m55 jn
    rw [Option.bind_some]
    dsimp only
    cases hp : posU u with
    | true =>
      have h1 : decide (u.Cq < 1) = false := by simpa [posU] using hp
      rw [h1,if_pos (by rfl),show K ++ d :: D ++ u :: T = K ++ d :: (D ++ u :: T) by simp,get_mid rfl,Option.bind_some,put_mid rfl,Option.bind_some,letM_eq,letM_eq]
      have ih := m54o_L1_val (N := N) hk T (K ++ [u]) (D ++ [u]) n (by simp) (by simp; omega) (by omega)
      rw [wrap64 (x := (K.length : Int) + 1) (by omega) (by omega),wrap64 (by simp only [List.length_cons]; omega) (by simp only [List.length_cons]; omega),show K ++ u :: (D ++ u :: T) = K ++ [u] ++ (D ++ [u]) ++ T by simp,show (K.length : Int) + 1 = ((K ++ [u]).length : Int) by simp,show ((K.length + (d :: D).length : Nat) : Int) + 1 = (((K ++ [u]).length + (D ++ [u]).length : Nat) : Int) by simp; omega]
      rw [ih]
      simp [List.filter_cons,hp]
    | false =>
      have h1 : decide (u.Cq < 1) = true := by simpa [posU] using hp
      rw [h1,if_neg (by simp),letM_eq]
      have ih := m54o_L1_val (N := N) hk T K (d :: D ++ [u]) n (by simp) (by simp; omega) (by omega)
      rw [wrap64 (by simp only [List.length_cons]; omega) (by simp only [List.length_cons]; omega),show K ++ d :: D ++ u :: T = K ++ (d :: D ++ [u]) ++ T by simp,show ((K.length + (d :: D).length : Nat) : Int) + 1 = ((K.length + (d :: D ++ [u]).length : Nat) : Int) by simp; omega]
      rw [ih]
      simp [List.filter_cons,hp]
theorem m54o_val {n : Nat} {l : List R56} (hl : l.length ≤ 1000000) (hn : l.length < n) : m54o n l = some (l.filter posU) := by
  unfold m54o m50x1 jn
  dsimp only
  refine loop_findP (body := m50x1_L1 n l fun _ => some (-1 : Int)) (fun i => (i : Int)) l.length (fun i => !posU (U l i)) (fun i => some (i : Int)) (some (-1)) (fun o => (o.bind fun y_1 => if decide (y_1 = -1) = true then some l else letM (IntKind.wrap .i64 (y_1 + 1)) fun t6_2 => loopM (m54o_L1 n fun p_31 => (slc p_31.2 0 p_31.1).bind fun l1_33 => some l1_33) n (y_1,t6_2,l)) = some (l.filter posU)) ?_ ?_ ?_ hn (fun i h1 h2 h3 => ?_) fun h1 => ?_
  · intro i hi hp2 nx
    rw [m50x1_L1,if_pos (by simp; omega),getIdx_U rfl hi,Option.bind_some,mkU]
    unfold m55
    have : decide ((U l i).Cq < 1) = false := by simpa [posU] using hp2
    rw [Option.bind_some,this,if_neg (by simp),letM_eq,wrap64 (by omega) (by omega)]
    rfl
  · intro i hi hp2 nx
    rw [m50x1_L1,if_pos (by simp; omega),getIdx_U rfl hi,Option.bind_some,mkU]
    unfold m55
    have : decide ((U l i).Cq < 1) = true := by simpa [posU] using hp2
    rw [Option.bind_some,this,if_pos rfl]
  · intro nx
    rw [m50x1_L1,if_neg (by simp)]
  · obtain ⟨K,T,rfl,q1,q2⟩ := splitL (l := l) (k := i) (by omega)
    cases T with
    | nil => simp at q2 h1; omega
    | cons d T =>
      simp only [List.length_append,List.length_cons] at *
      have hd : U (K ++ d :: T) i = d := U_mid q1.symm
      have hK : K.filter posU = K := List.filter_eq_self.2 fun u hu => by
        obtain ⟨j,hj,rfl⟩ := List.mem_iff_getElem.1 hu
        have := h3 j (by omega)
        have e : U (K ++ d :: T) j = K[j] := by unfold U; rw [List.getD_eq_getElem?_getD,List.getElem?_append_left hj]; simp [hj]
        rw [e] at this
        simpa using this
      rw [Option.bind_some,if_neg (by rw [decide_eq_true_eq]; omega),letM_eq,wrap64 (by omega) (by omega)]
      have := m54o_L1_val (N := n) (k := fun p => (slc p.2 0 p.1).bind fun l1 => some l1) (fun K D h => by
        dsimp only
        have e : slc (K ++ D) 0 (K.length : Int) = some (((K ++ D).drop 0).take (K.length - 0)) := slc_val (i := 0) (j := K.length) rfl rfl (by omega) (by simp)
        rw [e]
        simp) T K [d] n (by simp) (by simp; omega) (by omega)
      rw [← q1,show (K.length : Int) + 1 = ((K.length + [d].length : Nat) : Int) by simp,show K ++ d :: T = K ++ [d] ++ T by simp,this]
      rw [hd] at h2
      have h2 : posU d = false := by simpa using h2
      simp [List.filter_append,hK,h2]
  · rw [Option.bind_some,if_pos (by rfl)]
    congr 1
    refine (List.filter_eq_self.2 fun u hu => ?_).symm
    obtain ⟨j,hj,rfl⟩ := List.mem_iff_getElem.1 hu
    have := h1 j hj
    rw [U_at hj]
    simpa using this
theorem m31_val {n : Nat} {l : List R56} (hl : l.length ≤ 50000) (hp : ∀ u,u ∈ l → u.Pq.length ≤ 25) (hn : l.length + 1100 < n) : m31 n l = some (normW l) := by
  unfold m31 jn
  refine (loop_fold (fun i s => (((i : Int),s) : Int × List R56)) l.length (fun i s => addW s (U l i)) (fun i s => s.length ≤ i) (fun p => ((m54o n p).bind fun y_37 => ((m56 n y_37).bind fun y_38 => (asrt (y_37.length = y_38.length) (some y_38))))) (fun i s hi hs => ?_) (fun s hs nx => ?_) (s0 := []) (by simp) (by omega)).trans ?_
  · refine ⟨by have := addW_len s (U l i); omega,fun nx => ?_⟩
    have := addW_val (n := n) (acc := s) (u := U l i) (by omega) (by omega) (hp _ (U_mem hi)) (by omega) (K := fun p_32 => letM ((IntKind.wrap .i64 ((i : Int) + (1 : Int)))) fun t9_34 => (nx (t9_34,p_32)))
    rw [m31_L1,if_pos (by simp; omega)]
    unfold jn
    dsimp only
    rw [getIdx_U rfl hi,Option.bind_some]
    refine this.trans ?_
    rw [letM_eq,wrap64 (by omega) (by omega)]
    rfl
  · rw [m31_L1,if_neg (by simp)]
  · rw [show foldN (fun i s => addW s (U l i)) l.length [] = l.foldl addW [] from foldN_all (g := addW) (l := l) (d := default) (s := [])]
    have hfl := foldW_len l []
    simp only [List.length_nil,Nat.zero_add] at hfl
    have hfi := List.length_filter_le posU (l.foldl addW [])
    rw [m54o_val (by omega) (by omega),Option.bind_some,m56_val (fun u hu => foldW_pat (Q := fun a => a.length ≤ 25) hp u (List.mem_filter.1 hu).1) (by omega) (by omega) ((foldW_pw l).filter _),Option.bind_some]
    unfold asrt
    rw [if_pos (by rw [isr_len]; simp)]
    rfl
end Go.AB

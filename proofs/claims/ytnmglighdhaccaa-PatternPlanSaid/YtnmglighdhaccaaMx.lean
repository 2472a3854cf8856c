import Derived.Test.YtnmglighdhaccaaMw
set_option linter.unusedVariables false
namespace Go.AB
open Go Go.Proofs
def i64U (u : R56) : Prop := -9223372036854775808 ≤ u.Cq ∧ u.Cq ≤ 9223372036854775807
theorem m44_L4_val {N : Nat} {a0 sums : List R56} {i : Nat} (hi : i < a0.length) (hl : sums.length ≤ 1000000) (hn : sums.length < N) (hN : 30 < N) (hp : ∀ v,v ∈ sums → v.Pq.length ≤ 25) :
    ∃ t : Int,((∃ j : Nat,j < sums.length ∧ (U sums j).Pq = (U a0 i).Pq ∧ t = (j : Int)) ∨ ((∀ j,j < sums.length → (U sums j).Pq ≠ (U a0 i).Pq) ∧ t = (sums.length : Int))) ∧
      ∀ k,loopM (m44_L4 N a0 ((i : Int),sums) k) N ((sums.length : Int),(0 : Int)) = k t := by
  refine loopM_indQ (fun m x => ∃ (q : Nat) (t : Int),m = sums.length - q ∧ q ≤ sums.length ∧ x = (t,(q : Int)) ∧ ((∃ j : Nat,j < q ∧ (U sums j).Pq = (U a0 i).Pq ∧ t = (j : Int)) ∨ ((∀ j,j < q → (U sums j).Pq ≠ (U a0 i).Pq) ∧ t = (sums.length : Int)))) _ ?_ N sums.length _ ⟨0,_,rfl,by omega,rfl,.inr ⟨fun j h => absurd h (by omega),rfl⟩⟩ hn
  rintro m x ⟨q,t,rfl,hq,rfl,h⟩
  by_cases hc : q < sums.length
  · refine .inl ?_
    have hpq := hp _ (U_mem hc)
    by_cases e : (U sums q).Pq = (U a0 i).Pq
    · refine ⟨sums.length - (q + 1),((q : Int),((q + 1 : Nat) : Int)),by omega,⟨q + 1,_,rfl,hc,rfl,.inl ⟨q,by omega,e,rfl⟩⟩,fun k nx => ?_⟩
      rw [m44_L4,if_pos (by simp; omega)]
      unfold jn
      dsimp only
      rw [getIdx_U rfl hc,Option.bind_some,getIdx_U rfl hi,Option.bind_some,m34_val (by omega) (by omega),Option.bind_some,decide_eq_true e,if_pos rfl,letM_eq,wrap64 (by omega) (by omega)]
      rfl
    · refine ⟨sums.length - (q + 1),(t,((q + 1 : Nat) : Int)),by omega,⟨q + 1,_,rfl,hc,rfl,?_⟩,fun k nx => ?_⟩
      · rcases h with ⟨j,h1,h2,h3⟩ | ⟨h1,h2⟩
        · exact .inl ⟨j,by omega,h2,h3⟩
        · refine .inr ⟨fun j hj => ?_,h2⟩
          by_cases e2 : j = q
          · subst e2; exact e
          · exact h1 j (by omega)
      · rw [m44_L4,if_pos (by simp; omega)]
        unfold jn
        dsimp only
        rw [getIdx_U rfl hc,Option.bind_some,getIdx_U rfl hi,Option.bind_some,m34_val (by omega) (by omega),Option.bind_some,decide_eq_false e,if_neg (by simp),letM_eq,wrap64 (by omega) (by omega)]
        rfl
  · have : q = sums.length := by omega
    subst this
    refine .inr ⟨t,h,fun k nx => ?_⟩
    rw [m44_L4,if_neg (by simp)]
theorem m44_L3_step {N : Nat} {a0 sums : List R56} {i : Nat} (hi : i < a0.length) (ha : a0.length ≤ 1000000) (hl : sums.length ≤ 1000000) (hn : sums.length < N) (hN : 30 < N) (hp : ∀ v,v ∈ sums → v.Pq.length ≤ 25) (hp2 : (U a0 i).Pq.length ≤ 25)
    (hd : sums.Pairwise (fun u v => u.Pq ≠ v.Pq)) (hc : i64U (U a0 i)) {k : List R56 → Option (List R56)} {nx : Int × List R56 → Option (List R56)} :
    m44_L3 N a0 k nx ((i : Int),sums) = nx (((i + 1 : Nat) : Int),addW sums (U a0 i)) := by
  obtain ⟨t,ht,e⟩ := m44_L4_val hi hl hn hN hp
  rw [m44_L3,if_pos (by simp; omega)]
  unfold jn
  dsimp only
  rw [e]
  rcases ht with ⟨j,h1,h2,rfl⟩ | ⟨h1,rfl⟩
  · rw [if_neg (by rw [decide_eq_true_eq]; omega),getIdx_U rfl h1,Option.bind_some,getIdx_U rfl hi,Option.bind_some,Option.bind_some,setIdx_at rfl h1,Option.bind_some,letM_eq,wrap64 (x := (i : Int) + 1) (by omega) (by omega)]
    congr 2
    rw [← U_at h1] at h2 ⊢
    refine addW_set h1 (fun j' hj' e => ?_) h2
    have := List.pairwise_iff_getElem.1 hd j' j (by omega) h1 hj'
    exact this (e.trans h2.symm)
  · rw [if_pos (by rw [decide_eq_true_eq]),getIdx_U rfl hi,Option.bind_some,apd_val (by simp; omega),Option.bind_some,List.nil_append,apd_val (by simp; omega),Option.bind_some,get_mid rfl,Option.bind_some,Option.bind_some,Option.bind_some,put_mid rfl,Option.bind_some,letM_eq,wrap64 (x := (i : Int) + 1) (by omega) (by omega)]
    dsimp only
    rw [Int.zero_add,wrap64 hc.1 hc.2,mkU,addW_none fun j hj => by rw [U_at hj]; exact h1 j hj]
    rfl
theorem insR_split {α : Type} (lt : α → α → Bool) (x : α) : ∀ acc : List α,∃ a b,acc = a ++ b ∧ insR lt x acc = a ++ x :: b ∧ (∀ y,y ∈ a → lt x y = true) ∧ ∀ y,b.head? = some y → lt x y = false
  | [] => ⟨[],[],rfl,rfl,by simp,by simp⟩
  | p :: ps => by
    rw [insR]
    cases h : lt x p with
    | true =>
      obtain ⟨a,b,h1,h2,h3,h4⟩ := insR_split lt x ps
      refine ⟨p :: a,b,by rw [h1]; rfl,by rw [if_pos rfl,h2]; rfl,fun y hy => ?_,h4⟩
      rcases List.mem_cons.1 hy with rfl | hy
      · exact h
      · exact h3 y hy
    | false => exact ⟨[],p :: ps,rfl,by rw [if_neg (by simp)]; rfl,by simp,fun y hy => by simp at hy; rw [← hy]; exact h⟩
theorem ltU_cmp (u v : R56) : decide (0 < cmpL u.Pq v.Pq) = ltU u v := by
  unfold ltU
  have := cmpL_anti u.Pq v.Pq
  apply decide_eq_decide.2
  omega
theorem m44_L8_val {N : Nat} (hN : 30 < N) {sums : List R56} {i : Nat} (hi : i < sums.length) {out : List R56} {k : Int → Option (List R56)} (hx : (U sums i).Pq.length ≤ 25) {b : List R56} (hb : ∀ y,b.head? = some y → ltU (U sums i) y = false) : ∀ (a : List R56) (n : Nat) (c : List R56),(∀ y,y ∈ a → ltU (U sums i) y = true) → out = (a ++ b).reverse ++ c → out.length ≤ 1000000 → a.length < n →
    loopM (m44_L8 N sums (out,(i : Int)) k) n (((a ++ b).length : Nat) : Int) = k ((b.length : Nat) : Int)
  | [],n + 1,c,_,ho,hl,hn => by
    rw [loopM_succ,m44_L8]
    cases b with
    | nil =>
      simp only [List.append_nil,List.length_nil,Int.natCast_zero,Int.lt_irrefl,decide_false,Bool.false_and,gdO]
      simp
    | cons y b =>
      have hy := hb y rfl
      simp only [List.nil_append,List.reverse_cons,List.append_assoc,List.singleton_append] at ho
      have hlen := congrArg List.length ho
      simp only [List.length_append,List.length_cons,List.length_reverse] at hlen
      have hc : decide ((0 : Int) < ((([] ++ y :: b : List R56).length : Nat) : Int)) = true := by simp only [List.nil_append,List.length_cons,decide_eq_true_eq]; omega
      simp only [hc,gdO_true,Bool.true_and]
      rw [getIdx_U rfl hi,Option.bind_some,ho,get_mid (by simp only [List.nil_append,List.length_cons,List.length_reverse]; rw [wrap64 (by omega) (by omega)]; omega),Option.bind_some,m15_val (by omega) (by omega),Option.bind_some,ltU_cmp,hy,if_neg (by simp)]
      rfl
  | y :: a,n + 1,c,ha,ho,hl,hn => by
    have hy := ha y (by simp)
    simp only [List.cons_append,List.reverse_cons,List.append_assoc,List.singleton_append] at ho
    have hlen := congrArg List.length ho
    simp only [List.length_append,List.length_cons,List.length_reverse] at hlen hn
    have hc : decide ((0 : Int) < (((y :: a ++ b : List R56).length : Nat) : Int)) = true := by simp; omega
    have e1 : IntKind.wrap .i64 (((y :: a ++ b).length : Int) - 1) = (((a ++ b).reverse.length : Nat) : Int) := by
      rw [wrap64 (by simp only [List.length_append,List.length_cons]; omega) (by simp only [List.length_append,List.length_cons]; omega)]; simp only [List.length_append,List.length_cons,List.length_reverse]; omega
    rw [loopM_succ,m44_L8]
    simp only [hc,gdO_true,Bool.true_and]
    rw [e1,getIdx_U rfl hi,Option.bind_some]
    rw [show getIdx out (((a ++ b).reverse.length : Nat) : Int) = some y by rw [ho]; exact get_mid rfl,Option.bind_some,m15_val (by omega) (by omega),Option.bind_some,ltU_cmp,hy,if_pos rfl,letM_eq,List.length_reverse]
    exact m44_L8_val hN hi hx hb a n (y :: c) (fun z hz => ha z (List.mem_cons_of_mem _ hz)) ho hl (by omega)
theorem m44_L7_val {N : Nat} (hN : 30 < N) {sums : List R56} {k : List R56 → Option (List R56)} (hp : ∀ v,v ∈ sums → v.Pq.length ≤ 25) (hs : sums.length ≤ 100000) (hsN : sums.length < N) : ∀ (rest pre acc : List R56) (n : Nat),sums = pre ++ rest → acc.length ≤ pre.length → rest.length < n →
    loopM (m44_L7 N sums k) n (acc.reverse,(pre.length : Int)) = k (isr ltU acc (rest.filter posU))
  | [],pre,acc,n + 1,he,hl,hn => by
    have hlen := congrArg List.length he
    rw [List.append_nil] at hlen
    rw [loopM_succ,m44_L7,if_neg (by simp; omega)]
    simp [isr]
  | u :: rest,pre,acc,n + 1,he,hl,hn => by
    have hlen := congrArg List.length he
    simp only [List.length_append,List.length_cons] at hlen hn
    have hg : getIdx sums (pre.length : Int) = some u := by rw [he]; exact get_mid rfl
    have hU : U sums pre.length = u := by rw [he]; exact U_mid rfl
    have hup : u.Pq.length ≤ 25 := hp u (by rw [he]; simp)
    rw [loopM_succ,m44_L7,if_pos (by simp; omega)]
    unfold jn
    dsimp only
    rw [hg,Option.bind_some]
    cases hpu : posU u with
    | false =>
      have h1 : decide (u.Cq < 1) = true := by simpa [posU] using hpu
      rw [h1,if_pos rfl,letM_eq,wrap64 (by omega) (by omega)]
      have ih := m44_L7_val hN (k := k) hp hs hsN rest (pre ++ [u]) acc n (by rw [he]; simp) (by simp; omega) (by omega)
      rw [List.length_append] at ih
      refine Eq.trans ih ?_
      simp [List.filter_cons,hpu]
    | true =>
      have h1 : decide (u.Cq < 1) = false := by simpa [posU] using hpu
      obtain ⟨a,b,q1,q2,q3,q4⟩ := insR_split ltU u acc
      have hab := congrArg List.length q1
      rw [List.length_append] at hab
      rw [h1,if_neg (by simp)]
      have := fun k => m44_L8_val hN (sums := sums) (i := pre.length) (by omega) (out := acc.reverse) (k := k) (by rw [hU]; exact hup) (b := b) (by rw [hU]; exact q4) a N [] (by rw [hU]; exact q3) (by rw [q1]; simp) (by simp; omega) (by omega)
      rw [show ((acc.reverse.length : Nat) : Int) = (((a ++ b).length : Nat) : Int) by rw [q1]; simp [Int.add_comm],this]
      have r1 : acc.reverse = b.reverse ++ a.reverse := by rw [q1]; simp
      have s1 : slc acc.reverse 0 (b.length : Int) = some ((acc.reverse.drop 0).take (b.length - 0)) := slc_val rfl rfl (by omega) (by simp; omega)
      have s2 : slc acc.reverse (b.length : Int) (((a ++ b).length : Nat) : Int) = some ((acc.reverse.drop b.length).take ((a ++ b).length - b.length)) := slc_val rfl rfl (by simp) (by rw [q1]; simp [Nat.add_comm])
      rw [s1,Option.bind_some,Option.bind_some,s2,Option.bind_some,apd_val (by simp; omega),Option.bind_some]
      unfold asrt
      rw [if_pos (by simp),apd_val (by simp; omega),Option.bind_some,letM_eq,wrap64 (by omega) (by omega)]
      have ih := m44_L7_val hN (k := k) hp hs hsN rest (pre ++ [u]) (insR ltU u acc) n (by rw [he]; simp) (by rw [insR_len]; simp; omega) (by omega)
      rw [List.length_append] at ih
      have e2 : List.take (b.length - 0) (List.drop 0 acc.reverse) ++ ([R56.mk u.Pq u.Cq] ++ List.take ((a ++ b).length - b.length) (List.drop b.length acc.reverse)) = (insR ltU u acc).reverse := by
        rw [q2,r1]
        have : b.length = b.reverse.length := by simp
        rw [List.drop_zero,Nat.sub_zero,List.take_left' (by simp),List.drop_left' (by simp),List.take_of_length_le (by simp),mkU]
        simp
      rw [e2]
      refine Eq.trans ih ?_
      simp [List.filter_cons,hpu,isr]
theorem m44_val {n : Nat} {l : List R56} (hl : l.length ≤ 50000) (hp : ∀ u,u ∈ l → u.Pq.length ≤ 25) (hc : ∀ u,u ∈ l → i64U u) (hn : l.length + 1100 < n) : m44 n l = some (normW l) := by
  unfold m44
  have key : ∀ K : List R56 → Option (List R56),loopM (m44_L3 n l K) n ((0 : Int),([] : List R56)) = K (l.foldl addW []) := by
    intro K
    refine (loop_fold (fun i s => (((i : Int),s) : Int × List R56)) l.length (fun i s => addW s (U l i)) (fun i s => s.length ≤ i ∧ (∀ v,v ∈ s → v.Pq.length ≤ 25) ∧ s.Pairwise (fun u v => u.Pq ≠ v.Pq)) K (fun i s hi hs => ?_) (fun s hs nx => ?_) (s0 := []) ⟨by simp,by simp,by simp⟩ (by omega)).trans ?_
    · obtain ⟨h1,h2,h3⟩ := hs
      have hm := U_mem hi
      refine ⟨⟨by have := addW_len s (U l i); omega,fun v hv => ?_,addW_pw h3⟩,fun nx => m44_L3_step hi (by omega) (by omega) (by omega) (by omega) h2 (hp _ hm) h3 (hc _ hm)⟩
      rcases addW_pat hv with e | ⟨v',q,e⟩
      · rw [e]; exact hp _ hm
      · rw [e]; exact h2 v' q
    · rw [m44_L3,if_neg (by simp)]
    · rw [show foldN (fun i s => addW s (U l i)) l.length [] = l.foldl addW [] from foldN_all (g := addW) (l := l) (d := default) (s := [])]
  unfold jn
  dsimp only
  rw [key]
  have hfl := foldW_len l []
  simp only [List.length_nil,Nat.zero_add] at hfl
  have := m44_L7_val (N := n) (by omega) (sums := l.foldl addW []) (k := some) (fun v hv => foldW_pat (Q := fun a => a.length ≤ 25) hp v hv) (by omega) (by omega) (l.foldl addW []) [] [] n rfl (by simp) (by omega)
  exact this
end Go.AB

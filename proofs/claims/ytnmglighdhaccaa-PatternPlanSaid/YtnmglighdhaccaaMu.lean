import Derived.Test.YtnmglighdhaccaaMt
set_option linter.unusedVariables false
namespace Go.AB
open Go Go.Proofs
theorem good_jn {α β : Type} {G : β → Prop} {F : α → β} {g : (α → β) → β} {v : α} (h : ∀ k,g k = k v) (h2 : G (F v)) : G (jn F g) := by
  rw [jn,h]; exact h2
theorem good_bs {R : Type} {G : Option R → Prop} {body : (Int → Option R) → (Int × Int → Option R) → Int × Int → Option R} {F : Int → Option R} {n : Nat} {i0 j0 : Nat} (f : Nat → Bool) (h0 : i0 ≤ j0)
    (step : ∀ k (i j : Nat),i0 ≤ i → i < j → j ≤ j0 → ∀ nx,body k nx ((i : Int),(j : Int)) = nx (if f ((i + j) / 2) = true then ((((i + j) / 2 + 1 : Nat) : Int),(j : Int)) else ((i : Int),(((i + j) / 2 : Nat) : Int))))
    (fin : ∀ k (i : Nat),∀ nx,body k nx ((i : Int),(i : Int)) = k (i : Int)) (hn : j0 - i0 < n)
    (h : ∀ i : Nat,i0 ≤ i → i ≤ j0 → (i0 < i → f (i - 1) = true) → (i < j0 → f i = false) → G (F (i : Int))) : G (jn F fun k => loopM (body k) n ((i0 : Int),(j0 : Int))) := by
  obtain ⟨i,h1,h2,h3,h4,e⟩ := bsearch (body := body F) (K := fun i : Nat => F (i : Int)) f h0 (step F) (fin F) hn
  show G (loopM (body F) n ((i0 : Int),(j0 : Int)))
  rw [e]
  exact h i h1 h2 h3 h4
theorem mrg {rc : List R56 → Int → Int → Int → Option (List R56)} {A B P Z : List R56} {a m b : Int} {c : Bool} (hc : c = true ↔ 0 < A.length ∧ 0 < B.length) (hA : Srt A) (hB : Srt B)
    (h : 0 < A.length → 0 < B.length → ∃ M,rc (P ++ (A ++ (B ++ Z))) a m b = some (P ++ (M ++ Z)) ∧ M.Perm (A ++ B) ∧ Srt M) :
    ∃ M,M.Perm (A ++ B) ∧ Srt M ∧ ∀ k : List R56 → Option (List R56),(if c = true then ((rc (P ++ (A ++ (B ++ Z))) a m b).bind fun y => asrt ((P ++ (A ++ (B ++ Z))).length = y.length) (k y)) else k (P ++ (A ++ (B ++ Z)))) = k (P ++ (M ++ Z)) := by
  cases hcc : c with
  | true =>
    obtain ⟨q1,q2⟩ := hc.1 hcc
    obtain ⟨M,e,h1,h2⟩ := h q1 q2
    refine ⟨M,h1,h2,fun k => ?_⟩
    have hl := h1.length_eq
    rw [List.length_append] at hl
    rw [if_pos rfl,e,Option.bind_some]
    unfold asrt
    rw [if_pos (by simp only [List.length_append]; omega)]
  | false =>
    have hne : ¬ (0 < A.length ∧ 0 < B.length) := fun hh => by have := hc.2 hh; rw [hcc] at this; cases this
    refine ⟨A ++ B,.refl _,?_,fun k => by rw [if_neg (by simp),List.append_assoc]⟩
    rcases A with _ | ⟨x,A⟩
    · exact hB
    · rcases B with _ | ⟨y,B⟩
      · rw [List.append_nil]; exact hA
      · exact absurd ⟨by simp,by simp⟩ hne
theorem U_short {l : List R56} {i : Nat} (h : allS l) (hi : i < l.length) : shortU (U l i) := h _ (U_mem hi)
theorem ltU_def (u v : R56) : decide (cmpL v.Pq u.Pq < 0) = ltU u v := rfl
theorem leU_self (v : R56) : leU v v := by
  cases h : ltU v v with
  | false => exact h
  | true => exact absurd (ltU_as v v h) (by rw [h]; simp)
theorem cut_le {D P1 A Y P2 B Z : List R56} (eA : D = P1 ++ (A ++ Y)) (eB : D = P2 ++ (B ++ Z)) (sA : Srt A) (sB : Srt B) (h : 0 < A.length → 0 < B.length → leU (U D (P1.length + A.length - 1)) (U D P2.length)) : ∀ x,x ∈ A → ∀ y,y ∈ B → leU x y := by
  intro x hx y hy
  have hA : 0 < A.length := List.length_pos_of_mem hx
  have hB : 0 < B.length := List.length_pos_of_mem hy
  have hc := h hA hB
  obtain ⟨u,hu⟩ : ∃ u,A.getLast? = some u := by
    cases e : A.getLast? with
    | none => simp at e; rw [e] at hA; simp at hA
    | some u => exact ⟨u,rfl⟩
  obtain ⟨v,hv⟩ : ∃ v,B.head? = some v := by
    cases e : B.head? with
    | none => simp at e; rw [e] at hB; simp at hB
    | some u => exact ⟨u,rfl⟩
  have e1 := last_U (P := P1) (Y := Y) hu
  have e2 := head_U (P := P2) (Y := Z) hv
  rw [← eA] at e1
  rw [← eB] at e2
  rw [e1,e2] at hc
  exact leU_tr (pw_le_of sA (fun y hy => by rw [hu] at hy; cases hy; exact hc) x hx) (pw_ge_of sB (fun z hz => by rw [hv] at hz; cases hz; exact leU_self v) y hy)
set_option maxHeartbeats 1600000 in
theorem m76F_val {N : Nat} (hN : 30 < N) : ∀ (f : Nat) (P L R Q : List R56),0 < L.length → 0 < R.length → Srt L → Srt R → allS (P ++ (L ++ (R ++ Q))) → P.length + L.length + R.length + Q.length ≤ 1000000 → P.length + L.length + R.length + Q.length < N → L.length + R.length ≤ f →
    ∃ M,m76F N f (P ++ (L ++ (R ++ Q))) (P.length : Int) ((P.length + L.length : Nat) : Int) ((P.length + L.length + R.length : Nat) : Int) = some (P ++ (M ++ Q)) ∧ M.Perm (L ++ R) ∧ Srt M
  | 0,P,L,R,Q,h1,h2,_,_,_,_,_,h3 => by omega
  | f + 1,P,L,R,Q,hL,hR,sL,sR,hS,hs,hn,hf => by
    have hlen : (P ++ (L ++ (R ++ Q))).length = P.length + L.length + R.length + Q.length := by simp only [List.length_append]; omega
    show ∃ M,m76B N (m76F N f) _ _ _ _ = some (P ++ (M ++ Q)) ∧ M.Perm (L ++ R) ∧ Srt M
    refine (show ∀ o,(∃ M,o = some (P ++ (M ++ Q)) ∧ M.Perm (L ++ R) ∧ Srt M) → ∃ M,o = some (P ++ (M ++ Q)) ∧ M.Perm (L ++ R) ∧ Srt M from fun o h => h) _ ?_
    have gd : ∀ i,i < P.length + L.length + R.length + Q.length → getIdx (P ++ (L ++ (R ++ Q))) (i : Int) = some (U (P ++ (L ++ (R ++ Q))) i) := fun i hi => getIdx_U rfl (by omega)
    have gs : ∀ i,i < P.length + L.length + R.length + Q.length → shortU (U (P ++ (L ++ (R ++ Q))) i) := fun i hi => U_short hS (by omega)
    have gc : ∀ i j,i < P.length + L.length + R.length + Q.length → j < P.length + L.length + R.length + Q.length → m57 N (U (P ++ (L ++ (R ++ Q))) i) (U (P ++ (L ++ (R ++ Q))) j) = some (cmpL (U (P ++ (L ++ (R ++ Q))) j).Pq (U (P ++ (L ++ (R ++ Q))) i).Pq) := fun i j hi hj => m57_val (gs i hi) (gs j hj) hN
    unfold m76B
    by_cases c1 : L.length = 1
    · -- one element is put into the second part
      obtain ⟨x,rfl⟩ := List.length_eq_one_iff.1 c1
      rw [if_pos (by rw [decide_eq_true_eq,wrap64 (by omega) (by omega)]; omega)]
      refine good_bs (G := fun o => ∃ M,o = some (P ++ (M ++ Q)) ∧ M.Perm ([x] ++ R) ∧ Srt M) (body := m76_L1 N (P ++ ([x] ++ (R ++ Q))) (P.length : Int)) (fun h => ltU (U (P ++ ([x] ++ (R ++ Q))) h) (U (P ++ ([x] ++ (R ++ Q))) P.length)) (by omega) (fun k i j h1 h2 h3 nx => ?_) (fun k i nx => ?_) (by omega) (fun i h1 h2 h3 h4 => ?_)
      · rw [m76_L1,if_pos (by simp; omega)]
        dsimp only
        rw [letM_eq,half_val (by omega),gd _ (by omega),Option.bind_some,gd _ (by omega),Option.bind_some,mkU,mkU,gc _ _ (by omega) (by omega),Option.bind_some]
        unfold jn
        dsimp only
        rw [ltU_def,letM_eq,wrap64 (by omega) (by omega)]
        split <;> rfl
      · rw [m76_L1,if_neg (by simp)]
      · try dsimp only
        have hx : U (P ++ ([x] ++ (R ++ Q))) P.length = x := U_mid rfl
        rw [hx] at h3 h4
        simp only [List.length_singleton] at h1 h2 h3 h4 hs hn ⊢
        obtain ⟨R1,R2,rfl,q1,q2⟩ := splitL (l := R) (k := i - (P.length + 1)) (by omega)
        rw [List.length_append] at q2 h2 h4 hs hn
        have := m76_L2_val (N := N) (p := (i : Int)) some R1 P (R2 ++ Q) x N (by omega) (by simp only [List.length_append]; omega) (by omega)
        refine ⟨R1 ++ x :: R2,?_,?_,?_⟩
        · unfold jn
          rw [show P ++ ([x] ++ (R1 ++ R2 ++ Q)) = P ++ x :: (R1 ++ (R2 ++ Q)) by simp]
          refine this.trans ?_
          simp
        · exact List.perm_middle
        · have s12 := List.pairwise_append.1 sR
          have w1 := cut_le (D := P ++ ([x] ++ (R1 ++ R2 ++ Q))) (P1 := P ++ [x]) (A := R1) (Y := R2 ++ Q) (P2 := P) (B := [x]) (Z := R1 ++ R2 ++ Q) (by simp) rfl s12.1 (List.pairwise_singleton _ _) (fun hA hB => by
            have := h3 (by omega)
            rw [show (P ++ [x]).length + R1.length - 1 = i - 1 by simp; omega,hx]
            exact leU_lt this)
          have w1 : ∀ y,y ∈ R1 → leU y x := fun y hy => w1 y hy x (by simp)
          have w2 := cut_le (D := P ++ ([x] ++ (R1 ++ R2 ++ Q))) (P1 := P) (A := [x]) (Y := R1 ++ R2 ++ Q) (P2 := P ++ [x] ++ R1) (B := R2) (Z := Q) rfl (by simp) (List.pairwise_singleton _ _) s12.2.1 (fun hA hB => by
            have := h4 (by omega)
            rw [show P.length + [x].length - 1 = P.length by simp,show (P ++ [x] ++ R1).length = i by simp; omega,hx]
            exact this)
          have w2 : ∀ y,y ∈ R2 → leU x y := fun y hy => w2 x (by simp) y hy
          refine List.pairwise_append.2 ⟨s12.1,List.pairwise_cons.2 ⟨w2,s12.2.1⟩,fun y hy z hz => ?_⟩
          rcases List.mem_cons.1 hz with rfl | hz
          · exact w1 y hy
          · exact s12.2.2 y hy z hz
    · rw [if_neg (by rw [decide_eq_true_eq,wrap64 (by omega) (by omega)]; omega)]
      by_cases c2 : R.length = 1
      · -- one element is put into the first part
        obtain ⟨x,rfl⟩ := List.length_eq_one_iff.1 c2
        rw [if_pos (by rw [decide_eq_true_eq,wrap64 (by omega) (by omega)]; omega)]
        refine good_bs (G := fun o => ∃ M,o = some (P ++ (M ++ Q)) ∧ M.Perm (L ++ [x]) ∧ Srt M) (body := m76_L3 N (P ++ (L ++ ([x] ++ Q))) ((P.length + L.length : Nat) : Int)) (fun h => !ltU (U (P ++ (L ++ ([x] ++ Q))) (P.length + L.length)) (U (P ++ (L ++ ([x] ++ Q))) h)) (by omega) (fun k i j h1 h2 h3 nx => ?_) (fun k i nx => ?_) (by omega) (fun i h1 h2 h3 h4 => ?_)
        · rw [m76_L3,if_pos (by simp; omega)]
          dsimp only
          rw [letM_eq,half_val (by omega),gd _ (by omega),Option.bind_some,gd _ (by omega),Option.bind_some,mkU,mkU,gc _ _ (by omega) (by omega),Option.bind_some]
          unfold jn
          dsimp only
          rw [ltU_def,letM_eq,wrap64 (by omega) (by omega)]
          split <;> rfl
        · rw [m76_L3,if_neg (by simp)]
        · try dsimp only
          have hx : U (P ++ (L ++ ([x] ++ Q))) (P.length + L.length) = x := by
            rw [show P ++ (L ++ ([x] ++ Q)) = (P ++ L) ++ x :: Q by simp]; exact U_mid (by simp)
          rw [hx] at h3 h4
          simp only [List.length_singleton] at hs hn ⊢
          obtain ⟨L1,L2,rfl,q1,q2⟩ := splitL (l := L) (k := i - P.length) (by omega)
          rw [List.length_append] at q2 h2 h4 hs hn ⊢
          have := m76_L4_val (N := N) (p := (i : Int)) (P := P ++ L1) (by simp; omega) some L2.reverse Q x N (by simp only [List.length_append,List.length_reverse]; omega) (by simp only [List.length_reverse]; omega)
          rw [List.reverse_reverse] at this
          refine ⟨L1 ++ x :: L2,?_,?_,?_⟩
          · unfold jn
            rw [show P ++ (L1 ++ L2 ++ ([x] ++ Q)) = P ++ L1 ++ (L2 ++ x :: Q) by simp,show ((P.length + (L1.length + L2.length) : Nat) : Int) = (((P ++ L1).length + L2.reverse.length : Nat) : Int) by simp only [List.length_append,List.length_reverse]; omega]
            refine this.trans ?_
            simp
          · exact List.perm_middle.trans (List.perm_append_singleton x (L1 ++ L2)).symm
          · have s12 := List.pairwise_append.1 sL
            have w1 := cut_le (D := P ++ (L1 ++ L2 ++ ([x] ++ Q))) (P1 := P) (A := L1) (Y := L2 ++ ([x] ++ Q)) (P2 := P ++ L1 ++ L2) (B := [x]) (Z := Q) (by simp) (by simp) s12.1 (List.pairwise_singleton _ _) (fun hA hB => by
              have := h3 (by omega)
              rw [show P.length + L1.length - 1 = i - 1 by omega,show (P ++ L1 ++ L2).length = P.length + (L1 ++ L2).length by simp [Nat.add_assoc],hx]
              show ltU _ _ = false
              simpa using this)
            have w1 : ∀ y,y ∈ L1 → leU y x := fun y hy => w1 y hy x (by simp)
            have w2 := cut_le (D := P ++ (L1 ++ L2 ++ ([x] ++ Q))) (P1 := P ++ L1 ++ L2) (A := [x]) (Y := Q) (P2 := P ++ L1) (B := L2) (Z := [x] ++ Q) (by simp) (by simp) (List.pairwise_singleton _ _) s12.2.1 (fun hA hB => by
              have := h4 (by omega)
              rw [show (P ++ L1 ++ L2).length + [x].length - 1 = P.length + (L1 ++ L2).length by simp only [List.length_append,List.length_singleton]; omega,show (P ++ L1).length = i by simp; omega,hx]
              exact leU_lt (by simpa using this))
            have w2 : ∀ y,y ∈ L2 → leU x y := fun y hy => w2 x (by simp) y hy
            refine List.pairwise_append.2 ⟨s12.1,List.pairwise_cons.2 ⟨w2,s12.2.1⟩,fun y hy z hz => ?_⟩
            rcases List.mem_cons.1 hz with rfl | hz
            · exact w1 y hy
            · exact s12.2.2 y hy z hz
      · rw [if_neg (by rw [decide_eq_true_eq,wrap64 (by omega) (by omega)]; omega)]
        -- both parts are cut
        have emid : IntKind.wrap .i64 (shrI .u64 (IntKind.wrap .u64 (IntKind.wrap .i64 ((P.length : Int) + ((P.length + L.length + R.length : Nat) : Int)))) (1 : Int)) = (((P.length + (P.length + L.length + R.length)) / 2 : Nat) : Int) := half_val (by omega)
        generalize hmid : (P.length + (P.length + L.length + R.length)) / 2 = mid at emid
        have en : IntKind.wrap .i64 ((mid : Int) + ((P.length + L.length : Nat) : Int)) = ((mid + (P.length + L.length) : Nat) : Int) := by rw [wrap64 (by omega) (by omega)]; omega
        have ep : IntKind.wrap .i64 (((mid + (P.length + L.length) : Nat) : Int) - 1) = ((mid + (P.length + L.length) - 1 : Nat) : Int) := by rw [wrap64 (by omega) (by omega)]; omega
        rw [letM_eq,emid,letM_eq,en]
        obtain ⟨s0,r0,hsr,hk⟩ : ∃ s0 r0 : Nat,((mid < P.length + L.length ∧ s0 = mid + (P.length + L.length) - (P.length + L.length + R.length) ∧ r0 = mid) ∨ (P.length + L.length ≤ mid ∧ s0 = P.length ∧ r0 = P.length + L.length)) ∧
            ∀ k : Int × Int → Option (List R56),(if (decide ((mid : Int) < ((P.length + L.length : Nat) : Int))) = true then (letM ((IntKind.wrap .i64 (((mid + (P.length + L.length) : Nat) : Int) - ((P.length + L.length + R.length : Nat) : Int)))) fun t20_111 => (k (t20_111,(mid : Int)))) else (k ((P.length : Int),((P.length + L.length : Nat) : Int)))) = k ((s0 : Int),(r0 : Int)) := by
          by_cases hm : mid < P.length + L.length
          · refine ⟨_,_,.inl ⟨hm,rfl,rfl⟩,fun k => ?_⟩
            rw [if_pos (decide_eq_true (by omega)),letM_eq,wrap64 (by omega) (by omega),show ((mid + (P.length + L.length) : Nat) : Int) - ((P.length + L.length + R.length : Nat) : Int) = ((mid + (P.length + L.length) - (P.length + L.length + R.length) : Nat) : Int) by omega]
          · exact ⟨_,_,.inr ⟨by omega,rfl,rfl⟩,fun k => by rw [if_neg (by rw [decide_eq_true_eq]; omega)]⟩
        refine good_jn (G := fun o => ∃ M,o = some (P ++ (M ++ Q)) ∧ M.Perm (L ++ R) ∧ Srt M) (v := ((s0 : Int),(r0 : Int))) (fun k => hk k) ?_
        rw [letM_eq,ep]
        refine good_bs (G := fun o => ∃ M,o = some (P ++ (M ++ Q)) ∧ M.Perm (L ++ R) ∧ Srt M) (body := m76_L5 N (P ++ (L ++ (R ++ Q))) ((mid + (P.length + L.length) - 1 : Nat) : Int)) (i0 := s0) (j0 := r0) (fun c => !ltU (U (P ++ (L ++ (R ++ Q))) (mid + (P.length + L.length) - 1 - c)) (U (P ++ (L ++ (R ++ Q))) c)) (by omega) (fun k i j h1 h2 h3 nx => ?_) (fun k i nx => ?_) (by omega) (fun i h1 h2 h3 h4 => ?_)
        · rw [m76_L5,if_pos (by simp; omega)]
          dsimp only
          rw [letM_eq,half_val (by omega),wrap64 (x := ((mid + (P.length + L.length) - 1 : Nat) : Int) - (((i + j) / 2 : Nat) : Int)) (by omega) (by omega),show ((mid + (P.length + L.length) - 1 : Nat) : Int) - (((i + j) / 2 : Nat) : Int) = ((mid + (P.length + L.length) - 1 - (i + j) / 2 : Nat) : Int) by omega,gd _ (by omega),Option.bind_some,gd _ (by omega),Option.bind_some,mkU,mkU,gc _ _ (by omega) (by omega),Option.bind_some]
          unfold jn
          dsimp only
          rw [ltU_def,letM_eq,wrap64 (by omega) (by omega)]
          split <;> rfl
        · rw [m76_L5,if_neg (by simp)]
        · try dsimp only
          have hi1 : P.length ≤ i := by omega
          have hi2 : i ≤ P.length + L.length := by omega
          have hi3 : i ≤ mid := by omega
          have hi4 : mid - i ≤ R.length := by omega
          have ee : IntKind.wrap .i64 (((mid + (P.length + L.length) : Nat) : Int) - (i : Int)) = ((mid + (P.length + L.length) - i : Nat) : Int) := by rw [wrap64 (by omega) (by omega)]; omega
          rw [letM_eq,ee]
          obtain ⟨L1,L2,rfl,q1,q2⟩ := splitL (l := L) (k := i - P.length) (by omega)
          obtain ⟨R1,R2,rfl,q3,q4⟩ := splitL (l := R) (k := mid - i) hi4
          have s1 := List.pairwise_append.1 sL
          have s2 := List.pairwise_append.1 sR
          have w1 : ∀ x,x ∈ L1 → ∀ y,y ∈ R2 → leU x y := cut_le (D := P ++ (L1 ++ L2 ++ (R1 ++ R2 ++ Q))) (P1 := P) (Y := L2 ++ (R1 ++ R2 ++ Q)) (P2 := P ++ L1 ++ L2 ++ R1) (Z := Q) (by simp) (by simp) s1.1 s2.2.1 (fun hA hB => by
            have hc := h3 (by simp only [List.length_append] at q2 q4 hsr; omega)
            rw [show P.length + L1.length - 1 = i - 1 by omega,show (P ++ L1 ++ L2 ++ R1).length = mid + (P.length + (L1 ++ L2).length) - 1 - (i - 1) by simp only [List.length_append] at q2 q4 hsr ⊢; omega]
            show ltU _ _ = false
            simpa using hc)
          have w2 : ∀ x,x ∈ R1 → ∀ y,y ∈ L2 → leU x y := cut_le (D := P ++ (L1 ++ L2 ++ (R1 ++ R2 ++ Q))) (P1 := P ++ L1 ++ L2) (Y := R2 ++ Q) (P2 := P ++ L1) (Z := R1 ++ R2 ++ Q) (by simp) (by simp) s2.1 s1.2.1 (fun hA hB => by
            have hc := h4 (by simp only [List.length_append] at q2 q4 hsr; omega)
            rw [show (P ++ L1 ++ L2).length + R1.length - 1 = mid + (P.length + (L1 ++ L2).length) - 1 - i by simp only [List.length_append] at q2 q4 hsr ⊢; omega,show (P ++ L1).length = i by simp only [List.length_append] at q2 q4 hsr ⊢; omega]
            exact leU_lt (by simpa using hc))
          have p1 : (P ++ (L1 ++ L2 ++ (R1 ++ R2 ++ Q))).Perm (P ++ (L1 ++ (R1 ++ (L2 ++ (R2 ++ Q))))) := by
            refine List.Perm.append_left P ?_
            rw [List.append_assoc L1 L2]
            refine List.Perm.append_left L1 ?_
            rw [List.append_assoc R1 R2,← List.append_assoc L2 R1,← List.append_assoc R1 L2]
            exact List.perm_append_comm.append_right _
          have aS : allS (P ++ (L1 ++ (R1 ++ (L2 ++ (R2 ++ Q))))) := fun u hu => hS u (p1.mem_iff.2 hu)
          simp only [List.length_append] at q2 q4 hs hn hf hi2 hlen c1 c2 hmid hsr
          refine good_jn (G := fun o => ∃ M,o = some (P ++ (M ++ Q)) ∧ M.Perm (L1 ++ L2 ++ (R1 ++ R2)) ∧ Srt M) (v := P ++ (L1 ++ (R1 ++ (L2 ++ (R2 ++ Q))))) (fun k => ?_) ?_
          · by_cases hrot : 0 < L2.length ∧ 0 < R1.length
            · have := m79_val (N := N) (X := P ++ L1) (L := L2) (R := R1) (Y := R2 ++ Q) (a := (i : Int)) (m := ((P.length + (L1 ++ L2).length : Nat) : Int)) (b := ((mid + (P.length + (L1 ++ L2).length) - i : Nat) : Int)) (by simp only [List.length_append]; omega) (by simp only [List.length_append]; omega) (by simp only [List.length_append]; omega) hrot.1 hrot.2 (by simp only [List.length_append]; omega) (by simp only [List.length_append]; omega)
              rw [if_pos (by simp only [Bool.and_eq_true,decide_eq_true_eq,List.length_append]; omega),show P ++ (L1 ++ L2 ++ (R1 ++ R2 ++ Q)) = P ++ L1 ++ L2 ++ R1 ++ (R2 ++ Q) by simp,this,Option.bind_some]
              unfold asrt
              rw [if_pos (by simp only [List.length_append]; omega)]
              simp
            · rw [if_neg (by simp only [Bool.and_eq_true,decide_eq_true_eq,List.length_append]; omega)]
              congr 1
              rcases L2 with _ | ⟨z,L2⟩
              · simp
              · rcases R1 with _ | ⟨z',R1⟩
                · simp
                · exact absurd ⟨by simp,by simp⟩ hrot
          · try dsimp only
            obtain ⟨M1,m1p,m1s,m1e⟩ := mrg (rc := m76F N f) (A := L1) (B := R1) (P := P) (Z := L2 ++ (R2 ++ Q)) (a := (P.length : Int)) (m := (i : Int)) (b := (mid : Int)) (c := (decide ((P.length : Int) < (i : Int)) && decide ((i : Int) < (mid : Int)))) (by simp only [Bool.and_eq_true,decide_eq_true_eq]; omega) s1.1 s2.1 (fun w3 w4 => by
              have := m76F_val hN f P L1 R1 (L2 ++ (R2 ++ Q)) w3 w4 s1.1 s2.1 aS (by simp only [List.length_append]; omega) (by simp only [List.length_append]; omega) (by omega)
              rw [show P.length + L1.length = i by omega,show i + R1.length = mid by omega] at this
              exact this)
            have l1 := m1p.length_eq
            rw [List.length_append] at l1
            have aS2 : allS (P ++ M1 ++ (L2 ++ (R2 ++ Q))) := fun u hu => aS u (by
              have hm := m1p.mem_iff (a := u)
              simp only [List.mem_append] at hu hm ⊢
              grind)
            obtain ⟨M2,m2p,m2s,m2e⟩ := mrg (rc := m76F N f) (A := L2) (B := R2) (P := P ++ M1) (Z := Q) (a := (mid : Int)) (m := ((mid + (P.length + (L1 ++ L2).length) - i : Nat) : Int)) (b := ((P.length + (L1 ++ L2).length + (R1 ++ R2).length : Nat) : Int)) (c := (decide ((mid : Int) < ((mid + (P.length + (L1 ++ L2).length) - i : Nat) : Int)) && decide (((mid + (P.length + (L1 ++ L2).length) - i : Nat) : Int) < ((P.length + (L1 ++ L2).length + (R1 ++ R2).length : Nat) : Int)))) (by simp only [Bool.and_eq_true,decide_eq_true_eq,List.length_append]; omega) s1.2.1 s2.2.1 (fun w3 w4 => by
              have := m76F_val hN f (P ++ M1) L2 R2 Q w3 w4 s1.2.1 s2.2.1 aS2 (by simp only [List.length_append]; omega) (by simp only [List.length_append]; omega) (by omega)
              rw [show (P ++ M1).length = mid by simp only [List.length_append]; omega,show mid + L2.length = mid + (P.length + (L1 ++ L2).length) - i by simp only [List.length_append]; omega,show mid + (P.length + (L1 ++ L2).length) - i + R2.length = P.length + (L1 ++ L2).length + (R1 ++ R2).length by simp only [List.length_append]; omega] at this
              exact this)
            refine good_jn (G := fun o => ∃ M,o = some (P ++ (M ++ Q)) ∧ M.Perm (L1 ++ L2 ++ (R1 ++ R2)) ∧ Srt M) (fun k => m1e k) ?_
            rw [← List.append_assoc P M1]
            refine good_jn (G := fun o => ∃ M,o = some (P ++ (M ++ Q)) ∧ M.Perm (L1 ++ L2 ++ (R1 ++ R2)) ∧ Srt M) (fun k => m2e k) ?_
            refine ⟨M1 ++ M2,by simp,?_,List.pairwise_append.2 ⟨m1s,m2s,fun x hx y hy => ?_⟩⟩
            · refine (m1p.append m2p).trans ?_
              rw [List.append_assoc,List.append_assoc]
              refine List.Perm.append_left L1 ?_
              rw [← List.append_assoc,← List.append_assoc]
              exact List.perm_append_comm.append_right _
            · rcases List.mem_append.1 (m1p.mem_iff.1 hx) with hx | hx
              · rcases List.mem_append.1 (m2p.mem_iff.1 hy) with hy | hy
                · exact s1.2.2 x hx y hy
                · exact w1 x hx y hy
              · rcases List.mem_append.1 (m2p.mem_iff.1 hy) with hy | hy
                · exact w2 x hx y hy
                · exact s2.2.2 x hx y hy
end Go.AB

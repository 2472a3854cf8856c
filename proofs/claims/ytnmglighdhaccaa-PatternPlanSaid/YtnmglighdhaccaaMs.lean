import Derived.Test.YtnmglighdhaccaaLm
set_option linter.unusedVariables false
namespace Go.AB
open Go Go.Proofs
def leU (u v : R56) : Prop := ltU v u = false
theorem leU_tr {a b c : R56} (h1 : leU a b) (h2 : leU b c) : leU a c := ltU_tr c b a h2 h1
theorem leU_lt {a b : R56} (h : ltU a b = true) : leU a b := ltU_as a b h
def Srt (l : List R56) : Prop := l.Pairwise leU
theorem m75_L4_val {N : Nat} (hN : 30 < N) {pre : List R56} {x : R56} (hx : shortU x) (k : List R56 → Option (List R56)) : ∀ (ps qs : List R56) (n : Nat),(∀ p,p ∈ ps → shortU p) → pre.length + ps.length ≤ 1000000 → ps.length < n →
    loopM (m75_L4 N (pre.length : Int) k) n (((pre.length + ps.length : Nat) : Int),pre ++ (ps.reverse ++ x :: qs)) = k (pre ++ ((insR ltU x ps).reverse ++ qs))
  | [],qs,n + 1,_,_,_ => by
    rw [loopM_succ,m75_L4]
    simp [gdO,insR]
  | p :: ps,qs,n + 1,ho,hl,hn => by
    have hp := ho p (by simp)
    have hc : decide ((pre.length : Int) < ((pre.length + (p :: ps).length : Nat) : Int)) = true := by simp; omega
    simp only [List.length_cons] at hl hn
    have e1 : pre ++ ((p :: ps).reverse ++ x :: qs) = (pre ++ ps.reverse) ++ p :: x :: qs := by simp
    have e2 : (pre ++ ps.reverse) ++ p :: x :: qs = (pre ++ ps.reverse ++ [p]) ++ x :: qs := by simp
    have e3 : ((pre.length + (p :: ps).length : Nat) : Int) = (((pre ++ ps.reverse ++ [p]).length : Nat) : Int) := by simp [Int.add_assoc]
    have e4 : IntKind.wrap .i64 (((pre.length + (p :: ps).length : Nat) : Int) - 1) = (((pre ++ ps.reverse).length : Nat) : Int) := by
      rw [wrap64 (by simp only [List.length_cons]; omega) (by simp only [List.length_cons]; omega)]; simp only [List.length_cons,List.length_append,List.length_reverse] <;> omega
    rw [loopM_succ,m75_L4]
    simp only [hc,gdO_true,Bool.true_and]
    rw [e1,e2,get_mid e3]
    simp only [Option.bind_some]
    rw [← e2,e4,get_mid rfl]
    simp only [Option.bind_some,mkU]
    rw [m57_val hx hp hN]
    simp only [Option.bind_some]
    by_cases h : ltU x p = true
    · rw [if_pos (show decide (cmpL p.Pq x.Pq < 0) = true from h),e2,put_mid e3]
      simp only [Option.bind_some]
      rw [show pre ++ ps.reverse ++ [p] ++ p :: qs = (pre ++ ps.reverse) ++ p :: p :: qs by simp,get_mid rfl]
      simp only [Option.bind_some]
      rw [put_mid rfl]
      simp only [Option.bind_some,letM_eq]
      have ih := m75_L4_val hN (pre := pre) hx k ps (p :: qs) n (fun q hq => ho q (List.mem_cons_of_mem _ hq)) (by omega) (by omega)
      rw [List.length_append,List.length_reverse,List.append_assoc]
      refine Eq.trans ih ?_
      rw [insR,if_pos h]
      simp
    · rw [if_neg (show ¬ decide (cmpL p.Pq x.Pq < 0) = true from h),insR,if_neg h]
      simp
theorem m75_L3_val {N : Nat} {pre : List R56} (k : List R56 → Option (List R56)) (e : Nat) : ∀ (xs acc qs : List R56) (n : Nat),(∀ p,p ∈ acc → shortU p) → (∀ p,p ∈ xs → shortU p) → pre.length + acc.length + xs.length = e → e ≤ 1000000 → xs.length < n → e < N → 30 < N →
    loopM (m75_L3 N (pre.length : Int) (e : Int) k) n (((pre.length + acc.length : Nat) : Int),pre ++ (acc.reverse ++ xs ++ qs)) = k (pre ++ (isr ltU acc xs ++ qs))
  | [],acc,qs,n + 1,ha,hx,hl,h2,hn,hN,_ => by
    simp only [List.length_nil,Nat.add_zero] at hl
    rw [loopM_succ,m75_L3,if_neg (by simp; omega)]
    simp [isr]
  | x :: xs,acc,qs,n + 1,ha,hx,hl,h2,hn,hN,h30 => by
    simp only [List.length_cons] at hl hn
    have hxx := hx x (by simp)
    rw [loopM_succ,m75_L3,if_pos (by simp; omega),show acc.reverse ++ x :: xs ++ qs = acc.reverse ++ x :: (xs ++ qs) by simp,jn]
    refine (m75_L4_val h30 hxx _ acc (xs ++ qs) N ha (by omega) (by omega)).trans ?_
    simp only [letM_eq]
    rw [wrap64 (by omega) (by omega)]
    have ih := m75_L3_val (N := N) (pre := pre) k e xs (insR ltU x acc) qs n (fun p hp => ?_) (fun p hp => hx p (List.mem_cons_of_mem _ hp)) (by rw [insR_len]; omega) h2 (by omega) hN h30
    · rw [insR_len] at ih
      refine Eq.trans ?_ ih
      simp [Nat.add_assoc,Int.add_assoc]
    · rcases List.mem_cons.1 ((insR_perm ltU x acc).mem_iff.1 hp) with rfl | hp
      · exact hxx
      · exact ha p hp
theorem m75_val {N : Nat} {pre o qs : List R56} {a b : Int} (ha : a = (pre.length : Int)) (hb : b = ((pre.length + o.length : Nat) : Int)) (ho : ∀ p,p ∈ o → shortU p) (h : pre.length + o.length ≤ 1000000) (hN : pre.length + o.length + 1 < N) (h30 : 30 < N) :
    m75 N (pre ++ (o ++ qs)) a b = some (pre ++ (isr ltU [] o ++ qs)) := by
  subst ha hb
  cases o with
  | nil =>
    unfold m75 jn
    simp only [letM_eq]
    rw [wrap64 (by omega) (by omega)]
    obtain ⟨N,rfl⟩ : ∃ M,N = M + 1 := ⟨N - 1,by omega⟩
    rw [loopM_succ,m75_L3,if_neg (by simp only [List.length_nil,decide_eq_true_eq]; omega)]
    simp [isr]
  | cons x xs =>
    have := m75_L3_val (N := N) (pre := pre) some (pre.length + (x :: xs).length) xs [x] qs N (fun p hp => ho p (by simp at hp; simp [hp])) (fun p hp => ho p (List.mem_cons_of_mem _ hp)) (by simp; omega) h (by simp at h hN; omega) (by omega) h30
    unfold m75 jn
    simp only [letM_eq]
    rw [wrap64 (by omega) (by omega)]
    simp only [List.reverse_cons,List.reverse_nil,List.nil_append,List.singleton_append,List.length_singleton] at this
    exact this
theorem isr_srt (o : List R56) : Srt (isr ltU [] o) :=
  (isr_sorted (ok := fun _ => True) (fun a b c _ _ _ => ltU_tr a b c) (fun a b _ _ => ltU_as a b) o [] (by simp) (by simp) (by simp)).imp fun h => h
theorem isr_pm (o : List R56) : (isr ltU [] o).Perm o := by simpa using isr_perm ltU o []
theorem m80_L1_val {N : Nat} {X B Y : List R56} {a b c : Int} (k : List R56 → Option (List R56)) : ∀ (A2 C2 A1 C1 : List R56) (n : Nat),A2.length = C2.length → A1.length = C1.length → a = (X.length : Int) → b = ((X.length + C1.length + A2.length + B.length : Nat) : Int) → c = ((C1.length + C2.length : Nat) : Int) →
    X.length + C1.length + A2.length + B.length + A1.length + C2.length + Y.length ≤ 1000000 → A2.length < n →
    loopM (m80_L1 N a b c k) n ((C1.length : Int),X ++ C1 ++ A2 ++ B ++ A1 ++ C2 ++ Y) = k (X ++ C1 ++ C2 ++ B ++ A1 ++ A2 ++ Y)
  | [],[],A1,C1,n + 1,_,h2,ha,hb,hc,hs,hn => by
    rw [loopM_succ,m80_L1,if_neg (by subst hc; simp)]
  | [],y :: C2,A1,C1,n + 1,h1,h2,ha,hb,hc,hs,hn => by simp at h1
  | x :: A2,[],A1,C1,n + 1,h1,h2,ha,hb,hc,hs,hn => by simp at h1
  | x :: A2,y :: C2,A1,C1,n + 1,h1,h2,ha,hb,hc,hs,hn => by
    simp only [List.length_cons] at h1 hb hc hs hn
    have eb : IntKind.wrap .i64 (b + (C1.length : Int)) = ((X ++ C1 ++ (x :: A2) ++ B ++ A1).length : Int) := by
      rw [wrap64 (by omega) (by omega)]; simp only [List.length_append,List.length_cons]; omega
    have eb2 : IntKind.wrap .i64 (b + (C1.length : Int)) = ((X ++ C1 ++ (y :: A2) ++ B ++ A1).length : Int) := by
      rw [eb]; simp
    have ea : IntKind.wrap .i64 (a + (C1.length : Int)) = ((X ++ C1).length : Int) := by
      rw [wrap64 (by omega) (by omega)]; simp only [List.length_append]; omega
    have r1 : X ++ C1 ++ (x :: A2) ++ B ++ A1 ++ (y :: C2) ++ Y = (X ++ C1 ++ (x :: A2) ++ B ++ A1) ++ y :: (C2 ++ Y) := by simp
    have r2 : (X ++ C1 ++ (x :: A2) ++ B ++ A1) ++ y :: (C2 ++ Y) = (X ++ C1) ++ x :: (A2 ++ B ++ A1 ++ y :: (C2 ++ Y)) := by simp
    have r3 : (X ++ C1) ++ y :: (A2 ++ B ++ A1 ++ y :: (C2 ++ Y)) = (X ++ C1 ++ (y :: A2) ++ B ++ A1) ++ y :: (C2 ++ Y) := by simp
    rw [loopM_succ,m80_L1,if_pos (by subst hc; simp; omega),r1]
    dsimp only
    rw [get_mid eb,Option.bind_some,r2,get_mid ea,Option.bind_some,Option.bind_some,mkU,put_mid ea,Option.bind_some,r3,get_mid eb2,Option.bind_some,mkU,put_mid eb2,Option.bind_some,letM_eq,wrap64 (by omega) (by omega)]
    have ih := m80_L1_val (N := N) (X := X) (B := B) (Y := Y) (a := a) (b := b) (c := c) k A2 C2 (A1 ++ [x]) (C1 ++ [y]) n (by omega) (by simp; omega) ha (by rw [hb]; simp; omega) (by rw [hc]; simp; omega) (by simp; omega) (by omega)
    have e1 : X ++ (C1 ++ [y]) ++ A2 ++ B ++ (A1 ++ [x]) ++ C2 ++ Y = X ++ C1 ++ y :: A2 ++ B ++ A1 ++ x :: (C2 ++ Y) := by simp
    have e2 : ((C1 ++ [y]).length : Int) = (C1.length : Int) + 1 := by simp
    rw [e1,e2] at ih
    rw [ih]
    simp
theorem m80_val {N : Nat} {X A B C Y : List R56} {a b c : Int} (h1 : A.length = C.length) (ha : a = (X.length : Int)) (hb : b = ((X.length + A.length + B.length : Nat) : Int)) (hc : c = (A.length : Int)) (hs : X.length + A.length + B.length + C.length + Y.length ≤ 1000000) (hn : A.length < N) :
    m80 N (X ++ A ++ B ++ C ++ Y) a b c = some (X ++ C ++ B ++ A ++ Y) := by
  unfold m80 jn
  have := m80_L1_val (N := N) (X := X) (B := B) (Y := Y) (a := a) (b := b) (c := c) some A C [] [] N h1 rfl ha (by simpa using hb) (by rw [hc,h1]; simp) (by simp; omega) hn
  simpa using this
theorem splitL {l : List R56} {k : Nat} (h : k ≤ l.length) : ∃ a b,l = a ++ b ∧ a.length = k ∧ b.length = l.length - k :=
  ⟨l.take k,l.drop k,(List.take_append_drop k l).symm,by simp; omega,by simp⟩
theorem m79_val {N : Nat} {X L R Y : List R56} {a m b : Int} (ha : a = (X.length : Int)) (hm : m = ((X.length + L.length : Nat) : Int)) (hb : b = ((X.length + L.length + R.length : Nat) : Int)) (hL : 0 < L.length) (hR : 0 < R.length) (hs : X.length + L.length + R.length + Y.length ≤ 1000000) (hn : X.length + L.length + R.length + Y.length < N) :
    m79 N (X ++ L ++ R ++ Y) a m b = some (X ++ R ++ L ++ Y) := by
  have ei : IntKind.wrap .i64 (m - a) = (L.length : Int) := by rw [wrap64 (by omega) (by omega)]; omega
  have ej : IntKind.wrap .i64 (b - m) = (R.length : Int) := by rw [wrap64 (by omega) (by omega)]; omega
  unfold m79 jn
  simp only [letM_eq]
  rw [ei,ej]
  refine loopM_ind (fun q x => ∃ X' L' R' Y',q = L'.length + R'.length ∧ 0 < L'.length ∧ 0 < R'.length ∧ m = ((X'.length + L'.length : Nat) : Int) ∧ X' ++ R' ++ L' ++ Y' = X ++ R ++ L ++ Y ∧ x = ((L'.length : Int),(R'.length : Int),X' ++ L' ++ R' ++ Y')) (fun o => o = some (X ++ R ++ L ++ Y)) ?_ N (L.length + R.length) _ ⟨X,L,R,Y,rfl,hL,hR,hm,rfl,rfl⟩ (by omega)
  rintro q x ⟨X',L',R',Y',rfl,h1,h2,h3,h4,rfl⟩
  have hlen := congrArg List.length h4
  simp only [List.length_append] at hlen
  by_cases e : L'.length = R'.length
  · refine .inr ⟨_,rfl,fun nx => ?_⟩
    have := m80_val (N := N) (X := X') (A := L') (B := []) (C := R') (Y := Y') (a := IntKind.wrap .i64 (m - (L'.length : Int))) (b := m) (c := (L'.length : Int)) e (by rw [wrap64 (by omega) (by omega)]; omega) (by rw [h3]; simp) rfl (by simp; omega) (by omega)
    simp only [List.append_nil] at this
    rw [m79_L1,if_neg (by simp [e])]
    dsimp only
    rw [this,Option.bind_some]
    unfold asrt
    rw [if_pos (by simp; omega),h4]
  · by_cases hlt : R'.length < L'.length
    · obtain ⟨L1,L2,rfl,q1,q2⟩ := splitL (l := L') (k := R'.length) (by omega)
      rw [List.length_append] at q2 hlt h1 h3 hlen
      have := m80_val (N := N) (X := X') (A := L1) (B := L2) (C := R') (Y := Y') (a := IntKind.wrap .i64 (m - ((L1 ++ L2).length : Int))) (b := m) (c := (R'.length : Int)) q1 (by rw [List.length_append,wrap64 (by omega) (by omega)]; omega) (by rw [h3]; omega) (by omega) (by omega) (by omega)
      refine .inl ⟨L2.length + L1.length,((L2.length : Int),(L1.length : Int),X' ++ R' ++ L2 ++ L1 ++ Y'),by simp only [List.length_append]; omega,⟨X' ++ R',L2,L1,Y',rfl,by omega,by omega,by rw [h3]; simp only [List.length_append]; omega,by rw [← h4]; simp,rfl⟩,fun nx => ?_⟩
      rw [m79_L1,if_pos (by simp only [List.length_append,Bool.not_eq_true',decide_eq_false_iff_not]; omega)]
      unfold jn
      dsimp only
      rw [if_pos (decide_eq_true (by rw [List.length_append]; omega)),← List.append_assoc X' L1 L2,this,Option.bind_some]
      unfold asrt
      rw [if_pos (by simp only [List.length_append]; omega),letM_eq,wrap64 (by rw [List.length_append]; omega) (by rw [List.length_append]; omega)]
      rw [show (((L1 ++ L2).length : Nat) : Int) - (R'.length : Int) = (L2.length : Int) by rw [List.length_append]; omega,q1]
    · obtain ⟨R1,R2,rfl,q1,q2⟩ := splitL (l := R') (k := R'.length - L'.length) (by omega)
      rw [List.length_append] at q2 q1 hlt h2 hlen e
      have := m80_val (N := N) (X := X') (A := L') (B := R1) (C := R2) (Y := Y') (a := IntKind.wrap .i64 (m - (L'.length : Int))) (b := IntKind.wrap .i64 ((IntKind.wrap .i64 (m + ((R1 ++ R2).length : Int))) - (L'.length : Int))) (c := (L'.length : Int)) (by omega) (by rw [wrap64 (by omega) (by omega)]; omega) (by rw [List.length_append,wrap64 (x := m + _) (by omega) (by omega),wrap64 (by omega) (by omega)]; omega) rfl (by omega) (by omega)
      refine .inl ⟨R2.length + R1.length,((R2.length : Int),(R1.length : Int),X' ++ R2 ++ R1 ++ (L' ++ Y')),by simp only [List.length_append]; omega,⟨X',R2,R1,L' ++ Y',rfl,by omega,by omega,by rw [h3]; omega,by rw [← h4]; simp,rfl⟩,fun nx => ?_⟩
      rw [m79_L1,if_pos (by simp only [List.length_append,Bool.not_eq_true',decide_eq_false_iff_not]; omega)]
      unfold jn
      dsimp only
      rw [if_neg (by rw [List.length_append,decide_eq_true_eq]; omega),← List.append_assoc (X' ++ L') R1 R2,this,Option.bind_some]
      unfold asrt
      rw [if_pos (by simp only [List.length_append]; omega),letM_eq,wrap64 (by rw [List.length_append]; omega) (by rw [List.length_append]; omega)]
      rw [show (((R1 ++ R2).length : Nat) : Int) - (L'.length : Int) = (R1.length : Int) by rw [List.length_append]; omega,show (L'.length : Int) = (R2.length : Int) by omega,List.append_assoc (X' ++ R2 ++ R1) L' Y']
end Go.AB

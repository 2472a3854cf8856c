import Derived.Test.YtnmglighdhaccaaMs
set_option linter.unusedVariables false
namespace Go.AB
open Go Go.Proofs
theorem half_val {i j : Nat} (h : i + j ≤ 1000000000) : IntKind.wrap .i64 (shrI .u64 (IntKind.wrap .u64 (IntKind.wrap .i64 ((i : Int) + (j : Int)))) (1 : Int)) = (((i + j) / 2 : Nat) : Int) := by
  rw [wrap64 (x := (i : Int) + (j : Int)) (by omega) (by omega)]
  have e : IntKind.wrap .u64 ((i : Int) + (j : Int)) = (i : Int) + (j : Int) := by
    simp [IntKind.wrap,IntKind.signed,IntKind.bits]; omega
  rw [e]
  unfold shrI
  have e2 : (2 : Int) ^ min (1 : Int).toNat (IntKind.bits .u64) = 2 := by rfl
  rw [e2,Int.fdiv_eq_ediv_of_nonneg _ (by omega),wrap64 (by omega) (by omega)]
  omega
theorem bsearch {R : Type} {body : (Int × Int → Option R) → Int × Int → Option R} {K : Nat → Option R} (f : Nat → Bool) {i0 j0 : Nat} (h0 : i0 ≤ j0)
    (step : ∀ i j : Nat,i0 ≤ i → i < j → j ≤ j0 → ∀ nx,body nx ((i : Int),(j : Int)) = nx (if f ((i + j) / 2) = true then ((((i + j) / 2 + 1 : Nat) : Int),(j : Int)) else ((i : Int),(((i + j) / 2 : Nat) : Int))))
    (fin : ∀ i : Nat,∀ nx,body nx ((i : Int),(i : Int)) = K i) {n : Nat} (hn : j0 - i0 < n) :
    ∃ i : Nat,i0 ≤ i ∧ i ≤ j0 ∧ (i0 < i → f (i - 1) = true) ∧ (i < j0 → f i = false) ∧ loopM body n ((i0 : Int),(j0 : Int)) = K i := by
  refine loopM_ind (fun m x => ∃ i j : Nat,i0 ≤ i ∧ i ≤ j ∧ j ≤ j0 ∧ (i0 < i → f (i - 1) = true) ∧ (j < j0 → f j = false) ∧ m = j - i ∧ x = ((i : Int),(j : Int))) (fun o => ∃ i : Nat,i0 ≤ i ∧ i ≤ j0 ∧ (i0 < i → f (i - 1) = true) ∧ (i < j0 → f i = false) ∧ o = K i) ?_ n (j0 - i0) _ ⟨i0,j0,by omega,h0,by omega,fun h => absurd h (by omega),fun h => absurd h (by omega),rfl,rfl⟩ hn
  rintro m x ⟨i,j,h1,h2,h3,h4,h5,rfl,rfl⟩
  by_cases e : i = j
  · subst e
    exact .inr ⟨_,⟨i,h1,h3,h4,h5,rfl⟩,fin i⟩
  · have st := step i j h1 (by omega) h3
    cases hf : f ((i + j) / 2) with
    | true =>
      rw [hf] at st
      exact .inl ⟨j - ((i + j) / 2 + 1),_,by omega,⟨(i + j) / 2 + 1,j,by omega,by omega,h3,fun _ => by rw [Nat.add_sub_cancel]; exact hf,h5,rfl,rfl⟩,fun nx => by rw [st,if_pos rfl]⟩
    | false =>
      rw [hf] at st
      exact .inl ⟨(i + j) / 2 - i,_,by omega,⟨i,(i + j) / 2,by omega,by omega,by omega,h4,fun _ => hf,rfl,rfl⟩,fun nx => by rw [st,if_neg (by simp)]⟩
theorem U_mid {a : List R56} {x : R56} {b : List R56} {k : Nat} (h : k = a.length) : U (a ++ x :: b) k = x := by
  subst h; simp [U]
theorem m76_L2_val {N : Nat} {p : Int} (k : List R56 → Option (List R56)) : ∀ (R P Y : List R56) (x : R56) (n : Nat),p = ((P.length + R.length + 1 : Nat) : Int) → P.length + R.length + 1 + Y.length ≤ 1000000 → R.length < n →
    loopM (m76_L2 N p k) n ((P.length : Int),P ++ x :: (R ++ Y)) = k (P ++ (R ++ x :: Y))
  | [],P,Y,x,n + 1,hp,hs,hn => by
    subst hp
    rw [loopM_succ,m76_L2,if_neg ?_]
    · rfl
    · simp only [List.length_nil,decide_eq_true_eq]; rw [wrap64 (by omega) (by omega)]; omega
  | y :: R,P,Y,x,n + 1,hp,hs,hn => by
    simp only [List.length_cons] at hp hs hn
    have e1 : IntKind.wrap .i64 ((P.length : Int) + 1) = ((P ++ [x]).length : Int) := by rw [wrap64 (by omega) (by omega)]; simp
    have e2 : IntKind.wrap .i64 ((P.length : Int) + 1) = ((P ++ [y]).length : Int) := by rw [wrap64 (by omega) (by omega)]; simp
    rw [loopM_succ,m76_L2,if_pos (by simp only [decide_eq_true_eq]; rw [hp,wrap64 (by omega) (by omega)]; omega)]
    dsimp only
    rw [show P ++ x :: (y :: R ++ Y) = (P ++ [x]) ++ y :: (R ++ Y) by simp,get_mid e1,Option.bind_some,← show P ++ x :: (y :: R ++ Y) = (P ++ [x]) ++ y :: (R ++ Y) by simp,get_mid rfl,Option.bind_some,Option.bind_some,mkU,put_mid rfl,Option.bind_some,
      show P ++ y :: (y :: R ++ Y) = (P ++ [y]) ++ y :: (R ++ Y) by simp,get_mid e2,Option.bind_some,mkU,put_mid e2,Option.bind_some,letM_eq,e2]
    have ih := m76_L2_val (N := N) (p := p) k R (P ++ [y]) Y x n (by rw [hp]; simp; omega) (by simp; omega) (by omega)
    rw [ih]
    simp
theorem m76_L4_val {N : Nat} {p : Int} {P : List R56} (hp : p = (P.length : Int)) (k : List R56 → Option (List R56)) : ∀ (L Y : List R56) (x : R56) (n : Nat),P.length + L.length + 1 + Y.length ≤ 1000000 → L.length < n →
    loopM (m76_L4 N p k) n (((P.length + L.length : Nat) : Int),P ++ (L.reverse ++ x :: Y)) = k (P ++ (x :: (L.reverse ++ Y)))
  | [],Y,x,n + 1,hs,hn => by
    subst hp
    rw [loopM_succ,m76_L4,if_neg (by simp)]
    simp
  | y :: L,Y,x,n + 1,hs,hn => by
    simp only [List.length_cons] at hs hn
    have e0 : ((P.length + (y :: L).length : Nat) : Int) = ((P ++ L.reverse ++ [y]).length : Int) := by simp [Int.add_assoc]
    have e0' : ((P.length + (y :: L).length : Nat) : Int) = ((P ++ L.reverse ++ [x]).length : Int) := by simp [Int.add_assoc]
    have e1 : IntKind.wrap .i64 (((P.length + (y :: L).length : Nat) : Int) - 1) = ((P ++ L.reverse).length : Int) := by
      rw [wrap64 (by simp only [List.length_cons]; omega) (by simp only [List.length_cons]; omega)]; simp only [List.length_cons,List.length_append,List.length_reverse]; omega
    have r1 : P ++ ((y :: L).reverse ++ x :: Y) = (P ++ L.reverse) ++ y :: x :: Y := by simp
    have r2 : (P ++ L.reverse) ++ y :: x :: Y = (P ++ L.reverse ++ [y]) ++ x :: Y := by simp
    have r3 : (P ++ L.reverse ++ [y]) ++ y :: Y = (P ++ L.reverse) ++ y :: y :: Y := by simp
    rw [loopM_succ,m76_L4,if_pos (by simp only [decide_eq_true_eq,List.length_cons]; omega)]
    dsimp only
    rw [r1,e1,get_mid rfl,Option.bind_some,r2,get_mid e0,Option.bind_some,Option.bind_some,mkU,put_mid e0,Option.bind_some,r3,get_mid rfl,Option.bind_some,mkU,put_mid rfl,Option.bind_some,letM_eq]
    have ih := m76_L4_val (N := N) (p := p) hp k L (y :: Y) x n (by simp; omega) (by omega)
    rw [show ((P ++ L.reverse).length : Int) = ((P.length + L.length : Nat) : Int) by simp,List.append_assoc,ih]
    simp
def allS (l : List R56) : Prop := ∀ u,u ∈ l → shortU u
theorem pw_le_of {l : List R56} {x : R56} (h : Srt l) (h2 : ∀ y,l.getLast? = some y → leU y x) : ∀ y,y ∈ l → leU y x := by
  intro y hy
  rcases List.eq_nil_or_concat l with rfl | ⟨l',z,rfl⟩
  · simp at hy
  · have hz := h2 z (by simp)
    rw [List.concat_eq_append] at *
    rcases List.mem_append.1 hy with hy | hy
    · exact leU_tr ((List.pairwise_append.1 h).2.2 y hy z (by simp)) hz
    · rw [List.mem_singleton.1 hy]; exact hz
theorem pw_ge_of {l : List R56} {x : R56} (h : Srt l) (h2 : ∀ y,l.head? = some y → leU x y) : ∀ y,y ∈ l → leU x y := by
  intro y hy
  cases l with
  | nil => simp at hy
  | cons z l' =>
    have hz := h2 z rfl
    rcases List.mem_cons.1 hy with rfl | hy
    · exact hz
    · exact leU_tr hz ((List.pairwise_cons.1 h).1 y hy)
theorem last_U {P A Y : List R56} {y : R56} (h : A.getLast? = some y) : U (P ++ (A ++ Y)) (P.length + A.length - 1) = y := by
  rcases List.eq_nil_or_concat A with rfl | ⟨A',z,rfl⟩
  · simp at h
  · rw [List.concat_eq_append] at *
    have : z = y := by simpa using h
    subst this
    rw [show P ++ (A' ++ [z] ++ Y) = (P ++ A') ++ z :: Y by simp]
    exact U_mid (by simp)
theorem head_U {P A Y : List R56} {y : R56} (h : A.head? = some y) : U (P ++ (A ++ Y)) P.length = y := by
  cases A with
  | nil => simp at h
  | cons z A =>
    have : z = y := by simpa using h
    subst this
    exact U_mid rfl
end Go.AB

import Derived.Test.YtffbjmipkffgkaaLj
namespace Go.AB
open Go

theorem vecs_len (l : List Int) : (vecs l).length = l.length := by simp [vecs]
theorem vecs_ok {l : List Int} (hi : ∀ v, v ∈ l → inR v) (hl : l.length ≤ 60) : ∀ v, v ∈ vecs l → okVec v := by
  intro v hv
  rw [vecs, List.mem_mapIdx] at hv
  obtain ⟨i, h, rfl⟩ := hv
  refine ⟨hi _ (List.getElem_mem h), ?_⟩
  show inR ((i : Nat) : Int)
  exact inLen (by omega)
theorem m36_val {n : Nat} {a b : List UInt8} (h : a.length + b.length ≤ 1000000) : m36 n a b = some (a ++ b) := by
  unfold m36
  rw [apd_val (by simp; omega), Option.bind_some, List.nil_append, apd_val (by omega)]
  rfl
theorem eListInt_len (l : List Int) : (eList eInt l).length ≤ 9 + l.length * 9 := by
  have := wd_le (l.length : Int)
  have := flatInt_le l
  rw [eList, List.length_append, eInt_len]; omega
theorem tail8 {n : Nat} {a0 : List Int} {a2 b : List UInt8} {i : Nat} (hn : 100002 < n) (hl : a0.length ≤ 60) (hi : ∀ v, v ∈ a0 → inR v) (hb : b.length ≤ 100000) (h0 : i ≤ b.length) (hd : b.drop i = eRing (vecs a0) ++ a2) :
    ((m30 n b ((i : Nat) : Int) false (60 : Int)).bind fun y_129 => ((m39 n y_129.1 (vecs a0)).bind fun y_130 => ((gdO y_130 (m22 n y_129.2.1 y_129.2.2.1 y_129.2.2.2) default).bind fun y_131 => ((gdO (y_130 && (decide (y_131 = (a2.length : Int)))) (m18 n y_129.2.1 y_129.2.2.1 y_129.2.2.2) default).bind fun y_132 => (some ((y_130 && (decide (y_131 = (a2.length : Int)))) && ((decide (y_132 = (0 : Int))) == (decide ((a2.length : Int) = (0 : Int)))))))))) = some true := by
  obtain ⟨r1, r2, r3⟩ := rdAt (codRing 60 (by decide)) (rRing hn 60) hd ⟨by rw [vecs_len]; omega, vecs_ok hi hl⟩ h0 hb
  rw [r1, Option.bind_some]
  dsimp only
  generalize i + (eRing (vecs a0)).length = j at r2 r3
  have hlen := congrArg List.length r2
  rw [List.length_drop] at hlen
  rw [m39_val (by rw [vecs_len]; omega) (by rw [vecs_len]; omega), Option.bind_some, decide_eq_true rfl, gdO_true]
  unfold m22
  rw [letM_eq, wrap64 (by omega) (by omega), Option.bind_some, show (b.length : Int) - (j : Int) = (a2.length : Int) from by omega, decide_eq_true rfl, Bool.and_self, gdO_true]
  unfold m18
  by_cases hz : a2.length = 0
  · rw [if_neg (by simp; omega), Option.bind_some, hz]
    rfl
  · rw [if_pos (by simp; omega), Option.bind_some, show decide ((a2.length : Int) = 0) = false from decide_eq_false (by omega)]
    rfl
theorem m8_gen {n : Nat} {a0 : List Int} {a1 : List (List UInt8)} {a2 : List UInt8} (hn : 100002 < n) (h1 : a1.length < n) (k1 : a1.length ≤ 9223372036854775807) (hi : ∀ v, v ∈ a0 → inR v) : m8 n a0 a1 a2 = some true := by
  obtain ⟨c, e1, q1⟩ := m33_val h1 k1
  unfold m8 jn
  rw [m9_gen (by omega), Option.bind_some, if_neg (by simp), e1]
  by_cases b1 : a0.length ≤ 60
  · have d1 : decide ((60 : Int) < (a0.length : Int)) = false := by simp; omega
    rw [d1, Bool.not_false, gdO_true, Option.bind_some]
    cases c with
    | false => rw [if_pos (by simp)]
    | true =>
      obtain ⟨l1, l2⟩ := q1 rfl
      by_cases b2 : a2.length ≤ 300
      · have t0 := eListInt_len a0
        have t1 : (a0.flatMap eP).length ≤ a0.length * 10 := flat_le fun y _ => eP_len y
        have t2 : (a1.flatMap eT).length ≤ a1.length * 418 := flat_le fun y hy => by
          have := (eBytes_len y).2
          have := l2 y hy
          rw [eT, List.length_append]; omega
        have t3 := eRing_len (vecs a0)
        rw [vecs_len] at t3
        rw [if_neg (by simp; omega), m32ox1_val hi (by omega) (by omega), Option.bind_some]
        refine (m8_l1 (n := n) (by omega) hi b1 (by omega) _).trans ?_
        refine (m8_l2 (n := n) (by omega) l2 l1 (by rw [List.length_append]; omega) _).trans ?_
        rw [m37ox1_val (vecs_ok hi b1) (by rw [vecs_len]; omega) (by rw [List.length_append, List.length_append]; omega) (by omega), Option.bind_some, m36_val (by rw [List.length_append, List.length_append, List.length_append]; omega), Option.bind_some]
        have hb : (eList eInt a0 ++ a0.flatMap eP ++ a1.flatMap eT ++ eRing (vecs a0) ++ a2).length ≤ 100000 := by
          rw [List.length_append, List.length_append, List.length_append, List.length_append]; omega
        have hd0 : (eList eInt a0 ++ a0.flatMap eP ++ a1.flatMap eT ++ eRing (vecs a0) ++ a2).drop 0 = eList eInt a0 ++ (a0.flatMap eP ++ (a1.flatMap eT ++ (eRing (vecs a0) ++ a2))) := by simp
        generalize eList eInt a0 ++ a0.flatMap eP ++ a1.flatMap eT ++ eRing (vecs a0) ++ a2 = b at hb hd0
        rw [m16_val hb, Option.bind_some]
        dsimp only
        obtain ⟨r1, r2, r3⟩ := rdAt (codList codInt 60 (by decide)) (rInts hn 60) hd0 ⟨by omega, hi⟩ (Nat.zero_le _) hb
        rw [show m28 n b 0 false 60 = _ from r1, Option.bind_some]
        dsimp only
        rw [m38_val (by omega) (by omega), Option.bind_some, decide_eq_true rfl, if_neg (by simp)]
        generalize 0 + (eList eInt a0).length = i1 at r2 r3
        have u1 : b.drop (i1 + (a0.flatMap eP).length) = a1.flatMap eT ++ (eRing (vecs a0) ++ a2) := by
          rw [← List.drop_drop, r2, List.drop_left' rfl]
        have u2 : b.drop (i1 + (a0.flatMap eP).length + (a1.flatMap eT).length) = eRing (vecs a0) ++ a2 := by
          rw [← List.drop_drop, u1, List.drop_left' rfl]
        have v1 := congrArg List.length r2
        rw [List.length_drop, List.length_append, List.length_append] at v1
        refine (m8_l3 (n := n) (by omega) hi b1 hb r3 r2 _).trans ?_
        dsimp only
        refine (m8_l4 (n := n) (by omega) l2 l1 hb (by omega) u1 _).trans ?_
        dsimp only
        exact tail8 hn b1 hi hb (by omega) u2
      · rw [if_pos (by simp; omega)]
  · have d1 : decide ((60 : Int) < (a0.length : Int)) = true := by simp; omega
    rw [d1, Bool.not_true, gdO_false, Option.bind_some, if_pos (by simp)]
theorem m8_all {a0 : List Int} {a1 : List (List UInt8)} {a2 : List UInt8} (h0 : ∀ y, y ∈ a0 → (Lit.int .i64 y).wf = true) (h1 : a1.length ≤ maxLen) : m8 (a1.length + 200000) a0 a1 a2 = some true :=
  m8_gen (by omega) (by omega) (by have e : maxLen = 9223372036854775807 := by decide
                                   omega) fun v hv => wfI (h0 v hv)
end Go.AB

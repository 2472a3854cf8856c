import Derived.Test.YtpccmcepgllccaaLa
set_option linter.unusedVariables false
namespace Go.AB
open Go

def ordB (k : Nat) (o : List Int) : Bool := decide (o.Nodup ∧ ∀ x, x ∈ o → 0 ≤ x ∧ x < (k : Int))
theorem ord_take {k : Nat} {o : List Int} {j : Nat} (hj : j < o.length) : ordB k (o.take (j + 1)) = (ordB k (o.take j) && decide (0 ≤ o[j] ∧ o[j] < (k : Int)) && !decide (o[j] ∈ o.take j)) := by
  unfold ordB
  rw [Bool.eq_iff_iff, List.take_succ_eq_append_getElem hj]
  simp only [Bool.and_eq_true, decide_eq_true_eq, Bool.not_eq_true', decide_eq_false_iff_not, List.nodup_append, List.mem_append, List.mem_singleton]
  constructor
  · rintro ⟨⟨h1, _, h2⟩, h3⟩
    exact ⟨⟨⟨h1, fun x hx => h3 x (.inl hx)⟩, h3 _ (.inr rfl)⟩, fun hm => h2 _ hm _ rfl rfl⟩
  · rintro ⟨⟨⟨h1, h2⟩, h3⟩, h4⟩
    refine ⟨⟨h1, by simp, fun a ha b hb e => ?_⟩, fun x hx => ?_⟩
    · subst hb e; exact h4 ha
    · rcases hx with hx | rfl
      · exact h2 x hx
      · exact h3
theorem ord_prefix {k : Nat} {o : List Int} {j : Nat} (h : ordB k (o.take j) = false) : ordB k o = false := by
  unfold ordB at h ⊢
  rw [decide_eq_false_iff_not] at h ⊢
  rintro ⟨h1, h2⟩
  exact h ⟨h1.sublist (List.take_sublist _ _), fun x hx => h2 x (List.mem_of_mem_take hx)⟩
theorem m15_val {n : Nat} {l : List R38} {o : List Int} (ho : o.length ≤ 100000) (hn : o.length < n) : m15 n l o = some (ordB l.length o) := by
  unfold m15 jn
  refine loopM_ind (fun m x => ∃ j : Nat, j ≤ o.length ∧ x = (j : Int) ∧ m = o.length - j ∧ ordB l.length (o.take j) = true) (fun r => r = some (ordB l.length o)) ?_ n o.length _ ⟨0, Nat.zero_le _, rfl, rfl, by simp [ordB]⟩ hn
  rintro m x ⟨j, hj, rfl, rfl, hq⟩
  rcases Nat.lt_or_ge j o.length with h1 | h1
  · have ht := ord_take (k := l.length) h1
    rw [hq, Bool.true_and] at ht
    have body : ∀ nx, m15_L1 n l o (fun _ => some true) nx (j : Int) = if ((decide (o[j] < (0 : Int)) || decide ((l.length : Int) ≤ o[j])) || decide (o[j] ∈ o.take j)) = true then some false else nx ((j + 1 : Nat) : Int) := by
      intro nx
      rw [m15_L1, if_pos (by simp; omega), getIdx_at rfl h1, Option.bind_some]
      by_cases c1 : o[j] < 0
      · rw [decide_eq_true c1]
        simp [gdO_false]
      · rw [decide_eq_false c1, show (!false) = true from rfl, gdO_true, Option.bind_some]
        by_cases c2 : (l.length : Int) ≤ o[j]
        · rw [decide_eq_true c2]
          simp [gdO_false]
        · rw [decide_eq_false c2, show (!(false || false)) = true from rfl, gdO_true, slc_val (l := 0) (i := 0) (j := j) rfl rfl (Nat.zero_le _) (by omega), Option.bind_some, gdO_true, Option.bind_some, gdO_true]
          rw [show (o.drop 0).take (j - 0) = o.take j from by simp, m41_val (by rw [List.length_take]; omega) (by rw [List.length_take]; omega), Option.bind_some, letM_eq, wrap64 (by omega) (by omega)]
          rfl
    by_cases hb : ordB l.length (o.take (j + 1)) = true
    · refine .inl ⟨o.length - (j + 1), _, by omega, ⟨j + 1, h1, rfl, rfl, hb⟩, fun nx => ?_⟩
      rw [hb] at ht
      have h3 := ht.symm
      simp only [Bool.and_eq_true, decide_eq_true_eq, Bool.not_eq_true', decide_eq_false_iff_not] at h3
      rw [body, if_neg]
      simp only [Bool.or_eq_true, decide_eq_true_eq]
      intro h
      rcases h with (h | h) | h
      · omega
      · omega
      · exact h3.2 h
    · have hb' := (Bool.not_eq_true _).mp hb
      refine .inr ⟨_, by rw [ord_prefix hb'], fun nx => ?_⟩
      rw [hb'] at ht
      rw [body, if_pos]
      simp only [Bool.or_eq_true, decide_eq_true_eq]
      by_cases c1 : o[j] < 0
      · exact .inl (.inl c1)
      · by_cases c2 : (l.length : Int) ≤ o[j]
        · exact .inl (.inr c2)
        · refine .inr ?_
          rw [decide_eq_true (show 0 ≤ o[j] ∧ o[j] < (l.length : Int) from by omega), Bool.true_and] at ht
          have := ht.symm
          simpa using this
  · have : j = o.length := by omega
    subst this
    rw [List.take_length] at hq
    refine .inr ⟨_, by rw [hq], fun nx => ?_⟩
    rw [m15_L1, if_neg (by simp)]
theorem m59_val {n : Nat} {l : List R38} {o : List Int} (hl : l.length ≤ 100000) (ho : o.length ≤ 100000) (hn : o.length < n) : m59 n l o = some (ordB l.length o) := by
  unfold m59 jn
  rw [mk_val rfl rfl (by omega), Option.bind_some]
  refine loopM_ind (fun m x => ∃ (j : Nat) (u : List Bool), j ≤ o.length ∧ x = ((j : Int), u) ∧ m = o.length - j ∧ ordB l.length (o.take j) = true ∧ u.length = l.length ∧ ∀ x : Nat, x < l.length → u[x]? = some (decide ((x : Int) ∈ o.take j))) (fun r => r = some (ordB l.length o)) ?_ n o.length _
    ⟨0, _, Nat.zero_le _, rfl, rfl, by simp [ordB], by simp, fun x hx => by rw [List.getElem?_replicate, if_pos hx]; simp⟩ hn
  rintro m x ⟨j, u, hj, rfl, rfl, hq, hul, hu⟩
  rcases Nat.lt_or_ge j o.length with h1 | h1
  · have ht := ord_take (k := l.length) h1
    rw [hq, Bool.true_and] at ht
    by_cases c1 : o[j] < 0 ∨ (l.length : Int) ≤ o[j]
    · rw [decide_eq_false (show ¬ (0 ≤ o[j] ∧ o[j] < (l.length : Int)) from by omega), Bool.false_and] at ht
      refine .inr ⟨_, by rw [ord_prefix ht], fun nx => ?_⟩
      rw [m59_L1, if_pos (by simp; omega)]
      dsimp only
      rw [getIdx_at rfl h1, Option.bind_some]
      have : (decide (o[j] < (0 : Int)) || decide ((l.length : Int) ≤ o[j])) = true := by simpa using c1
      rw [this]
      rfl
    · have c2 : 0 ≤ o[j] ∧ o[j] < (l.length : Int) := by omega
      obtain ⟨y, hy⟩ : ∃ y : Nat, o[j] = (y : Int) := ⟨o[j].toNat, by omega⟩
      have hyl : y < l.length := by omega
      have huy := hu y hyl
      rw [decide_eq_true c2, Bool.true_and] at ht
      have body : ∀ nx, m59_L1 n l o (fun _ => some true) nx ((j : Int), u) = if decide (o[j] ∈ o.take j) = true then some false else nx (((j + 1 : Nat) : Int), u.set y true) := by
        intro nx
        rw [m59_L1, if_pos (by simp; omega)]
        dsimp only
        rw [getIdx_at rfl h1, Option.bind_some]
        rw [decide_eq_false (show ¬ o[j] < 0 from by omega), decide_eq_false (show ¬ (l.length : Int) ≤ o[j] from by omega), show (!(false || false)) = true from rfl, gdO_true, getIdx_q hy huy, Option.bind_some, Option.bind_some, setIdx_at hy (by omega), Option.bind_some, letM_eq, wrap64 (by omega) (by omega), hy]
        rfl
      by_cases hb : o[j] ∈ o.take j
      · rw [decide_eq_true hb] at ht
        refine .inr ⟨_, by rw [ord_prefix ht], fun nx => ?_⟩
        rw [body, if_pos (decide_eq_true hb)]
      · rw [decide_eq_false hb] at ht
        refine .inl ⟨o.length - (j + 1), _, by omega, ⟨j + 1, u.set y true, h1, rfl, rfl, ht, by simpa using hul, fun x hx => ?_⟩, fun nx => ?_⟩
        · rw [List.getElem?_set, List.take_succ_eq_append_getElem h1]
          by_cases e : y = x
          · subst e
            rw [if_pos rfl, if_pos (by omega), decide_eq_true (List.mem_append.2 (.inr (by simp [hy])))]
          · rw [if_neg e, hu x hx]
            congr 1
            apply decide_eq_decide.2
            rw [List.mem_append, List.mem_singleton]
            constructor
            · exact .inl
            · rintro (h | h)
              · exact h
              · rw [hy] at h; exact absurd (Int.ofNat.inj h).symm e
        · rw [body, if_neg (by simpa using hb)]
  · have : j = o.length := by omega
    subst this
    rw [List.take_length] at hq
    refine .inr ⟨_, by rw [hq], fun nx => ?_⟩
    rw [m59_L1, if_neg (by simp)]
theorem m44_val {n : Nat} {l : List R38} {o : List Int} (ho : o.length ≤ 100000) (hn : o.length < n) (hn2 : 41 < n) : m44 n l o = some (if vld l = true then (if ordB l.length o = true then 0 else 22) else 1) := by
  unfold m44
  rw [m28_val hn2, Option.bind_some]
  by_cases h : vld l = true
  · have hl : l.length ≤ 100000 := by
      unfold vld at h
      simp only [Bool.and_eq_true, decide_eq_true_eq] at h
      omega
    rw [h, if_neg (by simp), m59_val hl ho hn, Option.bind_some, if_pos rfl]
    by_cases h2 : ordB l.length o = true
    · rw [h2]; rfl
    · rw [(Bool.not_eq_true _).mp h2]; rfl
  · rw [(Bool.not_eq_true _).mp h]; rfl
end Go.AB

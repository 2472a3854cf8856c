import Derived.Test.YtpdllokejgpnoaaLg
set_option linter.unusedVariables false
namespace Go.AB
open Go

theorem T_mono {l : List R27} {c c' : Nat} (hl : okL l) (h : c ≤ c') : T l c ≤ T l c' := by
  rw [← vl_sol (l := l) (c := c)]
  exact T_ub hl (fea_mono (fea_sol hl) h)

/-- with as many of each as there is room -/
def many (m : Int) (l : List R27) : List R27 := l.map fun x => { x with Most := m }
theorem okL_many {l : List R27} {m : Nat} (hl : okL l) (hm : m ≤ 1000) : okL (many (m : Int) l) := fun x hx => by
  obtain ⟨y, hy, rfl⟩ := List.mem_map.1 hx
  obtain ⟨s1, s2, v1, v2, w1, w2⟩ := hl y hy
  exact ⟨s1, s2, v1, v2, by show (0 : Int) ≤ (m : Int); omega, by show (m : Int) ≤ 1000; omega⟩
theorem sz_many (m : Int) : ∀ (l : List R27) (s : List Nat), sz (many m l) s = sz l s
  | [], s => by simp [many, sz]
  | x :: l, [] => by simp [many, sz]
  | x :: l, n :: s => by
    have := sz_many m l s
    unfold many at this ⊢
    simp only [List.map_cons, sz, this]
theorem vl_many (m : Int) : ∀ (l : List R27) (s : List Nat), vl (many m l) s = vl l s
  | [], s => by simp [many, vl]
  | x :: l, [] => by simp [many, vl]
  | x :: l, n :: s => by
    have := vl_many m l s
    unfold many at this ⊢
    simp only [List.map_cons, vl, this]
theorem fea_many {l : List R27} {s : List Nat} {m c : Nat} : (s.length = l.length ∧ (∀ n, n ∈ s → n ≤ m) ∧ sz l s ≤ c) → fea (many (m : Int) l) s c := by
  rintro ⟨h1, h2, h3⟩
  rw [fea_iff, sz_many]
  refine ⟨by simp [many, h1], fun i x n hx hn => ?_, h3⟩
  have hm := h2 n (List.mem_of_getElem? hn)
  unfold many at hx
  rw [List.getElem?_map] at hx
  cases hy : l[i]? with
  | none => rw [hy] at hx; cases hx
  | some y =>
    rw [hy] at hx
    cases hx
    show n ≤ ((m : Nat) : Int).toNat
    omega
def addL : List Nat → List Nat → List Nat
  | a :: s, b :: t => (a + b) :: addL s t
  | _, _ => []
theorem addL_len : ∀ {s t : List Nat}, s.length = t.length → (addL s t).length = t.length
  | [], [], _ => rfl
  | [], _ :: _, h => by simp at h
  | _ :: _, [], h => by simp at h
  | a :: s, b :: t, h => by simp [addL, addL_len (by simpa using h)]
theorem vl_add : ∀ {l : List R27} {s t : List Nat}, s.length = l.length → t.length = l.length → vl l (addL s t) = vl l s + vl l t
  | [], s, t, h1, h2 => by simp [vl]
  | x :: l, [], t, h1, _ => by simp at h1
  | x :: l, _ :: _, [], _, h2 => by simp at h2
  | x :: l, a :: s, b :: t, h1, h2 => by
    rw [addL, vl, vl, vl, vl_add (by simpa using h1) (by simpa using h2), Int.natCast_add, Int.add_mul]
    omega
theorem sz_add : ∀ {l : List R27} {s t : List Nat}, s.length = l.length → t.length = l.length → sz l (addL s t) = sz l s + sz l t
  | [], s, t, h1, h2 => by simp [sz]
  | x :: l, [], t, h1, _ => by simp at h1
  | x :: l, _ :: _, [], _, h2 => by simp at h2
  | x :: l, a :: s, b :: t, h1, h2 => by
    rw [addL, sz, sz, sz, sz_add (by simpa using h1) (by simpa using h2), Nat.add_mul]
    omega
theorem le_sz : ∀ {l : List R27} {s : List Nat}, okL l → s.length = l.length → ∀ n, n ∈ s → n ≤ sz l s
  | [], s, _, h => by
    intro n hn
    have : s = [] := List.length_eq_zero_iff.1 (by simpa using h)
    subst this; cases hn
  | x :: l, [], _, h => by simp at h
  | x :: l, m :: s, hl, h => by
    intro n hn
    have hx : 1 ≤ x.Size.toNat := by obtain ⟨s1, _⟩ := hl x (by simp); omega
    rw [sz]
    rcases List.mem_cons.1 hn with rfl | hn
    · have := Nat.mul_le_mul (Nat.le_refl n) hx
      omega
    · have := le_sz (fun y hy => hl y (List.mem_cons_of_mem _ hy)) (by simpa using h) n hn
      omega
theorem T_many_add {l : List R27} {cap a b : Nat} (hl : okL l) (hcap : cap ≤ 1000) (h : a + b ≤ cap) : T (many (cap : Int) l) a + T (many (cap : Int) l) b ≤ T (many (cap : Int) l) cap := by
  have hm := okL_many (m := cap) hl hcap
  obtain ⟨a1, a2, a3⟩ := fea_iff.1 (fea_sol (c := a) hm)
  obtain ⟨b1, b2, b3⟩ := fea_iff.1 (fea_sol (c := b) hm)
  rw [← vl_sol (l := many (cap : Int) l) (c := a), ← vl_sol (l := many (cap : Int) l) (c := b), ← vl_add a1 b1]
  have hlen : (many (cap : Int) l).length = l.length := by simp [many]
  have hs := sz_add a1 b1
  rw [sz_many, sz_many, sz_many] at hs
  rw [sz_many] at a3 b3
  have hl2 : (addL (sol (many (cap : Int) l) a) (sol (many (cap : Int) l) b)).length = l.length := by rw [addL_len (by omega)]; omega
  refine T_ub hm (fea_many ⟨hl2, fun n hn => ?_, by omega⟩)
  have := le_sz hl hl2 n hn
  omega
theorem T_le_many {l : List R27} {cap : Nat} (hl : okL l) (hcap : cap ≤ 1000) : T l cap ≤ T (many (cap : Int) l) cap := by
  have hm := okL_many (m := cap) hl hcap
  have hf := fea_sol (c := cap) hl
  obtain ⟨a1, a2, a3⟩ := fea_iff.1 hf
  rw [← vl_sol (l := l) (c := cap), ← vl_many (cap : Int)]
  exact T_ub hm (fea_many ⟨a1, fea_small hl hf, a3⟩)

theorem many_append (c : Int) (a b : List R27) : many c (a ++ b) = many c a ++ many c b := by simp [many]
theorem m6_L2_val {l : List R27} {c : Int} (hl : l.length ≤ 1000) (kk : List R27 → Option Bool) : loopM (m6_L2 5000 c l kk) 5000 ((0 : Int), l) = kk (many c l) := by
  refine loopM_ind (body := m6_L2 5000 c l kk) (fun q st => ∃ i : Nat, st = ((i : Int), many c (l.take i) ++ l.drop i) ∧ q = l.length - i ∧ i ≤ l.length) (fun o => o = kk (many c l)) (fun q st => ?_) 5000 l.length _
    ⟨0, by simp [many], rfl, Nat.zero_le _⟩ (by omega)
  rintro ⟨i, rfl, rfl, hi⟩
  by_cases hlt : i < l.length
  · left
    have hcond : (decide ((i : Int) < (l.length : Int))) = true := by simpa using hlt
    have hml : (many c (l.take i)).length = i := by simp [many]; omega
    have hg : (many c (l.take i) ++ l.drop i)[i]? = some l[i] := by
      rw [List.getElem?_append_right (by omega), hml, Nat.sub_self, List.drop_eq_getElem_cons hlt]; rfl
    refine ⟨l.length - (i + 1), (((i + 1 : Nat) : Int), many c (l.take (i + 1)) ++ l.drop (i + 1)), by omega, ⟨i + 1, rfl, rfl, by omega⟩, fun nx => ?_⟩
    unfold m6_L2
    simp only []
    rw [if_pos hcond, getIdx_q (k := i) rfl hg]
    simp only [Option.bind_some]
    rw [setIdx_at (k := i) rfl (by simp [hml]; omega)]
    simp only [Option.bind_some, letM_eq]
    rw [wrap64 (by omega) (by omega)]
    have e : (many c (l.take i) ++ l.drop i).set i { l[i] with Most := c } = many c (l.take (i + 1)) ++ l.drop (i + 1) := by
      rw [List.set_append_right _ _ (by omega), hml, Nat.sub_self, List.drop_eq_getElem_cons hlt, List.set_cons_zero, List.take_succ_eq_append_getElem hlt, many_append, List.append_assoc]
      rfl
    rw [e]
    rfl
  · right
    refine ⟨_, ?_, fun nx => by
      have hcond : ¬ (decide ((i : Int) < (l.length : Int))) = true := by simpa using hlt
      unfold m6_L2
      simp only []
      rw [if_neg hcond]⟩
    rw [List.take_of_length_le (by omega), List.drop_of_length_le (by omega), List.append_nil]

theorem m6_true (l : List R27) (c a2 : Int) (h2 : (Lit.int .u8 a2).wf = true) : m6 5000 l c a2 = some true := by
  have hu : 0 ≤ a2 ∧ a2 < 256 := by
    simp [Lit.wf, IntKind.min, IntKind.max, IntKind.signed, IntKind.bits] at h2
    omega
  clear h2
  obtain ⟨u, rfl⟩ : ∃ u : Nat, a2 = (u : Int) := ⟨a2.toNat, by omega⟩
  unfold m6
  rw [m11_true]
  simp only [Option.bind_some, Bool.not_true, Bool.not_false, Bool.false_or, gdO_true, m12_val]
  cases hf : fewB l c with
  | false => simp [gdO]
  | true =>
    obtain ⟨h30, hfew⟩ := fewB_ok hf
    have h13 := m13_val (n := 5000) (l := l) (c := c) (by omega) (by omega)
    simp only [Bool.not_true, Bool.not_false, gdO_true, h13, Option.bind_some, Bool.false_or]
    cases hv : vldB l c with
    | false => simp
    | true =>
      obtain ⟨hl, _, cap, rfl, hcap⟩ := vldB_ok hv
      obtain ⟨h8, h200⟩ := hfew hv
      have hT := fun c => T_bound hl c
      have hw : IntKind.wrap .i64 ((cap : Int) + 1) = ((cap + 1 : Nat) : Int) := by rw [wrap64 (by omega) (by omega)]; rfl
      have hr : ((row (T l) cap).length : Int) = ((cap + 1 : Nat) : Int) := by rw [row_len]
      simp only [Bool.not_true, Bool.false_eq_true, if_false, m14o_val (l := l) (by omega), Option.bind_some]
      rw [m19_val hl hcap (by omega) (by omega)]
      simp only [Option.bind_some, hw, hr, decide_true, Bool.not_true, Bool.or_self, Bool.false_or, Bool.not_false, Bool.true_and]
      have h7 : ∃ z, gdO (decide ((l.length : Int) = 0)) (getIdx (row (T l) cap) (cap : Int)) default = some z ∧ ((decide ((l.length : Int) = 0)) && (!decide (z = 0))) = false := by
        by_cases h0 : (l.length : Int) = 0
        · have h00 : l = [] := List.length_eq_zero_iff.1 (by omega)
          refine ⟨0, ?_, by simp⟩
          rw [show (decide ((l.length : Int) = 0)) = true by simpa using h0, gdO_true, getIdx_q rfl (row_at (Nat.le_refl _)), h00]
          rfl
        · exact ⟨default, by rw [show (decide ((l.length : Int) = 0)) = false by simpa using h0]; rfl, by simp [h0]⟩
      obtain ⟨z, hz, hz2⟩ := h7
      rw [hz]
      simp only [Option.bind_some, letM_eq, hz2, Bool.false_eq_true, if_false]
      rw [jn]
      refine loopM_ind (body := m6_L1 5000 (cap : Int) (row (T l) cap, 0) _) (fun q x => ∃ i : Nat, x = ((i + 1 : Nat) : Int) ∧ q = cap - i ∧ i ≤ cap) (fun o => o = some true) (fun q x => ?_) 5000 cap 1 ⟨0, rfl, rfl, Nat.zero_le _⟩ (by omega)
      rintro ⟨i, rfl, rfl, hi⟩
      by_cases hlt : i + 1 ≤ cap
      · left
        have hcond : (decide (((i + 1 : Nat) : Int) ≤ (cap : Int))) = true := by simp; omega
        refine ⟨cap - (i + 1), ((i + 1 + 1 : Nat) : Int), by omega, ⟨i + 1, rfl, rfl, hlt⟩, fun nx => ?_⟩
        unfold m6_L1
        simp only []
        rw [if_pos hcond, getIdx_q (k := i + 1) rfl (row_at hlt)]
        simp only [Option.bind_some]
        rw [wrap64 (x := ((i + 1 : Nat) : Int) - 1) (by omega) (by omega), getIdx_q (i := ((i + 1 : Nat) : Int) - 1) (k := i) (by omega) (row_at (by omega))]
        simp only [Option.bind_some, letM_eq]
        have := T_mono (l := l) hl (show i ≤ i + 1 by omega)
        rw [if_neg (by simp; omega), wrap64 (by omega) (by omega)]
        congr 1
      · right
        refine ⟨some true, rfl, fun nx => ?_⟩
        have hcond : ¬ (decide (((i + 1 : Nat) : Int) ≤ (cap : Int))) = true := by simp; omega
        unfold m6_L1
        simp only []
        rw [if_neg hcond, jn, m6_L2_val (by omega)]
        have hlm : (many (cap : Int) l).length = l.length := by simp [many]
        have hm := okL_many (m := cap) hl (by omega)
        rw [m19_val hm hcap (by omega) (by omega)]
        simp only [Option.bind_some]
        have hk2 : u % (cap + 1) ≤ cap := by
          have := Nat.mod_lt u (show 0 < cap + 1 by omega)
          omega
        have hr2 : ((row (T (many (cap : Int) l)) cap).length : Int) = ((cap + 1 : Nat) : Int) := by rw [row_len]
        rw [asrt_pos (by omega), wrap64 (x := (u : Int)) (by omega) (by omega), tmod_nat]
        generalize u % (cap + 1) = k at hk2
        have g1 := getIdx_q (i := (k : Int)) (k := k) rfl (row_at (f := T (many (cap : Int) l)) hk2)
        have g2 := getIdx_q (i := (cap : Int) - (k : Int)) (k := cap - k) (by omega) (row_at (f := T (many (cap : Int) l)) (cap := cap) (by omega))
        have g3 := getIdx_q (i := (cap : Int)) (k := cap) rfl (row_at (f := T (many (cap : Int) l)) (Nat.le_refl cap))
        have g4 := getIdx_q (i := (cap : Int)) (k := cap) rfl (row_at (f := T l) (Nat.le_refl cap))
        have hadd := T_many_add (l := l) (cap := cap) (a := k) (b := cap - k) hl (by omega) (by omega)
        have hle := T_le_many (l := l) (cap := cap) hl (by omega)
        obtain ⟨p1, p2⟩ := T_bound hm k
        obtain ⟨q1, q2⟩ := T_bound hm (cap - k)
        have hw2 : IntKind.wrap .i64 (T (many (cap : Int) l) k + T (many (cap : Int) l) (cap - k)) = T (many (cap : Int) l) k + T (many (cap : Int) l) (cap - k) := wrap64 (by omega) (by omega)
        simp only [hr2, decide_true, Bool.and_self, gdO_true, g1, Option.bind_some, wrap64 (x := (cap : Int) - (k : Int)) (by omega) (by omega), g2, g3, hw2, Bool.true_and, hadd, g4, letM_eq, hle]
end Go.AB

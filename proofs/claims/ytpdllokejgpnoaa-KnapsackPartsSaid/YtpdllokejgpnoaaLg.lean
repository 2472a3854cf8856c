import Derived.Test.YtpdllokejgpnoaaLf
set_option linter.unusedVariables false
namespace Go.AB
open Go

/-- numbers of items that stay within a capacity; what they are worth; what they need -/
def fea : List R27 → List Nat → Nat → Prop
  | [], [], _ => True
  | x :: l, n :: s, c => n ≤ x.Most.toNat ∧ n * x.Size.toNat ≤ c ∧ fea l s (c - n * x.Size.toNat)
  | _, _, _ => False
def vl : List R27 → List Nat → Int
  | x :: l, n :: s => (n : Int) * x.Value + vl l s
  | _, _ => 0
def sz : List R27 → List Nat → Nat
  | x :: l, n :: s => n * x.Size.toNat + sz l s
  | _, _ => 0

theorem fea_iff : ∀ {l : List R27} {s : List Nat} {c : Nat}, fea l s c ↔ (s.length = l.length ∧ (∀ (i : Nat) (x : R27) (n : Nat), l[i]? = some x → s[i]? = some n → n ≤ x.Most.toNat) ∧ sz l s ≤ c)
  | [], [], c => by simp [fea, sz]
  | [], n :: s, c => by simp [fea]
  | x :: l, [], c => by simp [fea]
  | x :: l, n :: s, c => by
    rw [fea, fea_iff (l := l) (s := s)]
    constructor
    · rintro ⟨h1, h2, h3, h4, h5⟩
      refine ⟨by simp [h3], fun i y m hy hm => ?_, by rw [sz]; omega⟩
      cases i with
      | zero => simp at hy hm; subst hy hm; exact h1
      | succ i => exact h4 i y m (by simpa using hy) (by simpa using hm)
    · rintro ⟨h3, h4, h5⟩
      rw [sz] at h5
      exact ⟨h4 0 x n rfl rfl, by omega, by simpa using h3, fun i y m hy hm => h4 (i + 1) y m (by simpa using hy) (by simpa using hm), by omega⟩
theorem fea_mono {l : List R27} {s : List Nat} {c c' : Nat} (h : fea l s c) (hc : c ≤ c') : fea l s c' := by
  rw [fea_iff] at h ⊢
  exact ⟨h.1, h.2.1, by omega⟩

theorem gx_le {x : R27} {f : Nat → Int} {c n : Nat} (hx : okI x) (h1 : n ≤ x.Most.toNat) (h2 : n * x.Size.toNat ≤ c) : n ≤ min x.Most.toNat (c / x.Size.toNat) ∧ gx x f c n ≤ W x f c := by
  have hn : n ≤ min x.Most.toNat (c / x.Size.toNat) := by
    have := (divS (c := c) (S := x.Size.toNat) (n := n) (by obtain ⟨s1, _⟩ := hx; omega)).2 h2
    omega
  exact ⟨hn, le_mx (g := gx x f c) hn⟩

theorem T_ub : ∀ {l : List R27} {s : List Nat} {c : Nat}, okL l → fea l s c → vl l s ≤ T l c
  | [], [], c, _, _ => by simp [vl, T]
  | [], n :: s, c, _, h => by simp [fea] at h
  | x :: l, [], c, _, h => by simp [fea] at h
  | x :: l, n :: s, c, hl, h => by
    obtain ⟨h1, h2, h3⟩ := h
    have ih := T_ub (fun y hy => hl y (List.mem_cons_of_mem _ hy)) h3
    have := (gx_le (f := T l) (hl x (by simp)) h1 h2).2
    unfold gx at this
    rw [vl, T]
    omega
theorem fea_sol : ∀ {l : List R27} {c : Nat}, okL l → fea l (sol l c) c
  | [], c, _ => by simp [sol, fea]
  | x :: l, c, hl => by
    have hx := hl x (by simp)
    refine ⟨?_, ch_mul hx, fea_sol fun y hy => hl y (List.mem_cons_of_mem _ hy)⟩
    have := ch_le (x := x) (f := T l) (c := c)
    omega
theorem vl_sol : ∀ {l : List R27} {c : Nat}, vl l (sol l c) = T l c
  | [], c => rfl
  | x :: l, c => by
    rw [sol, vl, vl_sol, T, ← ch_eq (x := x) (f := T l) (c := c)]
    rfl

/-- what is as good as the best one is not ahead of it -/
theorem lex_sol : ∀ {l : List R27} {s : List Nat} {c : Nat}, okL l → fea l s c → vl l s = T l c → s = sol l c ∨ ∃ (i a b : Nat), s[i]? = some a ∧ (sol l c)[i]? = some b ∧ a < b ∧ s.take i = (sol l c).take i
  | [], [], c, _, _, _ => .inl rfl
  | [], n :: s, c, _, h, _ => by simp [fea] at h
  | x :: l, [], c, _, h, _ => by simp [fea] at h
  | x :: l, n :: s, c, hl, h, hv => by
    obtain ⟨h1, h2, h3⟩ := h
    have hl' : okL l := fun y hy => hl y (List.mem_cons_of_mem _ hy)
    have ih := T_ub hl' h3
    obtain ⟨h4, h5⟩ := gx_le (f := T l) (hl x (by simp)) h1 h2
    rw [vl, T] at hv
    have h6 : gx x (T l) c n = W x (T l) c := by
      unfold gx at h5 ⊢
      omega
    have h7 : vl l s = T l (c - n * x.Size.toNat) := by
      unfold gx at h6
      omega
    have h8 : n ≤ ch x (T l) c := by
      rcases Nat.lt_or_ge (ch x (T l) c) n with h | h
      · exact absurd h6 (lastEq_gt h4 h)
      · exact h
    by_cases he : n = ch x (T l) c
    · rw [sol, ← he]
      rcases lex_sol hl' h3 h7 with h | ⟨i, a, b, g1, g2, g3, g4⟩
      · exact .inl (by rw [h])
      · exact .inr ⟨i + 1, a, b, by simpa using g1, by simpa using g2, g3, by simp [g4]⟩
    · exact .inr ⟨0, n, ch x (T l) c, rfl, rfl, by omega, by simp⟩

theorem vl_snoc : ∀ {l : List R27} {s : List Nat} {x : R27} {n : Nat}, s.length = l.length → vl (l ++ [x]) (s ++ [n]) = vl l s + (n : Int) * x.Value
  | [], [], x, n, _ => by simp [vl]
  | [], _ :: _, x, n, h => by simp at h
  | _ :: _, [], x, n, h => by simp at h
  | y :: l, m :: s, x, n, h => by
    rw [List.cons_append, List.cons_append, vl, vl, vl_snoc (by simpa using h)]
    omega
theorem sz_snoc : ∀ {l : List R27} {s : List Nat} {x : R27} {n : Nat}, s.length = l.length → sz (l ++ [x]) (s ++ [n]) = sz l s + n * x.Size.toNat
  | [], [], x, n, _ => by simp [sz]
  | [], _ :: _, x, n, h => by simp at h
  | _ :: _, [], x, n, h => by simp at h
  | y :: l, m :: s, x, n, h => by
    rw [List.cons_append, List.cons_append, sz, sz, sz_snoc (by simpa using h)]
    omega
theorem vl_bd : ∀ {l : List R27} {s : List Nat}, okL l → (∀ n, n ∈ s → n ≤ 4000) → 0 ≤ vl l s ∧ vl l s ≤ (l.length : Int) * 4294967296000
  | [], s, _, _ => by simp [vl]
  | x :: l, [], _, _ => by simp only [vl, List.length_cons]; omega
  | x :: l, n :: s, hl, hs => by
    have ih := vl_bd (l := l) (s := s) (fun y hy => hl y (List.mem_cons_of_mem _ hy)) fun m hm => hs m (List.mem_cons_of_mem _ hm)
    obtain ⟨_, _, v1, v2, _⟩ := hl x (by simp)
    have := hs n (by simp)
    obtain ⟨h1, h2⟩ := mulB (a := (n : Int)) (A := 4000) (by omega) (by omega) v1 v2
    rw [vl, List.length_cons]
    omega
theorem sz_bd : ∀ {l : List R27} {s : List Nat}, okL l → (∀ n, n ∈ s → n ≤ 4000) → sz l s ≤ l.length * 16000000
  | [], s, _, _ => by simp [sz]
  | x :: l, [], _, _ => by simp only [sz, List.length_cons]; omega
  | x :: l, n :: s, hl, hs => by
    have ih := sz_bd (l := l) (s := s) (fun y hy => hl y (List.mem_cons_of_mem _ hy)) fun m hm => hs m (List.mem_cons_of_mem _ hm)
    obtain ⟨s1, s2, _⟩ := hl x (by simp)
    have := hs n (by simp)
    have h2 : n * x.Size.toNat ≤ 4000 * 4000 := Nat.mul_le_mul (by omega) (by omega)
    rw [sz, List.length_cons]
    omega

theorem m21_val {n : Nat} {l : List R27} {s : List Nat} (hl : okL l) (hlen : l.length ≤ 1000) (hs : s.length = l.length) (hb : ∀ m, m ∈ s → m ≤ 4000) (hn : 1000 < n) : m21 n l (casts s) = some (vl l s) := by
  unfold m21 jn
  have e0 : (if ((casts s).length : Int) < (l.length : Int) then ((casts s).length : Int) else (l.length : Int)) = (l.length : Int) := by
    rw [casts_len, hs]; split <;> rfl
  rw [e0, letM_eq]
  refine loopM_ind (body := m21_L1 n l (casts s) (l.length : Int) fun p => some p) (fun q x => ∃ i : Nat, x = (vl (l.take i) (s.take i), (i : Int)) ∧ q = l.length - i ∧ i ≤ l.length)
    (fun o => o = some (vl l s)) (fun q x => ?_) n l.length _ ⟨0, by simp [vl], rfl, Nat.zero_le _⟩ (by omega)
  rintro ⟨i, rfl, rfl, hi⟩
  by_cases hlt : i < l.length
  · left
    have hcond : (decide ((i : Int) < (l.length : Int))) = true := by simpa using hlt
    have his : i < s.length := by omega
    have hx := hl _ (List.getElem_mem hlt)
    have hm := hb _ (List.getElem_mem his)
    obtain ⟨_, _, v1, v2, _⟩ := hx
    obtain ⟨g1, g2⟩ := mulB (a := (s[i] : Int)) (A := 4000) (by omega) (by omega) v1 v2
    obtain ⟨b1, b2⟩ := vl_bd (l := l.take i) (s := s.take i) (fun y hy => hl y (List.mem_of_mem_take hy)) fun m hm => hb m (List.mem_of_mem_take hm)
    have hti : ((l.take i).length : Int) ≤ 1000 := by rw [List.length_take]; omega
    refine ⟨l.length - (i + 1), (vl (l.take (i + 1)) (s.take (i + 1)), ((i + 1 : Nat) : Int)), by omega, ⟨i + 1, rfl, rfl, by omega⟩, fun nx => ?_⟩
    unfold m21_L1
    simp only []
    rw [if_pos hcond, getIdx_at (k := i) rfl hlt]
    simp only [Option.bind_some]
    rw [getIdx_q (k := i) (y := (s[i] : Int)) rfl (casts_at (List.getElem?_eq_getElem his))]
    simp only [Option.bind_some, letM_eq]
    rw [Int.mul_comm l[i].Value, wrap64 (x := (s[i] : Int) * l[i].Value) (by omega) (by omega), wrap64 (by omega) (by omega), wrap64 (by omega) (by omega),
      List.take_succ_eq_append_getElem hlt, List.take_succ_eq_append_getElem his, vl_snoc (by simp; omega)]
    rfl
  · right
    refine ⟨_, ?_, fun nx => by
      have hcond : ¬ (decide ((i : Int) < (l.length : Int))) = true := by simpa using hlt
      unfold m21_L1
      simp only []
      rw [if_neg hcond]⟩
    rw [List.take_of_length_le (by omega), List.take_of_length_le (by omega)]

theorem m22_val {n : Nat} {l : List R27} {s : List Nat} (hl : okL l) (hlen : l.length ≤ 1000) (hs : s.length = l.length) (hb : ∀ m, m ∈ s → m ≤ 4000) (hn : 1000 < n) : m22 n l (casts s) = some ((sz l s : Nat) : Int) := by
  unfold m22 jn
  have e0 : (if ((casts s).length : Int) < (l.length : Int) then ((casts s).length : Int) else (l.length : Int)) = (l.length : Int) := by
    rw [casts_len, hs]; split <;> rfl
  rw [e0, letM_eq]
  refine loopM_ind (body := m22_L1 n l (casts s) (l.length : Int) fun p => some p) (fun q x => ∃ i : Nat, x = (((sz (l.take i) (s.take i) : Nat) : Int), (i : Int)) ∧ q = l.length - i ∧ i ≤ l.length)
    (fun o => o = some ((sz l s : Nat) : Int)) (fun q x => ?_) n l.length _ ⟨0, by simp [sz], rfl, Nat.zero_le _⟩ (by omega)
  rintro ⟨i, rfl, rfl, hi⟩
  by_cases hlt : i < l.length
  · left
    have hcond : (decide ((i : Int) < (l.length : Int))) = true := by simpa using hlt
    have his : i < s.length := by omega
    have hx := hl _ (List.getElem_mem hlt)
    have hm := hb _ (List.getElem_mem his)
    obtain ⟨S, hS, hSn, hS1, hS4⟩ := size_nat hx
    have g2 : s[i] * S ≤ 4000 * 4000 := Nat.mul_le_mul hm hS4
    have b2 := sz_bd (l := l.take i) (s := s.take i) (fun y hy => hl y (List.mem_of_mem_take hy)) fun m hm => hb m (List.mem_of_mem_take hm)
    have hti : (l.take i).length ≤ 1000 := by rw [List.length_take]; omega
    refine ⟨l.length - (i + 1), (((sz (l.take (i + 1)) (s.take (i + 1)) : Nat) : Int), ((i + 1 : Nat) : Int)), by omega, ⟨i + 1, rfl, rfl, by omega⟩, fun nx => ?_⟩
    unfold m22_L1
    simp only []
    rw [if_pos hcond, getIdx_at (k := i) rfl hlt]
    simp only [Option.bind_some]
    rw [getIdx_q (k := i) (y := (s[i] : Int)) rfl (casts_at (List.getElem?_eq_getElem his))]
    simp only [Option.bind_some, letM_eq]
    rw [hS, show ((S : Int) * (s[i] : Int)) = ((s[i] * S : Nat) : Int) by rw [Int.mul_comm]; simp, wrap64 (x := ((s[i] * S : Nat) : Int)) (by omega) (by omega), wrap64 (by omega) (by omega), wrap64 (by omega) (by omega),
      List.take_succ_eq_append_getElem hlt, List.take_succ_eq_append_getElem his, sz_snoc (by simp; omega), hSn]
    rfl
  · right
    refine ⟨_, ?_, fun nx => by
      have hcond : ¬ (decide ((i : Int) < (l.length : Int))) = true := by simpa using hlt
      unfold m22_L1
      simp only []
      rw [if_neg hcond]⟩
    rw [List.take_of_length_le (by omega), List.take_of_length_le (by omega)]

theorem fea_small {l : List R27} {s : List Nat} {c : Nat} (hl : okL l) (h : fea l s c) : ∀ m, m ∈ s → m ≤ c := by
  induction l generalizing s c with
  | nil =>
    cases s with
    | nil => intro m hm; cases hm
    | cons _ _ => simp [fea] at h
  | cons x l ih =>
    cases s with
    | nil => simp [fea] at h
    | cons n s =>
      obtain ⟨h1, h2, h3⟩ := h
      intro m hm
      rcases List.mem_cons.1 hm with rfl | hm
      · exact le_of_mul (by obtain ⟨s1, _⟩ := hl x (by simp); omega) h2
      · exact Nat.le_trans (ih (fun y hy => hl y (List.mem_cons_of_mem _ hy)) h3 m hm) (Nat.sub_le _ _)
theorem fea_snoc {l : List R27} {s : List Nat} {c n : Nat} {x : R27} (h : fea l s c) (h1 : n ≤ x.Most.toNat) (h2 : n * x.Size.toNat ≤ c - sz l s) : fea (l ++ [x]) (s ++ [n]) c := by
  rw [fea_iff] at h ⊢
  obtain ⟨h3, h4, h5⟩ := h
  refine ⟨by simp [h3], fun i y m hy hm => ?_, by rw [sz_snoc h3]; omega⟩
  rcases Nat.lt_or_ge i l.length with hi | hi
  · rw [List.getElem?_append_left hi] at hy
    rw [List.getElem?_append_left (by omega)] at hm
    exact h4 i y m hy hm
  · rw [List.getElem?_append_right hi] at hy
    rw [List.getElem?_append_right (by omega)] at hm
    have : i - l.length = 0 := by
      have := (List.getElem?_eq_some_iff.1 hy).1
      simp at this
      omega
    rw [this] at hy
    rw [h3, this] at hm
    simp at hy hm
    subst hy hm
    exact h1
end Go.AB

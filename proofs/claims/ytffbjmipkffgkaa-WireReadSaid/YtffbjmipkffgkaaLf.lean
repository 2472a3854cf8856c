import Derived.Test.YtffbjmipkffgkaaLe
namespace Go.AB
open Go

theorem wfI {n : Int} (h : (Lit.int .i64 n).wf = true) : inR n := by
  simp [Lit.wf, IntKind.min, IntKind.max, IntKind.signed, IntKind.bits] at h
  unfold inR
  omega
theorem m16_val {n : Nat} {b : List UInt8} (hb : b.length ≤ 100000) : m16 n b = some (R81.mk b 0 false) := by
  unfold m16 m42
  rw [apd_val (by simp; omega)]
  rfl
theorem eVec_len (v : R59) : (eVec v).length ≤ 18 := by
  have := wd_le v.X
  have := wd_le v.Y
  rw [eVec, List.length_append, eInt_len, eInt_len]; omega
theorem m40_val {n : Nat} {v : R59} (h : okVec v) (hn : 9 < n) : m40 n v = some (eVec v) := by
  unfold m40
  rw [m12ox1_val h.1 hn, Option.bind_some, m12o_val h.2 (by rw [eInt_len]; have := wd_le v.X; omega) hn]
  rfl
theorem m40ox1_val {n : Nat} {b : List UInt8} {v : R59} (h : okVec v) (hb : b.length ≤ 90000000) (hn : 9 < n) : m40ox1 n b v = some (b ++ eVec v) := by
  unfold m40ox1
  rw [m12o_val h.1 (by omega) hn, Option.bind_some, m12o_val h.2 (by rw [List.length_append, eInt_len]; have := wd_le v.X; omega) hn, Option.bind_some, eVec, List.append_assoc]
theorem m9_gen {n : Nat} (hn : 9 < n) : m9 n = some true := by
  unfold m9 jn
  rw [m16_val (by simp), Option.bind_some, m12o_val (by unfold inR; omega) (by simp) hn, Option.bind_some, show ([(9 : UInt8)] ++ eInt 128 : List UInt8) = [(9 : UInt8), (2 : UInt8), (0 : UInt8), (128 : UInt8)] from by kernel_rfl]
  rw [show m11 n [(9 : UInt8), (2 : UInt8), (0 : UInt8), (128 : UInt8)] [(9 : UInt8), (2 : UInt8), (0 : UInt8), (128 : UInt8)] = some true from rfl, Option.bind_some, gdO_true, m40_val (v := R59.mk 3 0) (by constructor <;> (unfold inR; dsimp only; omega)) hn, Option.bind_some,
    show eVec (R59.mk 3 0) = [(1 : UInt8), (3 : UInt8), (0 : UInt8)] from by kernel_rfl, gdO_true, show m11 n [(1 : UInt8), (3 : UInt8), (0 : UInt8)] [(1 : UInt8), (3 : UInt8), (0 : UInt8)] = some true from rfl, Option.bind_some]
  dsimp only
  have e : m17 n [(2 : UInt8), (0 : UInt8), (127 : UInt8)] 0 false = some (0, [(2 : UInt8), (0 : UInt8), (127 : UInt8)], 0, true) :=
    (rInt hn [(2 : UInt8), (0 : UInt8), (127 : UInt8)] 0 false (by simp) (by simp)).trans (by kernel_rfl)
  rw [if_pos (show (true && true && true) = true from rfl), e]
  rfl

section
variable {α : Type} {R : Type}
def encL (m : List UInt8 → α → Option (List UInt8)) (l : List α) (k : List UInt8 → Option R) (nx : Int × List UInt8 → Option R) (x : Int × List UInt8) : Option R :=
  if (decide (x.1 < (l.length : Int))) = true then ((getIdx l x.1).bind fun y => ((m x.2 y).bind fun z => (letM (IntKind.wrap .i64 (x.1 + (1 : Int))) fun t => nx (t, z)))) else k x.2
theorem encL_run {m : List UInt8 → α → Option (List UInt8)} {l : List α} {e : α → List UInt8} {M : Nat} (h : ∀ b y, y ∈ l → b.length ≤ M → m b y = some (b ++ e y)) (k : List UInt8 → Option R) {b : List UInt8} (hl : b.length + (l.flatMap e).length ≤ M) {n : Nat} (hn : l.length < n) (h64 : l.length ≤ 9000000000000000000) :
    loopM (encL m l k) n ((0 : Int), b) = k (b ++ l.flatMap e) := by
  refine loopM_ind (fun i x => ∃ j : Nat, j ≤ l.length ∧ i = l.length - j ∧ x = ((j : Int), b ++ (l.take j).flatMap e)) (fun o => o = k (b ++ l.flatMap e)) ?_ n l.length _ ⟨0, Nat.zero_le _, rfl, by simp⟩ hn
  rintro i x ⟨j, hj, rfl, rfl⟩
  rcases Nat.lt_or_ge j l.length with h1 | h1
  · refine .inl ⟨l.length - (j + 1), (((j + 1 : Nat) : Int), b ++ (l.take (j + 1)).flatMap e), by omega, ⟨j + 1, h1, rfl, rfl⟩, fun nx => ?_⟩
    have hlen : (b ++ (l.take j).flatMap e).length ≤ M := by
      have : (l.flatMap e).length = ((l.take j).flatMap e).length + ((l.drop j).flatMap e).length := by
        conv => lhs; rw [← List.take_append_drop j l]
        rw [List.flatMap_append, List.length_append]
      rw [List.length_append]; omega
    rw [encL, if_pos (by simp; omega)]
    dsimp only
    rw [getIdx_at rfl h1, Option.bind_some, h _ _ (List.getElem_mem h1) hlen, Option.bind_some, letM_eq, wrap64 (by omega) (by omega), List.take_succ_eq_append_getElem h1, List.flatMap_append]
    simp
  · refine .inr ⟨_, rfl, fun nx => ?_⟩
    have : j = l.length := by omega
    subst this
    rw [encL, if_neg (by simp), List.take_length]
theorem flat_le {e : α → List UInt8} {c : Nat} : ∀ {l : List α}, (∀ y, y ∈ l → (e y).length ≤ c) → (l.flatMap e).length ≤ l.length * c
  | [], _ => by simp
  | x :: l, h => by
    have h1 := h x (by simp)
    have h2 := flat_le (e := e) (c := c) (l := l) fun y hy => h y (by simp [hy])
    rw [List.flatMap_cons, List.length_append, List.length_cons, Nat.succ_mul]
    omega
end
theorem inLen {k : Nat} (h : k ≤ 9000000000000000000) : inR (k : Int) := by unfold inR; omega
theorem flatVec_le (l : List R59) : (l.flatMap eVec).length ≤ l.length * 18 := flat_le fun y _ => eVec_len y
theorem eRing_len (l : List R59) : (eRing l).length ≤ 9 + l.length * 18 := by
  have := wd_le (l.length : Int)
  have := flatVec_le l
  rw [eRing, eList, List.length_append, eInt_len]; omega
theorem m37o_val {n : Nat} {l : List R59} (h : ∀ v, v ∈ l → okVec v) (hl : l.length ≤ 1000) (hn : 1000 < n) : m37o n l = some (eRing l) := by
  unfold m37o jn
  rw [m12ox1_val (inLen (by omega)) (by omega), Option.bind_some]
  have := wd_le (l.length : Int)
  have := flatVec_le l
  exact encL_run (m := fun b y => m40ox1 n b y) (l := l) (e := eVec) (M := 80000000) (fun b y hy hb => m40ox1_val (h y hy) (by omega) (by omega)) (fun p => some p) (by rw [eInt_len]; omega) (by omega) (by omega)
theorem m37ox1_val {n : Nat} {b : List UInt8} {l : List R59} (h : ∀ v, v ∈ l → okVec v) (hl : l.length ≤ 1000) (hb : b.length ≤ 60000000) (hn : 1000 < n) : m37ox1 n b l = some (b ++ eRing l) := by
  unfold m37ox1 jn
  rw [m12o_val (inLen (by omega)) (by omega) (by omega), Option.bind_some]
  have := wd_le (l.length : Int)
  have := flatVec_le l
  refine (encL_run (m := fun b y => m40ox1 n b y) (l := l) (e := eVec) (M := 80000000) (fun b y hy hb => m40ox1_val (h y hy) (by omega) (by omega)) (fun p => some p) (by rw [List.length_append, eInt_len]; omega) (by omega) (by omega)).trans ?_
  rw [List.append_assoc]
  rfl
def small (s : R27) : Prop := s.Outer.length ≤ 50 ∧ s.Holes.length ≤ 8 ∧ ∀ r, r ∈ s.Holes → r.length ≤ 50
def ints (s : R27) : Prop := (∀ v, v ∈ s.Outer → okVec v) ∧ ∀ r, r ∈ s.Holes → ∀ v, v ∈ r → okVec v
theorem m14_val {n : Nat} {s : R27} (h : ints s) (hs : small s) (hn : 1000 < n) : m14 n s = some (eShape s) := by
  unfold m14 jn
  obtain ⟨h1, h2, h3⟩ := hs
  have hr := eRing_len s.Outer
  have hw := wd_le (s.Holes.length : Int)
  rw [m37o_val h.1 (by omega) hn, Option.bind_some, m12o_val (inLen (by omega)) (by omega) (by omega), Option.bind_some]
  have hf : (s.Holes.flatMap eRing).length ≤ s.Holes.length * 909 := flat_le fun y hy => by
    have := eRing_len y
    have := h3 y hy
    omega
  refine (encL_run (m := fun b y => m37ox1 n b y) (l := s.Holes) (e := eRing) (M := 50000000) (fun b y hy hb => m37ox1_val (h.2 y hy) (by have := h3 y hy; omega) (by omega) hn) (fun p => some p) (by rw [List.length_append, eInt_len]; omega) (by omega) (by omega)).trans ?_
  rw [List.append_assoc]
  rfl
theorem flatInt_le (l : List Int) : (l.flatMap eInt).length ≤ l.length * 9 := flat_le fun y _ => by rw [eInt_len]; have := wd_le y; omega
theorem m32_val {n : Nat} {l : List Int} (h : ∀ v, v ∈ l → inR v) (hl : l.length ≤ 1000) (hn : 1000 < n) : m32 n l = some (eList eInt l) := by
  unfold m32 jn
  rw [m12ox1_val (inLen (by omega)) (by omega), Option.bind_some]
  have := wd_le (l.length : Int)
  have := flatInt_le l
  exact encL_run (m := fun b y => m12o n b y) (l := l) (e := eInt) (M := 80000000) (fun b y hy hb => m12o_val (h y hy) (by omega) (by omega)) (fun p => some p) (by rw [eInt_len]; omega) (by omega) (by omega)
theorem m32ox1_val {n : Nat} {l : List Int} (h : ∀ v, v ∈ l → inR v) (hl : l.length ≤ 1000) (hn : 1000 < n) : m32ox1 n l = some (eList eInt l) := m32_val h hl hn
theorem m13_val {n : Nat} {l : List UInt8} (hl : l.length ≤ 1000000) (hn : 9 < n) : m13 n l = some (eBytes l) := by
  unfold m13
  have := wd_le (l.length : Int)
  rw [m12ox1_val (inLen (by omega)) hn, Option.bind_some, apd_val (by rw [eInt_len]; omega)]
  rfl
theorem m13ox1_val {n : Nat} {b l : List UInt8} (hl : l.length ≤ 1000000) (hb : b.length ≤ 60000000) (hn : 9 < n) : m13ox1 n b l = some (b ++ eBytes l) := by
  unfold m13ox1
  have := wd_le (l.length : Int)
  rw [m12o_val (inLen (by omega)) (by omega) hn, Option.bind_some, apd_val (by rw [List.length_append, eInt_len]; omega), List.append_assoc]
  rfl
theorem m35o_val {n : Nat} {b l : List UInt8} (hl : l.length ≤ 1000000) (hb : b.length ≤ 60000000) (hn : 9 < n) : m35o n b l = some (b ++ eBytes l) := m13ox1_val hl hb hn
def eBool (v : Bool) : List UInt8 := if v then [1] else [0]
theorem m34o_val {n : Nat} {b : List UInt8} {v : Bool} (hb : b.length ≤ 60000000) : m34o n b v = some (b ++ eBool v) := by
  unfold m34o
  cases v
  · rw [if_neg (by simp), apd_val (by simp; omega)]; rfl
  · rw [if_pos rfl, apd_val (by simp; omega)]; rfl

section
variable {α : Type}
def cmpL (q : α → α → Option Bool) (a0 a1 : List α) (k : Unit → Option Bool) (nx : Int → Option Bool) (x : Int) : Option Bool :=
  (if (decide (x < (a0.length : Int))) = true then ((getIdx a0 x).bind fun y => ((getIdx a1 x).bind fun z => ((q y z).bind fun c => (if (!c) = true then (some false) else (letM ((IntKind.wrap .i64 (x + (1 : Int)))) fun t => (nx t)))))) else (k ()))
theorem cmpL_run [DecidableEq α] {q : α → α → Option Bool} {a0 a1 : List α} (h : ∀ y z, y ∈ a0 → z ∈ a1 → q y z = some (decide (y = z))) (he : a0.length = a1.length) {n : Nat} (hn : a0.length < n) (h64 : a0.length ≤ 9223372036854775807) :
    loopM (cmpL q a0 a1 fun _ => some true) n (0 : Int) = some (decide (a0 = a1)) := by
  refine loopM_ind (fun i x => ∃ j : Nat, j ≤ a0.length ∧ i = a0.length - j ∧ x = (j : Int) ∧ a0.take j = a1.take j) (fun o => o = some (decide (a0 = a1))) ?_ n a0.length _ ⟨0, Nat.zero_le _, rfl, rfl, by simp⟩ hn
  rintro i x ⟨j, hj, rfl, rfl, ht⟩
  rcases Nat.lt_or_ge j a0.length with h1 | h1
  · have h2 : j < a1.length := by omega
    by_cases hq : a0[j] = a1[j]
    · refine .inl ⟨a0.length - (j + 1), ((j + 1 : Nat) : Int), by omega, ⟨j + 1, h1, rfl, rfl, by rw [List.take_succ_eq_append_getElem h1, List.take_succ_eq_append_getElem h2, ht, hq]⟩, fun nx => ?_⟩
      rw [cmpL, if_pos (by simp; omega), getIdx_at rfl h1, Option.bind_some, getIdx_at rfl h2, Option.bind_some, h _ _ (List.getElem_mem h1) (List.getElem_mem h2), Option.bind_some, if_neg (by simp [hq]), letM_eq, wrap64 (by omega) (by omega)]
      rfl
    · refine .inr ⟨some false, ?_, fun nx => ?_⟩
      · rw [decide_eq_false (fun e => hq (by subst e; rfl))]
      · rw [cmpL, if_pos (by simp; omega), getIdx_at rfl h1, Option.bind_some, getIdx_at rfl h2, Option.bind_some, h _ _ (List.getElem_mem h1) (List.getElem_mem h2), Option.bind_some, if_pos (by simp [hq])]
  · have : j = a0.length := by omega
    subst this
    refine .inr ⟨some true, ?_, fun nx => ?_⟩
    · rw [List.take_length, he, List.take_length] at ht
      rw [decide_eq_true ht]
    · rw [cmpL, if_neg (by simp)]
end
theorem m38_val {n : Nat} {a b : List Int} (hn : a.length < n) (h64 : a.length ≤ 9223372036854775807) : m38 n a b = some (decide (a = b)) := by
  unfold m38 jn
  by_cases he : a.length = b.length
  · rw [if_neg (by simp; omega)]
    exact cmpL_run (q := fun y z => some (decide (y = z))) (fun _ _ _ _ => rfl) he hn h64
  · rw [if_pos (by simp; omega), decide_eq_false (fun e => he (by rw [e]))]
theorem vecEq (y z : R59) : (([y.X, y.Y] : List Int) == [z.X, z.Y]) = decide (y = z) := by
  cases y; cases z
  rw [Bool.eq_iff_iff]
  simp
theorem m39_val {n : Nat} {a b : List R59} (hn : a.length < n) (h64 : a.length ≤ 9223372036854775807) : m39 n a b = some (decide (a = b)) := by
  unfold m39 jn
  by_cases he : a.length = b.length
  · rw [if_neg (by simp; omega)]
    exact cmpL_run (q := fun y z => some (([y.X, y.Y] : List Int) == [z.X, z.Y])) (fun y z _ _ => congrArg some (vecEq y z)) he hn h64
  · rw [if_pos (by simp; omega), decide_eq_false (fun e => he (by rw [e]))]
theorem m41_val {n : Nat} {a b : List (List R59)} (hr : ∀ r, r ∈ a → r.length < n ∧ r.length ≤ 9223372036854775807) (hn : a.length < n) (h64 : a.length ≤ 9223372036854775807) : m41 n a b = some (decide (a = b)) := by
  unfold m41 jn
  by_cases he : a.length = b.length
  · rw [if_neg (by simp; omega)]
    exact cmpL_run (q := fun y z => m39 n y z) (fun y z hy _ => m39_val (hr y hy).1 (hr y hy).2) he hn h64
  · rw [if_pos (by simp; omega), decide_eq_false (fun e => he (by rw [e]))]
theorem m15_val {n : Nat} {s t : R27} (ho : s.Outer.length < n ∧ s.Outer.length ≤ 9223372036854775807) (hr : ∀ r, r ∈ s.Holes → r.length < n ∧ r.length ≤ 9223372036854775807) (hh : s.Holes.length < n ∧ s.Holes.length ≤ 9223372036854775807) : m15 n s t = some (decide (s = t)) := by
  unfold m15
  rw [m39_val ho.1 ho.2, Option.bind_some, m41_val hr hh.1 hh.2]
  cases s with | mk o h => cases t with | mk o' h' =>
  by_cases e : o = o'
  · simp [e, gdO_true]
  · simp [e, gdO_false]
theorem m10_val {n : Nat} {s : R27} (hn : s.Holes.length < n) (h64 : s.Holes.length ≤ 9223372036854775807) : ∃ c, m10 n s = some c ∧ (c = true ↔ small s) := by
  unfold m10 jn
  refine loopM_ind (fun i x => ∃ j : Nat, j ≤ s.Holes.length ∧ i = s.Holes.length - j ∧ x = (j : Int) ∧ ∀ r, r ∈ s.Holes.take j → r.length ≤ 50) (fun o => ∃ c, o = some c ∧ (c = true ↔ small s)) ?_ n s.Holes.length _ ⟨0, Nat.zero_le _, rfl, rfl, by simp⟩ hn
  rintro i x ⟨j, hj, rfl, rfl, ht⟩
  rcases Nat.lt_or_ge j s.Holes.length with h1 | h1
  · by_cases hq : s.Holes[j].length ≤ 50
    · refine .inl ⟨s.Holes.length - (j + 1), ((j + 1 : Nat) : Int), by omega, ⟨j + 1, h1, rfl, rfl, fun r hr => ?_⟩, fun nx => ?_⟩
      · rw [List.take_succ_eq_append_getElem h1, List.mem_append] at hr
        rcases hr with hr | hr
        · exact ht r hr
        · rw [List.mem_singleton] at hr
          rw [hr]; exact hq
      · rw [m10_L1, if_pos (by simp; omega), getIdx_at rfl h1, Option.bind_some, if_neg (by simp; omega), letM_eq, wrap64 (by omega) (by omega)]
        rfl
    · refine .inr ⟨some false, ⟨false, rfl, ?_⟩, fun nx => ?_⟩
      · exact ⟨fun h => absurd h (by simp), fun h => absurd (h.2.2 _ (List.getElem_mem h1)) hq⟩
      · rw [m10_L1, if_pos (by simp; omega), getIdx_at rfl h1, Option.bind_some, if_pos (by simp; omega)]
  · have : j = s.Holes.length := by omega
    subst this
    refine .inr ⟨_, ⟨_, rfl, ?_⟩, fun nx => by rw [m10_L1, if_neg (by simp)]⟩
    rw [List.take_length] at ht
    unfold small
    simp
    constructor
    · intro ⟨h1, h2⟩
      exact ⟨by omega, by omega, ht⟩
    · intro ⟨h1, h2, _⟩
      exact ⟨by omega, by omega⟩
end Go.AB

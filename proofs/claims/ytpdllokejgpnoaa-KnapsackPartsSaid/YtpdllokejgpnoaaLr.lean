import Derived.Test.YtpdllokejgpnoaaLq
set_option linter.unusedVariables false
namespace Go.AB
open Go

/-- the least number of pieces of size S that, taken away, lead to a place of f -/
def ln (S : Nat) (f : Nat → Bool) : Nat → Nat → Option Nat
  | 0, _ => none
  | k + 1, c => if f c = true then some 0 else if c < S then none else (ln S f k (c - S)).map (· + 1)
def lnS (S : Nat) (f : Nat → Bool) (c : Nat) : Option Nat := ln S f (c + 1) c
theorem ln_fuel {S : Nat} {f : Nat → Bool} (hS : 1 ≤ S) : ∀ (k k' c : Nat), c < k → c < k' → ln S f k c = ln S f k' c
  | k + 1, k' + 1, c, h, h' => by
    simp only [ln]
    split
    · rfl
    · split
      · rfl
      · rw [ln_fuel hS k k' (c - S) (by omega) (by omega)]
theorem lnS_eq {S : Nat} {f : Nat → Bool} (hS : 1 ≤ S) (c : Nat) : lnS S f c = if f c = true then some 0 else if c < S then none else (lnS S f (c - S)).map (· + 1) := by
  unfold lnS
  rw [ln]
  split
  · rfl
  · split
    · rfl
    · rw [ln_fuel hS c (c - S + 1) (c - S) (by omega) (by omega)]
theorem lnS_some {S : Nat} {f : Nat → Bool} (hS : 1 ≤ S) : ∀ (c n : Nat), lnS S f c = some n → n * S ≤ c ∧ f (c - n * S) = true := by
  intro c
  induction c using Nat.strongRecOn with
  | _ c ih =>
    intro n h
    rw [lnS_eq hS] at h
    split at h
    · cases h; simpa
    · split at h
      · cases h
      · rename_i hf hc
        cases hr : lnS S f (c - S) with
        | none => rw [hr] at h; cases h
        | some m =>
          rw [hr] at h
          cases h
          obtain ⟨h1, h2⟩ := ih (c - S) (by omega) m hr
          rw [Nat.add_mul]
          refine ⟨by omega, ?_⟩
          rw [show c - (m * S + 1 * S) = c - S - m * S by omega]; exact h2
theorem lnS_le {S : Nat} {f : Nat → Bool} (hS : 1 ≤ S) : ∀ (c n : Nat), n * S ≤ c → f (c - n * S) = true → ∃ m, m ≤ n ∧ lnS S f c = some m := by
  intro c
  induction c using Nat.strongRecOn with
  | _ c ih =>
    intro n h1 h2
    rw [lnS_eq hS]
    by_cases hf : f c = true
    · exact ⟨0, Nat.zero_le _, by rw [if_pos hf]⟩
    · rw [if_neg hf]
      cases n with
      | zero => simp at h2; exact absurd h2 hf
      | succ n =>
        rw [Nat.add_mul] at h1 h2
        rw [if_neg (by omega)]
        obtain ⟨m, m1, m2⟩ := ih (c - S) (by omega) n (by omega) (by rw [show c - S - n * S = c - (n * S + 1 * S) by omega]; exact h2)
        exact ⟨m + 1, by omega, by rw [m2]; rfl⟩

/-- the places that one more item leads to -/
def stp (x : R27) (f : Nat → Bool) (c : Nat) : Bool := match lnS x.Size.toNat f c with
  | some n => decide (n ≤ x.Most.toNat)
  | none => false
def nee (x : R27) (f : Nat → Bool) (c : Nat) : Nat := match lnS x.Size.toNat f c with
  | some n => if n ≤ x.Most.toNat then n else 0
  | none => 0
def rowB {α : Type} (f : Nat → α) (cap : Nat) : List α := (List.range (cap + 1)).map f
theorem rowB_len {α : Type} (f : Nat → α) (cap : Nat) : (rowB f cap).length = cap + 1 := by simp [rowB]
theorem rowB_at {α : Type} {f : Nat → α} {cap i : Nat} (h : i ≤ cap) : (rowB f cap)[i]? = some (f i) := by
  unfold rowB
  rw [List.getElem?_map, List.getElem?_range (by omega)]; rfl
theorem rowB_const {α : Type} (v : α) (cap : Nat) : rowB (fun _ => v) cap = List.replicate (cap + 1) v :=
  List.eq_replicate_iff.2 ⟨rowB_len _ _, fun b hb => by simp [rowB] at hb; exact hb.2.symm⟩
theorem rowB_set {α : Type} {f f' : Nat → α} {cap c : Nat} (h : ∀ i, i ≤ cap → i ≠ c → f' i = f i) : (rowB f cap).set c (f' c) = rowB f' cap := by
  apply List.ext_getElem?
  intro i
  rw [List.getElem?_set]
  rcases Nat.lt_or_ge i (cap + 1) with hi | hi
  · rw [rowB_at (f := f) (by omega), rowB_at (f := f') (by omega), rowB_len]
    by_cases e : c = i
    · subst e; simp [hi]
    · rw [if_neg e, h i (by omega) (fun h => e h.symm)]
  · rw [List.getElem?_eq_none (by rw [rowB_len]; omega), List.getElem?_eq_none (l := rowB f' cap) (by rw [rowB_len]; omega), rowB_len]
    split
    · rename_i e; subst e; rw [if_neg (by omega)]
    · rfl
theorem rowB_congr {α : Type} {f f' : Nat → α} {cap : Nat} (h : ∀ i, i ≤ cap → f' i = f i) : rowB f' cap = rowB f cap := by
  apply List.ext_getElem?
  intro i
  rcases Nat.lt_or_ge i (cap + 1) with hi | hi
  · rw [rowB_at (by omega), rowB_at (f := f) (by omega), h i (by omega)]
  · rw [List.getElem?_eq_none (by rw [rowB_len]; omega), List.getElem?_eq_none (l := rowB f cap) (by rw [rowB_len]; omega)]

/-- what the program has when it has come to c -/
def outB (x : R27) (f : Nat → Bool) (c i : Nat) : Bool := if i < c then stp x f i else f i
def neeB (x : R27) (f : Nat → Bool) (c i : Nat) : Int := if i < c then ((nee x f i : Nat) : Int) else 0

theorem outB_set {x : R27} {f : Nat → Bool} {cap c : Nat} : (rowB (outB x f c) cap).set c (stp x f c) = rowB (outB x f (c + 1)) cap := by
  have h := rowB_set (f := outB x f c) (f' := outB x f (c + 1)) (cap := cap) (c := c) (fun i _ hne => by
    unfold outB
    by_cases h : i < c
    · rw [if_pos h, if_pos (by omega)]
    · rw [if_neg h, if_neg (by omega)])
  rw [← h]
  simp [outB]
theorem neeB_set {x : R27} {f : Nat → Bool} {cap c : Nat} : (rowB (neeB x f c) cap).set c ((nee x f c : Nat) : Int) = rowB (neeB x f (c + 1)) cap := by
  have h := rowB_set (f := neeB x f c) (f' := neeB x f (c + 1)) (cap := cap) (c := c) (fun i _ hne => by
    unfold neeB
    by_cases h : i < c
    · rw [if_pos h, if_pos (by omega)]
    · rw [if_neg h, if_neg (by omega)])
  rw [← h]
  simp [neeB]
theorem outB_same {x : R27} {f : Nat → Bool} {cap c : Nat} (h : stp x f c = f c) : rowB (outB x f (c + 1)) cap = rowB (outB x f c) cap := rowB_congr fun i _ => by
  unfold outB
  by_cases e : i = c
  · subst e; simp [h]
  · by_cases h : i < c
    · rw [if_pos h, if_pos (by omega)]
    · rw [if_neg h, if_neg (by omega)]
theorem neeB_same {x : R27} {f : Nat → Bool} {cap c : Nat} (h : nee x f c = 0) : rowB (neeB x f (c + 1)) cap = rowB (neeB x f c) cap := rowB_congr fun i _ => by
  unfold neeB
  by_cases e : i = c
  · subst e; simp [h]
  · by_cases h : i < c
    · rw [if_pos h, if_pos (by omega)]
    · rw [if_neg h, if_neg (by omega)]

theorem m25_L4_val {i cap : Nat} {x : R27} {f : Nat → Bool} {row0 : List Bool} (hx : okI x) (hcap : cap ≤ 4000) (hrow : row0 = rowB f cap) (kk : List Bool → Option (List Bool × Int)) :
    loopM (m25_L4 5000 ((i : Int), row0) x kk) 5000 ((0 : Int), row0, List.replicate (cap + 1) (0 : Int)) = kk (rowB (stp x f) cap) := by
  subst hrow
  obtain ⟨s1, s2, v1, v2, w1, w2⟩ := hx
  obtain ⟨S, hS, hSn⟩ : ∃ S : Nat, x.Size = (S : Int) ∧ x.Size.toNat = S := ⟨x.Size.toNat, by omega, rfl⟩
  obtain ⟨M, hM, hMn⟩ : ∃ M : Nat, x.Most = (M : Int) ∧ x.Most.toNat = M := ⟨x.Most.toNat, by omega, rfl⟩
  refine loopM_ind (body := m25_L4 5000 ((i : Int), rowB f cap) x kk) (fun q y => ∃ c : Nat, y = ((c : Int), rowB (outB x f c) cap, rowB (neeB x f c) cap) ∧ q = cap + 1 - c ∧ c ≤ cap + 1)
    (fun o => o = kk (rowB (stp x f) cap)) (fun q y => ?_) 5000 (cap + 1) _ ⟨0, ?_, rfl, Nat.zero_le _⟩ (by omega)
  · rintro ⟨c, rfl, rfl, hc⟩
    by_cases hlt : c ≤ cap
    · left
      have hcond : (decide ((c : Int) < ((rowB f cap).length : Int))) = true := by rw [rowB_len]; simp; omega
      refine ⟨cap + 1 - (c + 1), (((c + 1 : Nat) : Int), rowB (outB x f (c + 1)) cap, rowB (neeB x f (c + 1)) cap), by omega, ⟨c + 1, rfl, rfl, by omega⟩, fun nx => ?_⟩
      rw [m25_L4]
      simp only
      rw [if_pos hcond]
      simp only [jn, letM_eq]
      rw [getIdx_q (k := c) (y := f c) rfl (by rw [rowB_at hlt]; simp [outB])]
      simp only [Option.bind_some]
      have hw : IntKind.wrap .i64 ((c : Int) + 1) = ((c + 1 : Nat) : Int) := by rw [wrap64 (by omega) (by omega)]; rfl
      have hst : stp x f c = match lnS S f c with | some n => decide (n ≤ M) | none => false := by rw [stp, hSn, hMn]
      have hne : nee x f c = match lnS S f c with | some n => if n ≤ M then n else 0 | none => 0 := by rw [nee, hSn, hMn]
      have hle := lnS_eq (S := S) (f := f) (by omega) c
      by_cases hfc : f c = true
      · rw [if_pos hfc] at hle
        rw [hle] at hst hne
        simp only [hfc, Bool.true_or, Bool.not_true, gdO, Bool.false_eq_true, if_false, Option.bind_some, if_true]
        rw [outB_same (by rw [hst, hfc]; simp), neeB_same (by rw [hne]; simp), hw]
      · have hff : f c = false := by simpa using hfc
        rw [if_neg hfc] at hle
        by_cases hcS : c < S
        · rw [if_pos hcS] at hle
          rw [hle] at hst hne
          have hd : decide ((c : Int) < x.Size) = true := by simp; omega
          simp only [hff, hd, Bool.true_or, Bool.or_true, Bool.not_true, gdO, Bool.false_eq_true, if_false, Option.bind_some, if_true]
          rw [outB_same (by rw [hst, hff]), neeB_same (by rw [hne]), hw]
        · rw [if_neg hcS] at hle
          have hd : decide ((c : Int) < x.Size) = false := by simp; omega
          have hw2 : IntKind.wrap .i64 ((c : Int) - x.Size) = ((c - S : Nat) : Int) := by rw [wrap64 (by omega) (by omega)]; omega
          have hst2 : stp x f (c - S) = match lnS S f (c - S) with | some n => decide (n ≤ M) | none => false := by rw [stp, hSn, hMn]
          have hne2 : nee x f (c - S) = match lnS S f (c - S) with | some n => if n ≤ M then n else 0 | none => 0 := by rw [nee, hSn, hMn]
          simp only [hff, hd, Bool.or_self, Bool.not_false, gdO_true, Bool.false_or]
          rw [hw2, getIdx_q (k := c - S) (y := stp x f (c - S)) rfl (by rw [rowB_at (by omega)]; simp [outB]; omega)]
          simp only [Option.bind_some]
          cases hr : lnS S f (c - S) with
          | none =>
            rw [hr] at hst2 hne2 hle
            simp only [Option.map_none] at hle
            rw [hle] at hst hne
            rw [hst2]
            simp only [Bool.not_false, Bool.not_true, gdO, Bool.false_eq_true, if_false, Option.bind_some, Bool.true_or, if_true]
            rw [outB_same (by rw [hst, hff]), neeB_same (by rw [hne]), hw]
          | some n0 =>
            rw [hr] at hst2 hne2 hle
            simp only [Option.map_some] at hle
            rw [hle] at hst hne
            simp only at hst hne hst2 hne2
            by_cases hn0 : n0 ≤ M
            · rw [hst2, decide_eq_true hn0]
              rw [if_pos hn0] at hne2
              simp only [Bool.not_true, Bool.not_false, gdO_true, Bool.false_or]
              rw [getIdx_q (k := c - S) (y := (n0 : Int)) rfl (by rw [rowB_at (by omega)]; simp [neeB, hne2]; omega)]
              simp only [Option.bind_some]
              by_cases hnM : n0 = M
              · have hd2 : decide ((n0 : Int) = x.Most) = true := by simp; omega
                rw [hd2, if_pos rfl]
                rw [outB_same (by rw [hst, hff]; simp; omega), neeB_same (by rw [hne, if_neg (by omega)]), hw]
              · have hd2 : decide ((n0 : Int) = x.Most) = false := by simp; omega
                rw [hd2, if_neg (by simp)]
                rw [setIdx_at (k := c) rfl (by rw [rowB_len]; omega)]
                simp only [Option.bind_some]
                rw [getIdx_q (k := c) (y := (0 : Int)) rfl (by rw [rowB_at hlt]; simp [neeB])]
                simp only [Option.bind_some]
                rw [setIdx_at (k := c) rfl (by rw [rowB_len]; omega)]
                simp only [Option.bind_some]
                have h1 : stp x f c = true := by rw [hst]; simp; omega
                have h2 : ((nee x f c : Nat) : Int) = IntKind.wrap .i64 ((n0 : Int) + 1) := by
                  rw [hne, if_pos (by omega), wrap64 (by omega) (by omega)]; rfl
                rw [← h2, ← neeB_set]
                conv => lhs; rw [← h1]
                rw [outB_set, hw]
            · rw [hst2, decide_eq_false hn0]
              simp only [Bool.not_false, Bool.not_true, gdO, Bool.false_eq_true, if_false, Option.bind_some, Bool.true_or, if_true]
              rw [outB_same (by rw [hst, hff]; simp; omega), neeB_same (by rw [hne, if_neg (by omega)]), hw]
    · right
      refine ⟨_, ?_, fun nx => by
        have hcond : ¬ (decide ((c : Int) < ((rowB f cap).length : Int))) = true := by rw [rowB_len]; simp; omega
        rw [m25_L4, if_neg hcond]⟩
      simp only
      rw [rowB_congr (f := stp x f) (f' := outB x f c) fun i hi => by unfold outB; rw [if_pos (by omega)]]
  · have e1 : rowB f cap = rowB (outB x f 0) cap := rowB_congr fun i _ => by simp [outB]
    have e2 : List.replicate (cap + 1) (0 : Int) = rowB (neeB x f 0) cap := by
      rw [← rowB_const]
      exact rowB_congr fun i _ => by simp [neeB]
    rw [e2]
    conv => lhs; rw [e1]
    rfl

def sms : List R27 → (Nat → Bool) → Nat → Bool
  | [], f => f
  | x :: l, f => sms l (stp x f)
def s0 (c : Nat) : Bool := decide (c = 0)
theorem m25_L3_val {l : List R27} {cap : Nat} (hcap : cap ≤ 4000) (kk : List Bool → Option (List Bool × Int)) : ∀ (xs pre : List R27) (f : Nat → Bool) (n : Nat), okL xs → l = pre ++ xs → l.length ≤ 1000 → xs.length < n →
    loopM (m25_L3 5000 l (cap : Int) kk) n ((pre.length : Int), rowB f cap) = kk (rowB (sms xs f) cap)
  | [], pre, f, n + 1, _, hl, _, _ => by
    rw [loopM_succ, m25_L3, if_neg (by simp [hl])]
    rfl
  | x :: xs, pre, f, n + 1, ho, hl, h1, hn => by
    have hlen : l.length = pre.length + (xs.length + 1) := by rw [hl]; simp
    rw [loopM_succ, m25_L3, if_pos (by simp; omega), getIdx_q (k := pre.length) (y := x) rfl (by rw [hl]; simp)]
    simp only [Option.bind_some]
    rw [wrap64 (x := (cap : Int) + 1) (by omega) (by omega), mk_val (k := cap + 1) (by omega) (by omega) (by omega)]
    simp only [Option.bind_some, jn]
    refine (m25_L4_val (ho x (by simp)) hcap rfl _).trans ?_
    simp only [letM_eq]
    rw [wrap64 (by omega) (by omega)]
    have := m25_L3_val hcap kk xs (pre ++ [x]) (stp x f) n (fun z hz => ho z (List.mem_cons_of_mem _ hz)) (by simp [hl]) h1 (by simp at hn; omega)
    simp only [List.length_append, List.length_cons, List.length_nil, Int.natCast_add, Int.natCast_one] at this
    exact this
theorem row_s0 {cap : Nat} : (List.replicate (cap + 1) false).set 0 true = rowB s0 cap := by
  rw [← rowB_const]
  exact rowB_set (f := fun _ => false) (f' := s0) (c := 0) fun i _ hi => by simp [s0, hi]
theorem m25_val {l : List R27} {cap : Nat} (hl : okL l) (hcap : cap ≤ 4000) (hlen : l.length ≤ 20) : m25 5000 l (cap : Int) = some (rowB (sms l s0) cap, 0) := by
  rw [m25, m15_val (by omega) (by omega), vldB_mk hl hlen hcap]
  simp only [Option.bind_some, Bool.not_true, Bool.false_eq_true, if_false]
  rw [wrap64 (x := (cap : Int) + 1) (by omega) (by omega), mk_val (k := cap + 1) (by omega) (by omega) (by omega)]
  simp only [Option.bind_some]
  rw [getIdx_at (i := 0) (k := 0) rfl (by simp)]
  simp only [Option.bind_some]
  rw [setIdx_at (i := 0) (k := 0) rfl (by simp), row_s0]
  simp only [Option.bind_some, jn]
  exact m25_L3_val hcap _ l [] s0 5000 hl rfl (by omega) (by omega)
theorem m25_no {l : List R27} {c : Int} (hv : vldB l c = false) (hl : l.length ≤ 1000) : m25 5000 l c = some ([], 1) := by
  rw [m25, m15_val (by omega) (by omega), hv]
  rfl
end Go.AB

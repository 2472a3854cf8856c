import Derived.Test.YtpdllokejgpnoaaLr
set_option linter.unusedVariables false
namespace Go.AB
open Go

/-- some number below n of pieces leads to a place of f -/
def anyB (S : Nat) (f : Nat → Bool) (c : Nat) : Nat → Bool
  | 0 => false
  | n + 1 => anyB S f c n || f (c - n * S)
theorem anyB_iff {S : Nat} {f : Nat → Bool} {c : Nat} : ∀ {n : Nat}, anyB S f c n = true ↔ ∃ m, m < n ∧ f (c - m * S) = true
  | 0 => by simp [anyB]
  | n + 1 => by
    rw [anyB, Bool.or_eq_true, anyB_iff]
    constructor
    · rintro (⟨m, h1, h2⟩ | h)
      · exact ⟨m, by omega, h2⟩
      · exact ⟨n, by omega, h⟩
    · rintro ⟨m, h1, h2⟩
      by_cases e : m = n
      · subst e; exact .inr h2
      · exact .inl ⟨m, by omega, h2⟩
theorem anyB_stp {x : R27} {f : Nat → Bool} {c : Nat} (hS : 1 ≤ x.Size.toNat) : anyB x.Size.toNat f c (min x.Most.toNat (c / x.Size.toNat) + 1) = stp x f c := by
  rw [Bool.eq_iff_iff, anyB_iff]
  have hd : ∀ n, n ≤ c / x.Size.toNat ↔ n * x.Size.toNat ≤ c := fun n => divS hS
  generalize c / x.Size.toNat = D at *
  unfold stp
  constructor
  · rintro ⟨m, h1, h2⟩
    obtain ⟨n, n1, n2⟩ := lnS_le hS c m ((hd m).1 (by omega)) h2
    rw [n2]
    simp; omega
  · intro h
    cases hr : lnS x.Size.toNat f c with
    | none => rw [hr] at h; cases h
    | some n =>
      rw [hr] at h
      obtain ⟨h1, h2⟩ := lnS_some hS c n hr
      have := (hd n).2 h1
      simp at h
      exact ⟨n, by omega, h2⟩

theorem m26_L13_val {N : Nat} (hN : 4500 < N) {l : List R27} {i c cap : Nat} {x : R27} {f g : Nat → Bool} {nx : List Bool} (hx : okI x) (hcap : cap ≤ 4000) (hc : c ≤ cap) (hi : l[i]? = some x) (hg : g c = false) (kk : List Bool → Option (List Bool × Int)) :
    loopM (m26_L13 N l (rowB f cap, (i : Int)) ((c : Int), nx) kk) N ((0 : Int), rowB g cap) = kk ((rowB g cap).set c (stp x f c)) := by
  obtain ⟨s1, s2, v1, v2, w1, w2⟩ := hx
  rw [← anyB_stp (show 1 ≤ x.Size.toNat by omega)]
  have hd : ∀ n, n ≤ c / x.Size.toNat ↔ n * x.Size.toNat ≤ c := fun n => divS (by omega)
  have hd0 : c / x.Size.toNat ≤ c := Nat.div_le_self _ _
  obtain ⟨S, hS, hSn⟩ : ∃ S : Nat, x.Size = (S : Int) ∧ x.Size.toNat = S := ⟨x.Size.toNat, by omega, rfl⟩
  obtain ⟨M, hM, hMn⟩ : ∃ M : Nat, x.Most = (M : Int) ∧ x.Most.toNat = M := ⟨x.Most.toNat, by omega, rfl⟩
  rw [hSn] at hd hd0
  rw [hSn, hMn]
  generalize c / S = D at *
  refine loopM_ind (body := m26_L13 N l (rowB f cap, (i : Int)) ((c : Int), nx) kk) (fun q y => ∃ n : Nat, y = ((n : Int), (rowB g cap).set c (anyB S f c n)) ∧ q = min M D + 1 - n ∧ n ≤ min M D + 1)
    (fun o => o = kk ((rowB g cap).set c (anyB S f c (min M D + 1)))) (fun q y => ?_) N (min M D + 1) _ ⟨0, ?_, rfl, Nat.zero_le _⟩ (by omega)
  · rintro ⟨n, rfl, rfl, hn⟩
    have hb := (hd n)
    by_cases hlt : n ≤ min M D
    · left
      have h1 : n * S ≤ c := hb.1 (by omega)
      have e : ((n : Int) * x.Size) = ((n * S : Nat) : Int) := by rw [hS, Int.natCast_mul]
      have hw : IntKind.wrap .i64 ((n : Int) * x.Size) = ((n * S : Nat) : Int) := by rw [e, wrap64 (by omega) (by omega)]
      have hw2 : IntKind.wrap .i64 ((c : Int) - ((n * S : Nat) : Int)) = ((c - n * S : Nat) : Int) := by rw [wrap64 (by omega) (by omega)]; omega
      have hd1 : decide ((n : Int) ≤ x.Most) = true := by simp; omega
      have hd2 : decide (((n * S : Nat) : Int) ≤ (c : Int)) = true := by simpa using Int.ofNat_le.2 h1
      have hat : ((rowB g cap).set c (anyB S f c n))[c]? = some (anyB S f c n) := by rw [List.getElem?_set_self (by rw [rowB_len]; omega)]
      refine ⟨min M D + 1 - (n + 1), (((n + 1 : Nat) : Int), (rowB g cap).set c (anyB S f c (n + 1))), by omega, ⟨n + 1, rfl, rfl, by omega⟩, fun nx' => ?_⟩
      rw [m26_L13]
      simp only
      rw [getIdx_q (k := i) rfl hi]
      simp only [Option.bind_some, hd1, gdO_true, Bool.true_and]
      rw [hw, hd2, if_pos rfl, getIdx_q (k := c) rfl hat]
      simp only [Option.bind_some]
      have hset : setIdx ((rowB g cap).set c (anyB S f c n)) (c : Int) (anyB S f c (n + 1)) = some ((rowB g cap).set c (anyB S f c (n + 1))) := by
        rw [setIdx_at (k := c) rfl (by simp [rowB_len]; omega), List.set_set]
      have hn1 : IntKind.wrap .i64 ((n : Int) + 1) = ((n + 1 : Nat) : Int) := by rw [wrap64 (by omega) (by omega)]; rfl
      cases hv : anyB S f c n with
      | true =>
        rw [hv] at hset
        simp only [Bool.not_true, gdO, Bool.false_eq_true, if_false, Option.bind_some, Bool.true_or, letM_eq]
        have ha : anyB S f c (n + 1) = true := by rw [anyB, hv]; rfl
        rw [ha] at hset ⊢
        rw [hset, hn1]
        rfl
      | false =>
        rw [hv] at hset
        simp only [Bool.not_false, gdO_true, Option.bind_some, Bool.false_or, letM_eq]
        rw [hw, hw2, getIdx_q (k := c - n * S) rfl (rowB_at (by omega))]
        simp only [Option.bind_some]
        have ha : anyB S f c (n + 1) = f (c - n * S) := by rw [anyB, hv]; rfl
        rw [ha] at hset ⊢
        rw [hset, hn1]
        rfl
    · right
      have hn' : n = min M D + 1 := by omega
      refine ⟨_, rfl, fun nx' => ?_⟩
      rw [m26_L13]
      simp only
      rw [getIdx_q (k := i) rfl hi]
      simp only [Option.bind_some]
      rw [hn']
      by_cases hM1 : n ≤ M
      · have hd1 : decide ((n : Int) ≤ x.Most) = true := by simp; omega
        have e : ((n : Int) * x.Size) = ((n * S : Nat) : Int) := by rw [hS, Int.natCast_mul]
        have hnS : n * S ≤ 4001 * 4000 := Nat.mul_le_mul (by omega) (by omega)
        have h1 : ¬ n * S ≤ c := fun h => by have := hb.2 h; omega
        rw [← hn']
        simp only [hd1, gdO_true, Option.bind_some, Bool.true_and]
        rw [e, wrap64 (by omega) (by omega), if_neg (by simp; omega)]
      · have hd1 : decide ((n : Int) ≤ x.Most) = false := by simp; omega
        rw [← hn']
        simp only [hd1, Bool.false_and, gdO, Bool.false_eq_true, if_false, Option.bind_some]
  · have : (rowB g cap).set c (anyB S f c 0) = rowB g cap := by
      have h := rowB_set (f := g) (f' := g) (cap := cap) (c := c) fun _ _ _ => rfl
      rw [hg] at h
      exact h
    rw [this]
    rfl

def nxB (x : R27) (f : Nat → Bool) (c i : Nat) : Bool := if i < c then stp x f i else false
theorem nxB_set {x : R27} {f : Nat → Bool} {cap c : Nat} : (rowB (nxB x f c) cap).set c (stp x f c) = rowB (nxB x f (c + 1)) cap := by
  have h := rowB_set (f := nxB x f c) (f' := nxB x f (c + 1)) (cap := cap) (c := c) (fun i _ hne => by
    unfold nxB
    by_cases h : i < c
    · rw [if_pos h, if_pos (by omega)]
    · rw [if_neg h, if_neg (by omega)])
  rw [← h]
  simp [nxB]
theorem m26_L12_val {N : Nat} (hN : 4500 < N) {l : List R27} {i cap : Nat} {x : R27} {f : Nat → Bool} (hx : okI x) (hcap : cap ≤ 4000) (hi : l[i]? = some x) (kk : List Bool → Option (List Bool × Int)) :
    loopM (m26_L12 N l (cap : Int) (rowB f cap, (i : Int)) kk) N ((0 : Int), List.replicate (cap + 1) false) = kk (rowB (stp x f) cap) := by
  refine loopM_ind (body := m26_L12 N l (cap : Int) (rowB f cap, (i : Int)) kk) (fun q y => ∃ c : Nat, y = ((c : Int), rowB (nxB x f c) cap) ∧ q = cap + 1 - c ∧ c ≤ cap + 1)
    (fun o => o = kk (rowB (stp x f) cap)) (fun q y => ?_) N (cap + 1) _ ⟨0, ?_, rfl, Nat.zero_le _⟩ (by omega)
  · rintro ⟨c, rfl, rfl, hc⟩
    by_cases hlt : c ≤ cap
    · left
      refine ⟨cap + 1 - (c + 1), (((c + 1 : Nat) : Int), rowB (nxB x f (c + 1)) cap), by omega, ⟨c + 1, rfl, rfl, by omega⟩, fun nx => ?_⟩
      rw [m26_L12, if_pos (by simp; omega), jn]
      refine (m26_L13_val hN hx hcap hlt hi (by simp [nxB]) _).trans ?_
      simp only [letM_eq]
      rw [nxB_set, wrap64 (by omega) (by omega)]
      rfl
    · right
      refine ⟨_, ?_, fun nx => by rw [m26_L12, if_neg (by simp; omega)]⟩
      simp only
      rw [rowB_congr (f := stp x f) (f' := nxB x f c) fun i hi => by unfold nxB; rw [if_pos (by omega)]]
  · rw [← rowB_const]
    congr 1

theorem m26_L9_val {N : Nat} (hN : 4500 < N) {l : List R27} {cap : Nat} (hcap : cap ≤ 4000) (kk : List Bool → Option (List Bool × Int)) : ∀ (xs pre : List R27) (f : Nat → Bool) (n : Nat), okL xs → l = pre ++ xs → l.length ≤ 1000 → xs.length < n →
    loopM (m26_L9 N l (cap : Int) kk) n (rowB f cap, (pre.length : Int)) = kk (rowB (sms xs f) cap)
  | [], pre, f, n + 1, _, hl, _, _ => by
    rw [loopM_succ, m26_L9, if_neg (by simp [hl])]
    rfl
  | x :: xs, pre, f, n + 1, ho, hl, h1, hn => by
    have hlen : l.length = pre.length + (xs.length + 1) := by rw [hl]; simp
    rw [loopM_succ, m26_L9, if_pos (by simp; omega)]
    rw [wrap64 (x := (cap : Int) + 1) (by omega) (by omega), mk_val (k := cap + 1) (by omega) (by omega) (by omega)]
    simp only [Option.bind_some, jn]
    refine (m26_L12_val hN (ho x (by simp)) hcap (by rw [hl]; simp) _).trans ?_
    simp only [letM_eq]
    rw [wrap64 (by omega) (by omega)]
    have := m26_L9_val hN hcap kk xs (pre ++ [x]) (stp x f) n (fun z hz => ho z (List.mem_cons_of_mem _ hz)) (by simp [hl]) h1 (by simp at hn; omega)
    simp only [List.length_append, List.length_cons, List.length_nil, Int.natCast_add, Int.natCast_one] at this
    exact this
theorem m26_val {l : List R27} {cap : Nat} (hl : okL l) (hcap : cap ≤ 4000) (hlen : l.length ≤ 20) : m26 5000 l (cap : Int) = some (rowB (sms l s0) cap, 0) := by
  rw [m26, m13_val (by omega) (by omega), vldB_mk hl hlen hcap]
  simp only [Option.bind_some, Bool.not_true, Bool.false_eq_true, if_false]
  rw [wrap64 (x := (cap : Int) + 1) (by omega) (by omega), mk_val (k := cap + 1) (by omega) (by omega) (by omega)]
  simp only [Option.bind_some]
  rw [getIdx_at (i := 0) (k := 0) rfl (by simp)]
  simp only [Option.bind_some]
  rw [setIdx_at (i := 0) (k := 0) rfl (by simp), row_s0]
  simp only [Option.bind_some, jn]
  exact m26_L9_val (by omega) hcap _ l [] s0 5000 hl rfl (by omega) (by omega)
theorem m26_no {l : List R27} {c : Int} (hv : vldB l c = false) (hl : l.length ≤ 1000) : m26 5000 l c = some ([], 1) := by
  rw [m26, m13_val (by omega) (by omega), hv]
  rfl

/-- sums as both take them, overflow or not -/
def fz (f : R27 → Int) (l : List R27) (x : List Int) : Nat → Int → Nat → Int
  | 0, s, _ => s
  | d + 1, s, i => fz f l x d (IntKind.wrap .i64 (s + IntKind.wrap .i64 (((l[i]?.map f).getD 0) * (x[i]?.getD 0)))) (i + 1)
theorem m22_val' {l : List R27} {x : List Int} (hl : l.length ≤ 1000) : m22 5000 l x = some (fz (·.Size) l x (min l.length x.length) 0 0) := by
  have ht : (if (x.length : Int) < (l.length : Int) then (x.length : Int) else (l.length : Int)) = ((min l.length x.length : Nat) : Int) := by split <;> omega
  have key : ∀ (d i n : Nat) (s : Int) (k : Int → Option Int), i + d = min l.length x.length → d < n → loopM (m22_L1 5000 l x ((min l.length x.length : Nat) : Int) k) n (s, (i : Int)) = k (fz (·.Size) l x d s i) := by
    intro d
    induction d with
    | zero =>
      intro i n s k h1 hn
      obtain ⟨n, rfl⟩ : ∃ m, n = m + 1 := ⟨n - 1, by omega⟩
      rw [loopM_succ, m22_L1, if_neg (by simp; omega)]; rfl
    | succ d ih =>
      intro i n s k h1 hn
      obtain ⟨n, rfl⟩ : ∃ m, n = m + 1 := ⟨n - 1, by omega⟩
      have hi : i < l.length := by omega
      have hj : i < x.length := by omega
      rw [loopM_succ, m22_L1, if_pos (by simp; omega), getIdx_at (k := i) rfl hi]
      simp only [Option.bind_some]
      rw [getIdx_at (k := i) rfl hj]
      simp only [Option.bind_some, letM_eq]
      rw [wrap64 (x := (i : Int) + 1) (by omega) (by omega)]
      refine (ih (i + 1) n _ k (by omega) (by omega)).trans ?_
      rw [fz, List.getElem?_eq_getElem hi, List.getElem?_eq_getElem hj]
      rfl
  rw [m22, ht, letM_eq, jn]
  exact key _ 0 5000 0 _ (by omega) (by omega)
theorem m21_val' {l : List R27} {x : List Int} (hl : l.length ≤ 1000) : m21 5000 l x = some (fz (·.Value) l x (min l.length x.length) 0 0) := by
  have ht : (if (x.length : Int) < (l.length : Int) then (x.length : Int) else (l.length : Int)) = ((min l.length x.length : Nat) : Int) := by split <;> omega
  have key : ∀ (d i n : Nat) (s : Int) (k : Int → Option Int), i + d = min l.length x.length → d < n → loopM (m21_L1 5000 l x ((min l.length x.length : Nat) : Int) k) n (s, (i : Int)) = k (fz (·.Value) l x d s i) := by
    intro d
    induction d with
    | zero =>
      intro i n s k h1 hn
      obtain ⟨n, rfl⟩ : ∃ m, n = m + 1 := ⟨n - 1, by omega⟩
      rw [loopM_succ, m21_L1, if_neg (by simp; omega)]; rfl
    | succ d ih =>
      intro i n s k h1 hn
      obtain ⟨n, rfl⟩ : ∃ m, n = m + 1 := ⟨n - 1, by omega⟩
      have hi : i < l.length := by omega
      have hj : i < x.length := by omega
      rw [loopM_succ, m21_L1, if_pos (by simp; omega), getIdx_at (k := i) rfl hi]
      simp only [Option.bind_some]
      rw [getIdx_at (k := i) rfl hj]
      simp only [Option.bind_some, letM_eq]
      rw [wrap64 (x := (i : Int) + 1) (by omega) (by omega)]
      refine (ih (i + 1) n _ k (by omega) (by omega)).trans ?_
      rw [fz, List.getElem?_eq_getElem hi, List.getElem?_eq_getElem hj]
      rfl
  rw [m21, ht, letM_eq, jn]
  exact key _ 0 5000 0 _ (by omega) (by omega)
theorem m27_val' {l : List R27} {x : List Int} (hl : l.length ≤ 1000) : m27 5000 l x = some (fz (·.Size) l x (min l.length x.length) 0 0) := by
  have key : ∀ (d i n : Nat) (s : Int) (k : Int → Option Int), i + d = min l.length x.length → d < n → loopM (m27_L1 5000 l x k) n (s, (i : Int)) = k (fz (·.Size) l x d s i) := by
    intro d
    induction d with
    | zero =>
      intro i n s k h1 hn
      obtain ⟨n, rfl⟩ : ∃ m, n = m + 1 := ⟨n - 1, by omega⟩
      rw [loopM_succ, m27_L1, if_neg (by simp; omega)]; rfl
    | succ d ih =>
      intro i n s k h1 hn
      obtain ⟨n, rfl⟩ : ∃ m, n = m + 1 := ⟨n - 1, by omega⟩
      have hi : i < l.length := by omega
      have hj : i < x.length := by omega
      rw [loopM_succ, m27_L1, if_pos (by simp; omega), getIdx_at (k := i) rfl hi]
      simp only [Option.bind_some]
      rw [getIdx_at (k := i) rfl hj]
      simp only [Option.bind_some, letM_eq]
      rw [wrap64 (x := (i : Int) + 1) (by omega) (by omega)]
      refine (ih (i + 1) n _ k (by omega) (by omega)).trans ?_
      rw [fz, List.getElem?_eq_getElem hi, List.getElem?_eq_getElem hj]
      rfl
  rw [m27, jn]
  exact key _ 0 5000 0 _ (by omega) (by omega)
theorem m28_val' {l : List R27} {x : List Int} (hl : l.length ≤ 1000) : m28 5000 l x = some (fz (·.Value) l x (min l.length x.length) 0 0) := by
  have key : ∀ (d i n : Nat) (s : Int) (k : Int → Option Int), i + d = min l.length x.length → d < n → loopM (m28_L1 5000 l x k) n (s, (i : Int)) = k (fz (·.Value) l x d s i) := by
    intro d
    induction d with
    | zero =>
      intro i n s k h1 hn
      obtain ⟨n, rfl⟩ : ∃ m, n = m + 1 := ⟨n - 1, by omega⟩
      rw [loopM_succ, m28_L1, if_neg (by simp; omega)]; rfl
    | succ d ih =>
      intro i n s k h1 hn
      obtain ⟨n, rfl⟩ : ∃ m, n = m + 1 := ⟨n - 1, by omega⟩
      have hi : i < l.length := by omega
      have hj : i < x.length := by omega
      rw [loopM_succ, m28_L1, if_pos (by simp; omega), getIdx_at (k := i) rfl hi]
      simp only [Option.bind_some]
      rw [getIdx_at (k := i) rfl hj]
      simp only [Option.bind_some, letM_eq]
      rw [wrap64 (x := (i : Int) + 1) (by omega) (by omega)]
      refine (ih (i + 1) n _ k (by omega) (by omega)).trans ?_
      rw [fz, List.getElem?_eq_getElem hi, List.getElem?_eq_getElem hj]
      rfl
  rw [m28, jn]
  exact key _ 0 5000 0 _ (by omega) (by omega)

theorem m10_L1_val {b : List Bool} {e : Int} (hb : b.length ≤ 4500) (kk : Unit → Option Bool) : loopM (m10_L1 5000 (b, e) (b, e) kk) 5000 (0 : Int) = kk () := by
  refine loopM_ind (body := m10_L1 5000 (b, e) (b, e) kk) (fun q x => ∃ i : Nat, x = (i : Int) ∧ q = b.length - i ∧ i ≤ b.length) (fun o => o = kk ()) (fun q x => ?_) 5000 b.length 0 ⟨0, rfl, rfl, Nat.zero_le _⟩ (by omega)
  rintro ⟨i, rfl, rfl, hi⟩
  by_cases hlt : i < b.length
  · left
    refine ⟨b.length - (i + 1), ((i + 1 : Nat) : Int), by omega, ⟨i + 1, rfl, rfl, by omega⟩, fun nx => ?_⟩
    rw [m10_L1, if_pos (by simp; omega), getIdx_at (k := i) rfl hlt]
    simp only [Option.bind_some, bne_self_eq_false, Bool.false_eq_true, if_false, letM_eq]
    rw [wrap64 (by omega) (by omega)]
    rfl
  · right
    exact ⟨_, rfl, fun nx => by rw [m10_L1, if_neg (by simp; omega)]⟩

theorem m10_true (l : List R27) (c : Int) (x : List Int) : m10 5000 l c x = some true := by
  unfold m10
  rw [m11_true]
  simp only [Option.bind_some, Bool.not_true, Bool.not_false, Bool.false_or, gdO_true, m12_val]
  cases hf : fewB l c with
  | false => simp
  | true =>
    obtain ⟨h30, hfew⟩ := fewB_ok hf
    simp only [Bool.not_true, Bool.false_or]
    by_cases hx : 30 < x.length
    · rw [if_pos (by simp; omega)]
    · rw [if_neg (by simp; omega), m14_val (l := l) (by omega) (by omega)]
      simp only [Option.bind_some]
      obtain ⟨r, e, e', b, hb, h1, h2, h3, h4⟩ : ∃ (r : R44) (e e' : Int) (b : List Bool), b.length ≤ 4500 ∧ m23 5000 l c = some (r, e) ∧ m24 5000 l c = some (r, e) ∧ m25 5000 l c = some (b, e') ∧ m26 5000 l c = some (b, e') := by
        cases hv : vldB l c with
        | false => exact ⟨_, _, _, [], by simp, m23_no hv (by omega), m24_no hv (by omega), m25_no hv (by omega), m26_no hv (by omega)⟩
        | true =>
          obtain ⟨hl, _, cap, rfl, hcap⟩ := vldB_ok hv
          obtain ⟨h8, h200⟩ := hfew hv
          exact ⟨_, _, _, _, by rw [rowB_len]; omega, m23_val hl hcap (by omega), m24_val hl hcap (by omega), m25_val hl hcap (by omega), m26_val hl hcap (by omega)⟩
      rw [h1]
      simp only [Option.bind_some]
      rw [h2]
      simp only [Option.bind_some]
      rw [h3]
      simp only [Option.bind_some]
      rw [h4]
      simp only [Option.bind_some, beq_self_eq_true, decide_true, Bool.not_true, Bool.or_self, Bool.not_false, gdO_true]
      rw [m22_val' (by omega), m27_val' (by omega)]
      simp only [Option.bind_some, decide_true, Bool.not_true, Bool.or_self, Bool.not_false, gdO_true]
      rw [m21_val' (by omega), m28_val' (by omega)]
      simp only [Option.bind_some, decide_true, Bool.not_true, Bool.or_self, letM_eq, Bool.false_eq_true, if_false, jn]
      exact m10_L1_val hb _
end Go.AB

import Derived.Test.YtpdllokejgpnoaaLb
set_option linter.unusedVariables false
namespace Go.AB
open Go

/-- the greatest of the first n, from 0 on -/
def mxs (g : Nat → Int) : Nat → Int
  | 0 => 0
  | k + 1 => max (mxs g k) (g k)
theorem mxs_mx {g : Nat → Int} (h : 0 ≤ g 0) : ∀ k, mxs g (k + 1) = mx g k
  | 0 => by simp only [mxs, mx]; exact Int.max_eq_right h
  | k + 1 => by rw [mxs, mxs_mx h k, mx]

theorem size_nat {x : R27} (hx : okI x) : ∃ S : Nat, x.Size = (S : Int) ∧ x.Size.toNat = S ∧ 1 ≤ S ∧ S ≤ 4000 := by
  obtain ⟨s1, s2, _⟩ := hx
  exact ⟨x.Size.toNat, by omega, rfl, by omega, by omega⟩
theorem most_nat {x : R27} (hx : okI x) : ∃ M : Nat, x.Most = (M : Int) ∧ x.Most.toNat = M ∧ M ≤ 1000 := by
  obtain ⟨_, _, _, _, w1, w2⟩ := hx
  exact ⟨x.Most.toNat, by omega, rfl, by omega⟩

/-- what n of an item are worth -/
def gx (x : R27) (f : Nat → Int) (c n : Nat) : Int := (n : Int) * x.Value + f (c - n * x.Size.toNat)
theorem gx_ok {x : R27} {f : Nat → Int} {cap c n : Nat} (hx : okI x) (hf : bdd f cap) (hcap : cap ≤ 4000) (hc : c ≤ cap) (hn : n * x.Size.toNat ≤ c) :
    n ≤ 4000 ∧ IntKind.wrap .i64 (IntKind.wrap .i64 ((n : Int) * x.Value) + f (c - n * x.Size.toNat)) = gx x f c n ∧ 0 ≤ gx x f c n := by
  obtain ⟨s1, s2, v1, v2, w1, w2⟩ := hx
  have h1 : n ≤ n * x.Size.toNat := by
    have := Nat.mul_le_mul (Nat.le_refl n) (show 1 ≤ x.Size.toNat by omega)
    omega
  obtain ⟨h2, h3⟩ := mulB (a := (n : Int)) (A := 4000) (by omega) (by omega) v1 v2
  obtain ⟨h4, h5⟩ := hf (c - n * x.Size.toNat) (by omega)
  refine ⟨by omega, ?_, ?_⟩
  · rw [wrap64 (x := (n : Int) * x.Value) (by omega) (by omega), wrap64 (by omega) (by omega)]
    rfl
  · unfold gx
    omega

theorem m32_L13_val {n cap i c : Nat} {x : R27} {f : Nat → Int} {rows : List (List Int)} {l4 : List Int} (hx : okI x) (hf : bdd f cap) (hcap : cap ≤ 4000) (hc : c ≤ cap) (hi : i ≤ 1000) (hrow : rows[i + 1]? = some (row f cap)) (hl4 : l4.length = cap + 1)
    (hil : i < rows.length) (kk : List Int → Option (List (List Int))) {xs o : List Int} (hxs : xs.length = cap + 1) (h0 : xs[c]? = some 0) (hn : 4010 < n) :
    loopM (m32_L13 n ((i : Int), rows) x l4 ((c : Int), o) kk) n ((0 : Int), xs) = kk (xs.set c (W x f c)) := by
  obtain ⟨S, hS, hSn, hS1, hS4⟩ := size_nat hx
  obtain ⟨M, hM, hMn, hM1⟩ := most_nat hx
  refine loopM_ind (body := m32_L13 n ((i : Int), rows) x l4 ((c : Int), o) kk)
    (fun q st => ∃ k : Nat, st.1 = (k : Int) ∧ q = min M (c / S) + 1 - k ∧ k ≤ min M (c / S) + 1 ∧ st.2 = xs.set c (mxs (gx x f c) k))
    (fun oo => oo = kk (xs.set c (W x f c))) (fun q st => ?_) n (min M (c / S) + 1) (0, xs) ⟨0, rfl, rfl, Nat.zero_le _, ?_⟩ ?_
  · rintro ⟨k, h1, hq, hk, h2⟩
    obtain ⟨k0, ys⟩ := st
    simp only at h1 h2
    subst h1 h2
    by_cases hlt : k ≤ min M (c / S)
    · left
      have hkS : k * S ≤ c := by
        have : k ≤ c / S := by omega
        rw [Nat.le_div_iff_mul_le (by omega)] at this
        exact this
      obtain ⟨hk4, hg, hg0⟩ := gx_ok hx hf hcap hc (by rw [hSn]; exact hkS)
      have e1 : IntKind.wrap .i64 ((k : Int) * x.Size) = ((k * S : Nat) : Int) := by
        rw [hS, show ((k : Int) * (S : Int)) = ((k * S : Nat) : Int) by simp, wrap64 (by omega) (by omega)]
      have hcond : ((decide ((k : Int) ≤ x.Most)) && (decide ((IntKind.wrap .i64 ((k : Int) * x.Size)) ≤ (c : Int)))) = true := by
        rw [e1, hM]
        simp only [Bool.and_eq_true, decide_eq_true_eq]
        omega
      have hlen : (xs.set c (mxs (gx x f c) k)).length = cap + 1 := by simpa using hxs
      refine ⟨min M (c / S) + 1 - (k + 1), (((k + 1 : Nat) : Int), xs.set c (mxs (gx x f c) (k + 1))), by omega, ⟨k + 1, rfl, rfl, by omega, rfl⟩, fun nx => ?_⟩
      unfold m32_L13
      simp only []
      rw [if_pos hcond, getIdx_at (k := i) rfl hil]
      simp only [Option.bind_some]
      rw [asrt_pos (by rw [hlen, hl4]), asrt_pos (by rw [hlen, hl4])]
      have hcur : (xs.set c (mxs (gx x f c) k))[c]? = some (mxs (gx x f c) k) := List.getElem?_set_self (by omega)
      rw [getIdx_q (k := c) rfl hcur]
      simp only [Option.bind_some]
      rw [wrap64 (x := (i : Int) + 1) (by omega) (by omega), getIdx_q (i := (i : Int) + 1) (k := i + 1) (by omega) hrow]
      simp only [Option.bind_some]
      rw [asrt_pos (by omega), asrt_pos (by omega), e1, wrap64 (x := (c : Int) - ((k * S : Nat) : Int)) (by omega) (by omega), getIdx_q (i := (c : Int) - ((k * S : Nat) : Int)) (k := c - k * S) (by omega) (row_at (by omega))]
      simp only [Option.bind_some]
      rw [hSn] at hg
      rw [hg, iteMax, setIdx_at (k := c) rfl (by omega), List.set_set]
      simp only [Option.bind_some, letM_eq]
      rw [wrap64 (x := (k : Int) + 1) (by omega) (by omega)]
      rfl
    · right
      have hke : k = min M (c / S) + 1 := by omega
      have hkS : ¬ (k ≤ M ∧ k * S ≤ c) := by
        rintro ⟨g1, g2⟩
        have := (Nat.le_div_iff_mul_le (show 0 < S by omega)).2 g2
        omega
      have hdl : c / S ≤ 4000 := Nat.le_trans (Nat.div_le_self _ _) (by omega)
      have hkb : k * S ≤ 4001 * 4000 := Nat.mul_le_mul (by omega) hS4
      refine ⟨_, ?_, fun nx => by
        have e1 : IntKind.wrap .i64 ((k : Int) * x.Size) = ((k * S : Nat) : Int) := by
          rw [hS, show ((k : Int) * (S : Int)) = ((k * S : Nat) : Int) by simp, wrap64 (by omega) (by omega)]
        have hcond : ¬ ((decide ((k : Int) ≤ x.Most)) && (decide ((IntKind.wrap .i64 ((k : Int) * x.Size)) ≤ (c : Int)))) = true := by
          rw [e1, hM]
          simp only [Bool.and_eq_true, decide_eq_true_eq]
          omega
        unfold m32_L13
        simp only []
        rw [if_neg hcond]⟩
      rw [hke, mxs_mx]
      · unfold W
        rw [hMn, hSn]
        have : gx x f c = fun n : Nat => (n : Int) * x.Value + f (c - n * S) := by funext n; unfold gx; rw [hSn]
        rw [this]
      · have := (gx_ok (n := 0) hx hf hcap hc (by simp)).2.2
        exact this
  · simp only [mxs]
    apply List.ext_getElem?
    intro p
    by_cases hp : p = c
    · subst hp; rw [List.getElem?_set_self (by omega), h0]
    · rw [List.getElem?_set_ne (by omega)]
  · have hdl : c / S ≤ 4000 := Nat.le_trans (Nat.div_le_self _ _) (by omega)
    omega

theorem m32_L12_val {n cap i : Nat} {x : R27} {f : Nat → Int} {rows : List (List Int)} {l4 : List Int} (hx : okI x) (hf : bdd f cap) (hcap : cap ≤ 4000) (hi : i ≤ 1000) (hrow : rows[i + 1]? = some (row f cap)) (hl4 : l4.length = cap + 1)
    (hil : i < rows.length) (kk : List Int → Option (List (List Int))) (hn : 4010 < n) :
    loopM (m32_L12 n (cap : Int) ((i : Int), rows) x l4 kk) n ((0 : Int), List.replicate (cap + 1) 0) = kk (row (W x f) cap) := by
  refine loopM_ind (body := m32_L12 n (cap : Int) ((i : Int), rows) x l4 kk)
    (fun q st => ∃ c : Nat, st.1 = (c : Int) ∧ q = cap + 1 - c ∧ c ≤ cap + 1 ∧ st.2.length = cap + 1 ∧ (∀ p, p < c → st.2[p]? = some (W x f p)) ∧ ∀ p, c ≤ p → p ≤ cap → st.2[p]? = some 0)
    (fun oo => oo = kk (row (W x f) cap)) (fun q st => ?_) n (cap + 1) _ ⟨0, rfl, rfl, Nat.zero_le _, by simp, fun p h => absurd h (Nat.not_lt_zero _), fun p _ hp => by rw [List.getElem?_replicate, if_pos (by omega)]⟩ (by omega)
  rintro ⟨c, h1, hq, hc, hl, hd, hz⟩
  obtain ⟨c0, xs⟩ := st
  simp only at h1 hl hd hz
  subst h1
  by_cases hlt : c ≤ cap
  · left
    have hcond : (decide ((c : Int) ≤ (cap : Int))) = true := by simpa using hlt
    refine ⟨cap + 1 - (c + 1), (((c + 1 : Nat) : Int), xs.set c (W x f c)), by omega, ⟨c + 1, rfl, rfl, by omega, by simpa using hl, fun p hp => ?_, fun p hp hp2 => ?_⟩, fun nx => ?_⟩
    · by_cases hpc : p = c
      · subst hpc; rw [List.getElem?_set_self (by omega)]
      · rw [List.getElem?_set_ne (by omega)]; exact hd p (by omega)
    · rw [List.getElem?_set_ne (by omega)]; exact hz p (by omega) hp2
    · unfold m32_L12
      rw [if_pos hcond, jn, m32_L13_val hx hf hcap hlt hi hrow hl4 hil _ hl (hz c (Nat.le_refl _) hlt) hn]
      simp only [letM_eq]
      rw [wrap64 (by omega) (by omega)]
      rfl
  · right
    refine ⟨_, ?_, fun nx => by
      have hcond : ¬ (decide ((c : Int) ≤ (cap : Int))) = true := by simpa using hlt
      unfold m32_L12
      rw [if_neg hcond]⟩
    congr 1
    exact ext_at hl fun p hp => hd p (by omega)

theorem m32_val {n cap : Nat} {l : List R27} (hl : okL l) (hcap : cap ≤ 4000) (hlen : l.length ≤ 1000) (hn : 4010 < n) : m32 n l (cap : Int) = some (tab l cap) := by
  unfold m32
  rw [wrap64 (x := (l.length : Int) + 1) (by omega) (by omega), wrap64 (x := (cap : Int) + 1) (by omega) (by omega), mk_val (k := l.length + 1) (by omega) (by omega) (by omega)]
  simp only [Option.bind_some]
  rw [mk_val (k := cap + 1) (by omega) (by omega) (by omega)]
  simp only [Option.bind_some]
  rw [getIdx_at (k := l.length) rfl (by simp)]
  simp only [Option.bind_some]
  rw [setIdx_at (k := l.length) rfl (by simp)]
  simp only [Option.bind_some, letM_eq, jn]
  rw [wrap64 (by omega) (by omega)]
  refine loopM_ind (body := m32_L9 n l (cap : Int) fun p => some p)
    (fun k st => ∃ i : Nat, st.1 = (i : Int) - 1 ∧ k = i ∧ i ≤ l.length ∧ st.2.length = l.length + 1 ∧ ∀ j, i ≤ j → j ≤ l.length → st.2[j]? = some (row (T (l.drop j)) cap))
    (fun o => o = some (tab l cap)) (fun k st => ?_) n l.length _ ⟨l.length, rfl, rfl, Nat.le_refl _, by simp, fun j h1 h2 => ?_⟩ (by omega)
  · rintro ⟨i, h1, rfl, hi, hle, hd⟩
    obtain ⟨i0, rows⟩ := st
    simp only at h1 hle hd
    subst h1
    cases k with
    | zero =>
      right
      refine ⟨_, ?_, fun nx => by
        have hcond : ¬ (decide ((0 : Int) ≤ ((0 : Nat) : Int) - 1)) = true := by decide
        unfold m32_L9
        rw [if_neg hcond]⟩
      congr 1
      exact ext_at hle fun p hp => hd p (Nat.zero_le _) (by omega)
    | succ i =>
      left
      have e0 : (((i + 1 : Nat) : Int) - 1) = (i : Int) := by omega
      have hil : i < l.length := by omega
      have hdrop : l.drop i = l[i] :: l.drop (i + 1) := List.drop_eq_getElem_cons hil
      have hok : okI l[i] := hl _ (List.getElem_mem hil)
      refine ⟨i, ((i : Int) - 1, rows.set i (row (T (l.drop i)) cap)), by omega, ⟨i, rfl, rfl, by omega, by simpa using hle, fun j h1 h2 => ?_⟩, fun nx => ?_⟩
      · by_cases hj : j = i
        · subst hj
          rw [List.getElem?_set_self (by omega)]
        · rw [List.getElem?_set_ne (by omega)]
          exact hd j (by omega) h2
      · unfold m32_L9
        simp only [e0]
        have hcond : (decide ((0 : Int) ≤ (i : Int))) = true := by simp
        rw [if_pos hcond, getIdx_at (k := i) rfl hil]
        simp only [Option.bind_some]
        rw [wrap64 (x := (cap : Int) + 1) (by omega) (by omega), mk_val (k := cap + 1) (by omega) (by omega) (by omega)]
        simp only [Option.bind_some]
        rw [getIdx_at (k := i) rfl (by omega)]
        simp only [Option.bind_some, jn]
        rw [m32_L12_val hok (T_bdd (okL_drop hl (i + 1)) hcap) hcap (by omega) (hd (i + 1) (Nat.le_refl _) (by omega)) (by simp) (by omega) _ hn]
        rw [asrt_pos (by rw [row_len]; simp), setIdx_at (k := i) rfl (by omega)]
        simp only [Option.bind_some, letM_eq]
        rw [wrap64 (by omega) (by omega), hdrop]
        rfl
  · have : j = l.length := by omega
    subst this
    rw [List.getElem?_set_self (by simp), row_zero, List.drop_length]
    rfl
end Go.AB

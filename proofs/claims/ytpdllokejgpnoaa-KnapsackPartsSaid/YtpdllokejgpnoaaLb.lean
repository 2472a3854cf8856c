import Derived.Test.YtpdllokejgpnoaaLa
set_option linter.unusedVariables false
namespace Go.AB
open Go

theorem m39_val {n cap : Nat} {x : R27} {f : Nat → Int} (hx : okI x) (hf : bdd f cap) (hcap : cap ≤ 4000) (hn : cap + 2 < n) (hn2 : 4001 < n) : m39 n x (row f cap) = some (row (W x f) cap) := by
  obtain ⟨s1, s2, v1, v2, w1, w2⟩ := hx
  obtain ⟨S, hS⟩ : ∃ S : Nat, x.Size = (S : Int) := ⟨x.Size.toNat, by omega⟩
  unfold m39
  rw [mk_val (k := cap + 1) (by rw [row_len]) (by rw [row_len]) (by omega)]
  simp only [Option.bind_some, letM_eq, jn]
  have ht : (if ((row f cap).length : Int) < x.Size then ((row f cap).length : Int) else x.Size) = ((min S (cap + 1) : Nat) : Int) := by
    rw [row_len, hS]; split <;> omega
  rw [ht]
  refine loopM_ind (body := m39_L9 n x (row f cap) ((min S (cap + 1) : Nat) : Int) fun p => some p)
    (fun i st => ∃ r : Nat, st.1 = (r : Int) ∧ i = min S (cap + 1) - r ∧ r ≤ min S (cap + 1) ∧ st.2.length = cap + 1 ∧ ∀ p, p ≤ cap → p % S < r → st.2[p]? = some (W x f p))
    (fun o => o = some (row (W x f) cap)) (fun i st => ?_) n (min S (cap + 1)) (0, List.replicate (cap + 1) 0) ⟨0, rfl, rfl, Nat.zero_le _, by simp, fun p _ h => absurd h (Nat.not_lt_zero _)⟩ (by omega)
  rintro ⟨r, h1, hi, hr, hl, hd⟩
  obtain ⟨r0, out⟩ := st
  simp only at h1 hl hd
  subst h1
  by_cases hlt : r < min S (cap + 1)
  · left
    have hcond : (decide ((r : Int) < ((min S (cap + 1) : Nat) : Int))) = true := by simpa using hlt
    have hL := fun kk => L12 (n := n) (f := f) (cap := cap) (r := r) (S := S) (V := x.Value) (x := x) (o := out) ⟨hS, rfl⟩ ⟨w1, w2⟩ hf hcap (by omega) (by omega) (by omega) ⟨v1, v2⟩ kk (out0 := out) hl hn
    obtain ⟨out1, g1, g2, g3, _⟩ := hL (fun _ => none)
    have huniq : ∀ kk, loopM (m39_L12 n x (row f cap) ((r : Int), out) kk) n ((0 : Int), out, ([] : List Int)) = kk out1 := by
      intro kk
      obtain ⟨out2, q1, q2, q3, q4⟩ := hL kk
      have : out2 = out1 := by
        apply List.ext_getElem?
        intro p
        by_cases hp : p ≤ cap
        · by_cases hm : p % S = r
          · rw [q2 p hp hm, g2 p hp hm]
          · rw [q3 p hm, g3 p hm]
        · rw [List.getElem?_eq_none (by omega), List.getElem?_eq_none (by omega)]
      rw [q4, this]
    refine ⟨min S (cap + 1) - (r + 1), (((r + 1 : Nat) : Int), out1), by omega, ⟨r + 1, rfl, rfl, by omega, g1, fun p hp hpm => ?_⟩, fun nx => ?_⟩
    · by_cases hm : p % S = r
      · exact g2 p hp hm
      · rw [g3 p hm]
        exact hd p hp (by omega)
    · unfold m39_L9
      rw [hcond, if_pos rfl, jn, huniq]
      simp only [letM_eq]
      rw [wrap64 (by omega) (by omega)]
      rfl
  · right
    refine ⟨_, ?_, fun nx => by
      have hcond : ¬ (decide ((r : Int) < ((min S (cap + 1) : Nat) : Int))) = true := by simpa using hlt
      unfold m39_L9
      rw [if_neg hcond]⟩
    congr 1
    refine ext_at hl fun p hp => ?_
    refine hd p (by omega) ?_
    have h3 : p % S < S := Nat.mod_lt _ (by omega)
    have h4 : p % S ≤ p := Nat.mod_le _ _
    omega

/-- the best value of the items from one on -/
def T : List R27 → Nat → Int
  | [], _ => 0
  | x :: l, c => W x (T l) c

def okL (l : List R27) : Prop := ∀ x, x ∈ l → okI x
theorem T_bound {l : List R27} (h : okL l) : ∀ c, 0 ≤ T l c ∧ T l c ≤ (c : Int) * 1073741824 := by
  induction l with
  | nil => intro c; exact ⟨Int.le_refl _, by simp only [T]; omega⟩
  | cons x l ih =>
    intro c
    have ih' := ih fun y hy => h y (List.mem_cons_of_mem _ hy)
    obtain ⟨s1, s2, v1, v2, w1, w2⟩ := h x (by simp)
    refine ⟨?_, mx_le fun i hi => ?_⟩
    · refine Int.le_trans ?_ (le_mx (g := fun n => (n : Int) * x.Value + T l (c - n * x.Size.toNat)) (Nat.zero_le _))
      have := (ih' (c - 0 * x.Size.toNat)).1
      simp only [Int.natCast_zero, Int.zero_mul, Int.zero_add]
      exact this
    · have h1 : i ≤ c / x.Size.toNat := by omega
      have h2 : i * x.Size.toNat ≤ c := by
        rw [Nat.le_div_iff_mul_le (by omega)] at h1
        exact h1
      have h3 := (ih' (c - i * x.Size.toNat)).2
      have h4 : i ≤ i * x.Size.toNat := by
        have := Nat.mul_le_mul (Nat.le_refl i) (show 1 ≤ x.Size.toNat by omega)
        omega
      have h5 := (mulB (a := (i : Int)) (A := (i : Int)) (by omega) (Int.le_refl _) v1 v2).2
      have h6 : ((c - i * x.Size.toNat : Nat) : Int) ≤ (c : Int) - i := by omega
      have h7 : ((c - i * x.Size.toNat : Nat) : Int) * 1073741824 ≤ ((c : Int) - i) * 1073741824 := Int.mul_le_mul_of_nonneg_right h6 (by decide)
      omega
theorem T_bdd {l : List R27} (h : okL l) {cap : Nat} (hcap : cap ≤ 4000) : bdd (T l) cap := fun c hc => by
  obtain ⟨h1, h2⟩ := T_bound h c
  omega

/-- the table of all best values -/
def tab (l : List R27) (cap : Nat) : List (List Int) := (List.range (l.length + 1)).map fun i => row (T (l.drop i)) cap
theorem tab_len (l : List R27) (cap : Nat) : (tab l cap).length = l.length + 1 := by simp [tab]
theorem tab_at {l : List R27} {cap i : Nat} (h : i ≤ l.length) : (tab l cap)[i]? = some (row (T (l.drop i)) cap) := by
  unfold tab
  rw [List.getElem?_map, List.getElem?_range (by omega)]; rfl
theorem row_zero (cap : Nat) : List.replicate (cap + 1) (0 : Int) = row (fun _ => 0) cap := by
  unfold row
  exact ext_at (by simp) fun i hi => by rw [List.getElem?_replicate, if_pos hi]
theorem okL_drop {l : List R27} (h : okL l) (i : Nat) : okL (l.drop i) := fun x hx => h x (List.mem_of_mem_drop hx)

theorem m31_val {n cap : Nat} {l : List R27} (hl : okL l) (hcap : cap ≤ 4000) (hlen : l.length ≤ 1000) (hn : 4010 < n) : m31 n l (cap : Int) = some (tab l cap) := by
  unfold m31
  rw [wrap64 (x := (l.length : Int) + 1) (by omega) (by omega), wrap64 (x := (cap : Int) + 1) (by omega) (by omega), mk_val (k := l.length + 1) (by omega) (by omega) (by omega)]
  simp only [Option.bind_some]
  rw [mk_val (k := cap + 1) (by omega) (by omega) (by omega)]
  simp only [Option.bind_some]
  rw [getIdx_at (k := l.length) rfl (by simp)]
  simp only [Option.bind_some]
  rw [setIdx_at (k := l.length) rfl (by simp)]
  simp only [Option.bind_some, letM_eq, jn]
  rw [wrap64 (by omega) (by omega)]
  refine loopM_ind (body := m31_L1 n l fun p => some p)
    (fun k st => ∃ i : Nat, st.1 = (i : Int) - 1 ∧ k = i ∧ i ≤ l.length ∧ st.2.length = l.length + 1 ∧ ∀ j, i ≤ j → j ≤ l.length → st.2[j]? = some (row (T (l.drop j)) cap))
    (fun o => o = some (tab l cap)) (fun k st => ?_) n l.length _ ⟨l.length, rfl, rfl, Nat.le_refl _, by simp, fun j h1 h2 => ?_⟩ (by omega)
  · rintro ⟨i, h1, rfl, hi, hle, hd⟩
    obtain ⟨i0, rows⟩ := st
    simp only at h1 hle hd
    subst h1
    cases k with
    | zero =>
      right
      refine ⟨_, ?_, fun nx => by
        have hcond : ¬ (decide ((0 : Int) ≤ ((0 : Nat) : Int) - 1)) = true := by decide
        unfold m31_L1
        rw [if_neg hcond]⟩
      congr 1
      exact ext_at hle fun p hp => hd p (Nat.zero_le _) (by omega)
    | succ i =>
      left
      have e0 : (((i + 1 : Nat) : Int) - 1) = (i : Int) := by omega
      have hil : i < l.length := by omega
      have hdrop : l.drop i = l[i] :: l.drop (i + 1) := List.drop_eq_getElem_cons hil
      have hok : okI l[i] := hl _ (List.getElem_mem hil)
      have hm := m39_val (n := n) hok (T_bdd (okL_drop hl (i + 1)) hcap) hcap (by omega) (by omega)
      refine ⟨i, ((i : Int) - 1, rows.set i (row (T (l.drop i)) cap)), by omega, ⟨i, rfl, rfl, by omega, by simpa using hle, fun j h1 h2 => ?_⟩, fun nx => ?_⟩
      · by_cases hj : j = i
        · subst hj
          rw [List.getElem?_set_self (by omega)]
        · rw [List.getElem?_set_ne (by omega)]
          exact hd j (by omega) h2
      · unfold m31_L1
        simp only [e0]
        have hcond : (decide ((0 : Int) ≤ (i : Int))) = true := by simp
        rw [if_pos hcond, getIdx_at (k := i) rfl hil]
        simp only [Option.bind_some]
        rw [wrap64 (x := (i : Int) + 1) (by omega) (by omega), getIdx_q (i := (i : Int) + 1) (k := i + 1) (by omega) (hd (i + 1) (Nat.le_refl _) (by omega))]
        simp only [Option.bind_some]
        rw [show R27.mk l[i].Size l[i].Value l[i].Most = l[i] from rfl, hm]
        simp only [Option.bind_some]
        rw [getIdx_at (k := i) rfl (by omega)]
        simp only [Option.bind_some]
        rw [setIdx_at (k := i) rfl (by omega)]
        simp only [Option.bind_some, letM_eq]
        rw [wrap64 (by omega) (by omega), hdrop]
        rfl
  · have : j = l.length := by omega
    subst this
    rw [List.getElem?_set_self (by simp), row_zero, List.drop_length]
    rfl
end Go.AB

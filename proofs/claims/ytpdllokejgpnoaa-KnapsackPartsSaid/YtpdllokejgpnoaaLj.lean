import Derived.Test.YtpdllokejgpnoaaLg
set_option linter.unusedVariables false
namespace Go.AB
open Go

def bigX (m : Nat) (x : R27) : R27 := { x with Size := x.Size * (m : Int) }
def dearX (m : Nat) (x : R27) : R27 := { x with Value := x.Value * (m : Int) }

theorem T_big {m : Nat} (hm : 1 ≤ m) : ∀ (l : List R27) (c : Nat), okL l → T (l.map (bigX m)) (c * m) = T l c ∧ sol (l.map (bigX m)) (c * m) = sol l c
  | [], c, _ => ⟨rfl, rfl⟩
  | x :: l, c, hl => by
    have ih := fun c => T_big hm l c fun y hy => hl y (List.mem_cons_of_mem _ hy)
    obtain ⟨S, hS, hSn, hS1, hS4⟩ := size_nat (hl x (by simp))
    have hSb : (bigX m x).Size.toNat = S * m := by
      show (x.Size * (m : Int)).toNat = S * m
      rw [hS, show (S : Int) * (m : Int) = ((S * m : Nat) : Int) by simp]
      exact Int.toNat_natCast _
    have hg : gx (bigX m x) (T (l.map (bigX m))) (c * m) = gx x (T l) c := by
      funext n
      unfold gx
      rw [hSb, hSn, show c * m - n * (S * m) = (c - n * S) * m by rw [Nat.sub_mul, Nat.mul_assoc], (ih _).1]
      rfl
    have hd : c * m / (S * m) = c / S := Nat.mul_div_mul_right _ _ (by omega)
    have hW : W (bigX m x) (T (l.map (bigX m))) (c * m) = W x (T l) c := by
      show mx (gx (bigX m x) (T (l.map (bigX m))) (c * m)) (min x.Most.toNat (c * m / (bigX m x).Size.toNat)) = mx (gx x (T l) c) (min x.Most.toNat (c / x.Size.toNat))
      rw [hg, hSb, hd, hSn]
    have hc : ch (bigX m x) (T (l.map (bigX m))) (c * m) = ch x (T l) c := by
      unfold ch
      rw [hg, hW, hSb, hd, hSn]
      rfl
    refine ⟨hW, ?_⟩
    rw [List.map_cons, sol, sol, hc, hSb, hSn, show c * m - ch x (T l) c * (S * m) = (c - ch x (T l) c * S) * m by rw [Nat.sub_mul, Nat.mul_assoc], (ih _).2]

theorem mx_mul {g : Nat → Int} {m : Nat} (hm : 1 ≤ m) (k : Nat) : mx (fun n => (m : Int) * g n) k = (m : Int) * mx g k := by
  obtain ⟨i, hi, e⟩ := mx_ex (g := g) k
  refine mx_eq hi (by rw [e]) fun j hj => ?_
  exact Int.mul_le_mul_of_nonneg_left (le_mx hj) (by omega)
theorem lastEq_mul {g : Nat → Int} {m : Nat} {v : Int} (hm : 1 ≤ m) : ∀ k, lastEq (fun n => (m : Int) * g n) ((m : Int) * v) k = lastEq g v k
  | 0 => rfl
  | k + 1 => by
    rw [lastEq, lastEq, lastEq_mul hm k]
    by_cases h : g (k + 1) = v
    · rw [if_pos (by rw [h]), if_pos h]
    · rw [if_neg (fun h2 => h (Int.eq_of_mul_eq_mul_left (by omega) h2)), if_neg h]
theorem T_dear {m : Nat} (hm : 1 ≤ m) : ∀ (l : List R27) (c : Nat), T (l.map (dearX m)) c = (m : Int) * T l c ∧ sol (l.map (dearX m)) c = sol l c
  | [], c => ⟨by simp [T], rfl⟩
  | x :: l, c => by
    have ih := fun c => T_dear hm l c
    have hg : gx (dearX m x) (T (l.map (dearX m))) c = fun n => (m : Int) * gx x (T l) c n := by
      funext n
      unfold gx
      show (n : Int) * (x.Value * (m : Int)) + T (l.map (dearX m)) (c - n * x.Size.toNat) = _
      rw [(ih _).1, Int.mul_add, ← Int.mul_assoc, Int.mul_comm ((n : Int) * x.Value)]
    have hW : W (dearX m x) (T (l.map (dearX m))) c = (m : Int) * W x (T l) c := by
      show mx (gx (dearX m x) (T (l.map (dearX m))) c) (min x.Most.toNat (c / x.Size.toNat)) = (m : Int) * mx (gx x (T l) c) (min x.Most.toNat (c / x.Size.toNat))
      rw [hg, mx_mul hm]
    have hc : ch (dearX m x) (T (l.map (dearX m))) c = ch x (T l) c := by
      unfold ch
      rw [hg, hW, lastEq_mul hm]
      rfl
    refine ⟨hW, ?_⟩
    rw [List.map_cons, sol, sol, hc]
    show _ :: sol (l.map (dearX m)) (c - ch x (T l) c * x.Size.toNat) = _
    rw [(ih _).2]

theorem m3_L1_val {l : List R27} {m : Nat} (hl : okL l) (hlen : l.length ≤ 1000) (hm : m ≤ 9) (kk : (List R27 × List R27) → Option Bool) : loopM (m3_L1 5000 l (m : Int) kk) 5000 ((0 : Int), l, l) = kk (l.map (bigX m), l.map (dearX m)) := by
  refine loopM_ind (body := m3_L1 5000 l (m : Int) kk) (fun q st => ∃ i : Nat, st = ((i : Int), (l.take i).map (bigX m) ++ l.drop i, (l.take i).map (dearX m) ++ l.drop i) ∧ q = l.length - i ∧ i ≤ l.length)
    (fun o => o = kk (l.map (bigX m), l.map (dearX m))) (fun q st => ?_) 5000 l.length _ ⟨0, by simp, rfl, Nat.zero_le _⟩ (by omega)
  rintro ⟨i, rfl, rfl, hi⟩
  by_cases hlt : i < l.length
  · left
    have hcond : (decide ((i : Int) < (l.length : Int))) = true := by simpa using hlt
    obtain ⟨s1, s2, v1, v2, w1, w2⟩ := hl _ (List.getElem_mem hlt)
    have hml : ∀ f : R27 → R27, ((l.take i).map f).length = i := fun f => by simp; omega
    have hg : ∀ f : R27 → R27, ((l.take i).map f ++ l.drop i)[i]? = some l[i] := fun f => by
      rw [List.getElem?_append_right (by rw [hml]; exact Nat.le_refl _), hml, Nat.sub_self, List.drop_eq_getElem_cons hlt]; rfl
    have hlen2 : ∀ f : R27 → R27, i < ((l.take i).map f ++ l.drop i).length := fun f => by simp; omega
    have hset : ∀ f : R27 → R27, ((l.take i).map f ++ l.drop i).set i (f l[i]) = (l.take (i + 1)).map f ++ l.drop (i + 1) := fun f => by
      rw [List.set_append_right _ _ (by rw [hml]; exact Nat.le_refl _), hml, Nat.sub_self, List.drop_eq_getElem_cons hlt, List.set_cons_zero, List.take_succ_eq_append_getElem hlt, List.map_append, List.append_assoc]
      rfl
    have hm1 := mulB (a := l[i].Size) (b := (m : Int)) (A := 4000) (B := 9) (by omega) s2 (by omega) (by omega)
    have hm2 := mulB (a := l[i].Value) (b := (m : Int)) (A := 1073741824) (B := 9) v1 v2 (by omega) (by omega)
    refine ⟨l.length - (i + 1), (((i + 1 : Nat) : Int), (l.take (i + 1)).map (bigX m) ++ l.drop (i + 1), (l.take (i + 1)).map (dearX m) ++ l.drop (i + 1)), by omega, ⟨i + 1, rfl, rfl, by omega⟩, fun nx => ?_⟩
    unfold m3_L1
    simp only []
    rw [if_pos hcond, getIdx_q (k := i) rfl (hg (bigX m))]
    simp only [Option.bind_some]
    rw [wrap64 (x := l[i].Size * (m : Int)) (by omega) (by omega), show ({ l[i] with Size := l[i].Size * (m : Int) } : R27) = bigX m l[i] from rfl, setIdx_at (k := i) rfl (hlen2 _), hset]
    simp only [Option.bind_some]
    rw [getIdx_q (k := i) rfl (hg (dearX m))]
    simp only [Option.bind_some]
    rw [wrap64 (x := l[i].Value * (m : Int)) (by omega) (by omega), show ({ l[i] with Value := l[i].Value * (m : Int) } : R27) = dearX m l[i] from rfl, setIdx_at (k := i) rfl (hlen2 _), hset]
    simp only [Option.bind_some, letM_eq]
    rw [wrap64 (by omega) (by omega)]
    rfl
  · right
    refine ⟨_, ?_, fun nx => by
      have hcond : ¬ (decide ((i : Int) < (l.length : Int))) = true := by simpa using hlt
      unfold m3_L1
      simp only []
      rw [if_neg hcond]⟩
    rw [List.take_of_length_le (by omega), List.drop_of_length_le (by omega), List.append_nil, List.append_nil]

theorem m3_true (l : List R27) (c a2 : Int) (h2 : (Lit.int .u8 a2).wf = true) : m3 5000 l c a2 = some true := by
  have hu : 0 ≤ a2 ∧ a2 < 256 := by
    simp [Lit.wf, IntKind.min, IntKind.max, IntKind.signed, IntKind.bits] at h2
    omega
  clear h2
  obtain ⟨u, rfl⟩ : ∃ u : Nat, a2 = (u : Int) := ⟨a2.toNat, by omega⟩
  unfold m3
  rw [m11_true]
  simp only [Option.bind_some, Bool.not_true, Bool.not_false, Bool.false_or, gdO_true, m12_val]
  cases hf : fewB l c with
  | false => simp [gdO]
  | true =>
    obtain ⟨h30, hfew⟩ := fewB_ok hf
    have h13 := m13_val (n := 5000) (l := l) (c := c) (by omega) (by omega)
    simp only [Bool.not_true, Bool.not_false, gdO_true, h13, Option.bind_some, Bool.false_or]
    cases hv : vldB l c with
    | false => simp
    | true =>
      obtain ⟨hl, _, cap, rfl, hcap⟩ := vldB_ok hv
      obtain ⟨h8, h200⟩ := hfew hv
      simp only [Bool.not_true, Bool.false_eq_true, if_false, m14o_val (l := l) (by omega), Option.bind_some, letM_eq]
      have hmN : IntKind.wrap .i64 ((1 : Int) + ((IntKind.wrap .i64 (u : Int)).tmod (9 : Int))) = ((1 + u % 9 : Nat) : Int) := by
        rw [wrap64 (x := (u : Int)) (by omega) (by omega), show (9 : Int) = ((9 : Nat) : Int) from rfl, tmod_nat, wrap64 (by omega) (by omega)]
        omega
      rw [hmN]
      have hm1 : 1 ≤ 1 + u % 9 := by omega
      have hm9 : 1 + u % 9 ≤ 9 := by omega
      generalize 1 + u % 9 = m at hm1 hm9
      rw [jn, m3_L1_val hl (by omega) hm9]
      have hcm : cap * m ≤ 200 * 9 := Nat.mul_le_mul (by omega) hm9
      have hwc : IntKind.wrap .i64 ((cap : Int) * (m : Int)) = ((cap * m : Nat) : Int) := by
        rw [show (cap : Int) * (m : Int) = ((cap * m : Nat) : Int) by simp, wrap64 (by omega) (by omega)]
      simp only [hwc]
      rw [m15_val (l := l.map (bigX m)) (by simp; omega) (by omega), m15_val (l := l.map (dearX m)) (by simp; omega) (by omega)]
      simp only [Option.bind_some]
      cases hb : vldB (l.map (bigX m)) ((cap * m : Nat) : Int) with
      | false => simp [gdO]
      | true =>
        cases hd : vldB (l.map (dearX m)) (cap : Int) with
        | false => simp [gdO]
        | true =>
          obtain ⟨hlb, _, capb, hcb, hcapb⟩ := vldB_ok hb
          obtain ⟨hld, _⟩ := vldB_ok hd
          simp only [Bool.not_true, Bool.not_false, gdO_true, Option.bind_some, Bool.or_self, Bool.false_eq_true, if_false]
          rw [m16_val hl hcap (by omega) (by omega), m16_val hlb (by omega) (by simp; omega) (by omega), m16_val hld hcap (by simp; omega) (by omega), (T_big hm1 l cap hl).1, (T_big hm1 l cap hl).2, (T_dear hm1 l cap).1, (T_dear hm1 l cap).2]
          obtain ⟨t1, t2⟩ := T_bound hl cap
          have hmt := mulB (a := (m : Int)) (b := T l cap) (A := 9) (B := 4000 * 1073741824) (by omega) (by omega) t1 (by omega)
          have hs : (casts (sol l cap)).length ≤ 4500 := by rw [casts_len, sol_len]; omega
          simp [wrap64 (x := (m : Int) * T l cap) (by omega) (by omega), gdO, m17_val (n := 5000) hs (by omega)]

theorem sz_set : ∀ {l : List R27} {s : List Nat} {k : Nat} {x : R27} {n n' : Nat}, l[k]? = some x → s[k]? = some n → sz l (s.set k n') + n * x.Size.toNat = sz l s + n' * x.Size.toNat
  | [], s, k, x, n, n', h, _ => by simp at h
  | y :: l, [], k, x, n, n', _, h => by simp at h
  | y :: l, m :: s, 0, x, n, n', h1, h2 => by
    simp at h1 h2
    subst h1 h2
    simp only [List.set_cons_zero, sz]
    omega
  | y :: l, m :: s, k + 1, x, n, n', h1, h2 => by
    have := sz_set (l := l) (s := s) (k := k) (n' := n') (by simpa using h1) (by simpa using h2)
    simp only [List.set_cons_succ, sz]
    omega
theorem vl_set : ∀ {l : List R27} {s : List Nat} {k : Nat} {x : R27} {n n' : Nat}, l[k]? = some x → s[k]? = some n → vl l (s.set k n') + (n : Int) * x.Value = vl l s + (n' : Int) * x.Value
  | [], s, k, x, n, n', h, _ => by simp at h
  | y :: l, [], k, x, n, n', _, h => by simp at h
  | y :: l, m :: s, 0, x, n, n', h1, h2 => by
    simp at h1 h2
    subst h1 h2
    simp only [List.set_cons_zero, vl]
    omega
  | y :: l, m :: s, k + 1, x, n, n', h1, h2 => by
    have := vl_set (l := l) (s := s) (k := k) (n' := n') (by simpa using h1) (by simpa using h2)
    simp only [List.set_cons_succ, vl]
    omega
theorem sz_less : ∀ {l : List R27} {k : Nat} {x x' : R27} (s : List Nat), l[k]? = some x → x'.Size = x.Size → x'.Value = x.Value → sz (l.set k x') s = sz l s ∧ vl (l.set k x') s = vl l s
  | [], k, x, x', s, h, _, _ => by simp at h
  | y :: l, 0, x, x', [], h, h1, h2 => by simp [sz, vl]
  | y :: l, k + 1, x, x', [], h, h1, h2 => by simp [sz, vl]
  | y :: l, 0, x, x', m :: s, h, h1, h2 => by
    simp at h
    subst h
    simp [sz, vl, h1, h2]
  | y :: l, k + 1, x, x', m :: s, h, h1, h2 => by
    have := sz_less (l := l) (k := k) s (by simpa using h) h1 h2
    simp [sz, vl, this.1, this.2]

theorem T_less {l : List R27} {cap k n : Nat} {x : R27} (hl : okL l) (hx : l[k]? = some x) (hn : (sol l cap)[k]? = some n) (h1 : 1 ≤ n) :
    T (l.set k { x with Most := x.Most - 1 }) (cap - x.Size.toNat) = T l cap - x.Value ∧ x.Size.toNat ≤ cap ∧ okL (l.set k { x with Most := x.Most - 1 }) := by
  have hxo : okI x := hl x (List.mem_of_getElem? hx)
  obtain ⟨s1, s2, v1, v2, w1, w2⟩ := hxo
  obtain ⟨a1, a2, a3⟩ := fea_iff.1 (fea_sol (c := cap) hl)
  have hnM := a2 k x n hx hn
  have hok : okL (l.set k { x with Most := x.Most - 1 }) := fun y hy => by
    rcases List.mem_or_eq_of_mem_set hy with h | h
    · exact hl y h
    · subst h
      exact ⟨s1, s2, v1, v2, by show 0 ≤ x.Most - 1; omega, by show x.Most - 1 ≤ 1000; omega⟩
  have hles := fun s => sz_less (x' := { x with Most := x.Most - 1 }) s hx rfl rfl
  have hkl : k < l.length := (List.getElem?_eq_some_iff.1 hx).1
  have e1 := sz_set (n' := n - 1) hx hn
  have e2 := vl_set (n' := n - 1) hx hn
  have en : n * x.Size.toNat = (n - 1) * x.Size.toNat + x.Size.toNat := by
    obtain ⟨d, rfl⟩ : ∃ d, n = d + 1 := ⟨n - 1, by omega⟩
    rw [Nat.add_sub_cancel, Nat.add_mul, Nat.one_mul]
  have env : (n : Int) * x.Value = ((n - 1 : Nat) : Int) * x.Value + x.Value := by
    obtain ⟨d, rfl⟩ : ∃ d, n = d + 1 := ⟨n - 1, by omega⟩
    rw [Nat.add_sub_cancel, Int.natCast_add, Int.add_mul]
    omega
  have hge : T l cap - x.Value ≤ T (l.set k { x with Most := x.Most - 1 }) (cap - x.Size.toNat) := by
    have hf : fea (l.set k { x with Most := x.Most - 1 }) ((sol l cap).set k (n - 1)) (cap - x.Size.toNat) := by
      rw [fea_iff, (hles _).1]
      refine ⟨by simp [a1], fun i y m hy hm => ?_, by omega⟩
      by_cases hik : i = k
      · subst hik
        rw [List.getElem?_set_self hkl] at hy
        rw [List.getElem?_set_self (by omega)] at hm
        cases hy; cases hm
        show n - 1 ≤ (x.Most - 1).toNat
        omega
      · rw [List.getElem?_set_ne (by omega)] at hy hm
        exact a2 i y m hy hm
    have := T_ub hok hf
    rw [(hles _).2] at this
    have := vl_sol (l := l) (c := cap)
    omega
  have hle : T (l.set k { x with Most := x.Most - 1 }) (cap - x.Size.toNat) + x.Value ≤ T l cap := by
    obtain ⟨b1, b2, b3⟩ := fea_iff.1 (fea_sol (c := cap - x.Size.toNat) hok)
    have hkl2 : k < (sol (l.set k { x with Most := x.Most - 1 }) (cap - x.Size.toNat)).length := by rw [b1]; simpa using hkl
    have hm0 := List.getElem?_eq_getElem hkl2
    generalize hs : sol (l.set k { x with Most := x.Most - 1 }) (cap - x.Size.toNat) = s at *
    have f1 := sz_set (n' := s[k] + 1) hx hm0
    have f2 := vl_set (n' := s[k] + 1) hx hm0
    have hMk := b2 k { x with Most := x.Most - 1 } s[k] (List.getElem?_set_self hkl) hm0
    have hf : fea l (s.set k (s[k] + 1)) cap := by
      rw [fea_iff]
      refine ⟨by simp [b1], fun i y m hy hm => ?_, ?_⟩
      · by_cases hik : i = k
        · subst hik
          rw [List.getElem?_set_self hkl2] at hm
          rw [hx] at hy
          cases hy; cases hm
          have : s[i] ≤ (x.Most - 1).toNat := hMk
          omega
        · rw [List.getElem?_set_ne (by omega)] at hm
          exact b2 i y m (by rw [List.getElem?_set_ne (by omega)]; exact hy) hm
      · rw [(hles _).1] at b3
        rw [Nat.add_mul, Nat.one_mul] at f1
        omega
    have h3 := T_ub hl hf
    have h4 := vl_sol (l := l.set k { x with Most := x.Most - 1 }) (c := cap - x.Size.toNat)
    rw [hs, (hles _).2] at h4
    rw [Int.natCast_add, Int.add_mul] at f2
    omega
  exact ⟨by omega, by omega, hok⟩

theorem m4_true (l : List R27) (c a2 : Int) (h2 : (Lit.int .u8 a2).wf = true) : m4 5000 l c a2 = some true := by
  have hu : 0 ≤ a2 ∧ a2 < 256 := by
    simp [Lit.wf, IntKind.min, IntKind.max, IntKind.signed, IntKind.bits] at h2
    omega
  clear h2
  obtain ⟨u, rfl⟩ : ∃ u : Nat, a2 = (u : Int) := ⟨a2.toNat, by omega⟩
  unfold m4
  rw [m11_true]
  simp only [Option.bind_some, Bool.not_true, Bool.not_false, Bool.false_or, gdO_true, m12_val]
  cases hf : fewB l c with
  | false => simp [gdO]
  | true =>
    obtain ⟨h30, hfew⟩ := fewB_ok hf
    have h13 := m13_val (n := 5000) (l := l) (c := c) (by omega) (by omega)
    simp only [Bool.not_true, Bool.not_false, gdO_true, h13, Option.bind_some, Bool.false_or]
    cases hv : vldB l c with
    | false => simp
    | true =>
      obtain ⟨hl, _, cap, rfl, hcap⟩ := vldB_ok hv
      obtain ⟨h8, h200⟩ := hfew hv
      simp only [Bool.not_true, Bool.false_or]
      by_cases h0 : (l.length : Int) = 0
      · rw [if_pos (by simpa using h0)]
      · rw [if_neg (by simpa using h0), m14o_val (l := l) (by omega)]
        simp only [Option.bind_some]
        rw [m16_val hl hcap (by omega) (by omega)]
        simp only [Option.bind_some, casts_len, sol_len, decide_true, Bool.not_true, Bool.or_self, Bool.false_eq_true, if_false, letM_eq]
        have hk : u % l.length < l.length := Nat.mod_lt _ (by omega)
        rw [asrt_pos h0, wrap64 (x := (u : Int)) (by omega) (by omega), tmod_nat]
        generalize u % l.length = k at hk
        have hks : k < (sol l cap).length := by rw [sol_len]; exact hk
        have hn := List.getElem?_eq_getElem hks
        rw [getIdx_q (k := k) rfl (casts_at hn)]
        simp only [Option.bind_some]
        by_cases hz : (sol l cap)[k] = 0
        · rw [if_pos (by simp [hz])]
        · rw [if_neg (by simp [hz])]
          have hx := List.getElem?_eq_getElem hk
          obtain ⟨t1, t2, t3⟩ := T_less hl hx hn (by omega)
          obtain ⟨s1, s2, v1, v2, w1, w2⟩ := hl _ (List.getElem_mem hk)
          obtain ⟨b1, b2⟩ := T_bound hl cap
          rw [getIdx_at (k := k) rfl hk]
          simp only [Option.bind_some]
          rw [wrap64 (x := l[k].Most - 1) (by omega) (by omega), setIdx_at (k := k) rfl hk]
          simp only [Option.bind_some]
          rw [wrap64 (x := (cap : Int) - l[k].Size) (by omega) (by omega), show (cap : Int) - l[k].Size = ((cap - l[k].Size.toNat : Nat) : Int) by omega, m16_val t3 (by omega) (by simp; omega) (by omega)]
          simp only [Option.bind_some, decide_true, gdO_true, Bool.true_and]
          rw [t1, wrap64 (by omega) (by omega)]
          simp
end Go.AB

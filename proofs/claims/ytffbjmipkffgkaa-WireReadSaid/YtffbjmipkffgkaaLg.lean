import Derived.Test.YtffbjmipkffgkaaLf
namespace Go.AB
open Go

def okS (m k : Int) (s : R27) : Prop := okRing m s.Outer ∧ (s.Holes.length : Int) ≤ k ∧ ∀ r, r ∈ s.Holes → okRing m r
def pS (m k : Int) (t : List UInt8) : Option (R27 × Nat) := (pTwo (pList pVec m) (pList (pList pVec m) k) t).map fun r => (R27.mk r.1.1 r.1.2, r.2)
theorem codS (m k : Int) (hm : m ≤ 9223372036854775807) (hk : k ≤ 9223372036854775807) : Cod eShape (okS m k) (pS m k) :=
  (codTwo (codRing m hm) (codList (codRing m hm) k hk)).map (fun r => R27.mk r.1 r.2) (fun v => (v.Outer, v.Holes)) (fun _ => rfl) (fun _ => rfl)
theorem smallS {s : R27} (hi : ints s) (hs : small s) : okS 50 8 s :=
  ⟨⟨by have := hs.1; omega, hi.1⟩, by have := hs.2.1; omega, fun r hr => ⟨by have := hs.2.2 r hr; omega, hi.2 r hr⟩⟩
theorem Cod.short2 {α : Type} {e : α → List UInt8} {ok ok' : α → Prop} {p p' : List UInt8 → Option (α × Nat)} (h : Cod e ok p) (h' : Cod e ok' p') (hs : ∀ v, ok' v → ok v) {v : α} (ho : ok v) {k : Nat} (hk : k < (e v).length) : p' ((e v).take k) = none := by
  cases hp : p' ((e v).take k) with
  | none => rfl
  | some r =>
    obtain ⟨h1, h2, u, h3⟩ := h'.cn _ r.1 r.2 hp
    have e1 := h.rt r.1 (u ++ (e v).drop k) (hs _ h1)
    rw [← List.append_assoc, ← h3, List.take_append_drop] at e1
    have e2 := h.rt v [] ho
    rw [List.append_nil, e1] at e2
    have := congrArg Prod.snd (Option.some.inj e2)
    dsimp only at this
    have h4 := congrArg List.length h3
    simp at h4
    omega
theorem beq_inj {α : Type} [DecidableEq α] {e : α → List UInt8} {ok : α → Prop} {p : List UInt8 → Option (α × Nat)} (h : Cod e ok p) {v w : α} (hv : ok v) (hw : ok w) : (e v == e w) = decide (v = w) := by
  rw [Bool.eq_iff_iff]
  simp only [beq_iff_eq, decide_eq_true_eq]
  exact ⟨h.inj hv hw, fun e => by rw [e]⟩
theorem g20 {α : Type} (x y : α) : getIdx [x, y] (0 : Int) = some x := rfl
theorem g21 {α : Type} (x y : α) : getIdx [x, y] (1 : Int) = some y := rfl
theorem as2 {α β : Type} (x y : α) (k : Option β) : asrt ([x, y].length = 2) k = k := if_pos rfl
theorem asG {α : Type} {p : Prop} [Decidable p] (k : Option α) : asrtG true p k = asrt p k := rfl
theorem asF {α : Type} {p : Prop} [Decidable p] (k : Option α) : asrtG false p k = k := rfl
theorem m11_eq (n : Nat) (a b : List UInt8) : m11 n a b = some (a == b) := rfl
theorem two {α : Type} {l : List α} (h : l.length = 2) : ∃ x y, l = [x, y] := by
  match l, h with
  | [x, y], _ => exact ⟨x, y, rfl⟩

theorem m3_true {n : Nat} {p q : Int} {s t : List UInt8} {u v : R27} (hn : 5000 < n) (hp : inR p) (hq : inR q) (iu : ints u) (iv : ints v) (hu : u.Holes.length < n) (hv : v.Holes.length < n) (ku : u.Holes.length ≤ 9223372036854775807) (kv : v.Holes.length ≤ 9223372036854775807) : m3 n [p, q] [s, t] [u, v] = some true := by
  obtain ⟨c1, e1, k1⟩ := m10_val hu ku
  obtain ⟨c2, e2, k2⟩ := m10_val hv kv
  have e1' : m10 n (R27.mk u.Outer u.Holes) = some c1 := e1
  have e2' : m10 n (R27.mk v.Outer v.Holes) = some c2 := e2
  unfold m3
  rw [m9_gen (by omega), Option.bind_some, if_neg (by simp)]
  simp only [g20, g21, as2, asG, Option.bind_some, e1', e2']
  by_cases b1 : s.length ≤ 200
  · have d1 : decide ((200 : Int) < (s.length : Int)) = false := by simp; omega
    by_cases b2 : t.length ≤ 200
    · have d2 : decide ((200 : Int) < (t.length : Int)) = false := by simp; omega
      cases c1 with
      | false => simp only [d1, d2, e1', e2', Bool.false_or, Bool.not_false, Bool.or_false, asG, as2, gdO_true, Option.bind_some, Bool.or_true, Bool.not_true, asF, gdO_false, Bool.true_or, if_true]
      | true =>
        cases c2 with
        | false => simp only [d1, d2, e1', e2', Bool.false_or, Bool.not_false, Bool.or_false, asG, as2, gdO_true, Option.bind_some, Bool.or_true, Bool.not_true, asF, gdO_false, Bool.true_or, if_true]
        | true =>
          have su := k1.1 rfl
          have sv := k2.1 rfl
          have w1 : m14 n (R27.mk u.Outer u.Holes) = some (eShape u) := m14_val iu su (by omega)
          have w2 : m14 n (R27.mk v.Outer v.Holes) = some (eShape v) := m14_val iv sv (by omega)
          have w3 : m15 n (R27.mk u.Outer u.Holes) (R27.mk v.Outer v.Holes) = some (decide (u = v)) :=
            m15_val (s := u) (t := v) ⟨by have := su.1; omega, by have := su.1; omega⟩ (fun r hr => ⟨by have := su.2.2 r hr; omega, by have := su.2.2 r hr; omega⟩) ⟨hu, ku⟩
          simp only [d1, d2, e1', e2', Bool.false_or, Bool.not_false, Bool.or_false, asG, as2, gdO_true, Option.bind_some, Bool.not_true, Bool.false_eq_true, if_false, m12x2_val hp (show 9 < n by omega), m12x2_val hq (show 9 < n by omega), m11_eq, beq_inj codInt hp hq, beq_self_eq_true,
            m13_val (show s.length ≤ 1000000 by omega) (show 9 < n by omega), m13_val (show t.length ≤ 1000000 by omega) (show 9 < n by omega), beq_inj (codBytes 200 (by decide)) (v := s) (w := t) (by omega) (by omega), w1, w2, w3, beq_inj (codS 50 8 (by decide) (by decide)) (smallS iu su) (smallS iv sv), Bool.and_self, Bool.true_and, Bool.and_true]
          have es : (decide (s = t) == (s == t)) = true := by
            rw [show (s == t) = decide (s = t) from by rw [Bool.eq_iff_iff]; simp]
            simp
          simp only [es, asG, as2, gdO_true, Option.bind_some, m11_eq, w1, w2, w3, beq_inj (codS 50 8 (by decide) (by decide)) (smallS iu su) (smallS iv sv), Bool.and_self, Bool.true_and, Bool.and_true, beq_self_eq_true]
    · have d2 : decide ((200 : Int) < (t.length : Int)) = true := by simp; omega
      simp only [d1, d2, e1', e2', Bool.false_or, Bool.not_false, Bool.or_false, asG, as2, gdO_true, Option.bind_some, Bool.or_true, Bool.not_true, asF, gdO_false, Bool.true_or, if_true]
  · have d1 : decide ((200 : Int) < (s.length : Int)) = true := by simp; omega
    simp only [d1, Bool.false_or, e1', e2', Bool.not_false, Bool.or_false, asG, as2, gdO_true, Option.bind_some, Bool.or_true, Bool.not_true, asF, gdO_false, Bool.true_or, if_true]
end Go.AB

import Derived.Test.YtffbjmipkffgkaaLb
import Derived.Test.YtffbjmipkffgkaaLn
namespace Go.AB
open Go

/-! readers of values, out of readers of values -/
section
variable {α β : Type}
def pBnd (lo hi : Int) (t : List UInt8) : Option (Int × Nat) := (pInt t).bind fun r => if lo ≤ r.1 ∧ r.1 ≤ hi then some r else none
theorem codBnd (lo hi : Int) : Cod eInt (fun n => inR n ∧ lo ≤ n ∧ n ≤ hi) (pBnd lo hi) := by
  refine ⟨fun v u h => ?_, fun t v k h => ?_⟩
  · rw [pBnd, codInt.rt v u h.1, Option.bind_some, if_pos h.2]
  · rw [pBnd] at h
    cases hp : pInt t with
    | none => rw [hp] at h; cases h
    | some r =>
      rw [hp, Option.bind_some] at h
      split at h
      · rename_i hc
        obtain rfl := Option.some.inj h
        obtain ⟨h1, h2, h3⟩ := codInt.cn t _ _ hp
        exact ⟨⟨h1, hc⟩, h2, h3⟩
      · cases h
def pTwo (p : List UInt8 → Option (α × Nat)) (q : List UInt8 → Option (β × Nat)) (t : List UInt8) : Option ((α × β) × Nat) :=
  (p t).bind fun r => (q (t.drop r.2)).bind fun s => some ((r.1, s.1), r.2 + s.2)
theorem codTwo {e : α → List UInt8} {ok : α → Prop} {p : List UInt8 → Option (α × Nat)} {e' : β → List UInt8} {ok' : β → Prop} {q : List UInt8 → Option (β × Nat)} (h : Cod e ok p) (h' : Cod e' ok' q) :
    Cod (fun v : α × β => e v.1 ++ e' v.2) (fun v => ok v.1 ∧ ok' v.2) (pTwo p q) := by
  refine ⟨fun v u ho => ?_, fun t v k hp => ?_⟩
  · rw [pTwo, List.append_assoc, h.rt v.1 _ ho.1, Option.bind_some]
    dsimp only
    rw [List.drop_left' rfl, h'.rt v.2 u ho.2, Option.bind_some]
    simp
  · rw [pTwo] at hp
    cases hp1 : p t with
    | none => rw [hp1] at hp; cases hp
    | some r =>
      rw [hp1, Option.bind_some] at hp
      obtain ⟨a1, a2, u, rfl⟩ := h.cn t r.1 r.2 hp1
      rw [List.drop_left' a2.symm] at hp
      cases hp2 : q u with
      | none => rw [hp2] at hp; cases hp
      | some s =>
        rw [hp2, Option.bind_some] at hp
        obtain ⟨b1, b2, w, rfl⟩ := h'.cn u s.1 s.2 hp2
        have := Option.some.inj hp
        simp only [Prod.mk.injEq] at this
        obtain ⟨rfl, rfl⟩ := this
        exact ⟨⟨a1, b1⟩, by rw [a2, b2, List.length_append], w, by simp⟩
def pN (p : List UInt8 → Option (α × Nat)) : Nat → List UInt8 → Option (List α × Nat)
  | 0, _ => some ([], 0)
  | n + 1, t => (p t).bind fun r => (pN p n (t.drop r.2)).bind fun s => some (r.1 :: s.1, r.2 + s.2)
def pList (p : List UInt8 → Option (α × Nat)) (max : Int) (t : List UInt8) : Option (List α × Nat) :=
  (pBnd 0 max t).bind fun r => (pN p r.1.toNat (t.drop r.2)).bind fun s => some (s.1, r.2 + s.2)
def eList (e : α → List UInt8) (l : List α) : List UInt8 := eInt (l.length : Int) ++ l.flatMap e
theorem pN_rt {e : α → List UInt8} {ok : α → Prop} {p : List UInt8 → Option (α × Nat)} (h : Cod e ok p) : ∀ (l : List α) (u : List UInt8), (∀ x, x ∈ l → ok x) → pN p l.length (l.flatMap e ++ u) = some (l, (l.flatMap e).length)
  | [], u, _ => rfl
  | x :: l, u, ho => by
    rw [List.flatMap_cons, List.append_assoc, List.length_cons, pN, h.rt x _ (ho x (by simp)), Option.bind_some]
    dsimp only
    rw [List.drop_left' rfl, pN_rt h l u fun y hy => ho y (by simp [hy]), Option.bind_some]
    simp
theorem pN_cn {e : α → List UInt8} {ok : α → Prop} {p : List UInt8 → Option (α × Nat)} (h : Cod e ok p) : ∀ (n : Nat) (t : List UInt8) (l : List α) (k : Nat), pN p n t = some (l, k) → l.length = n ∧ (∀ x, x ∈ l → ok x) ∧ k = (l.flatMap e).length ∧ ∃ u, t = l.flatMap e ++ u
  | 0, t, l, k, hp => by
    have := Option.some.inj hp
    simp only [Prod.mk.injEq] at this
    obtain ⟨rfl, rfl⟩ := this
    exact ⟨rfl, fun x hx => (List.not_mem_nil hx).elim, rfl, t, rfl⟩
  | n + 1, t, l, k, hp => by
    rw [pN] at hp
    cases hp1 : p t with
    | none => rw [hp1] at hp; cases hp
    | some r =>
      rw [hp1, Option.bind_some] at hp
      obtain ⟨a1, a2, u, rfl⟩ := h.cn t r.1 r.2 hp1
      rw [List.drop_left' a2.symm] at hp
      cases hp2 : pN p n u with
      | none => rw [hp2] at hp; cases hp
      | some s =>
        rw [hp2, Option.bind_some] at hp
        obtain ⟨b1, b2, b3, w, rfl⟩ := pN_cn h n u s.1 s.2 hp2
        have := Option.some.inj hp
        simp only [Prod.mk.injEq] at this
        obtain ⟨rfl, rfl⟩ := this
        refine ⟨by simp [b1], fun x hx => ?_, by rw [a2, b3, List.flatMap_cons, List.length_append], w, by simp⟩
        rcases List.mem_cons.1 hx with rfl | hx
        · exact a1
        · exact b2 x hx
theorem codList {e : α → List UInt8} {ok : α → Prop} {p : List UInt8 → Option (α × Nat)} (h : Cod e ok p) (max : Int) (hm : max ≤ 9223372036854775807) :
    Cod (eList e) (fun l => (l.length : Int) ≤ max ∧ ∀ x, x ∈ l → ok x) (pList p max) := by
  refine ⟨fun l u ho => ?_, fun t l k hp => ?_⟩
  · rw [pList, eList, List.append_assoc, (codBnd 0 max).rt _ _ ⟨⟨by omega, by omega⟩, by omega, ho.1⟩, Option.bind_some]
    dsimp only
    rw [List.drop_left' rfl, Int.toNat_natCast, pN_rt h l u ho.2, Option.bind_some]
    simp
  · rw [pList] at hp
    cases hp1 : pBnd 0 max t with
    | none => rw [hp1] at hp; cases hp
    | some r =>
      rw [hp1, Option.bind_some] at hp
      obtain ⟨⟨_, a0, a1⟩, a2, u, rfl⟩ := (codBnd 0 max).cn t r.1 r.2 hp1
      rw [List.drop_left' a2.symm] at hp
      cases hp2 : pN p r.1.toNat u with
      | none => rw [hp2] at hp; cases hp
      | some s =>
        rw [hp2, Option.bind_some] at hp
        obtain ⟨b1, b2, b3, w, rfl⟩ := pN_cn h _ u s.1 s.2 hp2
        have := Option.some.inj hp
        simp only [Prod.mk.injEq] at this
        obtain ⟨rfl, rfl⟩ := this
        have e1 : ((s.1.length : Nat) : Int) = r.1 := by omega
        refine ⟨⟨by omega, b2⟩, ?_, w, ?_⟩
        · rw [a2, b3, eList, e1, List.length_append]
        · rw [eList, e1, List.append_assoc]
def pBytes (max : Int) (t : List UInt8) : Option (List UInt8 × Nat) :=
  (pBnd 0 max t).bind fun r => if r.1 ≤ ((t.drop r.2).length : Int) then some ((t.drop r.2).take r.1.toNat, r.2 + r.1.toNat) else none
def eBytes (l : List UInt8) : List UInt8 := eInt (l.length : Int) ++ l
theorem codBytes (max : Int) (hm : max ≤ 9223372036854775807) : Cod eBytes (fun l => (l.length : Int) ≤ max) (pBytes max) := by
  refine ⟨fun l u ho => ?_, fun t l k hp => ?_⟩
  · rw [pBytes, eBytes, List.append_assoc, (codBnd 0 max).rt _ _ ⟨⟨by omega, by omega⟩, by omega, ho⟩, Option.bind_some]
    dsimp only
    rw [List.drop_left' rfl, Int.toNat_natCast, if_pos (by simp; omega), List.take_left' rfl, List.length_append]
  · rw [pBytes] at hp
    cases hp1 : pBnd 0 max t with
    | none => rw [hp1] at hp; cases hp
    | some r =>
      rw [hp1, Option.bind_some] at hp
      obtain ⟨⟨_, a0, a1⟩, a2, u, rfl⟩ := (codBnd 0 max).cn t r.1 r.2 hp1
      rw [List.drop_left' a2.symm] at hp
      split at hp
      · rename_i hc
        have := Option.some.inj hp
        simp only [Prod.mk.injEq] at this
        obtain ⟨rfl, rfl⟩ := this
        have e1 : (((u.take r.1.toNat).length : Nat) : Int) = r.1 := by simp; omega
        refine ⟨by omega, ?_, u.drop r.1.toNat, ?_⟩
        · rw [eBytes, e1, a2, List.length_append]; omega
        · rw [eBytes, e1, List.append_assoc, List.take_append_drop]
      · cases hp
def pBool : List UInt8 → Option (Bool × Nat)
  | [] => none
  | c :: _ => if c.toNat ≤ 1 then some (decide (c = 1), 1) else none
/-- by another name -/
theorem Cod.map {e : α → List UInt8} {ok : α → Prop} {p : List UInt8 → Option (α × Nat)} (h : Cod e ok p) (f : α → β) (g : β → α) (hfg : ∀ b, f (g b) = b) (hgf : ∀ a, g (f a) = a) :
    Cod (fun b => e (g b)) (fun b => ok (g b)) (fun t => (p t).map fun r => (f r.1, r.2)) := by
  refine ⟨fun v u ho => ?_, fun t v k hp => ?_⟩
  · rw [h.rt _ u ho]
    simp [hfg]
  · cases hp1 : p t with
    | none => rw [hp1] at hp; cases hp
    | some r =>
      rw [hp1] at hp
      have := Option.some.inj hp
      simp only [Prod.mk.injEq] at this
      obtain ⟨rfl, rfl⟩ := this
      obtain ⟨q1, q2, q3⟩ := h.cn t r.1 r.2 hp1
      simp only [hgf]
      exact ⟨q1, q2, q3⟩
/-- what is read once is read whatever follows, and a beginning of it is nothing -/
theorem Cod.short {e : α → List UInt8} {ok : α → Prop} {p : List UInt8 → Option (α × Nat)} (h : Cod e ok p) {v : α} (ho : ok v) {k : Nat} (hk : k < (e v).length) : p ((e v).take k) = none := by
  cases hp : p ((e v).take k) with
  | none => rfl
  | some r =>
    obtain ⟨h1, h2, u, h3⟩ := h.cn _ r.1 r.2 hp
    have e1 := h.rt r.1 (u ++ (e v).drop k) h1
    rw [← List.append_assoc, ← h3, List.take_append_drop] at e1
    have e2 := h.rt v [] ho
    rw [List.append_nil, e1] at e2
    have := congrArg Prod.snd (Option.some.inj e2)
    dsimp only at this
    have h4 := congrArg List.length h3
    simp at h4
    omega
theorem Cod.inj {e : α → List UInt8} {ok : α → Prop} {p : List UInt8 → Option (α × Nat)} (h : Cod e ok p) {v w : α} (hv : ok v) (hw : ok w) (he : e v = e w) : v = w := by
  have e1 := h.rt v [] hv
  have e2 := h.rt w [] hw
  rw [he, e2] at e1
  exact (congrArg Prod.fst (Option.some.inj e1)).symm
theorem Cod.pos {e : α → List UInt8} {ok : α → Prop} {p : List UInt8 → Option (α × Nat)} (h : Cod e ok p) {t : List UInt8} {r : α × Nat} (hp : p t = some r) : r.2 ≤ t.length := by
  obtain ⟨_, h2, u, rfl⟩ := h.cn _ r.1 r.2 hp
  rw [List.length_append]; omega
end
def pVec (t : List UInt8) : Option (R59 × Nat) := (pTwo pInt pInt t).map fun r => (R59.mk r.1.1 r.1.2, r.2)
def eVec (v : R59) : List UInt8 := eInt v.X ++ eInt v.Y
def okVec (v : R59) : Prop := inR v.X ∧ inR v.Y
theorem codVec : Cod eVec okVec pVec := (codTwo codInt codInt).map (fun r => R59.mk r.1 r.2) (fun v => (v.X, v.Y)) (fun _ => rfl) (fun _ => rfl)
def pRatio (t : List UInt8) : Option (R63 × Nat) := (pTwo pInt pInt t).map fun r => (R63.mk r.1.1 r.1.2, r.2)
def eRing (l : List R59) : List UInt8 := eList eVec l
def okRing (max : Int) (l : List R59) : Prop := (l.length : Int) ≤ max ∧ ∀ x, x ∈ l → okVec x
def eShape (s : R27) : List UInt8 := eRing s.Outer ++ eList eRing s.Holes
def okShape (s : R27) : Prop := okRing 40 s.Outer ∧ (s.Holes.length : Int) ≤ 6 ∧ ∀ r, r ∈ s.Holes → okRing 40 r
def pShape (t : List UInt8) : Option (R27 × Nat) := (pTwo (pList pVec 40) (pList (pList pVec 40) 6) t).map fun r => (R27.mk r.1.1 r.1.2, r.2)
theorem codRing (max : Int) (hm : max ≤ 9223372036854775807) : Cod eRing (okRing max) (pList pVec max) := codList codVec max hm
theorem codShape : Cod eShape okShape pShape :=
  (codTwo (codRing 40 (by decide)) (codList (codRing 40 (by decide)) 6 (by decide))).map (fun r => R27.mk r.1 r.2) (fun v => (v.Outer, v.Holes)) (fun _ => rfl) (fun _ => rfl)
end Go.AB

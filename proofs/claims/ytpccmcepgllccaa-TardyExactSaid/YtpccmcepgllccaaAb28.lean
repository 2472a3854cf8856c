/-
  AB, part 28: the walk over a family of contexts: where a call of yield, or a range over a function, leads from one context to another.
-/
import Derived.Test.YtpccmcepgllccaaAb27
import Derived.RangeFuncLeaves
import Derived.RangeFuncRecord
namespace Go.AB
open Go

structure Fam (G : Type) where
  D : Type
  P : Program
  r : Option Nat
  cx : D → Ctx
  H : G → D → Prop
  hP : ∀ d, (cx d).P = P
  hr : ∀ d, (cx d).r = r

/-- THE WALK OF CODE over states and contexts; g: what lies behind (a ghost). -/
def AWPF {G : Type} (φ : Fam G) (c : Code) (Q : Exit → G → St → Prop) (g : G) (s : St) : Prop :=
  ∀ d ι a w, φ.H g d → Rel (φ.cx d) s ι a w → c.wpIn (Fc φ.r) 0 φ.P (fun e a' w' => ∃ g' s' d' ι', φ.H g' d' ∧ Rel (φ.cx d') s' ι' a' w' ∧ Q e g' s') a w

section
variable {G : Type} {φ : Fam G} {g : G} {s s' : St} {Q : Exit → G → St → Prop} {c : Code}

theorem AWPF.of (h : ∀ d, AWP (φ.cx d) c (fun e s' => Q e g s') s) : AWPF φ c Q g s := fun d ι a w hH r => by
  have := h d ι a w r
  rw [φ.hP, φ.hr] at this
  exact wpIn_mono this fun e a' w' ⟨s', ι', r', q⟩ => ⟨g, s', d, ι', hH, r', q⟩
theorem AWPF.mono {Q' : Exit → G → St → Prop} (k : AWPF φ c Q g s) (h : ∀ e g' s', Q e g' s' → Q' e g' s') : AWPF φ c Q' g s :=
  fun d ι a w hH r => wpIn_mono (k d ι a w hH r) fun _ _ _ ⟨g', s', d', ι', hH', r', q⟩ => ⟨g', s', d', ι', hH', r', h _ _ _ q⟩
theorem AWPF.vc (h : ∀ d, VC (φ.cx d) s s') (k : AWPF φ c Q g s') : AWPF φ c Q g s :=
  fun d ι a w hH r => let ⟨ι', r'⟩ := h d ι a w r; k d ι' a w hH r'
theorem AWPF.skip (h : Q .normal g s) : AWPF φ .skip Q g s := fun d ι _ _ hH r => wpIn_skip ⟨g, s, d, ι, hH, r, h⟩
theorem AWPF.ret (h : Q .ret g s) : AWPF φ .ret Q g s := fun d ι _ _ hH r => wpIn_ret ⟨g, s, d, ι, hH, r, h⟩
theorem AWPF.exit {id : Nat} (h : Q (.exit id) g s) : AWPF φ (.exit id) Q g s := fun d ι _ _ hH r => wpIn_exit ⟨g, s, d, ι, hH, r, h⟩

def thnF (R : G → St → Prop) (Q : Exit → G → St → Prop) : Exit → G → St → Prop
  | .normal, g, s => R g s
  | e, g, s => Q e g s
def inbF (id : Nat) (Q : Exit → G → St → Prop) : Exit → G → St → Prop
  | .exit i, g, s => bif Nat.beq i id then Q .normal g s else Q (.exit i) g s
  | e, g, s => Q e g s
theorem AWPF.seq {x y : Code} (h : AWPF φ x (thnF (AWPF φ y Q) Q) g s) : AWPF φ (.seq x y) Q g s := fun d ι a w hH r =>
  wpIn_seq (wpIn_mono (h d ι a w hH r) fun e a' w' ⟨g', s', d', ι', hH', r', q⟩ => by
    cases e with
    | normal => exact q d' ι' a' w' hH' r'
    | exit id => exact ⟨g', s', d', ι', hH', r', q⟩
    | goto l => exact ⟨g', s', d', ι', hH', r', q⟩
    | ret => exact ⟨g', s', d', ι', hH', r', q⟩
    | panic ch => exact ⟨g', s', d', ι', hH', r', q⟩
    | outgrown => exact ⟨g', s', d', ι', hH', r', q⟩)
theorem AWPF.block {id : Nat} (h : AWPF φ c (inbF id Q) g s) : AWPF φ (.block id c) Q g s := fun d ι a w hH r =>
  wpIn_block (wpIn_mono (h d ι a w hH r) fun e a' w' ⟨g', s', d', ι', hH', r', q⟩ => by
    cases e with
    | exit i =>
      by_cases hi : i = id
      · subst hi; simp only [inbF, Nat.beq_refl, cond_true] at q; simp only [Exit.inBlock, if_true]; exact ⟨g', s', d', ι', hH', r', q⟩
      · have hb : Nat.beq i id = false := by rw [← Bool.not_eq_true, Nat.beq_eq]; exact hi
        simp only [inbF, hb, cond_false] at q; simp only [Exit.inBlock, if_neg hi]; exact ⟨g', s', d', ι', hH', r', q⟩
    | normal => exact ⟨g', s', d', ι', hH', r', q⟩
    | goto l => exact ⟨g', s', d', ι', hH', r', q⟩
    | ret => exact ⟨g', s', d', ι', hH', r', q⟩
    | panic ch => exact ⟨g', s', d', ι', hH', r', q⟩
    | outgrown => exact ⟨g', s', d', ι', hH', r', q⟩)
theorem AWPF.cond {x : Operand} {c1 c2 : Code} {b : Bool} (hx : ∀ d, Ev (φ.cx d) s x (.sc (.bool b)))
    (ht : b = true → AWPF φ c1 Q g s) (hf : b = false → AWPF φ c2 Q g s) : AWPF φ (.cond x c1 c2) Q g s := fun d ι a w hH r => by
  have he : a.eval x = .bool b := by
    have h := hx d ι a w r
    generalize a.eval x = u at h
    cases h; rfl
  exact wpIn_cond_split he (fun h => ht h d ι a w hH r) (fun h => hf h d ι a w hH r)

theorem AWPF.loop {σ : Type} (Γ : σ → G) (S : σ → St) (Φ : Nat → σ → Prop) (h0 : ∀ x, ¬ Φ 0 x)
    (step : ∀ n x, Φ (n + 1) x → AWPF φ c (thnF (fun g' s' => ∃ x', Φ n x' ∧ g' = Γ x' ∧ ∀ d, VC (φ.cx d) s' (S x')) Q) (Γ x) (S x)) (n : Nat) (x : σ) (hx : Φ n x) : AWPF φ (.loop c) Q (Γ x) (S x) := by
  intro d ι a w hH r b k cs hro hb hr
  have key : ∀ n x d ι a w, Φ n x → φ.H (Γ x) d → Rel (φ.cx d) (S x) ι a w →
      ∃ e a' w', (∃ g' s' d' ι', φ.H g' d' ∧ Rel (φ.cx d') s' ι' a' w' ∧ Q e g' s') ∧ ArrivesIn (Machine.fenced φ.P (Fc φ.r)) φ.P (lone (b.atR a (.code c :: .inLoop c :: k)) cs w) b k cs e a' w' := by
    intro n
    induction n with
    | zero => intro x _ _ _ _ hx; exact absurd hx (h0 x)
    | succ n ih =>
      intro x d ι a w hx hH r
      obtain ⟨e, a₁, w₁, ⟨g1, s1, d1, ι1, hH1, r1, q⟩, harr⟩ := step n x hx d ι a w hH r b (.inLoop c :: k) cs hro hb hr
      cases e with
      | normal =>
        obtain ⟨x', hx', rfl, hvc⟩ := q
        obtain ⟨ι2, r2⟩ := hvc d1 ι1 a₁ w₁ r1
        obtain ⟨e₂, a₂, w₂, hq₂, harr₂⟩ := ih x' d1 ι2 a₁ w₁ hx' hH1 r2
        exact ⟨e₂, a₂, w₂, hq₂, .of_steps (StepsIn.trans harr (.one (fenced_calm hb hr rfl) stepR_inLoop)) harr₂⟩
      | exit id => exact ⟨_, a₁, w₁, ⟨g1, s1, d1, ι1, hH1, r1, q⟩, .pass (x := .inLoop c) rfl (fun _ _ => .inl (by simp)) harr⟩
      | goto l => exact ⟨_, a₁, w₁, ⟨g1, s1, d1, ι1, hH1, r1, q⟩, .pass (x := .inLoop c) rfl (fun _ _ => .inl (by simp)) harr⟩
      | ret => exact ⟨_, a₁, w₁, ⟨g1, s1, d1, ι1, hH1, r1, q⟩, .pass (x := .inLoop c) rfl (fun _ _ => .inl (by simp)) harr⟩
      | panic ch => exact ⟨_, a₁, w₁, ⟨g1, s1, d1, ι1, hH1, r1, q⟩, .pass (x := .inLoop c) rfl (fun _ _ => .inl (by simp)) harr⟩
      | outgrown => exact ⟨_, a₁, w₁, ⟨g1, s1, d1, ι1, hH1, r1, q⟩, .pass (x := .inLoop c) rfl (fun _ _ => .inl (by simp)) harr⟩
  obtain ⟨e, a', w', hq, harr⟩ := key n x d ι a w hx hH r
  exact ⟨e, a', w', hq, .of_steps (.one (fenced_calm hb hr rfl) stepR_loop) harr⟩

end

/-! the ghost of a walk is what its model still has to give -/
section
variable {R : Type} {φ : Fam (Option R)} {g : Option R} {r : R} {s s' : St} {Q : Exit → Option R → St → Prop} {c : Code}

/-- a state from which the model p gives what is still to come -/
def EndF {σ : Type} (φ : Fam (Option R)) (k : σ → Option R) (S : σ → St) (g : Option R) (s : St) : Prop := ∃ p r', k p = some r' ∧ g = some r' ∧ ∀ d, VC (φ.cx d) s (S p)
theorem endJF {σ : Type} {f : σ → Option R} {S : σ → St} (p : σ) (h : f p = some r) (v : ∀ d, VC (φ.cx d) s (S p)) : EndF φ f S (some r) s := ⟨p, r, h, rfl, v⟩
theorem AWPF.loopM {σ : Type} {body : (σ → Option R) → σ → Option R} (S : σ → St)
    (step : ∀ (nx : σ → Option R) (x : σ) (r : R), body nx x = some r → AWPF φ c (thnF (EndF φ nx S) Q) (some r) (S x))
    {n : Nat} {x : σ} (hx : Go.AB.loopM body n x = some r) : AWPF φ (.loop c) Q (some r) (S x) := by
  refine AWPF.loop (σ := σ × R) (fun y => some y.2) (fun y => S y.1) (fun n y => Go.AB.loopM body n y.1 = some y.2) (fun x h => by cases h) (fun n y h => ?_) n (x, r) hx
  refine (step (Go.AB.loopM body n) y.1 y.2 h).mono fun e g' s' q => ?_
  cases e with
  | normal =>
    obtain ⟨p, r', h1, h2, h3⟩ := q
    exact ⟨(p, r'), h1, h2, h3⟩
  | _ => exact q
theorem AWPF.join' {σ : Type} {f : σ → Option R} {gg : (σ → Option R) → Option R} (S : σ → St) (h : jn f gg = some r)
    (rest : ∀ p r, f p = some r → Q .normal (some r) (S p)) (main : ∀ k : σ → Option R, gg k = some r → AWPF φ c (thnF (EndF φ k S) Q) (some r) s) : AWPF φ c Q (some r) s := fun d ι a w hH rel =>
  wpIn_mono (main f h d ι a w hH rel) fun e a' w' ⟨g', s', d', ι', hH', r', q⟩ => by
    cases e with
    | normal =>
      obtain ⟨p, r2, hp, rfl, hv⟩ := q
      obtain ⟨ι2, r2⟩ := hv d' ι' a' w' r'
      exact ⟨_, S p, d', ι2, hH', r2, rest p _ hp⟩
    | exit id => exact ⟨g', s', d', ι', hH', r', q⟩
    | goto l => exact ⟨g', s', d', ι', hH', r', q⟩
    | ret => exact ⟨g', s', d', ι', hH', r', q⟩
    | panic ch => exact ⟨g', s', d', ι', hH', r', q⟩
    | outgrown => exact ⟨g', s', d', ι', hH', r', q⟩
def inbJF (id : Nat) (M : Option R → St → Prop) (Q : Exit → Option R → St → Prop) : Exit → Option R → St → Prop
  | .exit i, g, s => bif Nat.beq i id then M g s else Q (.exit i) g s
  | .normal, g, s => M g s
  | e, g, s => Q e g s
theorem AWPF.joinB' {id : Nat} {σ : Type} {f : σ → Option R} {gg : (σ → Option R) → Option R} (S : σ → St) (h : jn f gg = some r)
    (rest : ∀ p r, f p = some r → Q .normal (some r) (S p)) (main : ∀ k : σ → Option R, gg k = some r → AWPF φ c (inbJF id (EndF φ k S) Q) (some r) s) : AWPF φ (.block id c) Q (some r) s := fun d ι a w hH rel =>
  wpIn_block (wpIn_mono (main f h d ι a w hH rel) fun e a' w' ⟨g', s', d', ι', hH', r', q⟩ => by
    have fin : EndF φ f S g' s' → ∃ g' s' d' ι', φ.H g' d' ∧ Rel (φ.cx d') s' ι' a' w' ∧ Q .normal g' s' := by
      rintro ⟨p, r2, hp, rfl, hv⟩
      obtain ⟨ι2, r2⟩ := hv d' ι' a' w' r'
      exact ⟨_, S p, d', ι2, hH', r2, rest p _ hp⟩
    cases e with
    | normal => exact fin q
    | exit i =>
      by_cases hi : i = id
      · subst hi
        simp only [inbJF, Nat.beq_refl, cond_true] at q
        simp only [Exit.inBlock, if_true]
        exact fin q
      · have hb : Nat.beq i id = false := by rw [← Bool.not_eq_true, Nat.beq_eq]; exact hi
        simp only [inbJF, hb, cond_false] at q
        simp only [Exit.inBlock, if_neg hi]
        exact ⟨g', s', d', ι', hH', r', q⟩
    | goto l => exact ⟨g', s', d', ι', hH', r', q⟩
    | ret => exact ⟨g', s', d', ι', hH', r', q⟩
    | panic ch => exact ⟨g', s', d', ι', hH', r', q⟩
    | outgrown => exact ⟨g', s', d', ι', hH', r', q⟩)
end
end Go.AB

/-
  AB, part 2: states, what ties a state to a frame and a world, the walk of code over states.
-/
import Derived.Test.YtpccmcepgllccaaAb1
namespace Go.AB
open Go

structure Blk where
  ty : TypeId
  lst : Bool
  cells : List AV

structure St where
  env : List (Nat × AV)
  heap : List (Nat × Blk)

def look {α : Type} (t : Nat) : List (Nat × α) → Option α
  | [] => none
  | (k, v) :: l => bif Nat.beq t k then some v else look t l

def has {α : Type} (t : Nat) (l : List (Nat × α)) : Prop := ∃ v, look t l = some v

theorem look_cons_self {α : Type} (t : Nat) (v : α) (l : List (Nat × α)) : look t ((t, v) :: l) = some v := by simp [look]
theorem look_cons_ne {α : Type} {t k : Nat} (h : t ≠ k) (v : α) (l : List (Nat × α)) : look t ((k, v) :: l) = look t l := by
  have : Nat.beq t k = false := by rw [← Bool.not_eq_true, Nat.beq_eq]; exact h
  simp [look, this]

def St.put (s : St) (d : Nat) (v : AV) : St := { s with env := (d, v) :: s.env }
def St.putO (s : St) (d : Option Nat) (v : AV) : St := match d with | some d => s.put d v | none => s

/-- What a walk of one call keeps fixed: the program, the round, the frame's size and deferred calls, the world in which the call began, the zones, the blocks that were handed over, the tags whose blocks stay. -/
structure Ctx where
  P : Program
  r : Option Nat
  N : Nat
  dfr : List Deferred
  w0 : World
  Zs : Nat → Prop
  Zb : Nat → Prop
  T0 : Nat → Prop
  K : List Nat
  ι0 : Tags

/-- Outside the blocks T nothing that was there has turned. -/
structure Trans (T : Nat → Prop) (w w' : World) : Prop where
  os : w'.os = w.os
  tape : w'.tape = w.tape
  output : w'.output = w.output
  size : w.heap.size ≤ w'.heap.size
  block : ∀ k, k < w.heap.size → ¬ T k → w'.heap[k]? = w.heap[k]?
  bsz : ∀ b n, bsz w b = some n → bsz w' b = some n

theorem Trans.refl (T : Nat → Prop) (w : World) : Trans T w w := ⟨rfl, rfl, rfl, Nat.le_refl _, fun _ _ _ => rfl, fun _ _ h => h⟩

def zone (C : Ctx) (H : List (Nat × Blk)) (ι : Tags) (w : World) : Zone := fun β b =>
  b < w.heap.size ∧ (∀ t, has t H → ι t ≠ some b) ∧ ((β = true ∧ C.Zb b) ∨ C.Zs b ∨ C.w0.heap.size ≤ b ∨ C.T0 b)

def BlkR (w : World) (Z : Zone) (ι : Tags) (t : Nat) (k : Blk) : Prop :=
  match ι t with
  | none => k.cells = [] ∧ k.lst = true
  | some b => ∃ cur, w.heap[b]? = some (.cells cur k.ty (0, 0)) ∧ k.cells.length ≤ cur.size ∧
      ∀ i (hi : i < k.cells.length), ∃ u, cur[i]? = some u ∧ VR w (bif k.lst then fun _ => Z false else Z) (bif k.lst then fun _ => none else ι) (k.cells[i]'hi) u

structure Core (C : Ctx) (H : List (Nat × Blk)) (ι : Tags) (w : World) : Prop where
  blk : ∀ t k, look t H = some k → BlkR w (zone C H ι w) ι t k
  inj : ∀ t t' b, has t H → has t' H → ι t = some b → ι t' = some b → t = t'
  own : ∀ t b, has t H → ι t = some b → C.w0.heap.size ≤ b ∨ C.T0 b
  tr : Trans C.T0 C.w0 w

structure Rel (C : Ctx) (s : St) (ι : Tags) (a : Act) (w : World) : Prop where
  size : a.tmps.size = C.N
  dfr : a.defers = C.dfr
  env : ∀ d v, look d s.env = some v → VR w (zone C s.heap ι w) ι v (a.tmps.getD d undef)
  core : Core C s.heap ι w
  stab : ∀ t, t ∈ C.K → ι t = C.ι0 t

/-- What an operand stands for. -/
def Ev (C : Ctx) (s : St) (x : Operand) (v : AV) : Prop := ∀ ι a w, Rel C s ι a w → VR w (zone C s.heap ι w) ι v (a.eval x)

theorem Ev.tmp {C : Ctx} {s : St} {t : Nat} {v : AV} (h : look t s.env = some v) : Ev C s (.tmp t) v := fun _ _ _ r => r.env t v h
theorem Ev.const (C : Ctx) (s : St) (v : Value) : Ev C s (.const v) (.sc v) := fun _ _ _ _ => .sc _ _ _
theorem Ev.func (C : Ctx) (s : St) (f : FuncId) : Ev C s (.func f) (.clo (.func f) [] []) := fun _ _ _ _ =>
  .clo _ _ _ [] [] [] [] rfl rfl (fun i hi => absurd hi (by simp)) (fun i hi => absurd hi (by simp))
theorem Ev.gd {C : Ctx} {s : St} {x : Operand} {c : Bool} {v : AV} (hc : c = true) (h : Ev C s x (.gd c v)) : Ev C s x v := fun ι a w r => by
  cases h ι a w r with
  | gd _ _ _ _ _ h _ => exact h hc
theorem Ev.nil (C : Ctx) (s : St) (β : Bool) : Ev C s (.const (.slice none 0 0)) (.rd β 0 []) := fun _ _ _ _ => .rdnil _ _ _ _

theorem Rel.put {C : Ctx} {s : St} {ι : Tags} {a : Act} {w : World} (r : Rel C s ι a w) {d : Nat} {v : AV} {u : Value} (hd : d < C.N)
    (h : VR w (zone C s.heap ι w) ι v u) : Rel C (s.put d v) ι (a.put (some d) u) w := by
  refine ⟨by simp [Act.put, r.size], by simp [Act.put, r.dfr], ?_, r.core, r.stab⟩
  intro d' v' hl
  have hsz := r.size
  by_cases e : d' = d
  · subst e
    simp only [St.put, look_cons_self] at hl
    cases hl
    simp only [Act.put, Array.getD_eq_getD_getElem?, Array.getElem?_setIfInBounds]
    simp [hsz, hd]
    exact h
  · simp only [St.put, look_cons_ne e] at hl
    have := r.env d' v' hl
    simp only [Act.put, Array.getD_eq_getD_getElem?, Array.getElem?_setIfInBounds]
    rw [if_neg (fun h => e h.symm)]
    rw [Array.getD_eq_getD_getElem?] at this
    exact this

theorem Rel.putAny {C : Ctx} {s : St} {ι : Tags} {a : Act} {w : World} (r : Rel C s ι a w) {d : Nat} {u : Value} (hd : d < C.N) : Rel C (s.put d .any) ι (a.put (some d) u) w :=
  r.put hd (.any _ _ _)

/-- THE WALK OF CODE over states. -/
def AWP (C : Ctx) (c : Code) (Q : Exit → St → Prop) (s : St) : Prop :=
  ∀ ι a w, Rel C s ι a w → c.wpIn (Fc C.r) 0 C.P (fun e a' w' => ∃ s' ι', Rel C s' ι' a' w' ∧ Q e s') a w

def thn (R : St → Prop) (Q : Exit → St → Prop) : Exit → St → Prop
  | .normal, s => R s
  | e, s => Q e s
def inb (id : Nat) (Q : Exit → St → Prop) : Exit → St → Prop
  | .exit i, s => bif Nat.beq i id then Q .normal s else Q (.exit i) s
  | e, s => Q e s

/-- One state for another: of the same frame and world. -/
def VC (C : Ctx) (s s' : St) : Prop := ∀ ι a w, Rel C s ι a w → ∃ ι', Rel C s' ι' a w
theorem VC.refl (C : Ctx) (s : St) : VC C s s := fun ι _ _ r => ⟨ι, r⟩
theorem VC.trans {C : Ctx} {s s1 s2 : St} (h : VC C s s1) (h' : VC C s1 s2) : VC C s s2 := fun ι a w r => let ⟨ι1, r1⟩ := h ι a w r; h' ι1 a w r1

theorem AWP.vc {C : Ctx} {c : Code} {Q : Exit → St → Prop} {s s' : St} (h : VC C s s') (k : AWP C c Q s') : AWP C c Q s :=
  fun ι a w r => let ⟨ι', r'⟩ := h ι a w r; k ι' a w r'
theorem AWP.mono {C : Ctx} {c : Code} {Q Q' : Exit → St → Prop} {s : St} (k : AWP C c Q s) (h : ∀ e s', Q e s' → Q' e s') : AWP C c Q' s :=
  fun ι a w r => wpIn_mono (k ι a w r) fun _ _ _ ⟨s', ι', r', q⟩ => ⟨s', ι', r', h _ _ q⟩
theorem AWP.skip {C : Ctx} {Q : Exit → St → Prop} {s : St} (h : Q .normal s) : AWP C .skip Q s := fun ι _ _ r => wpIn_skip ⟨s, ι, r, h⟩
theorem AWP.ret {C : Ctx} {Q : Exit → St → Prop} {s : St} (h : Q .ret s) : AWP C .ret Q s := fun ι _ _ r => wpIn_ret ⟨s, ι, r, h⟩
theorem AWP.exit {C : Ctx} {Q : Exit → St → Prop} {s : St} {id : Nat} (h : Q (.exit id) s) : AWP C (.exit id) Q s := fun ι _ _ r => wpIn_exit ⟨s, ι, r, h⟩
theorem AWP.seq {C : Ctx} {Q : Exit → St → Prop} {s : St} {x y : Code} (h : AWP C x (thn (AWP C y Q) Q) s) : AWP C (.seq x y) Q s := fun ι a w r =>
  wpIn_seq (wpIn_mono (h ι a w r) fun e a' w' ⟨s', ι', r', q⟩ => by
    cases e with
    | normal => exact q ι' a' w' r'
    | exit id => exact ⟨s', ι', r', q⟩
    | goto l => exact ⟨s', ι', r', q⟩
    | ret => exact ⟨s', ι', r', q⟩
    | panic ch => exact ⟨s', ι', r', q⟩
    | outgrown => exact ⟨s', ι', r', q⟩)
theorem AWP.block {C : Ctx} {Q : Exit → St → Prop} {s : St} {id : Nat} {c : Code} (h : AWP C c (inb id Q) s) : AWP C (.block id c) Q s := fun ι a w r =>
  wpIn_block (wpIn_mono (h ι a w r) fun e a' w' ⟨s', ι', r', q⟩ => by
    cases e with
    | exit i =>
      by_cases hi : i = id
      · subst hi; simp only [inb, Nat.beq_refl, cond_true] at q; simp only [Exit.inBlock, if_true]; exact ⟨s', ι', r', q⟩
      · have hb : Nat.beq i id = false := by rw [← Bool.not_eq_true, Nat.beq_eq]; exact hi
        simp only [inb, hb, cond_false] at q; simp only [Exit.inBlock, if_neg hi]; exact ⟨s', ι', r', q⟩
    | normal => exact ⟨s', ι', r', q⟩
    | goto l => exact ⟨s', ι', r', q⟩
    | ret => exact ⟨s', ι', r', q⟩
    | panic ch => exact ⟨s', ι', r', q⟩
    | outgrown => exact ⟨s', ι', r', q⟩)
theorem AWP.cond {C : Ctx} {Q : Exit → St → Prop} {s : St} {x : Operand} {c1 c2 : Code} {b : Bool} (hx : Ev C s x (.sc (.bool b)))
    (ht : b = true → AWP C c1 Q s) (hf : b = false → AWP C c2 Q s) : AWP C (.cond x c1 c2) Q s := fun ι a w r => by
  have he : a.eval x = .bool b := by
    have h := hx ι a w r
    generalize a.eval x = u at h
    cases h; rfl
  exact wpIn_cond_split he (fun h => ht h ι a w r) (fun h => hf h ι a w r)

/-- A loop, by a number that every round lowers (the model's fuel). -/
theorem AWP.loop {C : Ctx} {Q : Exit → St → Prop} {c : Code} {σ : Type} (S : σ → St) (Φ : Nat → σ → Prop) (h0 : ∀ x, ¬ Φ 0 x)
    (step : ∀ n x, Φ (n + 1) x → AWP C c (thn (fun s' => ∃ x', Φ n x' ∧ VC C s' (S x')) Q) (S x)) (n : Nat) (x : σ) (hx : Φ n x) : AWP C (.loop c) Q (S x) := by
  intro ι a w r b k cs hro hb hr
  have key : ∀ n x ι a w, Φ n x → Rel C (S x) ι a w →
      ∃ e a' w', (∃ s' ι', Rel C s' ι' a' w' ∧ Q e s') ∧ ArrivesIn (Machine.fenced C.P (Fc C.r)) C.P (lone (b.atR a (.code c :: .inLoop c :: k)) cs w) b k cs e a' w' := by
    intro n
    induction n with
    | zero => intro x _ _ _ hx; exact absurd hx (h0 x)
    | succ n ih =>
      intro x ι a w hx r
      obtain ⟨e, a₁, w₁, ⟨s1, ι1, r1, q⟩, harr⟩ := step n x hx ι a w r b (.inLoop c :: k) cs hro hb hr
      cases e with
      | normal =>
        obtain ⟨x', hx', hvc⟩ := q
        obtain ⟨ι2, r2⟩ := hvc ι1 a₁ w₁ r1
        obtain ⟨e₂, a₂, w₂, hq₂, harr₂⟩ := ih x' ι2 a₁ w₁ hx' r2
        exact ⟨e₂, a₂, w₂, hq₂, .of_steps (StepsIn.trans harr (.one (fenced_calm hb hr rfl) stepR_inLoop)) harr₂⟩
      | exit id => exact ⟨_, a₁, w₁, ⟨s1, ι1, r1, q⟩, .pass (x := .inLoop c) rfl (fun _ _ => .inl (by simp)) harr⟩
      | goto l => exact ⟨_, a₁, w₁, ⟨s1, ι1, r1, q⟩, .pass (x := .inLoop c) rfl (fun _ _ => .inl (by simp)) harr⟩
      | ret => exact ⟨_, a₁, w₁, ⟨s1, ι1, r1, q⟩, .pass (x := .inLoop c) rfl (fun _ _ => .inl (by simp)) harr⟩
      | panic ch => exact ⟨_, a₁, w₁, ⟨s1, ι1, r1, q⟩, .pass (x := .inLoop c) rfl (fun _ _ => .inl (by simp)) harr⟩
      | outgrown => exact ⟨_, a₁, w₁, ⟨s1, ι1, r1, q⟩, .pass (x := .inLoop c) rfl (fun _ _ => .inl (by simp)) harr⟩
  obtain ⟨e, a', w', hq, harr⟩ := key n x ι a w hx r
  exact ⟨e, a', w', hq, .of_steps (.one (fenced_calm hb hr rfl) stepR_loop) harr⟩

/-- ONE OPERATION over states (its guard apart). -/
def AStep (C : Ctx) (o : Oper) (s s' : St) : Prop :=
  ∀ ι a w (K : Act → World → Prop) (Q : Exit → Act → World → Prop), Rel C s ι a w → (∀ ι' a' w', Rel C s' ι' a' w' → K a' w') → o.wpIn (Fc C.r) 0 C.P a w K Q

/-- The operations of a region, in their order. -/
def ARun (C : Ctx) (A : Array Oper) (l : List Oper) (s s' : St) : Prop :=
  ∀ ι a w (Q : Exit → Act → World → Prop), Rel C s ι a w → (∀ ι' a' w', Rel C s' ι' a' w' → Q .normal a' w') → wpListIn (Fc C.r) 0 C.P A Q l a w

theorem ARun.nil (C : Ctx) (A : Array Oper) (s : St) : ARun C A [] s s := fun ι a w _ r h => h ι a w r
theorem ARun.vc {C : Ctx} {A : Array Oper} {l : List Oper} {s s1 s2 : St} (h : VC C s s1) (t : ARun C A l s1 s2) : ARun C A l s s2 := fun ι a w Q r hq =>
  let ⟨ι', r'⟩ := h ι a w r; t ι' a w Q r' hq
theorem ARun.cons {C : Ctx} {A : Array Oper} {d : Option Nat} {op : Op} {ty : TypeId} {p : String} {e : Array Edge} {l : List Oper} {s s1 s2 : St}
    (h : AStep C ⟨d, op, ty, p, e, none⟩ s s1) (t : ARun C A l s1 s2) : ARun C A (⟨d, op, ty, p, e, none⟩ :: l) s s2 := fun ι a w Q r hq => by
  refine wpListIn_plain rfl fun K hK => h ι a w K Q r fun ι' a' w' r' => hK _ _ (t ι' a' w' Q r' hq)

theorem yielded_of {C : Ctx} {s : St} {ι : Tags} {a : Act} {w : World} (r : Rel C s ι a w) {A : Array Oper} {j dj : Nat} {b : Bool} (hj : (A[j]?).bind (·.dst) = some dj) (hd : dj < C.N)
    (hb : look dj s.env = some (.sc (.bool b))) : yielded A a.tmps j = some b := by
  have h := r.env dj _ hb
  have hs := r.size
  have he : a.tmps.getD dj undef = .bool b := by
    generalize a.tmps.getD dj undef = u at h
    cases h; rfl
  unfold yielded
  rw [hj]
  rw [Array.getD_eq_getD_getElem?] at he
  have hlt : dj < a.tmps.size := by rw [hs]; exact hd
  rw [Array.getElem?_eq_getElem hlt] at he
  simp only [Option.bind_some, Array.getElem?_eq_getElem hlt]
  simp only [Option.getD_some] at he
  rw [he]

theorem wanted1 {C : Ctx} {s : St} {ι : Tags} {a : Act} {w : World} (r : Rel C s ι a w) {A : Array Oper} {j dj : Nat} {b want : Bool} (hj : (A[j]?).bind (·.dst) = some dj) (hd : dj < C.N)
    (hb : look dj s.env = some (.sc (.bool b))) : (yielded A a.tmps j == some want) = (bif want then b else !b) := by
  rw [yielded_of r hj hd hb]
  cases b <;> cases want <;> rfl
theorem wanted2 {C : Ctx} {s : St} {ι : Tags} {a : Act} {w : World} (r : Rel C s ι a w) {A : Array Oper} {j dj : Nat} {a0 b want : Bool} (hj : (A[j]?).bind (·.dst) = some dj) (hd : dj < C.N)
    (hb : look dj s.env = some (.gd a0 (.sc (.bool b)))) : (yielded A a.tmps j == some want) = (a0 && (bif want then b else !b)) := by
  have h := r.env dj _ hb
  have hs := r.size
  have hlt : dj < a.tmps.size := by rw [hs]; exact hd
  unfold yielded
  rw [hj]
  rw [Array.getD_eq_getD_getElem?] at h
  simp only [Option.bind_some, Array.getElem?_eq_getElem hlt] at h ⊢
  simp only [Option.getD_some] at h
  generalize a.tmps[dj] = u at h
  cases h with
  | gd _ _ _ _ _ h hu =>
    cases a0 with
    | true => have := h rfl; cases this; cases b <;> cases want <;> rfl
    | false => rw [hu rfl]; cases want <;> rfl

/-- A guarded operation that only writes its slot. -/
theorem ARun.guardC {C : Ctx} {A : Array Oper} {d : Nat} {op : Op} {ty : TypeId} {p : String} {e : Array Edge} {j : Nat} {want c : Bool} {l : List Oper} {s s2 : St} {v : AV}
    (hw : ∀ ι a w, Rel C s ι a w → (yielded A a.tmps j == some want) = c) (hd : d < C.N)
    (h : c = true → AStep C ⟨some d, op, ty, p, e, some (j, want)⟩ s (s.put d v))
    (t : ARun C A l (s.put d (.gd c v)) s2) : ARun C A (⟨some d, op, ty, p, e, some (j, want)⟩ :: l) s s2 := fun ι a w Q r hq => by
  refine wpListIn_step fun K hK => ?_
  have hw : Region.wanted ⟨some d, op, ty, p, e, some (j, want)⟩ (yielded A a.tmps) = c := hw ι a w r
  rw [hw]
  by_cases hg : c = true
  · rw [if_pos hg]
    refine h hg ι a w K Q r fun ι' a' w' r' => hK _ _ (t ι' a' w' Q ?_ hq)
    refine ⟨r'.size, r'.dfr, ?_, r'.core, r'.stab⟩
    intro d' v' hl
    by_cases ed : d' = d
    · subst ed
      simp only [St.put, look_cons_self] at hl
      cases hl
      exact .gd _ _ _ _ _ (fun _ => r'.env d' v (by simp [St.put, look_cons_self])) (fun hf => by rw [hg] at hf; cases hf)
    · simp only [St.put, look_cons_ne ed] at hl
      exact r'.env d' v' (by simpa [St.put, look_cons_ne ed] using hl)
  · rw [if_neg hg]
    refine ⟨fun _ _ => trivial, hK _ _ (t ι _ w Q (r.put hd (.gd _ _ _ _ _ (fun h => absurd h hg) (fun _ => rfl))) hq)⟩
theorem ARun.guard {C : Ctx} {A : Array Oper} {d : Nat} {op : Op} {ty : TypeId} {p : String} {e : Array Edge} {j dj : Nat} {b want : Bool} {l : List Oper} {s s2 : St} {v : AV}
    (hj : (A[j]?).bind (·.dst) = some dj) (hdj : dj < C.N) (hb : look dj s.env = some (.sc (.bool b))) (hd : d < C.N)
    (h : (bif want then b else !b) = true → AStep C ⟨some d, op, ty, p, e, some (j, want)⟩ s (s.put d v))
    (t : ARun C A l (s.put d (.gd (bif want then b else !b) v)) s2) : ARun C A (⟨some d, op, ty, p, e, some (j, want)⟩ :: l) s s2 :=
  .guardC (fun _ _ _ r => wanted1 r hj hdj hb) hd h t
theorem ARun.guard2 {C : Ctx} {A : Array Oper} {d : Nat} {op : Op} {ty : TypeId} {p : String} {e : Array Edge} {j dj : Nat} {a0 b want : Bool} {l : List Oper} {s s2 : St} {v : AV}
    (hj : (A[j]?).bind (·.dst) = some dj) (hdj : dj < C.N) (hb : look dj s.env = some (.gd a0 (.sc (.bool b)))) (hd : d < C.N)
    (h : (a0 && (bif want then b else !b)) = true → AStep C ⟨some d, op, ty, p, e, some (j, want)⟩ s (s.put d v))
    (t : ARun C A l (s.put d (.gd (a0 && (bif want then b else !b)) v)) s2) : ARun C A (⟨some d, op, ty, p, e, some (j, want)⟩ :: l) s s2 :=
  .guardC (fun _ _ _ r => wanted2 r hj hdj hb) hd h t
theorem Ev.gdAnd {C : Ctx} {s : St} {x : Operand} {c b : Bool} {v : AV} (hc : c = true) (h : Ev C s x (.gd (c && b) v)) : Ev C s x (.gd b v) := by
  subst hc; exact h
theorem andL {a b : Bool} (h : (a && b) = true) : a = true := by cases a <;> simp_all
theorem andR {a b : Bool} (h : (a && b) = true) : b = true := by cases a <;> simp_all

theorem AWP.region {C : Ctx} {Q : Exit → St → Prop} {s s' : St} {id : Nat} {l : List Oper} (h : ARun C l.toArray l s s') (hq : Q .normal s') : AWP C (.region id l.toArray false) Q s :=
  fun ι a w r => wpIn_region_lit (h ι a w _ r fun ι' _ _ r' => ⟨s', ι', r', hq⟩)

theorem semAt_plain (r : Option Nat) (ρ : Operand → Value) (o : Oper) (h : ∀ c, o.op ≠ .defer c) : o.semAt r ρ = execOp ρ o := by
  cases r with
  | none => rfl
  | some l => exact Oper.semAt_some l _ _ h

/-- An operation by its run: a value in its slot. -/
theorem AStep.run {C : Ctx} {o : Oper} {s s' : St} (ho : ∀ c, o.op ≠ .defer c)
    (h : ∀ ι a w, Rel C s ι a w → ∃ u w' ι', (execOp a.eval o).run C.P w = .ok (.value u) w' ∧ Rel C s' ι' (a.put o.dst u) w') : AStep C o s s' := by
  intro ι a w K Q r hk
  obtain ⟨u, w', ι', hr, r'⟩ := h ι a w r
  refine ⟨fun _ _ => trivial, ?_⟩
  rw [semAt_plain _ _ _ ho, hr]
  exact hk _ _ _ r'
theorem AStep.runSkip {C : Ctx} {o : Oper} {s s' : St} (ho : ∀ c, o.op ≠ .defer c)
    (h : ∀ ι a w, Rel C s ι a w → ∃ w' ι', (execOp a.eval o).run C.P w = .ok .skip w' ∧ Rel C s' ι' (a.put o.dst undef) w') : AStep C o s s' := by
  intro ι a w K Q r hk
  obtain ⟨w', ι', hr, r'⟩ := h ι a w r
  refine ⟨fun _ _ => trivial, ?_⟩
  rw [semAt_plain _ _ _ ho, hr]
  exact hk _ _ _ r'

/-- An operation that computes a value and leaves the world. -/
theorem AStep.val {C : Ctx} {op : Op} {d : Nat} {ty : TypeId} {p : String} {e : Array Edge} {g : Option (Nat × Bool)} {s : St} {v : AV} (hd : d < C.N) (ho : ∀ c, op ≠ .defer c)
    (h : ∀ ι a w, Rel C s ι a w → ∃ u, (execOp a.eval ⟨some d, op, ty, p, e, g⟩).run C.P w = .ok (.value u) w ∧ VR w (zone C s.heap ι w) ι v u) :
    AStep C ⟨some d, op, ty, p, e, g⟩ s (s.put d v) :=
  .run ho fun ι a w r => let ⟨u, hr, hv⟩ := h ι a w r; ⟨u, w, ι, hr, r.put hd hv⟩
end Go.AB

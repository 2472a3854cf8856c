/-
  AB, part 29: iterators: what a function promises that calls yield for each of some elements; the call of yield.
-/
import Derived.Test.YtpccmcepgllccaaAb28
import Derived.RangeFuncSeq
import Derived.RangeFuncFrom
namespace Go.AB
open Go

/-- Within the blocks B no cells have turned. -/
structure Kept (B : Nat → Prop) (w w' : World) : Prop where
  size : w.heap.size ≤ w'.heap.size
  block : ∀ k c ty n, B k → w.heap[k]? = some (.cells c ty n) → w'.heap[k]? = w.heap[k]?
  bsz : ∀ b n, bsz w b = some n → bsz w' b = some n
theorem Kept.refl (B : Nat → Prop) (w : World) : Kept B w w := ⟨Nat.le_refl _, fun _ _ _ _ _ _ => rfl, fun _ _ h => h⟩
theorem Kept.trans {B : Nat → Prop} {w w1 w2 : World} (h : Kept B w w1) (k : Kept B w1 w2) : Kept B w w2 :=
  ⟨Nat.le_trans h.size k.size, fun b c ty n hb hc => by
    have h1 := h.block b c ty n hb hc
    rw [k.block b c ty n hb (h1.trans hc), h1], fun b n e => k.bsz _ _ (h.bsz _ _ e)⟩
theorem Kept.sub {B B' : Nat → Prop} {w w1 : World} (h : Kept B w w1) (hs : ∀ b, B' b → B b) : Kept B' w w1 := ⟨h.size, fun b c ty n hb hc => h.block b c ty n (hs b hb) hc, h.bsz⟩
theorem Trans.kept {T B : Nat → Prop} {w w' : World} (h : Trans T w w') (hB : ∀ b, b < w.heap.size → B b → ¬ T b) : Kept B w w' :=
  ⟨h.size, fun k c ty n hb hc => h.block k (Array.getElem?_eq_some_iff.1 hc).1 (hB k (Array.getElem?_eq_some_iff.1 hc).1 hb), h.bsz⟩
theorem cells_of_cell {w : World} {a : Addr} {v : Value} (h : w.cell? a = some v) : ∃ c ty n, w.heap[a.block]? = some (.cells c ty n) := by
  unfold World.cell? at h
  cases ho : w.heap[a.block]? with
  | none => simp [ho] at h
  | some o => cases o <;> simp_all
theorem Kept.cell {B : Nat → Prop} {w w' : World} (h : Kept B w w') {b o : Nat} {u : Value} (hb : B b) (hu : w.cell? ⟨b, o, none⟩ = some u) : w'.cell? ⟨b, o, none⟩ = some u := by
  obtain ⟨c, ty, n, hc⟩ := cells_of_cell hu
  rw [World.cell?_of_block (a := ⟨b, o, none⟩) (h.block b c ty n hb hc)]; exact hu
theorem bsz_putObj {w : World} {l : Nat} {o o' : Obj} (hl : w.heap[l]? = some o) (ho : o.isCells = false) (b n : Nat) (h : bsz w b = some n) : bsz (w.putObj l o') b = some n := by
  by_cases e : b = l
  · subst e
    unfold bsz at h
    rw [hl] at h
    cases o <;> first | (simp [Obj.isCells] at ho; done) | cases h
  · unfold bsz at h ⊢
    rw [World.putObj_heap_other e]; exact h
theorem Kept.putObj {B : Nat → Prop} {w : World} {l : Nat} {o o' : Obj} (hl : w.heap[l]? = some o) (ho : o.isCells = false) : Kept B w (w.putObj l o') :=
  ⟨by simp, fun k c ty n _ hc => World.putObj_heap_other (fun e => by subst e; rw [hl] at hc; cases hc; simp [Obj.isCells] at ho), bsz_putObj hl ho⟩
theorem Kept.alloc {B : Nat → Prop} (w : World) (o : Obj) : Kept B w (w.alloc o) :=
  ⟨by simp, fun k c ty n _ hc => RowKit.Below.heap_alloc w o k (Array.getElem?_eq_some_iff.1 hc).1, fun b n h => by
    unfold Go.AB.bsz at h ⊢
    cases hb : w.heap[b]? with
    | none => rw [hb] at h; cases h
    | some x => rw [RowKit.Below.heap_alloc w o b (Array.getElem?_eq_some_iff.1 hb).1]; exact h⟩

/-- What is true of a caller through an iterator's steps: O: the blocks that the iterator may turn; I: all that it has laid, or was handed. -/
def Abide (J : (Nat → Prop) → (Nat → Prop) → World → Prop) : Prop :=
  ∀ O O' I I' W W', J O I W → Trans O W W' → (∀ b, O' b → O b ∨ W.heap.size ≤ b) → (∀ b, I' b ↔ I b ∨ (W.heap.size ≤ b ∧ b < W'.heap.size)) → J O' I' W'

/-- One call of yield, from a caller that has come so far. -/
def RoundOk {E : Type} (P : Program) (l : Nat) (vals : E → List AV) (xs : List E) (Zs Zb : Nat → Prop) (J : List E → (Nat → Prop) → (Nat → Prop) → World → Prop) (Jx : (Nat → Prop) → (Nat → Prop) → World → Prop) : Prop :=
  ∀ pre x rest O I W (Z : Zone) us, xs = pre ++ x :: rest → J pre O I W → (∀ b, O b → I b) → (∀ b, I b → b < W.heap.size) →
    (∀ β b, Z β b → b < W.heap.size ∧ ¬ O b ∧ (Zs b ∨ (β = true ∧ Zb b) ∨ I b)) → VRs W Z (fun _ => none) (vals x) us →
    YieldAt (Fc none) 0 P l us.toArray W fun e W' => Kept (fun b => O b ∨ Z false b ∨ Z true b) W W' ∧ ((e = .returned (.bool true) ∧ J (pre ++ [x]) O I W') ∨ (e = .returned (.bool false) ∧ Jx O I W'))

/-- THE CONTRACT OF AN ITERATOR: on captured values 'avs', with the blocks H, it calls yield for each of xs, one behind the other; it stops where yield says so. -/
def ItSpec (P : Program) (f : FuncId) (avs : List AV) (H : List (Nat × Blk)) {E : Type} (vals : E → List AV) (xs : List E) : Prop :=
  callable P f ∧ ∀ (Zs Zb : Nat → Prop) (ι : Tags) (w : World) (vs : List Value) (N : Nat) (dfr : List Deferred) (ro : Option Nat),
    Core ⟨P, ro, N, dfr, w, Zs, Zb, ownedBy H ι, [], ι⟩ H ι w → VRs w (zone ⟨P, ro, N, dfr, w, Zs, Zb, ownedBy H ι, [], ι⟩ H ι w) ι avs vs →
    ∀ (l : Nat) (J : List E → (Nat → Prop) → (Nat → Prop) → World → Prop) (Jx : (Nat → Prop) → (Nat → Prop) → World → Prop), (∀ pre, Abide (J pre)) → Abide Jx → RoundOk P l vals xs Zs Zb J Jx →
    J [] (ownedBy H ι) (ownedBy H ι) w →
    CallsIn (Fc none) 0 P f (Value.func (.yield l) #[] #[] :: vs).toArray w fun e W' => (∃ v, e = .returned v) ∧ ∃ O' I', J xs O' I' W' ∨ Jx O' I' W'

structure ItD where
  w0 : World
  Zs : Nat → Prop
  Zb : Nat → Prop
  T0 : Nat → Prop
  I : Nat → Prop

structure ItH {E : Type} (xs : List E) (Zs Zb : Nat → Prop) (J : List E → (Nat → Prop) → (Nat → Prop) → World → Prop) (Jx : (Nat → Prop) → (Nat → Prop) → World → Prop) (g : Option (List E)) (d : ItD) : Prop where
  past : match g with
    | some rest => ∃ pre, xs = pre ++ rest ∧ J pre d.T0 d.I d.w0
    | none => Jx d.T0 d.I d.w0
  own : ∀ b, d.T0 b → d.I b
  lt : ∀ b, d.I b → b < d.w0.heap.size
  zs : ∀ b, d.Zs b → Zs b ∨ d.I b
  zb : ∀ b, d.Zb b → Zb b ∨ Zs b ∨ d.I b

def itFam {E : Type} (P : Program) (N : Nat) (ι0 : Tags) (xs : List E) (Zs Zb : Nat → Prop) (J : List E → (Nat → Prop) → (Nat → Prop) → World → Prop) (Jx : (Nat → Prop) → (Nat → Prop) → World → Prop) : Fam (Option (List E)) where
  D := ItD
  P := P
  r := none
  cx d := ⟨P, none, N, [], d.w0, d.Zs, d.Zb, d.T0, [], ι0⟩
  H g d := ItH xs Zs Zb J Jx g d
  hP _ := rfl
  hr _ := rfl

/-- A caller's state, seen from a later world of the iterator's. -/
theorem ItH.now {E : Type} {P : Program} {N : Nat} {ι0 : Tags} {xs : List E} {Zs Zb : Nat → Prop} {J : List E → (Nat → Prop) → (Nat → Prop) → World → Prop} {Jx : (Nat → Prop) → (Nat → Prop) → World → Prop} {g : Option (List E)} {d : ItD}
    (h : ItH xs Zs Zb J Jx g d) (hJ : ∀ pre, Abide (J pre)) (hJx : Abide Jx) {s : St} {ι : Tags} {a : Act} {w : World} (r : Rel ((itFam P N ι0 xs Zs Zb J Jx).cx d) s ι a w) :
    ItH xs Zs Zb J Jx g ⟨w, fun b => zone ((itFam P N ι0 xs Zs Zb J Jx).cx d) s.heap ι w false b, fun b => zone ((itFam P N ι0 xs Zs Zb J Jx).cx d) s.heap ι w true b, ownedBy s.heap ι,
      fun b => d.I b ∨ (d.w0.heap.size ≤ b ∧ b < w.heap.size)⟩ := by
  have hO : ∀ b, ownedBy s.heap ι b → d.T0 b ∨ d.w0.heap.size ≤ b := by
    rintro b ⟨t, ht, e⟩
    exact (r.core.own t b ht e).symm
  have hOlt : ∀ b, ownedBy s.heap ι b → b < w.heap.size := by
    rintro b ⟨t, ⟨k, hk⟩, e⟩
    have := r.core.blk t k hk
    unfold BlkR at this
    rw [e] at this
    obtain ⟨cur, q, _⟩ := this
    exact (Array.getElem?_eq_some_iff.1 q).1
  refine ⟨?_, fun b hb => ?_, fun b hb => ?_, fun b hb => ?_, fun b hb => ?_⟩
  · have hp := h.past
    cases g with
    | none => exact hJx _ _ _ _ _ _ hp r.core.tr hO (fun b => Iff.rfl)
    | some rest =>
      obtain ⟨pre, e, hj⟩ := hp
      exact ⟨pre, e, hJ pre _ _ _ _ _ _ hj r.core.tr hO (fun b => Iff.rfl)⟩
  · rcases hO b hb with h1 | h1
    · exact .inl (h.own b h1)
    · exact .inr ⟨h1, hOlt b hb⟩
  · rcases hb with hb | hb
    · exact Nat.lt_of_lt_of_le (h.lt b hb) r.core.tr.size
    · exact hb.2
  · obtain ⟨z1, _, z3⟩ := hb
    rcases z3 with ⟨h1, _⟩ | h1 | h1 | h1
    · cases h1
    · rcases h.zs b h1 with h2 | h2
      · exact .inl h2
      · exact .inr (.inl h2)
    · exact .inr (.inr ⟨h1, z1⟩)
    · exact .inr (.inl (h.own b h1))
  · obtain ⟨z1, _, z3⟩ := hb
    rcases z3 with ⟨_, h1⟩ | h1 | h1 | h1
    · rcases h.zb b h1 with h2 | h2 | h2
      · exact .inl h2
      · exact .inr (.inl h2)
      · exact .inr (.inr (.inl h2))
    · rcases h.zs b h1 with h2 | h2
      · exact .inr (.inl h2)
      · exact .inr (.inr (.inl h2))
    · exact .inr (.inr (.inr ⟨h1, z1⟩))
    · exact .inr (.inr (.inl (h.own b h1)))

/-- A state in a context that begins anew, in a world that keeps what the state leans on. -/
theorem Rel.anew {C : Ctx} {s : St} {ι : Tags} {a : Act} {w w' : World} (r : Rel C s ι a w) (ro : Option Nat) {dfr : List Deferred} {tm : Array Value} (ht : tm = a.tmps)
    (k : Kept (fun b => ownedBy s.heap ι b ∨ zone C s.heap ι w false b ∨ zone C s.heap ι w true b) w w') :
    Rel ⟨C.P, ro, C.N, dfr, w', fun b => zone C s.heap ι w false b, fun b => zone C s.heap ι w true b, ownedBy s.heap ι, C.K, C.ι0⟩ s ι ⟨tm, dfr⟩ w' := by
  subst ht
  have hZ : ∀ β b, zone C s.heap ι w β b → zone ⟨C.P, ro, C.N, dfr, w', fun b => zone C s.heap ι w false b, fun b => zone C s.heap ι w true b, ownedBy s.heap ι, C.K, C.ι0⟩ s.heap ι w' β b := by
    intro β b hz
    refine ⟨Nat.lt_of_lt_of_le hz.1 k.size, hz.2.1, ?_⟩
    cases β with
    | true => exact .inl ⟨rfl, hz⟩
    | false => exact .inr (.inl hz)
  have hcell : ∀ β b o u, zone C s.heap ι w β b → w.cell? ⟨b, o, none⟩ = some u → w'.cell? ⟨b, o, none⟩ = some u := by
    intro β b o u hz hu
    exact k.cell (by cases β with | true => exact .inr (.inr hz) | false => exact .inr (.inl hz)) hu
  refine ⟨r.size, rfl, fun d v hl => (r.env d v hl).mono k.bsz _ _ hZ hcell (fun _ _ _ h => h), ⟨fun t kk hk => ?_, r.core.inj, fun t b ht e => .inr ⟨t, ht, e⟩, Trans.refl _ _⟩, r.stab⟩
  have h0 := r.core.blk t kk hk
  unfold BlkR at h0 ⊢
  cases hx : ι t with
  | none => simp only [hx] at h0 ⊢; exact h0
  | some b =>
    simp only [hx] at h0 ⊢
    obtain ⟨cur, q1, q2, q3⟩ := h0
    refine ⟨cur, ?_, q2, fun i hi => ?_⟩
    · rw [k.block b _ _ _ (.inl ⟨t, ⟨kk, hk⟩, hx⟩) q1]; exact q1
    · obtain ⟨u, hu, hv⟩ := q3 i hi
      refine ⟨u, hu, hv.mono k.bsz _ _ ?_ ?_ (fun _ _ _ h => h)⟩
      · cases kk.lst with
        | true => exact fun _ b hb => hZ _ _ hb
        | false => exact hZ
      · cases kk.lst with
        | true => exact fun _ b o u hb => hcell _ b o u hb
        | false => exact hcell

inductive EvV (C : Ctx) (s : St) : List Operand → List AV → Prop
  | nil : EvV C s [] []
  | cons {x : Operand} {v : AV} {xs : List Operand} {vs : List AV} (h : Ev C s x v) (hv : v.tags = []) (t : EvV C s xs vs) : EvV C s (x :: xs) (v :: vs)
theorem EvV.vrs {C : Ctx} {s : St} {xs : List Operand} {vs : List AV} (h : EvV C s xs vs) {ι : Tags} {a : Act} {w : World} (r : Rel C s ι a w) :
    VRs w (zone C s.heap ι w) (fun _ => none) vs (xs.map a.eval) := by
  induction h with
  | nil => exact ⟨rfl, fun i hi => absurd hi (by simp)⟩
  | cons h hv t ih =>
    refine ⟨by simp [ih.1], fun i hi => ?_⟩
    cases i with
    | zero =>
      refine ⟨_, rfl, (h ι a w r).mono (fun _ _ h => h) _ _ (fun _ _ h => h) (fun _ _ _ _ _ h => h) fun t b hf => ?_⟩
      have := AV.tags_of_free hf
      rw [hv] at this; cases this
    | succ i =>
      obtain ⟨u, h1, h2⟩ := ih.2 i (by simpa using hi)
      exact ⟨u, by simpa using h1, h2⟩

section
variable {E : Type} {P : Program} {N : Nat} {ι0 : Tags} {xs : List E} {Zs Zb : Nat → Prop} {J : List E → (Nat → Prop) → (Nat → Prop) → World → Prop} {Jx : (Nat → Prop) → (Nat → Prop) → World → Prop}

/-- THE CALL OF yield. -/
theorem yieldStep {l : Nat} {vals : E → List AV} (hJ : ∀ pre, Abide (J pre)) (hJx : Abide Jx) (hR : RoundOk P l vals xs Zs Zb J Jx) {dst : Nat} {y : Operand} {args : Array Operand} {ats : Array TypeId} {ty : TypeId} {p : String} {e : Array Edge} {gd : Option (Nat × Bool)} {s : St}
    {x : E} {rest : List E} (hd : dst < N) (hy : ∀ d, Ev ((itFam P N ι0 xs Zs Zb J Jx).cx d) s y (.sc (.func (.yield l) #[] #[]))) (ha : ∀ d, EvV ((itFam P N ι0 xs Zs Zb J Jx).cx d) s args.toList (vals x))
    {d : ItD} {ι : Tags} {a : Act} {w : World} (K : Act → World → Prop) (Q : Exit → Act → World → Prop) (hH : (itFam P N ι0 xs Zs Zb J Jx).H (some (x :: rest)) d) (r : Rel ((itFam P N ι0 xs Zs Zb J Jx).cx d) s ι a w)
    (hk : ∀ b d' ι' a' w', (itFam P N ι0 xs Zs Zb J Jx).H (if b = true then some rest else none) d' → Rel ((itFam P N ι0 xs Zs Zb J Jx).cx d') (s.put dst (.sc (.bool b))) ι' a' w' → K a' w') :
    (⟨some dst, .call { callee := .value y, args := args, argTypes := ats }, ty, p, e, gd⟩ : Oper).wpIn (Fc none) 0 P a w K Q := by
  have hn := ItH.now hH hJ hJx r
  obtain ⟨pre, exs, hj⟩ := hn.past
  have hv := (ha d).vrs r
  obtain ⟨fn, tmps, assign, body, hrun, hround⟩ := hR pre x rest _ _ w (zone ((itFam P N ι0 xs Zs Zb J Jx).cx d) s.heap ι w) _ exs hj hn.own hn.lt (fun β b hz => by
    refine ⟨hz.1, fun ⟨t, ht, e1⟩ => hz.2.1 t ht e1, ?_⟩
    cases β with
    | false =>
      rcases hn.zs b hz with h | h
      · exact .inl h
      · exact .inr (.inr h)
    | true =>
      rcases hn.zb b hz with h | h | h
      · exact .inr (.inl ⟨rfl, h⟩)
      · exact .inl h
      · exact .inr (.inr h)) hv
  refine ⟨fun _ _ => trivial, ?_⟩
  rw [semAt_plain _ _ _ (fun _ h => by cases h)]
  have he : a.eval y = .func (.yield l) #[] #[] := (hy d).sc r
  have hexec : (execOp a.eval ⟨some dst, .call { callee := .value y, args := args, argTypes := ats }, ty, p, e, gd⟩).run P w = .ok (.round l fn tmps assign body) w := by
    have hargs : (args.toList.map a.eval).toArray = args.map a.eval := by
      apply Array.ext'
      simp
    rw [hargs] at hrun
    simp [execOp, resolve, he, Deferred.ofValue, invoke, hrun]
  rw [hexec, Oper.uponIn_round]
  refine ⟨(fun h => by cases h), RoundIn.mono hround ?_⟩
  rintro e' W' ⟨kept, hres⟩
  have fin : ∀ b, (match (if b = true then some rest else none) with | some rest => ∃ pre, xs = pre ++ rest ∧ J pre (ownedBy s.heap ι) (fun b => d.I b ∨ (d.w0.heap.size ≤ b ∧ b < w.heap.size)) W' | none => Jx (ownedBy s.heap ι) (fun b => d.I b ∨ (d.w0.heap.size ≤ b ∧ b < w.heap.size)) W') → K (a.put (some dst) (.bool b)) W' := by
    intro b hp
    have r2 := r.anew none (dfr := []) (tm := a.tmps) rfl kept
    refine hk b ⟨W', _, _, _, fun b => d.I b ∨ (d.w0.heap.size ≤ b ∧ b < w.heap.size)⟩ ι _ _ ⟨?_, hn.own, fun b hb => Nat.lt_of_lt_of_le (hn.lt b hb) kept.size, hn.zs, hn.zb⟩ (by
      have h3 := r2.put (d := dst) (u := .bool b) hd (.sc _ _ _)
      have e1 : a = ⟨a.tmps, []⟩ := by
        have := r.dfr
        obtain ⟨x, y⟩ := a
        simp only at this
        subst this
        rfl
      rw [e1]
      exact h3)
    cases b with
    | true => exact hp
    | false => exact hp
  rcases hres with ⟨rfl, hj'⟩ | ⟨rfl, hj'⟩
  · exact fin true ⟨pre ++ [x], by rw [exs]; simp, hj'⟩
  · exact fin false hj'
end

/-! a region with a call of yield in it -/
def ARunY {R : Type} (φ : Fam (Option R)) (A : Array Oper) (l : List Oper) (g : Option R) (s : St) (S : Bool → Option R × St) : Prop :=
  ∀ d ι a w (Q : Exit → Act → World → Prop), φ.H g d → Rel (φ.cx d) s ι a w → (∀ b d' ι' a' w', φ.H (S b).1 d' → Rel (φ.cx d') (S b).2 ι' a' w' → Q .normal a' w') → wpListIn (Fc φ.r) 0 φ.P A Q l a w
section
variable {R : Type} {φ : Fam (Option R)} {A : Array Oper} {l : List Oper} {g : Option R} {s s1 s2 : St} {S : Bool → Option R × St}

theorem ARunY.vc (h : ∀ d, VC (φ.cx d) s s1) (t : ARunY φ A l g s1 S) : ARunY φ A l g s S := fun d ι a w Q hH r hq =>
  let ⟨ι', r'⟩ := h d ι a w r; t d ι' a w Q hH r' hq
theorem ARunY.cons {dst : Option Nat} {op : Op} {ty : TypeId} {p : String} {e : Array Edge} (h : ∀ d, AStep (φ.cx d) ⟨dst, op, ty, p, e, none⟩ s s1) (t : ARunY φ A l g s1 S) :
    ARunY φ A (⟨dst, op, ty, p, e, none⟩ :: l) g s S := fun d ι a w Q hH r hq => by
  refine wpListIn_plain rfl fun K hK => ?_
  have := h d ι a w K Q r fun ι' a' w' r' => hK _ _ (t d ι' a' w' Q hH r' hq)
  rw [φ.hP, φ.hr] at this
  exact this
theorem ARunY.guardC {dst : Nat} {op : Op} {ty : TypeId} {p : String} {e : Array Edge} {j : Nat} {want c : Bool} {v : AV}
    (hw : ∀ d ι a w, Rel (φ.cx d) s ι a w → (yielded A a.tmps j == some want) = c) (hd : ∀ d, dst < (φ.cx d).N)
    (h : c = true → ∀ d, AStep (φ.cx d) ⟨some dst, op, ty, p, e, some (j, want)⟩ s (s.put dst v))
    (t : ARunY φ A l g (s.put dst (.gd c v)) S) : ARunY φ A (⟨some dst, op, ty, p, e, some (j, want)⟩ :: l) g s S := fun d ι a w Q hH r hq => by
  refine wpListIn_step fun K hK => ?_
  have hw : Region.wanted ⟨some dst, op, ty, p, e, some (j, want)⟩ (yielded A a.tmps) = c := hw d ι a w r
  rw [hw]
  by_cases hg : c = true
  · rw [if_pos hg]
    have := h hg d ι a w K Q r fun ι' a' w' r' => hK _ _ (t d ι' a' w' Q hH ?_ hq)
    · rw [φ.hP, φ.hr] at this
      exact this
    · refine ⟨r'.size, r'.dfr, ?_, r'.core, r'.stab⟩
      intro d' v' hl
      by_cases ed : d' = dst
      · subst ed
        simp only [St.put, look_cons_self] at hl
        cases hl
        exact .gd _ _ _ _ _ (fun _ => r'.env d' v (by simp [St.put, look_cons_self])) (fun hf => by rw [hg] at hf; cases hf)
      · simp only [St.put, look_cons_ne ed] at hl
        exact r'.env d' v' (by simpa [St.put, look_cons_ne ed] using hl)
  · rw [if_neg hg]
    refine ⟨fun _ _ => trivial, hK _ _ (t d ι _ w Q hH (r.put (hd d) (.gd _ _ _ _ _ (fun h => absurd h hg) (fun _ => rfl))) hq)⟩
theorem ARunY.guard {dst : Nat} {op : Op} {ty : TypeId} {p : String} {e : Array Edge} {j dj : Nat} {b want : Bool} {v : AV}
    (hj : (A[j]?).bind (·.dst) = some dj) (hdj : ∀ d, dj < (φ.cx d).N) (hb : look dj s.env = some (.sc (.bool b))) (hd : ∀ d, dst < (φ.cx d).N)
    (h : (bif want then b else !b) = true → ∀ d, AStep (φ.cx d) ⟨some dst, op, ty, p, e, some (j, want)⟩ s (s.put dst v))
    (t : ARunY φ A l g (s.put dst (.gd (bif want then b else !b) v)) S) : ARunY φ A (⟨some dst, op, ty, p, e, some (j, want)⟩ :: l) g s S :=
  .guardC (fun d _ _ _ r => wanted1 r hj (hdj d) hb) hd h t
theorem ARunY.guard2 {dst : Nat} {op : Op} {ty : TypeId} {p : String} {e : Array Edge} {j dj : Nat} {a0 b want : Bool} {v : AV}
    (hj : (A[j]?).bind (·.dst) = some dj) (hdj : ∀ d, dj < (φ.cx d).N) (hb : look dj s.env = some (.gd a0 (.sc (.bool b)))) (hd : ∀ d, dst < (φ.cx d).N)
    (h : (a0 && (bif want then b else !b)) = true → ∀ d, AStep (φ.cx d) ⟨some dst, op, ty, p, e, some (j, want)⟩ s (s.put dst v))
    (t : ARunY φ A l g (s.put dst (.gd (a0 && (bif want then b else !b)) v)) S) : ARunY φ A (⟨some dst, op, ty, p, e, some (j, want)⟩ :: l) g s S :=
  .guardC (fun d _ _ _ r => wanted2 r hj (hdj d) hb) hd h t

/-- the call itself, out of any guard -/
theorem ARunY.yield {dst : Nat} {op : Op} {ty : TypeId} {p : String} {e : Array Edge} {gb : Bool → Option R} {s' : Bool → St}
    (h : ∀ d ι a w K Q, φ.H g d → Rel (φ.cx d) s ι a w → (∀ b d' ι' a' w', φ.H (gb b) d' → Rel (φ.cx d') (s.put dst (.sc (.bool b))) ι' a' w' → K a' w') → (⟨some dst, op, ty, p, e, none⟩ : Oper).wpIn (Fc φ.r) 0 φ.P a w K Q)
    (t : ∀ b d, ARun (φ.cx d) A l (s.put dst (.sc (.bool b))) (s' b)) : ARunY φ A (⟨some dst, op, ty, p, e, none⟩ :: l) g s (fun b => (gb b, s' b)) := fun d ι a w Q hH r hq => by
  refine wpListIn_plain rfl fun K hK => h d ι a w K Q hH r fun b d' ι' a' w' hH' r' => hK _ _ ?_
  have := t b d' ι' a' w' Q r' fun ι2 a2 w2 r2 => hq b d' ι2 a2 w2 hH' r2
  rw [φ.hP, φ.hr] at this
  exact this
/-- the call under a guard -/
theorem ARunY.gyield {dst : Nat} {op : Op} {ty : TypeId} {p : String} {e : Array Edge} {j : Nat} {want c : Bool} {gb : Bool → Option R} {s' : Bool → St}
    (hw : ∀ d ι a w, Rel (φ.cx d) s ι a w → (yielded A a.tmps j == some want) = c) (hd : ∀ d, dst < (φ.cx d).N)
    (h : c = true → ∀ d ι a w K Q, φ.H g d → Rel (φ.cx d) s ι a w → (∀ b d' ι' a' w', φ.H (gb b) d' → Rel (φ.cx d') (s.put dst (.sc (.bool b))) ι' a' w' → K a' w') → (⟨some dst, op, ty, p, e, some (j, want)⟩ : Oper).wpIn (Fc φ.r) 0 φ.P a w K Q)
    (hg : c = false → gb true = g)
    (t : ∀ b d, ARun (φ.cx d) A l (s.put dst (.gd c (.sc (.bool b)))) (s' b)) : ARunY φ A (⟨some dst, op, ty, p, e, some (j, want)⟩ :: l) g s (fun b => (gb b, s' b)) := fun d ι a w Q hH r hq => by
  refine wpListIn_step fun K hK => ?_
  have hw : Region.wanted ⟨some dst, op, ty, p, e, some (j, want)⟩ (yielded A a.tmps) = c := hw d ι a w r
  rw [hw]
  have fin : ∀ b d' ι' a' w', φ.H (gb b) d' → Rel (φ.cx d') (s.put dst (.gd c (.sc (.bool b)))) ι' a' w' → K a' w' := fun b d' ι' a' w' hH' r' => by
    refine hK _ _ ?_
    have := t b d' ι' a' w' Q r' fun ι2 a2 w2 r2 => hq b d' ι2 a2 w2 hH' r2
    rw [φ.hP, φ.hr] at this
    exact this
  by_cases hg1 : c = true
  · rw [if_pos hg1]
    refine h hg1 d ι a w K Q hH r fun b d' ι' a' w' hH' r' => fin b d' ι' a' w' hH' ?_
    refine ⟨r'.size, r'.dfr, ?_, r'.core, r'.stab⟩
    intro d2 v' hl
    by_cases ed : d2 = dst
    · subst ed
      simp only [St.put, look_cons_self] at hl
      cases hl
      exact .gd _ _ _ _ _ (fun _ => r'.env d2 _ (by simp [St.put, look_cons_self])) (fun hf => by rw [hg1] at hf; cases hf)
    · simp only [St.put, look_cons_ne ed] at hl
      exact r'.env d2 v' (by simpa [St.put, look_cons_ne ed] using hl)
  · rw [if_neg hg1]
    refine ⟨fun _ _ => trivial, fin true d ι _ w (by rw [hg (by simpa using hg1)]; exact hH) (r.put (hd d) (.gd _ _ _ _ _ (fun h => absurd h hg1) (fun _ => rfl)))⟩
theorem AWPF.regionY {Q : Exit → Option R → St → Prop} {id : Nat} (h : ARunY φ l.toArray l g s S) (hq : ∀ b, Q .normal (S b).1 (S b).2) : AWPF φ (.region id l.toArray false) Q g s :=
  fun d ι a w hH r => wpIn_region_lit (h d ι a w _ hH r fun b d' ι' _ _ hH' r' => ⟨(S b).1, (S b).2, d', ι', hH', r', hq b⟩)
end

/-- what is still to come behind 'if e || !yield(x) {..}' -/
def ghY {E : Type} (e b : Bool) (r rest : List E) : Option (List E) := if e = true then some r else if b = true then some rest else none
/-- the model of 'if e || !yield(x) { return }' and what follows -/
def yldM {E : Type} (e : Bool) (x : E) (m : Option (List E)) : Option (List E) := if e = true then some [] else m.map (x :: ·)
theorem yldS {E : Type} {e : Bool} {x : E} {m : Option (List E)} {r : List E} (h : yldM e x m = some r) : ∃ rest, (e = false → r = x :: rest ∧ m = some rest) ∧ (e = true → r = []) := by
  unfold yldM at h
  cases e with
  | true => exact ⟨[], (fun h => by cases h), (fun _ => by simpa using h.symm)⟩
  | false =>
    simp only [Bool.false_eq_true, if_false] at h
    cases m with
    | none => cases h
    | some q =>
      simp only [Option.map_some, Option.some.injEq] at h
      exact ⟨q, (fun _ => ⟨h.symm, rfl⟩), (fun h => by cases h)⟩

section
variable {E : Type} {φ : Fam (Option (List E))} {Q : Exit → Option (List E) → St → Prop} {s : St}
theorem AWPF.condY {x : Operand} {c1 c2 : Code} {e b : Bool} {y : E} {r rest : List E} {m : Option (List E)} (hy : (e = false → r = y :: rest ∧ m = some rest) ∧ (e = true → r = []))
    (hx : ∀ d, Ev (φ.cx d) s x (.sc (.bool (e || !b)))) (ret : ∀ g, (g = some [] ∨ g = none) → AWPF φ c1 Q g s) (go : m = some rest → AWPF φ c2 Q (some rest) s) : AWPF φ (.cond x c1 c2) Q (ghY e b r rest) s := by
  refine AWPF.cond hx (fun hc => ret _ ?_) (fun hc => ?_)
  · unfold ghY
    cases e with
    | true => exact .inl (by simp [hy.2 rfl])
    | false =>
      cases b with
      | true => cases hc
      | false => exact .inr rfl
  · cases e with
    | true => cases hc
    | false =>
      cases b with
      | true => exact go (hy.1 rfl).2
      | false => cases hc
end

theorem Core.lt {C : Ctx} {H : List (Nat × Blk)} {ι : Tags} {w : World} (h : Core C H ι w) {b : Nat} (hb : ownedBy H ι b) : b < w.heap.size := by
  obtain ⟨t, ⟨k, hk⟩, e⟩ := hb
  have := h.blk t k hk
  unfold BlkR at this
  rw [e] at this
  obtain ⟨cur, q, _⟩ := this
  exact (Array.getElem?_eq_some_iff.1 q).1

/-- An iterator's contract from the walk of its body. -/
theorem ItSpec.of {P : Program} {f : FuncId} {fn : Func} {c : Code} {avs : List AV} {H : List (Nat × Blk)} {E : Type} {vals : E → List AV} {xs : List E} {N : Nat} (hf : P.funcs[f]? = some fn) (hnt : fn.ntmps = N) (hb : fn.body = some c)
    (hc : (fn.name == "runtime.NumGoroutine") = false) (hN : avs.length + 1 ≤ N) (hres : ∀ tmps w, ∃ v, (results fn tmps).run P w = .ok v w)
    (h : ∀ l ι0 Zs Zb J Jx, (∀ pre, Abide (J pre)) → Abide Jx → RoundOk P l vals xs Zs Zb J Jx →
      AWPF (itFam P N ι0 xs Zs Zb J Jx) c (fun e g _ => (e = .ret ∨ e = .normal) ∧ (g = some [] ∨ g = none)) (some xs) ⟨enum 0 (.sc (.func (.yield l) #[] #[]) :: avs), H⟩) : ItSpec P f avs H vals xs := by
  subst hnt
  refine ⟨⟨fn, hf, by simp [hb], hc⟩, fun Zs Zb ι w vs N dfr ro hcore hvs l J Jx hJ hJx hR h0 => ?_⟩
  obtain ⟨hl, hv⟩ := hvs
  have hw := h l ι Zs Zb J Jx hJ hJx hR ⟨w, Zs, Zb, ownedBy H ι, ownedBy H ι⟩ ι { tmps := (Value.func (.yield l) #[] #[] :: vs).toArray ++ Array.replicate (fn.ntmps - (Value.func (.yield l) #[] #[] :: vs).toArray.size) undef, defers := [] } w
    ⟨⟨[], rfl, h0⟩, fun _ h => h, fun b hb => hcore.lt hb, fun _ h => .inl h, fun _ h => .inl h⟩ ?_
  · refine callsIn_of_wp hf hb trivial (wpIn_mono hw fun e a' w' ⟨g, s', d', ι', hH', r', he, hg⟩ => ?_)
    have hn := ItH.now hH' hJ hJx r'
    obtain ⟨v, hv⟩ := hres a'.tmps w'
    have hfin : ∃ O' I', J xs O' I' w' ∨ Jx O' I' w' := by
      have hp := hn.past
      rcases hg with rfl | rfl
      · obtain ⟨pre, e1, hj⟩ := hp
        rw [List.append_nil] at e1
        subst e1
        exact ⟨_, _, .inl hj⟩
      · exact ⟨_, _, .inr hp⟩
    have : bodyPost P fn (fun e w' => (∃ v, e = Ending.returned v) ∧ ∃ O' I', J xs O' I' w' ∨ Jx O' I' w') .normal a' w' := ⟨r'.dfr, v, hv, ⟨v, rfl⟩, hfin⟩
    rcases he with rfl | rfl
    · exact this
    · exact this
  · refine ⟨by show _ = fn.ntmps; simp [hl]; omega, rfl, ?_, ⟨hcore.blk, hcore.inj, hcore.own, hcore.tr⟩, fun _ h => by cases h⟩
    intro d v hlk
    rw [look_enum] at hlk
    simp only [Nat.zero_le, if_true, Nat.sub_zero] at hlk
    have hd := (List.getElem?_eq_some_iff.1 hlk).1
    have hall : ∀ i (hi : i < (AV.sc (.func (.yield l) #[] #[]) :: avs).length), ∃ u, (Value.func (.yield l) #[] #[] :: vs)[i]? = some u ∧ VR w (zone ⟨P, ro, N, dfr, w, Zs, Zb, ownedBy H ι, [], ι⟩ H ι w) ι ((AV.sc (.func (.yield l) #[] #[]) :: avs)[i]'hi) u := by
      intro i hi
      cases i with
      | zero => exact ⟨_, rfl, .sc _ _ _⟩
      | succ i =>
        obtain ⟨u, h1, h2⟩ := hv i (by simpa using hi)
        exact ⟨u, by simpa using h1, h2⟩
    obtain ⟨u, hu, hvr⟩ := hall d hd
    have he : (AV.sc (.func (.yield l) #[] #[]) :: avs)[d] = v := by rw [List.getElem?_eq_getElem hd] at hlk; exact Option.some.inj hlk
    rw [he] at hvr
    have : ((Value.func (.yield l) #[] #[] :: vs).toArray ++ Array.replicate (fn.ntmps - (Value.func (.yield l) #[] #[] :: vs).toArray.size) undef).getD d undef = u := by
      rw [Array.getD_eq_getD_getElem?, Array.getElem?_append_left (by simp only [List.length_cons] at hd; simp [hl]; omega)]
      simp [hu]
    simp only [this]
    exact hvr
end Go.AB

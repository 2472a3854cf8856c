/-
  AB, part 13: a region whose order is open.
-/
import Derived.Test.YtpccmcepgllccaaAb12
import Derived.OrdersIn
namespace Go.AB
open Go

/-- One operation of a region, its guard with it. -/
def OStep (C : Ctx) (A : Array Oper) (o : Oper) (s s' : St) : Prop :=
  ∀ ι a w (K : Act → World → Prop) (Q : Exit → Act → World → Prop), Rel C s ι a w → (∀ ι' a' w', Rel C s' ι' a' w' → K a' w') →
    if Region.wanted o (yielded A a.tmps) then o.wpIn (Fc C.r) 0 C.P a w K Q else (∀ f, o.about C.P w a.eval = some f → (Fc C.r).fn f) ∧ K (a.put o.dst undef) w

theorem OStep.plain {C : Ctx} {A : Array Oper} {d : Option Nat} {op : Op} {ty : TypeId} {p : String} {e : Array Edge} {s s' : St} (h : AStep C ⟨d, op, ty, p, e, none⟩ s s') :
    OStep C A ⟨d, op, ty, p, e, none⟩ s s' := fun ι a w K Q r hk => by
  simp only [Region.wanted, if_true]
  exact h ι a w K Q r hk
theorem OStep.guardC {C : Ctx} {A : Array Oper} {d : Nat} {op : Op} {ty : TypeId} {p : String} {e : Array Edge} {j : Nat} {want c : Bool} {s : St} {v : AV}
    (hw : ∀ ι a w, Rel C s ι a w → (yielded A a.tmps j == some want) = c) (hd : d < C.N)
    (h : c = true → AStep C ⟨some d, op, ty, p, e, some (j, want)⟩ s (s.put d v)) :
    OStep C A ⟨some d, op, ty, p, e, some (j, want)⟩ s (s.put d (.gd c v)) := fun ι a w K Q r hk => by
  have hw : Region.wanted ⟨some d, op, ty, p, e, some (j, want)⟩ (yielded A a.tmps) = c := hw ι a w r
  rw [hw]
  by_cases hg : c = true
  · rw [if_pos hg]
    refine h hg ι a w K Q r fun ι' a' w' r' => hk ι' a' w' ?_
    refine ⟨r'.size, r'.dfr, ?_, r'.core, r'.stab⟩
    intro d' v' hl
    by_cases ed : d' = d
    · subst ed
      simp only [St.put, look_cons_self] at hl
      cases hl
      exact .gd _ _ _ _ _ (fun _ => r'.env d' v (by simp [St.put, look_cons_self])) (fun hf => by rw [hg] at hf; cases hf)
    · simp only [St.put, look_cons_ne ed] at hl
      exact r'.env d' v' (by simpa [St.put, look_cons_ne ed] using hl)
  · rw [if_neg hg]
    exact ⟨fun _ _ => trivial, hk ι _ w (r.put hd (.gd _ _ _ _ _ (fun h => absurd h hg) (fun _ => rfl)))⟩

theorem ARun.step {C : Ctx} {A : Array Oper} {o : Oper} {l : List Oper} {s s1 s2 : St} (h : OStep C A o s s1) (t : ARun C A l s1 s2) : ARun C A (o :: l) s s2 := fun ι a w Q r hq =>
  wpListIn_step fun K hK => h ι a w K Q r fun ι' a' w' r' => hK _ _ (t ι' a' w' Q r' hq)

theorem Rel.drew {C : Ctx} {s : St} {ι : Tags} {a : Act} {w : World} (r : Rel C s ι a w) : Rel C s ι a { w with drawn := w.drawn + 1 } := by
  have hZ : zone C s.heap ι { w with drawn := w.drawn + 1 } = zone C s.heap ι w := rfl
  have key : ∀ Z ι v u, VR w Z ι v u → VR { w with drawn := w.drawn + 1 } Z ι v u := fun Z ι v u h => VR.mono (w := w) (w' := { w with drawn := w.drawn + 1 }) (fun _ _ h => h) h _ _ (fun _ _ h => h) (fun _ _ _ _ _ h => h) (fun _ _ _ h => h)
  refine ⟨r.size, r.dfr, fun d v hl => key _ _ _ _ (r.env d v hl), ⟨fun t k hl => ?_, r.core.inj, r.core.own, r.core.tr.os, r.core.tr.tape, r.core.tr.output, r.core.tr.size, r.core.tr.block, r.core.tr.bsz⟩, r.stab⟩
  have h0 := r.core.blk t k hl
  unfold BlkR at h0 ⊢
  cases hx : ι t with
  | none => simp only [hx] at h0 ⊢; exact h0
  | some b =>
    simp only [hx] at h0 ⊢
    obtain ⟨cur, h1, h2, h3⟩ := h0
    exact ⟨cur, h1, h2, fun i hi => let ⟨u, hu, hv⟩ := h3 i hi; ⟨u, hu, key _ _ _ _ hv⟩⟩

/-- What a step needs to find. -/
def Need : List (Nat × AV) → List (Nat × AV) → Prop
  | [], _ => True
  | (d, v) :: l, E => look d E = some v ∧ Need l E
def freeOf (T : List Nat) (v : AV) : Bool := T.all fun t => AV.free t v

/-- One operation, wherever it may come: what it needs, the blocks that it finds and leaves, the slot that it writes, the tags that it turns. -/
def DStep (C : Ctx) (A : Array Oper) (o : Oper) (need : List (Nat × AV)) (H : List (Nat × Blk)) (dv : Option (Nat × AV)) (T : List Nat) (H' : List (Nat × Blk)) : Prop :=
  ∀ E, Need need E → ∃ E', OStep C A o ⟨E, H⟩ ⟨E', H'⟩ ∧ (∀ d v, dv = some (d, v) → look d E' = some v) ∧
    ∀ x v, (∀ d v', dv = some (d, v') → x ≠ d) → look x E = some v → freeOf T v = true → look x E' = some v

section
variable {C : Ctx} {A : Array Oper} {op : Op} {ty : TypeId} {p : String} {e : Array Edge} {need : List (Nat × AV)} {H H' : List (Nat × Blk)}
theorem DStep.put {d : Nat} {v : AV} (h : ∀ E, Need need E → AStep C ⟨some d, op, ty, p, e, none⟩ ⟨E, H⟩ (St.put ⟨E, H⟩ d v)) : DStep C A ⟨some d, op, ty, p, e, none⟩ need H (some (d, v)) [] H :=
  fun E hE => ⟨_, OStep.plain (h E hE), fun d' v' hd => by cases hd; simp [look_cons_self], fun x v' hx hl _ => by simp [look_cons_ne (hx d v rfl), hl]⟩
theorem DStep.gput {d : Nat} {j dj : Nat} {b want : Bool} {v : AV} (hj : (A[j]?).bind (·.dst) = some dj) (hdj : dj < C.N) (hd : d < C.N) (hb : ∀ E, Need need E → look dj E = some (.sc (.bool b)))
    (h : (bif want then b else !b) = true → ∀ E, Need need E → AStep C ⟨some d, op, ty, p, e, some (j, want)⟩ ⟨E, H⟩ (St.put ⟨E, H⟩ d v)) :
    DStep C A ⟨some d, op, ty, p, e, some (j, want)⟩ need H (some (d, .gd (bif want then b else !b) v)) [] H :=
  fun E hE => ⟨_, OStep.guardC (fun _ _ _ r => wanted1 r hj hdj (hb E hE)) hd (fun hg => h hg E hE), fun d' v' hd => by cases hd; simp [look_cons_self], fun x v' hx hl _ => by simp [look_cons_ne (hx d _ rfl), hl]⟩
theorem DStep.gput2 {d : Nat} {j dj : Nat} {a0 b want : Bool} {v : AV} (hj : (A[j]?).bind (·.dst) = some dj) (hdj : dj < C.N) (hd : d < C.N) (hb : ∀ E, Need need E → look dj E = some (.gd a0 (.sc (.bool b))))
    (h : (a0 && (bif want then b else !b)) = true → ∀ E, Need need E → AStep C ⟨some d, op, ty, p, e, some (j, want)⟩ ⟨E, H⟩ (St.put ⟨E, H⟩ d v)) :
    DStep C A ⟨some d, op, ty, p, e, some (j, want)⟩ need H (some (d, .gd (a0 && (bif want then b else !b)) v)) [] H :=
  fun E hE => ⟨_, OStep.guardC (fun _ _ _ r => wanted2 r hj hdj (hb E hE)) hd (fun hg => h hg E hE), fun d' v' hd => by cases hd; simp [look_cons_self], fun x v' hx hl _ => by simp [look_cons_ne (hx d _ rfl), hl]⟩
theorem DStep.new {d t : Nat} {k : Blk} {v : AV} (h : ∀ E, Need need E → AStep C ⟨some d, op, ty, p, e, none⟩ ⟨E, H⟩ (St.newP ⟨E, H⟩ d t k v)) (hH : H' = (t, k) :: purgeH t H) :
    DStep C A ⟨some d, op, ty, p, e, none⟩ need H (some (d, v)) [t] H' := fun E hE => by
  subst hH
  refine ⟨_, OStep.plain (h E hE), fun d' v' hd => ?_, fun x v' hx hl hf => ?_⟩
  · cases hd; simp [look_cons_self]
  · have hf' : AV.free t v' = true := by simpa [freeOf] using hf
    rw [look_cons_ne (hx d v rfl), look_purgeE, hl]
    simp [purgeA, hf']
theorem DStep.called {d : Nat} {σ : Nat → Nat} {K : List Nat} {Hc Hc' : List (Nat × Blk)} {r : AV} {v : AV} {T : List Nat} (h : ∀ E, Need need E → AStep C ⟨some d, op, ty, p, e, none⟩ ⟨E, H⟩ (St.called ⟨E, H⟩ d σ K Hc r Hc'))
    (hT : T = turned σ K Hc Hc') (hv : v = r.ren σ) (hH : H' = renH σ Hc' ++ purgeHL T (minusH ((dom Hc).map σ) H)) :
    DStep C A ⟨some d, op, ty, p, e, none⟩ need H (some (d, v)) T H' := fun E hE => by
  subst hH hv hT
  refine ⟨_, OStep.plain (h E hE), fun d' v' hd => ?_, fun x v' hx hl hf => ?_⟩
  · cases hd; simp [look_cons_self]
  · rw [look_cons_ne (hx d _ rfl), purgeEL, look_map, hl]
    simp only [Option.map_some, Option.some.injEq, purgeAL]
    unfold freeOf at hf
    rw [hf]; rfl
theorem DStep.store {t : Nat} {k : Blk} (h : ∀ E, Need need E → AStep C ⟨none, op, ty, p, e, none⟩ ⟨E, H⟩ ⟨E, updH t k H⟩) (hH : H' = updH t k H) :
    DStep C A ⟨none, op, ty, p, e, none⟩ need H none [] H' := fun E hE => by
  subst hH
  exact ⟨_, OStep.plain (h E hE), (fun _ _ h => by cases h), fun x v' _ hl _ => hl⟩
end

/-- A fact about a slot: its value; the operation that writes it (none: it was there); the operations that end it. -/
structure DFact where
  slot : Nat
  v : AV
  born : Option Nat
  dies : List Nat

/-- An operation's rows: what it needs (as numbers of facts), how many of the chain's operations stand ahead of it at least and at most, what it writes, what it turns. -/
structure DOp where
  need : List Nat
  lo : Nat
  hi : Nat
  dv : Option (Nat × AV)
  T : List Nat

def preds (o : Oper) : List Nat := (o.after.toList.filter (Region.binds .any)).map (·.on)
/-- who comes before whom: R, at each place a list of what comes before it -/
def pre (R : List (List Nat)) (i j : Nat) : Bool := anyT (R.getD i []) j
def rcheck (R : List (List Nat)) : Nat → List Oper → Bool
  | _, [] => true
  | i, o :: os => (R.getD i []).all (fun j => anyT (preds o) j || (preds o).any fun m => pre R m j) && rcheck R (i + 1) os
theorem rcheck_at {R : List (List Nat)} : ∀ {os : List Oper} {i : Nat}, rcheck R i os = true → ∀ j o, os[j]? = some o → (R.getD (i + j) []).all (fun k => anyT (preds o) k || (preds o).any fun m => pre R m k) = true
  | [], _, _, j, o, h => by simp at h
  | o' :: os, i, h, j, o, ho => by
    simp only [rcheck, Bool.and_eq_true] at h
    cases j with
    | zero => simp at ho; subst ho; exact h.1
    | succ j =>
      simp at ho
      have := rcheck_at h.2 j o ho
      rw [show i + 1 + j = i + (j + 1) from by omega] at this
      exact this
theorem pre_listed {l : List Oper} {R : List (List Nat)} {L : Nat → Bool} (hR : rcheck R 0 l = true) (hlt : ∀ i o, l[i]? = some o → ∀ j, j ∈ preds o → j < i) (hL : ∀ i o, l[i]? = some o → L i = true → ∀ j, j ∈ preds o → L j = true) :
    ∀ i, i < l.length → (∀ o, l[i]? = some o → ∀ j, j ∈ preds o → L j = true) → ∀ j, pre R i j = true → L j = true := by
  intro i
  induction i using Nat.strongRecOn with
  | _ i ih =>
    intro hi hp j hj
    have ho : l[i]? = some l[i] := List.getElem?_eq_getElem hi
    have h1 := rcheck_at hR i _ ho
    rw [Nat.zero_add, List.all_eq_true] at h1
    have h2 := h1 j (anyT_iff.1 hj)
    rw [Bool.or_eq_true] at h2
    rcases h2 with h2 | h2
    · exact hp _ ho j (anyT_iff.1 h2)
    · rw [List.any_eq_true] at h2
      obtain ⟨m, hm, hmj⟩ := h2
      have hmi := hlt i _ ho m hm
      exact ih m hmi (by omega) (fun o hom j' hj' => hL m o hom (hp _ ho m hm) j' hj') j hmj
def needOf (F : List DFact) (ns : List Nat) : List (Nat × AV) := ns.filterMap fun n => (F[n]?).map fun f => (f.slot, f.v)
def dcheck1 (R : List (List Nat)) (F : List DFact) (chain : List Nat) (i : Nat) (o : Oper) (x : DOp) : Bool :=
  (preds o).all (fun j => Nat.blt j i) &&
  x.need.all (fun n => match F[n]? with
    | none => false
    | some f => (match f.born with | none => true | some j => pre R i j) && f.dies.all (fun k => Nat.beq k i || pre R k i)) &&
  F.all (fun f => anyT f.dies i || (match f.born with | some j => Nat.beq j i || pre R j i | none => false) ||
    ((match x.dv with | some (d, _) => !(Nat.beq f.slot d) | none => true) && freeOf x.T f.v)) &&
  (Nat.beq x.lo 0 || (match chain[x.lo - 1]? with | some c => pre R i c | none => false)) &&
  Nat.ble x.hi chain.length &&
  (Nat.beq x.hi chain.length || (match chain[x.hi]? with | some c => Nat.beq c i || pre R c i | none => false))
def dcheck (R : List (List Nat)) (F : List DFact) (chain : List Nat) : Nat → List Oper → List DOp → Bool
  | _, [], [] => true
  | i, o :: os, x :: xs => dcheck1 R F chain i o x && dcheck R F chain (i + 1) os xs
  | _, _, _ => false
theorem dcheck_at {l : List (List Nat)} {F : List DFact} {chain : List Nat} : ∀ {os : List Oper} {xs : List DOp} {i : Nat}, dcheck l F chain i os xs = true → xs.length = os.length ∧
    ∀ j o x, os[j]? = some o → xs[j]? = some x → dcheck1 l F chain (i + j) o x = true
  | [], [], i, _ => ⟨rfl, fun j o x h => by simp at h⟩
  | [], _ :: _, i, h => by simp [dcheck] at h
  | _ :: _, [], i, h => by simp [dcheck] at h
  | o :: os, x :: xs, i, h => by
    simp only [dcheck, Bool.and_eq_true] at h
    obtain ⟨h1, h2⟩ := dcheck_at h.2
    refine ⟨by simp [h1], fun j o' x' ho hx => ?_⟩
    cases j with
    | zero => simp at ho hx; subst ho hx; exact h.1
    | succ j =>
      simp at ho hx
      have := h2 j o' x' ho hx
      rw [show i + 1 + j = i + (j + 1) from by omega] at this
      exact this

def BornOk (D : List DOp) : List DFact → Prop
  | [] => True
  | f :: F => (match f.born with | none => True | some j => ∃ x, D[j]? = some x ∧ x.dv = some (f.slot, f.v)) ∧ BornOk D F
def BaseOk (E : List (Nat × AV)) : List DFact → Prop
  | [] => True
  | f :: F => (match f.born with | none => look f.slot E = some f.v | some _ => True) ∧ BaseOk E F
theorem BornOk.at {D : List DOp} {f : DFact} : ∀ {F : List DFact}, BornOk D F → f ∈ F → ∀ j, f.born = some j → ∃ x, D[j]? = some x ∧ x.dv = some (f.slot, f.v)
  | [], _, hf, _, _ => by cases hf
  | g :: F, h, hf, j, hj => by
    rcases List.mem_cons.1 hf with rfl | hf
    · have := h.1; rw [hj] at this; exact this
    · exact h.2.at hf j hj
theorem BaseOk.at {E : List (Nat × AV)} {f : DFact} : ∀ {F : List DFact}, BaseOk E F → f ∈ F → f.born = none → look f.slot E = some f.v
  | [], _, hf, _ => by cases hf
  | g :: F, h, hf, hj => by
    rcases List.mem_cons.1 hf with rfl | hf
    · have := h.1; rw [hj] at this; exact this
    · exact h.2.at hf hj

/-- The steps of a region's operations, one by one. -/
inductive AllL {α : Type} (P : α → Prop) : List α → Prop
  | n : AllL P []
  | c {a : α} {l : List α} (h : P a) (t : AllL P l) : AllL P (a :: l)
theorem AllL.mem {α : Type} {P : α → Prop} {l : List α} (h : AllL P l) {a : α} (ha : a ∈ l) : P a := by
  induction h with
  | n => cases ha
  | c h t ih =>
    rcases List.mem_cons.1 ha with rfl | ha
    · exact h
    · exact ih ha
inductive DSteps (C : Ctx) (A : Array Oper) (F : List DFact) (chain : List Nat) (Hs : List (List (Nat × Blk))) : Nat → List Oper → List DOp → Prop
  | nil (i : Nat) : DSteps C A F chain Hs i [] []
  | pure {i : Nat} {o : Oper} {os : List Oper} {x : DOp} {xs : List DOp} (hc : chain.findIdx? (Nat.beq i) = none) (h : ∀ H, DStep C A o (needOf F x.need) H x.dv x.T H)
      (t : DSteps C A F chain Hs (i + 1) os xs) : DSteps C A F chain Hs i (o :: os) (x :: xs)
  | read {i : Nat} {o : Oper} {os : List Oper} {x : DOp} {xs : List DOp} (hc : chain.findIdx? (Nat.beq i) = none)
      (h : AllL (fun H => DStep C A o (needOf F x.need) H x.dv x.T H) ((Hs.drop x.lo).take (x.hi + 1 - x.lo))) (t : DSteps C A F chain Hs (i + 1) os xs) : DSteps C A F chain Hs i (o :: os) (x :: xs)
  | turn {i q : Nat} {o : Oper} {os : List Oper} {x : DOp} {xs : List DOp} {H H' : List (Nat × Blk)} (hc : chain.findIdx? (Nat.beq i) = some q) (hl : x.lo = q) (hh : x.hi = q) (hH : Hs[q]? = some H) (hH' : Hs[q + 1]? = some H')
      (h : DStep C A o (needOf F x.need) H x.dv x.T H') (t : DSteps C A F chain Hs (i + 1) os xs) : DSteps C A F chain Hs i (o :: os) (x :: xs)

/-- how many of the chain's operations are behind us: from c on none is -/
def stage (chain : List Nat) (L : Nat → Bool) (c : Nat) : Prop := c ≤ chain.length ∧ (∀ q, q < c → ∀ k, chain[q]? = some k → L k = true) ∧ ∀ q, c ≤ q → ∀ k, chain[q]? = some k → L k = false

theorem DSteps.at {C : Ctx} {A : Array Oper} {F : List DFact} {chain : List Nat} {Hs : List (List (Nat × Blk))} : ∀ {os : List Oper} {xs : List DOp} {i : Nat}, DSteps C A F chain Hs i os xs →
    ∀ j o x, os[j]? = some o → xs[j]? = some x → ∀ c H, x.lo ≤ c → c ≤ x.hi → Hs[c]? = some H →
      (chain.findIdx? (Nat.beq (i + j)) = none ∧ DStep C A o (needOf F x.need) H x.dv x.T H) ∨
      (chain.findIdx? (Nat.beq (i + j)) = some c ∧ ∃ H', Hs[c + 1]? = some H' ∧ DStep C A o (needOf F x.need) H x.dv x.T H')
  | _, _, _, .nil i, j, o, x, ho, _, _, _, _, _, _ => by simp at ho
  | _, _, i, .pure hc h t, j, o, x, ho, hx, c, H, h1, h2, hH => by
    cases j with
    | zero => simp at ho hx; subst ho hx; exact .inl ⟨hc, h H⟩
    | succ j =>
      simp at ho hx
      have := t.at j o x ho hx c H h1 h2 hH
      rw [show i + 1 + j = i + (j + 1) from by omega] at this
      exact this
  | _, _, i, .read hc h t, j, o, x, ho, hx, c, H, h1, h2, hH => by
    cases j with
    | zero =>
      simp at ho hx; subst ho hx
      refine .inl ⟨hc, h.mem ?_⟩
      rename_i x0 _
      rw [List.mem_iff_getElem?]
      refine ⟨c - x0.lo, ?_⟩
      rw [List.getElem?_take, if_pos (by omega), List.getElem?_drop, show x0.lo + (c - x0.lo) = c from by omega]
      exact hH
    | succ j =>
      simp at ho hx
      have := t.at j o x ho hx c H h1 h2 hH
      rw [show i + 1 + j = i + (j + 1) from by omega] at this
      exact this
  | _, _, i, .turn hc hl hh hH0 hH1 h t, j, o, x, ho, hx, c, H, h1, h2, hH => by
    cases j with
    | zero =>
      simp at ho hx; subst ho hx
      rename_i q _ _ _ _ H0 H1
      have : c = q := by omega
      subst this
      rw [hH0] at hH; cases hH
      exact .inr ⟨hc, _, hH1, h⟩
    | succ j =>
      simp at ho hx
      have := t.at j o x ho hx c H h1 h2 hH
      rw [show i + 1 + j = i + (j + 1) from by omega] at this
      exact this

/-- what holds of the slots, so many operations being behind us -/
def DInv (F : List DFact) (L : Nat → Bool) (E : List (Nat × AV)) : Prop := ∀ f, f ∈ F → (∀ j, f.born = some j → L j = true) → (∀ k, k ∈ f.dies → L k = false) → look f.slot E = some f.v

theorem needOf_Need {F : List DFact} {E : List (Nat × AV)} : ∀ {ns : List Nat}, (∀ n, n ∈ ns → ∀ f, F[n]? = some f → look f.slot E = some f.v) → Need (needOf F ns) E
  | [], _ => trivial
  | n :: ns, h => by
    have ih := needOf_Need (F := F) (E := E) (ns := ns) fun m hm => h m (by simp [hm])
    unfold needOf at ih ⊢
    cases hf : F[n]? with
    | none => simp only [List.filterMap_cons, hf, Option.map_none]; exact ih
    | some f => simp only [List.filterMap_cons, hf, Option.map_some]; exact ⟨h n (by simp) f hf, ih⟩

def lastE (F : List DFact) : List (Nat × AV) := F.filterMap fun f => match f.dies with | [] => some (f.slot, f.v) | _ => none

theorem AWP.draw {C : Ctx} {Q : Exit → St → Prop} {s s' : St} {id : Nat} {l : List Oper} (hm : C.P.follows .mixedOrders = true) (F : List DFact) (D : List DOp) (chain : List Nat) (Hs : List (List (Nat × Blk)))
    (R : List (List Nat)) (hR : rcheck R 0 l = true) (hchk : dcheck R F chain 0 l D = true) (hborn : BornOk D F) (hbase : BaseOk s.env F) (h0 : Hs[0]? = some s.heap) (hnd : chain.Nodup) (hch : ∀ c, c ∈ chain → c < l.length)
    (hsteps : DSteps C l.toArray F chain Hs 0 l D) (hE : ∀ E, DInv F (fun i => decide (i < l.length)) E → SubE s'.env E) (hH : Hs[chain.length]? = some s'.heap) (hq : Q .normal s') : AWP C (.region id l.toArray true) Q s := by
  intro ι a w r
  obtain ⟨hDl, hD⟩ := dcheck_at hchk
  have hltp : ∀ i o, l[i]? = some o → ∀ j, j ∈ preds o → j < i := by
    intro i o ho j hj
    have hi : i < l.length := (List.getElem?_eq_some_iff.1 ho).1
    obtain ⟨x, hx⟩ : ∃ x, D[i]? = some x := ⟨D[i]'(by omega), List.getElem?_eq_getElem (by omega)⟩
    have hc1 := hD i o x ho hx
    simp only [Nat.zero_add, dcheck1, Bool.and_eq_true] at hc1
    have hp := hc1.1.1.1.1.1
    rw [List.all_eq_true] at hp
    have := hp j hj
    rwa [Nat.blt_eq] at this
  refine wpIn_region_any hm ?_
  -- the invariant
  have key : ∀ (fuel : Nat) (listed : Array Bool) (ι : Tags) (a : Act) (w : World) (E : List (Nat × AV)) (c : Nat) (H : List (Nat × Blk)),
      listed.size = l.length → (∀ i o, l[i]? = some o → listed.getD i false = true → ∀ j, j ∈ preds o → listed.getD j false = true) →
      ((List.range l.length).filter fun i => !listed.getD i false).length ≤ fuel → DInv F (fun i => listed.getD i false) E → stage chain (fun i => listed.getD i false) c → Hs[c]? = some H →
      Rel C ⟨E, H⟩ ι a w → wpAnyIn (Fc C.r) 0 C.P .any l.toArray (fun e a' w' => ∃ s' ι', Rel C s' ι' a' w' ∧ Q e s') fuel listed a w := by
    intro fuel
    -- if nothing is ready all is done
    have fin : ∀ (listed : Array Bool) (ι : Tags) (a : Act) (w : World) (E : List (Nat × AV)) (c : Nat) (H : List (Nat × Blk)), listed.size = l.length → DInv F (fun i => listed.getD i false) E →
        stage chain (fun i => listed.getD i false) c → Hs[c]? = some H → Rel C ⟨E, H⟩ ι a w → Region.ready .any l.toArray listed = [] → ∃ s' ι', Rel C s' ι' a w ∧ Q .normal s' := by
      intro listed ι a w E c H hls hI hst hHc hr hready
      have hall : ∀ i, i < l.length → listed.getD i false = true := by
        intro i
        induction i using Nat.strongRecOn with
        | _ i ih =>
          intro hi
          apply Classical.byContradiction
          intro hn
          obtain ⟨o, ho⟩ : ∃ o, l[i]? = some o := ⟨l[i], List.getElem?_eq_getElem hi⟩
          obtain ⟨x, hx⟩ : ∃ x, D[i]? = some x := ⟨D[i]'(by omega), List.getElem?_eq_getElem (by omega)⟩
          have hc1 := hD i o x ho hx
          simp only [Nat.zero_add, dcheck1, Bool.and_eq_true] at hc1
          have hp := hc1.1.1.1.1.1
          rw [List.all_eq_true] at hp
          have hmem : i ∈ Region.ready .any l.toArray listed := by
            unfold Region.ready
            refine List.mem_filter.2 ⟨by simpa using hi, ?_⟩
            have e1 : listed.getD i true = false := by
              have hi' : i < listed.size := by omega
              simp only [Array.getD_eq_getD_getElem?, Array.getElem?_eq_getElem hi', Option.getD_some] at hn ⊢
              simpa using hn
            simp only [e1, Bool.not_false, Bool.true_and, List.getElem?_toArray, ho, Option.map_some, Option.getD_some]
            rw [Array.all_eq_true']
            intro ed hed
            cases hb : Region.binds .any ed with
            | false => rfl
            | true =>
              have hm : ed.on ∈ preds o := by
                unfold preds
                exact List.mem_map.2 ⟨ed, List.mem_filter.2 ⟨Array.mem_toList_iff.2 hed, hb⟩, rfl⟩
              have hlt := hp _ hm
              rw [Nat.blt_eq] at hlt
              simp [ih _ hlt (by omega)]
          rw [hready] at hmem; cases hmem
      have hI' : DInv F (fun i => decide (i < l.length)) E := by
        intro f hf h1 h2
        refine hI f hf (fun j hj => hall j (by simpa using h1 j hj)) (fun k hk => ?_)
        have := h2 k hk
        simp only [decide_eq_false_iff_not, Nat.not_lt] at this
        have hk' : listed.size ≤ k := by omega
        simp [Array.getD_eq_getD_getElem?, Array.getElem?_eq_none hk']
      have hc : c = chain.length := by
        obtain ⟨h1, h2, h3⟩ := hst
        rcases Nat.lt_or_ge c chain.length with h | h
        · have h4 : listed.getD chain[c] false = false := h3 c (Nat.le_refl _) chain[c] (List.getElem?_eq_getElem h)
          rw [hall _ (hch _ (List.getElem_mem h))] at h4
          cases h4
        · omega
      subst hc
      rw [hH] at hHc
      cases hHc
      exact ⟨s', ι, hr.weak (s' := s') (fun _ => Iff.rfl) (fun d v hl => .inr ((hE E hI').look hl)) (fun t k hk => ⟨k, hk, rfl, rfl, .inl rfl⟩), hq⟩
    have readyAt : ∀ (listed : Array Bool) i, i ∈ Region.ready .any l.toArray listed → i < l.length ∧ listed.getD i true = false ∧ ∀ o, l[i]? = some o → ∀ j, j ∈ preds o → listed.getD j false = true := by
      intro listed i hi
      obtain ⟨h1, h2⟩ := List.mem_filter.1 hi
      have hlt : i < l.length := by simpa using h1
      simp only [Bool.and_eq_true, Bool.not_eq_true'] at h2
      refine ⟨hlt, h2.1, fun o ho j hj => ?_⟩
      have h3 := h2.2
      simp only [List.getElem?_toArray, ho, Option.map_some, Option.getD_some] at h3
      rw [Array.all_eq_true'] at h3
      obtain ⟨ed, hed, rfl⟩ := List.mem_map.1 hj
      obtain ⟨q1, q2⟩ := List.mem_filter.1 hed
      have h4 := h3 ed (Array.mem_toList_iff.1 q1)
      simpa [q2] using h4
    induction fuel with
    | zero =>
      intro listed ι a w E c H hls hdc hn hI hst hHc hr
      have hready : Region.ready .any l.toArray listed = [] := by
        apply Classical.byContradiction
        intro hne
        obtain ⟨i, hi⟩ := List.exists_mem_of_ne_nil _ hne
        obtain ⟨h1, h2, _⟩ := readyAt listed i hi
        have hf : listed.getD i false = false := by
          have hi' : i < listed.size := by omega
          simp only [Array.getD_eq_getD_getElem?, Array.getElem?_eq_getElem hi', Option.getD_some] at h2 ⊢
          exact h2
        have : i ∈ (List.range l.length).filter fun i => !listed.getD i false := List.mem_filter.2 ⟨by simpa using h1, by simp [hf]⟩
        have := List.length_pos_of_mem this
        omega
      exact ⟨hready, fin listed ι a w E c H hls hI hst hHc hr hready⟩
    | succ fuel ih =>
      intro listed ι a w E c H hls hdc hn hI hst hHc hr
      refine ⟨fun hready => fin listed ι a w E c H hls hI hst hHc hr hready, fun i hi => ?_⟩
      obtain ⟨hlt, h2, h3⟩ := readyAt listed i hi
      have hi' : i < listed.size := by omega
      have hf : listed.getD i false = false := by
        simp only [Array.getD_eq_getD_getElem?, Array.getElem?_eq_getElem hi', Option.getD_some] at h2 ⊢
        exact h2
      obtain ⟨o, ho⟩ : ∃ o, l[i]? = some o := ⟨l[i], List.getElem?_eq_getElem hlt⟩
      obtain ⟨x, hx⟩ : ∃ x, D[i]? = some x := ⟨D[i]'(by omega), List.getElem?_eq_getElem (by omega)⟩
      have hc1 := hD i o x ho hx
      simp only [Nat.zero_add, dcheck1, Bool.and_eq_true] at hc1
      obtain ⟨⟨⟨⟨⟨p1, p2⟩, p3⟩, p4⟩, p5⟩, p6⟩ := hc1
      have hpre0 := h3 o ho
      have hpre : ∀ j, pre R i j = true → listed.getD j false = true := pre_listed (L := fun j => listed.getD j false) hR hltp hdc i hlt h3
      -- an operation that waits for this one has not been
      have hbef : ∀ k, pre R k i = true → listed.getD k false = false := by
        intro k hk
        apply Classical.byContradiction
        intro hn
        have hn' : listed.getD k false = true := by simpa using hn
        have hkl : k < l.length := by
          apply Classical.byContradiction
          intro hge
          have : listed.size ≤ k := by omega
          rw [Array.getD_eq_getD_getElem?, Array.getElem?_eq_none this] at hn'
          cases hn'
        have := pre_listed (L := fun j => listed.getD j false) hR hltp hdc k hkl (fun ok hok j hj => hdc k ok hok hn' j hj) i hk
        rw [hf] at this; cases this
      obtain ⟨s1, s2, s3⟩ := hst
      have hlo : x.lo ≤ c := by
        rcases Nat.eq_zero_or_pos x.lo with h | h
        · omega
        · rcases Nat.lt_or_ge c x.lo with hcl | hcl
          · simp only [Bool.or_eq_true, Nat.beq_eq] at p4
            rcases p4 with h0 | h0
            · omega
            · cases hq : chain[x.lo - 1]? with
              | none => rw [hq] at h0; cases h0
              | some k =>
                rw [hq] at h0
                have h5 : listed.getD k false = false := s3 (x.lo - 1) (by omega) k hq
                rw [hpre k h0] at h5; cases h5
          · exact hcl
      have hhi : c ≤ x.hi := by
        rw [Nat.ble_eq] at p5
        rcases Nat.lt_or_ge x.hi c with hcl | hcl
        · simp only [Bool.or_eq_true, Nat.beq_eq] at p6
          rcases p6 with h0 | h0
          · omega
          · cases hq : chain[x.hi]? with
            | none => rw [hq] at h0; cases h0
            | some k =>
              rw [hq] at h0
              have h5 : listed.getD k false = true := s2 x.hi hcl k hq
              simp only [Bool.or_eq_true, Nat.beq_eq] at h0
              rcases h0 with h0 | h0
              · subst h0; rw [hf] at h5; cases h5
              · rw [hbef k h0] at h5; cases h5
        · exact hcl
      have hneed : Need (needOf F x.need) E := by
        refine needOf_Need fun n hn f hfn => ?_
        rw [List.all_eq_true] at p2
        have h5 := p2 n hn
        rw [hfn] at h5
        simp only [Bool.and_eq_true] at h5
        refine hI f (List.mem_of_getElem? hfn) (fun j hj => ?_) (fun k hk => ?_)
        · rw [hj] at h5; exact hpre j h5.1
        · have h6 := h5.2
          rw [List.all_eq_true] at h6
          have h7 := h6 k hk
          simp only [Bool.or_eq_true, Nat.beq_eq] at h7
          rcases h7 with h7 | h7
          · subst h7; exact hf
          · exact hbef k h7
      have hL' : ∀ j, (listed.setIfInBounds i true).getD j false = if j = i then true else listed.getD j false := by
        intro j
        simp only [Array.getD_eq_getD_getElem?, Array.getElem?_setIfInBounds]
        by_cases e1 : j = i
        · subst e1; simp [hi']
        · rw [if_neg (fun h => e1 h.symm), if_neg e1]
      have next : ∀ E' H' c' ι' a' w', (∀ d v, x.dv = some (d, v) → look d E' = some v) → (∀ y v, (∀ d v', x.dv = some (d, v') → y ≠ d) → look y E = some v → freeOf x.T v = true → look y E' = some v) →
          stage chain (fun j => (listed.setIfInBounds i true).getD j false) c' → Hs[c']? = some H' → Rel C ⟨E', H'⟩ ι' a' w' →
          wpAnyIn (Fc C.r) 0 C.P .any l.toArray (fun e a' w' => ∃ s' ι', Rel C s' ι' a' w' ∧ Q e s') fuel (listed.setIfInBounds i true) a' w' := by
        intro E' H' c' ι' a' w' hd hkeep hst' hH' hr'
        refine ih _ ι' a' w' E' c' H' (by simpa using hls) (fun k ok hk hk' j hj => ?_) ?_ ?_ hst' hH' hr'
        · rw [hL'] at hk' ⊢
          by_cases e1 : j = i
          · rw [if_pos e1]
          · rw [if_neg e1]
            by_cases e2 : k = i
            · subst e2; rw [ho] at hk; cases hk; exact hpre0 j hj
            · rw [if_neg e2] at hk'; exact hdc k ok hk hk' j hj
        · have hlt2 : ((List.range l.length).filter fun j => !(listed.setIfInBounds i true).getD j false).length < ((List.range l.length).filter fun j => !listed.getD j false).length := by
            have hmem : i ∈ (List.range l.length).filter fun j => !listed.getD j false := List.mem_filter.2 ⟨by simpa using hlt, by simp only [hf]; rfl⟩
            have hsub : ((List.range l.length).filter fun j => !(listed.setIfInBounds i true).getD j false) = (((List.range l.length).filter fun j => !listed.getD j false).filter fun j => !decide (j = i)) := by
              rw [List.filter_filter]
              refine List.filter_congr fun j _ => ?_
              rw [hL']
              by_cases e1 : j = i
              · simp [e1]
              · simp [e1]
            rw [hsub]
            refine Nat.lt_of_le_of_ne (List.length_filter_le _ _) fun he => ?_
            have := (List.length_filter_eq_length_iff.1 he) i hmem
            simp at this
          omega
        · intro f hfF hb1 hb2
          rw [List.all_eq_true] at p3
          have h5 := p3 f hfF
          simp only [Bool.or_eq_true, Bool.and_eq_true] at h5
          rcases h5 with (h5 | h5) | ⟨h5, h6⟩
          · have h7 : (listed.setIfInBounds i true).getD i false = false := hb2 i (anyT_iff.1 h5)
            rw [hL', if_pos rfl] at h7; cases h7
          · cases hb : f.born with
            | none => rw [hb] at h5; cases h5
            | some j =>
              rw [hb] at h5
              simp only [Bool.or_eq_true, Nat.beq_eq] at h5
              rcases h5 with h5 | h5
              · subst h5
                obtain ⟨x', hx', hdv⟩ := hborn.at hfF j hb
                rw [hx] at hx'; cases hx'
                exact hd _ _ hdv
              · exfalso
                have h7 : (listed.setIfInBounds i true).getD j false = true := hb1 j hb
                rw [hL'] at h7
                by_cases e1 : j = i
                · subst e1
                  have := hpre j h5
                  rw [hf] at this; cases this
                · rw [if_neg e1, hbef j h5] at h7; cases h7
          · by_cases hbi : f.born = some i
            · obtain ⟨x', hx', hdv⟩ := hborn.at hfF i hbi
              rw [hx] at hx'; cases hx'
              exact hd _ _ hdv
            · refine hkeep _ _ (fun d v' hdv e1 => ?_) (hI f hfF (fun j hj => ?_) (fun k hk => ?_)) h6
              · rw [hdv] at h5
                simp only [Bool.not_eq_true'] at h5
                rw [e1] at h5
                rw [Nat.beq_refl] at h5; cases h5
              · have h7 : (listed.setIfInBounds i true).getD j false = true := hb1 j hj
                rw [hL', if_neg (fun e => hbi (by rw [hj, e]))] at h7
                exact h7
              · have h7 : (listed.setIfInBounds i true).getD k false = false := hb2 k hk
                rw [hL'] at h7
                split at h7
                · cases h7
                · exact h7
      have hop : ∀ (K : Act → World → Prop) E' H', OStep C l.toArray o ⟨E, H⟩ ⟨E', H'⟩ → (∀ ι' a' w', Rel C ⟨E', H'⟩ ι' a' w' → K a' w') →
          wpOpIn (Fc C.r) 0 C.P l.toArray (fun e a' w' => ∃ s' ι', Rel C s' ι' a' w' ∧ Q e s') i K a w := by
        intro K E' H' hos hK
        unfold wpOpIn
        simp only [List.getElem?_toArray, ho]
        exact hos ι a w K _ hr hK
      rcases hsteps.at i o x ho hx c H hlo hhi hHc with ⟨hfi, hds⟩ | ⟨hfi, H', hH', hds⟩
      · obtain ⟨E', hos, hd, hkeep⟩ := hds E hneed
        refine hop _ E' H hos fun ι' a' w' hr' => next E' H c ι' a' w' hd hkeep ⟨s1, fun q hq k hk => ?_, fun q hq k hk => ?_⟩ hHc hr'
        · show (listed.setIfInBounds i true).getD k false = true
          rw [hL']
          split
          · rfl
          · exact s2 q hq k hk
        · show (listed.setIfInBounds i true).getD k false = false
          rw [hL', if_neg]
          · exact s3 q hq k hk
          · intro e1
            rw [Nat.zero_add] at hfi
            have := List.findIdx?_eq_none_iff.1 hfi k (List.mem_of_getElem? hk)
            rw [e1, Nat.beq_refl] at this; cases this
      · obtain ⟨E', hos, hd, hkeep⟩ := hds E hneed
        rw [Nat.zero_add] at hfi
        obtain ⟨hcl, hci, _⟩ := List.findIdx?_eq_some_iff_getElem.1 hfi
        rw [Nat.beq_eq] at hci
        refine hop _ E' H' hos fun ι' a' w' hr' => next E' H' (c + 1) ι' a' w' hd hkeep ⟨by omega, fun q hq k hk => ?_, fun q hq k hk => ?_⟩ hH' hr'
        · show (listed.setIfInBounds i true).getD k false = true
          rw [hL']
          split
          · rfl
          · rename_i hne
            rcases Nat.lt_or_ge q c with h | h
            · exact s2 q h k hk
            · have : q = c := by omega
              subst this
              rw [List.getElem?_eq_getElem hcl] at hk
              exact absurd (Option.some.inj hk).symm (by rw [← hci]; exact hne)
        · show (listed.setIfInBounds i true).getD k false = false
          rw [hL', if_neg]
          · exact s3 q (by omega) k hk
          · intro e1
            have hql := (List.getElem?_eq_some_iff.1 hk).1
            have e2 : chain[q] = chain[c] := by
              rw [List.getElem?_eq_getElem hql] at hk
              rw [Option.some.inj hk, e1, hci]
            rcases Nat.lt_or_ge c q with h | h
            · exact List.pairwise_iff_getElem.1 hnd c q hcl hql h e2.symm
            · omega
  refine key l.length (Array.replicate l.length false) ι a _ s.env 0 s.heap (by simp) (fun i o _ h => ?_) ?_ ?_ ⟨Nat.zero_le _, fun q hq => absurd hq (Nat.not_lt_zero _), fun q _ k _ => ?_⟩ h0 r.drew
  · exfalso
    simp only [Array.getD_eq_getD_getElem?, Array.getElem?_replicate] at h
    split at h <;> simp at h
  · exact Nat.le_trans (List.length_filter_le _ _) (by simp)
  · intro f hf hb _
    refine hbase.at hf ?_
    cases hb' : f.born with
    | none => rfl
    | some j =>
      have := hb j hb'
      simp only [Array.getD_eq_getD_getElem?, Array.getElem?_replicate] at this
      split at this <;> simp at this
  · show (Array.replicate l.length false).getD k false = false
    simp only [Array.getD_eq_getD_getElem?, Array.getElem?_replicate]
    split <;> simp
end Go.AB

/-
  AB, part 30: ranges over functions: a caller's state through an iterator's call; its rounds.
-/
import Derived.Test.YtpccmcepgllccaaAb29
namespace Go.AB
open Go

/-- the model of a range over a function that gives these elements -/
def rangeL {σ R E : Type} (step : (σ → Option R) → E → σ → Option R) : List E → (σ → Option R) → σ → Option R
  | [], k => k
  | e :: l, k => step (rangeL step l k) e

/-- a block that is in the zone when a context begins, and that the function was not handed, stays in it -/
theorem zone_keep {C : Ctx} {H : List (Nat × Blk)} {ι : Tags} {w : World} (h : Core C H ι w) {β : Bool} {b : Nat} (hb : b < C.w0.heap.size) (hT : ¬ C.T0 b) (hz : (β = true ∧ C.Zb b) ∨ C.Zs b) : zone C H ι w β b := by
  refine ⟨Nat.lt_of_lt_of_le hb h.tr.size, fun t ht e => ?_, ?_⟩
  · rcases h.own t b ht e with h1 | h1
    · omega
    · exact hT h1
  · rcases hz with h1 | h1
    · exact .inl h1
    · exact .inr (.inl h1)

/-- A CALLER's STATE while an iterator runs. -/
structure RgJ (P : Program) (N : Nat) (KB : List Nat) (ιs : Tags) (env : List (Nat × AV)) (tm : Array Value) (Hx : List (Nat × Blk)) (ws : World) (own0 : Nat → Prop) (z0 : Bool → Nat → Prop) (l D : Nat) (rec : Loop)
    (O I : Nat → Prop) (W : World) : Prop where
  st : ∃ ι Zs Zb, Rel ⟨P, none, N, [], W, Zs, Zb, ownedBy Hx ι, KB, ιs⟩ ⟨env, Hx⟩ ι ⟨tm, []⟩ W ∧ (∀ b, ownedBy Hx ι b → ¬ I b ∧ ¬ O b ∧ (own0 b ∨ ws.heap.size ≤ b)) ∧ (∀ b, Zs b ∨ Zb b → b < W.heap.size ∧ ¬ O b) ∧
    (∀ b, Zs b → z0 false b ∨ own0 b ∨ ws.heap.size ≤ b) ∧ (∀ b, Zb b → z0 true b ∨ z0 false b ∨ own0 b ∨ ws.heap.size ≤ b)
  rc : W.heap[l]? = some (.loop rec)
  mark : W.heap[D]? = some (.deferred (some []))
  lO : ¬ O l ∧ ¬ O D
  lws : ws.heap.size ≤ l ∧ ws.heap.size ≤ D ∧ l ≠ D
  oo : ∀ b, O b → own0 b ∨ ws.heap.size ≤ b
  oi : ∀ b, I b → own0 b ∨ ws.heap.size ≤ b
  tr : Trans own0 ws W

section
variable {P : Program} {N : Nat} {KB : List Nat} {ιs : Tags} {env : List (Nat × AV)} {tm : Array Value} {Hx : List (Nat × Blk)} {ws : World} {own0 : Nat → Prop} {z0 : Bool → Nat → Prop} {l D : Nat} {rec : Loop}

theorem zone_at {P : Program} {r : Option Nat} {N : Nat} {dfr : List Deferred} {W : World} {Zs Zb : Nat → Prop} {KB : List Nat} {ιs : Tags} {Hx : List (Nat × Blk)} {ι : Tags} {β : Bool} {b : Nat}
    (h : zone ⟨P, r, N, dfr, W, Zs, Zb, ownedBy Hx ι, KB, ιs⟩ Hx ι W β b) : (β = true ∧ Zb b) ∨ Zs b := by
  obtain ⟨h1, h2, h3⟩ := h
  rcases h3 with h3 | h3 | h3 | ⟨t, ht, e⟩
  · exact .inl h3
  · exact .inr h3
  · exact absurd h1 (Nat.not_lt.2 h3)
  · exact absurd e (h2 t ht)

theorem Trans.comp {T T' : Nat → Prop} {w w1 w2 : World} (h : Trans T w w1) (k : Trans T' w1 w2) (hT : ∀ b, T' b → T b ∨ w.heap.size ≤ b) : Trans T w w2 :=
  ⟨k.os.trans h.os, k.tape.trans h.tape, k.output.trans h.output, Nat.le_trans h.size k.size, fun b hb hn => by
    rw [k.block b (Nat.lt_of_lt_of_le hb h.size) (fun h1 => by
      rcases hT b h1 with h2 | h2
      · exact hn h2
      · omega), h.block b hb hn], fun b n e => k.bsz _ _ (h.bsz _ _ e)⟩
theorem Trans.putObj {T : Nat → Prop} {w w1 : World} (h : Trans T w w1) {l : Nat} {o o' : Obj} (hl : w1.heap[l]? = some o) (ho : o.isCells = false) (hw : w.heap.size ≤ l) : Trans T w (w1.putObj l o') :=
  ⟨h.os, h.tape, h.output, by simpa using h.size, fun b hb hn => by
    rw [World.putObj_heap_other (by omega)]; exact h.block b hb hn, fun b n e => bsz_putObj hl ho _ _ (h.bsz _ _ e)⟩

theorem RgJ.abide : Abide (RgJ P N KB ιs env tm Hx ws own0 z0 l D rec) := by
  intro O O' I I' W W' hJ tr hO hI
  obtain ⟨ι, Zs, Zb, r, h1, h2, h3, h4⟩ := hJ.st
  have hlt : ∀ b, ownedBy Hx ι b → b < W.heap.size := fun b hb => r.core.lt hb
  have hz : ∀ β b, zone ⟨P, none, N, [], W, Zs, Zb, ownedBy Hx ι, KB, ιs⟩ Hx ι W β b → b < W.heap.size ∧ ¬ O b := fun β b h => by
    rcases zone_at h with ⟨_, h⟩ | h
    · exact h2 b (.inr h)
    · exact h2 b (.inl h)
  have kept : Kept (fun b => ownedBy Hx ι b ∨ zone ⟨P, none, N, [], W, Zs, Zb, ownedBy Hx ι, KB, ιs⟩ Hx ι W false b ∨ zone ⟨P, none, N, [], W, Zs, Zb, ownedBy Hx ι, KB, ιs⟩ Hx ι W true b) W W' :=
    tr.kept fun b _ hb => by
      rcases hb with hb | hb | hb
      · exact (h1 b hb).2.1
      · exact (hz _ b hb).2
      · exact (hz _ b hb).2
  have r2 := r.anew none (dfr := []) (tm := tm) rfl kept
  have hlW : l < W.heap.size := (Array.getElem?_eq_some_iff.1 hJ.rc).1
  have hDW : D < W.heap.size := (Array.getElem?_eq_some_iff.1 hJ.mark).1
  have hO' : ∀ b, b < W.heap.size → ¬ O b → ¬ O' b := fun b hb hn h => by
    rcases hO b h with h | h
    · exact hn h
    · omega
  refine ⟨⟨ι, _, _, r2, fun b hb => ⟨fun hi => ?_, hO' b (hlt b hb) (h1 b hb).2.1, (h1 b hb).2.2⟩, fun b hb => ?_, fun b hb => ?_, fun b hb => ?_⟩, ?_, ?_, ⟨hO' l hlW hJ.lO.1, hO' D hDW hJ.lO.2⟩, hJ.lws, fun b hb => ?_, fun b hb => ?_, ?_⟩
  · rcases (hI b).1 hi with h | h
    · exact (h1 b hb).1 h
    · have := hlt b hb; omega
  · have : b < W.heap.size ∧ ¬ O b := by
      rcases hb with hb | hb
      · exact hz _ b hb
      · exact hz _ b hb
    exact ⟨Nat.lt_of_lt_of_le this.1 tr.size, hO' b this.1 this.2⟩
  · rcases zone_at hb with ⟨h, _⟩ | h
    · cases h
    · exact h3 b h
  · rcases zone_at hb with ⟨_, h⟩ | h
    · exact h4 b h
    · exact .inr (h3 b h)
  · rw [tr.block l hlW hJ.lO.1]; exact hJ.rc
  · rw [tr.block D hDW hJ.lO.2]; exact hJ.mark
  · rcases hO b hb with h | h
    · exact hJ.oo b h
    · exact .inr (Nat.le_trans hJ.tr.size h)
  · rcases (hI b).1 hb with h | h
    · exact hJ.oi b h
    · exact .inr (Nat.le_trans hJ.tr.size h.1)
  · refine hJ.tr.comp tr fun b hb => hJ.oo b hb
end

/-- slots written one behind the other -/
def puts : St → List (Nat × AV) → St
  | s, [] => s
  | s, (d, v) :: l => puts (s.put d v) l
theorem puts_heap : ∀ (l : List (Nat × AV)) (s : St), (puts s l).heap = s.heap
  | [], s => rfl
  | (d, v) :: l, s => by rw [puts, puts_heap l]; rfl
theorem Rel.puts {C : Ctx} {ι : Tags} {w : World} : ∀ (ps : List Nat) (vs : List AV) (us : List Value) {s : St} {tm : Array Value}, Rel C s ι ⟨tm, []⟩ w → (∀ p, p ∈ ps → p < C.N) → vs.length = ps.length → VRs w (zone C s.heap ι w) ι vs us →
    Rel C (puts s (ps.zip vs)) ι ⟨(ps.zip us).foldl (fun t q => t.setIfInBounds q.1 q.2) tm, []⟩ w
  | [], vs, us, s, tm, r, _, _, _ => by simpa [Go.AB.puts] using r
  | p :: ps, [], us, s, tm, r, _, hl, _ => by simp at hl
  | p :: ps, v :: vs, us, s, tm, r, hp, hl, hv => by
    obtain ⟨h1, h2⟩ := hv
    cases us with
    | nil => simp at h1
    | cons u us =>
      obtain ⟨u', hu, hvr⟩ := h2 0 (by simp)
      simp at hu
      subst hu
      have r2 := r.put (d := p) (v := v) (u := u) (hp p (by simp)) hvr
      have hr2 : Rel C (s.put p v) ι ⟨tm.setIfInBounds p u, []⟩ w := r2
      refine Rel.puts ps vs us hr2 (fun q hq => hp q (List.mem_cons_of_mem _ hq)) (by simpa using hl) ⟨by simpa using h1, fun i hi => ?_⟩
      obtain ⟨x, hx, hx2⟩ := h2 (i + 1) (by simpa using hi)
      exact ⟨x, by simpa using hx, hx2⟩

theorem owned_lt {C : Ctx} {H : List (Nat × Blk)} {ι : Tags} {w : World} (h : Core C H ι w) {b : Nat} (hb : ownedBy H ι b) : ∃ c ty n, w.heap[b]? = some (.cells c ty n) := by
  obtain ⟨t, ⟨k, hk⟩, e⟩ := hb
  have := h.blk t k hk
  unfold BlkR at this
  rw [e] at this
  obtain ⟨cur, q, _⟩ := this
  exact ⟨_, _, _, q⟩

section
variable {P : Program} {N : Nat} {KB : List Nat} {ιs : Tags} {env : List (Nat × AV)} {tm : Array Value} {ws : World} {own0 : Nat → Prop} {z0 : Bool → Nat → Prop} {l D : Nat}
variable {σ R E : Type} {Hp : σ → List (Nat × Blk)} {Hb : E → σ → List (Nat × Blk)} {step : (σ → Option R) → E → σ → Option R} {k : σ → Option R} {r : R} {vals : E → List AV} {ps : Array Nat} {assign body : Code} {envb : E → σ → List (Nat × AV)} {M : Exit → σ → Prop} {fn : FuncId}

/-- the record of the loop -/
def recOf (fn : FuncId) (tm : Array Value) (ps : Array Nat) (assign body : Code) (D : Nat) (st : LoopState) (pe : Option Code) : Loop := { state := st, pending := pe, fn := fn, tmps := tm, params := ps, assign := assign, body := body, defers := D }

/-- What the body of a round must do: assign, and then the body, in whatever context. -/
structure BodyOk (P : Program) (N l : Nat) (KB : List Nat) (env : List (Nat × AV)) {σ R E : Type} (Hp : σ → List (Nat × Blk)) (Hb : E → σ → List (Nat × Blk)) (step : (σ → Option R) → E → σ → Option R) (r : R) (vals : E → List AV) (ps : Array Nat) (assign body : Code)
    (envb : E → σ → List (Nat × AV)) (M : Exit → σ → Prop) : Prop where
  hps : ∀ p, p ∈ ps.toList → p < N
  hvl : ∀ e, (vals e).length = ps.size
  assign : ∀ w0 Zs Zb T0 ι0 x e, AWP ⟨P, some l, N, [], w0, Zs, Zb, T0, KB, ι0⟩ assign (fun e' s' => e' = .normal ∧ VC ⟨P, some l, N, [], w0, Zs, Zb, T0, KB, ι0⟩ s' ⟨envb e x, Hb e x⟩) (puts ⟨env, Hp x⟩ (ps.toList.zip (vals e)))
  body : ∀ w0 Zs Zb T0 ι0 nx x e, step nx e x = some r → AWP ⟨P, some l, N, [], w0, Zs, Zb, T0, KB, ι0⟩ body (fun e' s' => ∃ x', VC ⟨P, some l, N, [], w0, Zs, Zb, T0, KB, ι0⟩ s' ⟨[], Hp x'⟩ ∧
    ((e' = .normal ∧ nx x' = some r) ∨ ((e' = .ret ∨ ∃ id, e' = .exit id) ∧ M e' x'))) ⟨envb e x, Hb e x⟩

theorem RgJ.round {xs : List E} (hz0 : ∀ β b, z0 β b → ¬ own0 b ∧ b < ws.heap.size) (htag : ∀ t v, look t env = some v → ∀ t', AV.free t' v = false → t' ∈ KB)
    (hB : BodyOk P N l KB env Hp Hb step r vals ps assign body envb M) :
    RoundOk P l vals xs (fun b => z0 false b) (fun b => z0 true b)
      (fun pre O I W => ∃ x rest, xs = pre ++ rest ∧ rangeL step rest k x = some r ∧ RgJ P N KB ιs env tm (Hp x) ws own0 z0 l D (recOf fn tm ps assign body D .ready none) O I W)
      (fun O I W => ∃ x e2 c, ((e2 = .ret ∧ c = Code.ret) ∨ ∃ id, e2 = .exit id ∧ c = .exit id) ∧ M e2 x ∧ RgJ P N KB ιs env tm (Hp x) ws own0 z0 l D (recOf fn tm ps assign body D .done (some c)) O I W) := by
  rintro pre e rest0 O I W Z us exs ⟨x, rest, exs', hx, hJ⟩ hOI hIlt hZ hvs
  have hrest : rest = e :: rest0 := List.append_cancel_left (exs'.symm.trans exs)
  subst hrest
  rw [rangeL] at hx
  obtain ⟨ι, Zs, Zb, r0, h1, h2, h3, h4⟩ := hJ.st
  have hlW : l < W.heap.size := (Array.getElem?_eq_some_iff.1 hJ.rc).1
  have hDW : D < W.heap.size := (Array.getElem?_eq_some_iff.1 hJ.mark).1
  have notCells : ∀ {w : World} {b : Nat} {o : Obj}, w.heap[b]? = some o → o.isCells = false → ∀ {c ty n}, w.heap[b]? ≠ some (.cells c ty n) := by
    intro w b o h ho c ty n h'
    rw [h] at h'
    cases h'
    simp [Obj.isCells] at ho
  have own_l : ∀ {C : Ctx} {H : List (Nat × Blk)} {ι : Tags} {w : World} {b : Nat} {o : Obj}, Core C H ι w → w.heap[b]? = some o → o.isCells = false → ¬ ownedBy H ι b := by
    intro C H ι w b o hc h ho hb
    obtain ⟨c, ty, n, h'⟩ := owned_lt hc hb
    exact notCells h ho h'
  -- the round's first context
  let C1 : Ctx := ⟨P, some l, N, [], W, fun b => Zs b ∨ Z false b, fun b => Zb b ∨ Z true b, ownedBy (Hp x) ι, KB, ιs⟩
  have hZown : ∀ β b, Z β b → ¬ ownedBy (Hp x) ι b := by
    intro β b hz ho
    obtain ⟨_, _, h⟩ := hZ β b hz
    rcases h with h | ⟨_, h⟩ | h
    · have := hz0 _ _ h
      rcases (h1 b ho).2.2 with h5 | h5
      · exact this.1 h5
      · omega
    · have := hz0 _ _ h
      rcases (h1 b ho).2.2 with h5 | h5
      · exact this.1 h5
      · omega
    · exact (h1 b ho).1 h
  have hzone1 : ∀ β b, zone ⟨P, none, N, [], W, Zs, Zb, ownedBy (Hp x) ι, KB, ιs⟩ (Hp x) ι W β b → zone C1 (Hp x) ι W β b := by
    intro β b hz
    refine ⟨hz.1, hz.2.1, ?_⟩
    rcases zone_at hz with ⟨e1, h⟩ | h
    · exact .inl ⟨e1, .inl h⟩
    · exact .inr (.inl (.inl h))
  have hzoneZ : ∀ β b, Z β b → zone C1 (Hp x) ι W β b := by
    intro β b hz
    refine ⟨(hZ β b hz).1, fun t ht e1 => hZown β b hz ⟨t, ht, e1⟩, ?_⟩
    cases β with
    | true => exact .inl ⟨rfl, .inr hz⟩
    | false => exact .inr (.inl (.inr hz))
  have r1 : Rel C1 ⟨env, Hp x⟩ ι ⟨tm, []⟩ W := by
    refine ⟨r0.size, rfl, fun d v hl => (r0.env d v hl).mono (fun _ _ h => h) _ _ hzone1 (fun _ _ _ _ _ h => h) (fun _ _ _ h => h), ⟨fun t kk hk => ?_, r0.core.inj, r0.core.own, Trans.refl _ _⟩, r0.stab⟩
    have h0 := r0.core.blk t kk hk
    unfold BlkR at h0 ⊢
    cases hxx : ι t with
    | none => simp only [hxx] at h0 ⊢; exact h0
    | some b =>
      simp only [hxx] at h0 ⊢
      obtain ⟨cur, q1, q2, q3⟩ := h0
      refine ⟨cur, q1, q2, fun i hi => ?_⟩
      obtain ⟨u, hu, hv⟩ := q3 i hi
      refine ⟨u, hu, hv.mono (fun _ _ h => h) _ _ ?_ (fun _ _ _ _ _ h => h) (fun _ _ _ h => h)⟩
      cases kk.lst with
      | true => exact fun _ b hb => hzone1 _ _ hb
      | false => exact hzone1
  have hvs1 : VRs W (zone C1 (Hp x) ι W) ι (vals e) us := ⟨hvs.1, fun i hi => by
    obtain ⟨u, hu, hv⟩ := hvs.2 i hi
    exact ⟨u, hu, hv.mono (fun _ _ h => h) _ _ hzoneZ (fun _ _ _ _ _ h => h) (fun t b _ h => by cases h)⟩⟩
  have r2 := Rel.puts (ps.toList) (vals e) us r1 hB.hps (by rw [hB.hvl]; simp) hvs1
  have husz : us.toArray.size = ps.size := by rw [List.size_toArray, hvs.1, hB.hvl]
  have hy := run_yield (P := P) (args := us.toArray) hJ.rc (by simpa [recOf] using husz)
  have hfold : (ps.zip us.toArray).foldl (fun tmps q => tmps.setIfInBounds q.1 q.2) tm = (ps.toList.zip us).foldl (fun t q => t.setIfInBounds q.1 q.2) tm := by
    rw [← Array.foldl_toList]
    simp
  refine ⟨fn, _, assign, body, hy, roundIn_of_wpIn trivial ?_⟩
  have ha := hB.assign W (fun b => Zs b ∨ Z false b) (fun b => Zb b ∨ Z true b) (ownedBy (Hp x) ι) ιs x e ι ⟨(ps.toList.zip us).foldl (fun t q => t.setIfInBounds q.1 q.2) tm, []⟩ W r2
  rw [show (Array.zip (recOf fn tm ps assign body D .ready none).params us.toArray).foldl (fun tmps x => match x with | (t, a) => tmps.setIfInBounds t a) (recOf fn tm ps assign body D .ready none).tmps = _ from hfold]
  refine wpIn_mono ha ?_
  rintro e1 a1 w1 ⟨s1, ι1, r3, rfl, hvc⟩
  obtain ⟨ι2, r4⟩ := hvc ι1 a1 w1 r3
  have tr1 : Trans (ownedBy (Hp x) ι) W w1 := r4.core.tr
  have nl : ¬ ownedBy (Hp x) ι l := own_l r0.core hJ.rc rfl
  have nD : ¬ ownedBy (Hp x) ι D := own_l r0.core hJ.mark rfl
  have hl1 : w1.heap[l]? = some (.loop (recOf fn tm ps assign body D .ready none)) := by rw [tr1.block l hlW nl]; exact hJ.rc
  have hD1 : w1.heap[D]? = some (.deferred (some [])) := by rw [tr1.block D hDW nD]; exact hJ.mark
  refine ⟨_, run_beginRound hl1 rfl, ?_⟩
  have kp1 : ∀ B, Kept B w1 (w1.putObj l (.loop { recOf fn tm ps assign body D .ready none with state := .busy })) := fun B => Kept.putObj hl1 rfl
  have hl2 : (w1.putObj l (.loop { recOf fn tm ps assign body D .ready none with state := .busy })).heap[l]? = some (.loop { recOf fn tm ps assign body D .ready none with state := .busy }) := World.putObj_heap_same (Array.getElem?_eq_some_iff.1 hl1).1
  have hD2 : (w1.putObj l (.loop { recOf fn tm ps assign body D .ready none with state := .busy })).heap[D]? = some (.deferred (some [])) := (World.putObj_heap_other hJ.lws.2.2.symm).trans hD1
  have sz2 : (w1.putObj l (.loop { recOf fn tm ps assign body D .ready none with state := .busy })).heap.size = w1.heap.size := by simp
  have tr2 : Trans own0 ws (w1.putObj l (.loop { recOf fn tm ps assign body D .ready none with state := .busy })) := (hJ.tr.comp tr1 fun b hb => (h1 b hb).2.2).putObj hl1 rfl hJ.lws.1
  generalize w1.putObj l (.loop { recOf fn tm ps assign body D .ready none with state := .busy }) = w2 at kp1 hl2 hD2 sz2 tr2 ⊢
  have r5 := r4.anew (some l) (dfr := []) (tm := a1.tmps) rfl (kp1 _)
  have ea : a1 = ⟨a1.tmps, []⟩ := by
    have := r4.dfr
    obtain ⟨u, v⟩ := a1
    simp only at this
    subst this
    rfl
  rw [ea]
  have hb := hB.body w2 (fun b => zone C1 (Hb e x) ι2 w1 false b) (fun b => zone C1 (Hb e x) ι2 w1 true b) (ownedBy (Hb e x) ι2) ιs (rangeL step rest0 k) x e hx ι2 ⟨a1.tmps, []⟩ w2 r5
  refine wpIn_mono hb ?_
  rintro e3 a3 w3 ⟨s3, ι3', r6, x', hvc3, hend⟩
  obtain ⟨ι3, r7⟩ := hvc3 ι3' a3 w3 r6
  have tr3 : Trans (ownedBy (Hb e x) ι2) w2 w3 := r7.core.tr
  have hws : ws.heap.size ≤ W.heap.size := hJ.tr.size
  have sz1 : W.heap.size ≤ w1.heap.size := tr1.size
  have sz3 : w2.heap.size ≤ w3.heap.size := tr3.size
  have o12 : ∀ b, ownedBy (Hb e x) ι2 b → W.heap.size ≤ b ∨ ownedBy (Hp x) ι b := by
    rintro b ⟨t, ht, et⟩
    exact r4.core.own t b ht et
  have o23 : ∀ b, ownedBy (Hp x') ι3 b → w2.heap.size ≤ b ∨ ownedBy (Hb e x) ι2 b := by
    rintro b ⟨t, ht, et⟩
    exact r7.core.own t b ht et
  have nl2 : ¬ ownedBy (Hb e x) ι2 l := own_l r5.core hl2 rfl
  have nD2 : ¬ ownedBy (Hb e x) ι2 D := own_l r5.core hD2 rfl
  have hl3 : w3.heap[l]? = some (.loop { recOf fn tm ps assign body D .ready none with state := .busy }) := by rw [tr3.block l (by omega) nl2]; exact hl2
  have hD3 : w3.heap[D]? = some (.deferred (some [])) := by rw [tr3.block D (by omega) nD2]; exact hD2
  have zc1 : ∀ β b, zone C1 (Hb e x) ι2 w1 β b → ¬ O b ∧ (β = false → z0 false b ∨ own0 b ∨ ws.heap.size ≤ b) ∧ (z0 true b ∨ z0 false b ∨ own0 b ∨ ws.heap.size ≤ b) := by
    intro β b hz
    have fromZ : ∀ β', Z β' b → ¬ O b ∧ (β' = false → z0 false b ∨ own0 b ∨ ws.heap.size ≤ b) ∧ (z0 true b ∨ z0 false b ∨ own0 b ∨ ws.heap.size ≤ b) := by
      intro β' h
      obtain ⟨_, q1, q2⟩ := hZ β' b h
      refine ⟨q1, fun e0 => ?_, ?_⟩
      · rcases q2 with q | ⟨q, _⟩ | q
        · exact .inl q
        · rw [e0] at q; cases q
        · exact .inr (hJ.oi b q)
      · rcases q2 with q | ⟨_, q⟩ | q
        · exact .inr (.inl q)
        · exact .inl q
        · exact .inr (.inr (hJ.oi b q))
    rcases hz.2.2 with ⟨e0, h | h⟩ | (h | h) | h | h
    · exact ⟨(h2 b (.inr h)).2, (fun e1 => by rw [e0] at e1; cases e1), h4 b h⟩
    · have := fromZ true h
      exact ⟨this.1, (fun e1 => by rw [e0] at e1; cases e1), this.2.2⟩
    · exact ⟨(h2 b (.inl h)).2, fun _ => h3 b h, .inr (h3 b h)⟩
    · have := fromZ false h
      exact ⟨this.1, fun _ => this.2.1 rfl, this.2.2⟩
    · have h : W.heap.size ≤ b := h
      exact ⟨fun ho => by have := hIlt b (hOI b ho); omega, fun _ => .inr (.inr (by omega)), .inr (.inr (.inr (by omega)))⟩
    · have := h1 b h
      exact ⟨this.2.1, fun _ => .inr this.2.2, .inr (.inr this.2.2)⟩
  let C2 : Ctx := ⟨P, some l, N, [], w2, fun b => zone C1 (Hb e x) ι2 w1 false b, fun b => zone C1 (Hb e x) ι2 w1 true b, ownedBy (Hb e x) ι2, KB, ιs⟩
  have zc2 : ∀ β b, zone C2 (Hp x') ι3 w3 β b → ¬ O b ∧ (β = false → z0 false b ∨ own0 b ∨ ws.heap.size ≤ b) ∧ (z0 true b ∨ z0 false b ∨ own0 b ∨ ws.heap.size ≤ b) := by
    intro β b hz
    rcases hz.2.2 with ⟨e0, h⟩ | h | h | h
    · have := zc1 true b h
      exact ⟨this.1, (fun e1 => by rw [e0] at e1; cases e1), this.2.2⟩
    · have := zc1 false b h
      exact ⟨this.1, fun _ => this.2.1 rfl, this.2.2⟩
    · have h : w2.heap.size ≤ b := h
      exact ⟨fun ho => by have := hIlt b (hOI b ho); omega, fun _ => .inr (.inr (by omega)), .inr (.inr (.inr (by omega)))⟩
    · rcases o12 b h with h | h
      · exact ⟨fun ho => by have := hIlt b (hOI b ho); omega, fun _ => .inr (.inr (by omega)), .inr (.inr (.inr (by omega)))⟩
      · have := h1 b h
        exact ⟨this.2.1, fun _ => .inr this.2.2, .inr (.inr this.2.2)⟩
  have fin : ∀ (st : LoopState) (pe : Option Code), Kept (fun b => O b ∨ Z false b ∨ Z true b) W (w3.putObj l (.loop (recOf fn tm ps assign body D st pe))) ∧
      RgJ P N KB ιs env tm (Hp x') ws own0 z0 l D (recOf fn tm ps assign body D st pe) O I (w3.putObj l (.loop (recOf fn tm ps assign body D st pe))) := by
    intro st pe
    have kp : ∀ B, Kept B w3 (w3.putObj l (.loop (recOf fn tm ps assign body D st pe))) := fun B => Kept.putObj hl3 rfl
    have sz4 : (w3.putObj l (.loop (recOf fn tm ps assign body D st pe))).heap.size = w3.heap.size := by simp
    have hl4 : (w3.putObj l (.loop (recOf fn tm ps assign body D st pe))).heap[l]? = some (.loop (recOf fn tm ps assign body D st pe)) := World.putObj_heap_same (Array.getElem?_eq_some_iff.1 hl3).1
    have hD4 : (w3.putObj l (.loop (recOf fn tm ps assign body D st pe))).heap[D]? = some (.deferred (some [])) := (World.putObj_heap_other hJ.lws.2.2.symm).trans hD3
    have tr4 : Trans own0 ws (w3.putObj l (.loop (recOf fn tm ps assign body D st pe))) := (tr2.comp tr3 fun b hb => by
      rcases o12 b hb with h | h
      · exact .inr (by omega)
      · exact (h1 b h).2.2).putObj hl3 rfl hJ.lws.1
    have kW : Kept (fun b => b < W.heap.size ∧ ¬ ownedBy (Hp x) ι b) W (w3.putObj l (.loop (recOf fn tm ps assign body D st pe))) :=
      (((tr1.kept fun b _ hb => hb.2).trans (kp1 _)).trans (tr3.kept fun b _ hb ho => by
        rcases o12 b ho with h | h
        · omega
        · exact hb.2 h)).trans (kp _)
    have r8 := r7.anew none (dfr := []) (tm := a3.tmps) rfl (kp _)
    generalize w3.putObj l (.loop (recOf fn tm ps assign body D st pe)) = w4 at kp sz4 hl4 hD4 tr4 kW r8 ⊢
    refine ⟨kW.sub fun b hb => ?_, ⟨⟨ι3, _, _, ⟨r0.size, rfl, fun d v hl => ?_, r8.core, r8.stab⟩, fun b hb => ?_, fun b hb => ?_, fun b hb => (zc2 _ b hb).2.1 rfl, fun b hb => (zc2 _ b hb).2.2⟩, hl4, hD4, hJ.lO, hJ.lws, hJ.oo, hJ.oi, tr4⟩⟩
    · rcases hb with hb | hb | hb
      · exact ⟨hIlt b (hOI b hb), fun ho => (h1 b ho).2.1 hb⟩
      · exact ⟨(hZ _ b hb).1, hZown _ b hb⟩
      · exact ⟨(hZ _ b hb).1, hZown _ b hb⟩
    · refine (r0.env d v hl).mono kW.bsz _ _ (fun β b hz => ?_) (fun β b o u hz hu => kW.cell ⟨hz.1, fun ⟨t, ht, et⟩ => hz.2.1 t ht et⟩ hu) (fun t b hf et => ?_)
      · have no : ¬ ownedBy (Hp x) ι b := fun ⟨t, ht, et⟩ => hz.2.1 t ht et
        have hzW : b < W.heap.size := hz.1
        have z1 : zone C1 (Hb e x) ι2 w1 β b := zone_keep (C := C1) r4.core hz.1 no (by
          rcases zone_at hz with ⟨e0, h⟩ | h
          · exact .inl ⟨e0, .inl h⟩
          · exact .inr (.inl h))
        have no2 : ¬ ownedBy (Hb e x) ι2 b := fun ho => by
          rcases o12 b ho with h | h
          · omega
          · exact no h
        have z2 : zone C2 (Hp x') ι3 w3 β b := zone_keep (C := C2) r7.core (show b < w2.heap.size by omega) no2 (by
          cases β with
          | true => exact .inl ⟨rfl, z1⟩
          | false => exact .inr z1)
        refine ⟨by rw [sz4]; exact z2.1, z2.2.1, ?_⟩
        cases β with
        | true => exact .inl ⟨rfl, z2⟩
        | false => exact .inr (.inl z2)
      · have ht := htag d v hl t hf
        have e1 := r0.stab t ht
        have e2 := r7.stab t ht
        show ι3 t = some b
        rw [e2]
        rw [e1] at et
        exact et
    · rcases o23 b hb with h | h
      · exact ⟨fun hi => by have := hIlt b hi; omega, fun ho => by have := hIlt b (hOI b ho); omega, .inr (by omega)⟩
      · rcases o12 b h with h | h
        · exact ⟨fun hi => by have := hIlt b hi; omega, fun ho => by have := hIlt b (hOI b ho); omega, .inr (by omega)⟩
        · exact h1 b h
    · rcases hb with hb | hb
      · exact ⟨by rw [sz4]; exact hb.1, (zc2 _ b hb).1⟩
      · exact ⟨by rw [sz4]; exact hb.1, (zc2 _ b hb).1⟩
  rcases hend with ⟨rfl, hnx⟩ | ⟨he3, hM⟩
  · obtain ⟨k1, k2⟩ := fin .ready none
    exact ⟨_, _, run_endRound none hl3, k1, .inl ⟨rfl, x', rest0, by rw [exs]; simp, hnx, k2⟩⟩
  · rcases he3 with rfl | ⟨id, rfl⟩
    · obtain ⟨k1, k2⟩ := fin .done (some .ret)
      exact ⟨_, _, run_endRound (some .ret) hl3, k1, .inr ⟨rfl, x', .ret, .ret, .inl ⟨rfl, rfl⟩, hM, k2⟩⟩
    · obtain ⟨k1, k2⟩ := fin .done (some (.exit id))
      exact ⟨_, _, run_endRound (some (.exit id)) hl3, k1, .inr ⟨rfl, x', .exit id, .exit id, .inr ⟨id, rfl, rfl⟩, hM, k2⟩⟩
end
end Go.AB

/-
  AB, part 31: the statement that ranges over a function; functions that hold one.
-/
import Derived.Test.YtpccmcepgllccaaAb30
namespace Go.AB
open Go

/-- a part of a state, in a context that begins anew -/
theorem Rel.part {C : Ctx} {s : St} {ι : Tags} {a : Act} {w w' : World} (r : Rel C s ι a w) (ro : Option Nat) {dfr : List Deferred} {tm : Array Value} (ht : tm = a.tmps) {env : List (Nat × AV)} {Hx : List (Nat × Blk)}
    (henv : ∀ t v, look t env = some v → look t s.env = some v) (hHx : ∀ t kk, look t Hx = some kk → look t s.heap = some kk) {KB : List Nat} {ι0 : Tags} (hst : ∀ t, t ∈ KB → ι t = ι0 t)
    (k : Kept (fun b => ownedBy s.heap ι b ∨ zone C s.heap ι w false b ∨ zone C s.heap ι w true b) w w') :
    Rel ⟨C.P, ro, C.N, dfr, w', fun b => zone C s.heap ι w false b, fun b => zone C s.heap ι w true b, ownedBy Hx ι, KB, ι0⟩ ⟨env, Hx⟩ ι ⟨tm, dfr⟩ w' := by
  subst ht
  have hhas : ∀ t, has t Hx → has t s.heap := fun t ⟨kk, hk⟩ => ⟨kk, hHx t kk hk⟩
  have hZ : ∀ β b, zone C s.heap ι w β b → zone ⟨C.P, ro, C.N, dfr, w', fun b => zone C s.heap ι w false b, fun b => zone C s.heap ι w true b, ownedBy Hx ι, KB, ι0⟩ Hx ι w' β b := by
    intro β b hz
    refine ⟨Nat.lt_of_lt_of_le hz.1 k.size, fun t ht => hz.2.1 t (hhas t ht), ?_⟩
    cases β with
    | true => exact .inl ⟨rfl, hz⟩
    | false => exact .inr (.inl hz)
  have hcell : ∀ β b o u, zone C s.heap ι w β b → w.cell? ⟨b, o, none⟩ = some u → w'.cell? ⟨b, o, none⟩ = some u := by
    intro β b o u hz hu
    exact k.cell (by cases β with | true => exact .inr (.inr hz) | false => exact .inr (.inl hz)) hu
  refine ⟨r.size, rfl, fun d v hl => (r.env d v (henv d v hl)).mono k.bsz _ _ hZ hcell (fun _ _ _ h => h), ⟨fun t kk hk => ?_, fun t t' b h1 h2 => r.core.inj t t' b (hhas t h1) (hhas t' h2), fun t b ht e => .inr ⟨t, ht, e⟩, Trans.refl _ _⟩, hst⟩
  have h0 := r.core.blk t kk (hHx t kk hk)
  unfold BlkR at h0 ⊢
  cases hx : ι t with
  | none => simp only [hx] at h0 ⊢; exact h0
  | some b =>
    simp only [hx] at h0 ⊢
    obtain ⟨cur, q1, q2, q3⟩ := h0
    refine ⟨cur, ?_, q2, fun i hi => ?_⟩
    · rw [k.block b _ _ _ (.inl ⟨t, hhas t ⟨kk, hk⟩, hx⟩) q1]; exact q1
    · obtain ⟨u, hu, hv⟩ := q3 i hi
      refine ⟨u, hu, hv.mono k.bsz _ _ ?_ ?_ (fun _ _ _ h => h)⟩
      · cases kk.lst with
        | true => exact fun _ b hb => hZ _ _ hb
        | false => exact hZ
      · cases kk.lst with
        | true => exact fun _ b o u hb => hcell _ b o u hb
        | false => exact hcell

/-- the callee's side of a call, in a later world -/
theorem callee_core {C : Ctx} {s : St} {σ : Nat → Nat} {H : List (Nat × Blk)} {ι : Tags} {a : Act} {w w' : World} (rel : Rel C s ι a w) (hH : ∀ t k, look t H = some k → look (σ t) s.heap = some (renB σ k))
    (hinj : ∀ a b, a ∈ dom H → b ∈ dom H → σ a = σ b → a = b) (k : Kept (fun b => ownedBy s.heap ι b ∨ zone C s.heap ι w false b ∨ zone C s.heap ι w true b) w w') (ro : Option Nat) (dfr : List Deferred) :
    Core ⟨C.P, ro, C.N, dfr, w', fun b => zone C s.heap ι w false b, fun b => zone C s.heap ι w true b, ownedBy H (fun t => ι (σ t)), [], fun t => ι (σ t)⟩ H (fun t => ι (σ t)) w' := by
  have hHas : ∀ t, has t H → has (σ t) s.heap := fun t ⟨k, hk⟩ => ⟨_, hH t k hk⟩
  have hZ : ∀ β b, zone C s.heap ι w β b → zone ⟨C.P, ro, C.N, dfr, w', fun b => zone C s.heap ι w false b, fun b => zone C s.heap ι w true b, ownedBy H (fun t => ι (σ t)), [], fun t => ι (σ t)⟩ H (fun t => ι (σ t)) w' β b := by
    intro β b hz
    refine ⟨Nat.lt_of_lt_of_le hz.1 k.size, fun t ht => hz.2.1 (σ t) (hHas t ht), ?_⟩
    cases β with
    | true => exact .inl ⟨rfl, hz⟩
    | false => exact .inr (.inl hz)
  have hcell : ∀ β b o u, zone C s.heap ι w β b → w.cell? ⟨b, o, none⟩ = some u → w'.cell? ⟨b, o, none⟩ = some u := by
    intro β b o u hz hu
    exact k.cell (by cases β with | true => exact .inr (.inr hz) | false => exact .inr (.inl hz)) hu
  refine ⟨fun t kk hk => ?_, fun t t' b h1 h2 e1 e2 => ?_, fun t b h e => .inr ⟨t, h, e⟩, Trans.refl _ _⟩
  · have h0 := rel.core.blk (σ t) _ (hH t kk hk)
    unfold BlkR at h0 ⊢
    cases hx : ι (σ t) with
    | none =>
      simp only [hx] at h0 ⊢
      obtain ⟨kt, kl, kc⟩ := kk
      cases kl with
      | true => exact h0
      | false => simp [renB] at h0
    | some b =>
      simp only [hx] at h0 ⊢
      have hown : ownedBy s.heap ι b := ⟨σ t, hHas t ⟨kk, hk⟩, hx⟩
      obtain ⟨kt, kl, kc⟩ := kk
      cases kl with
      | true =>
        obtain ⟨cur, q1, q2, q3⟩ := h0
        refine ⟨cur, by rw [k.block b _ _ _ (.inl hown) q1]; exact q1, q2, fun i hi => ?_⟩
        obtain ⟨u, hu, hv⟩ := q3 i hi
        exact ⟨u, hu, hv.mono k.bsz _ _ (fun _ _ h => hZ _ _ h) (fun _ b o u hb => hcell _ b o u hb) (fun _ _ _ h => h)⟩
      | false =>
        obtain ⟨cur, q1, q2, q3⟩ := h0
        have hlen : (renB σ ⟨kt, false, kc⟩).cells.length = kc.length := by simp [renB, AV.renL_eq]
        refine ⟨cur, by rw [k.block b _ _ _ (.inl hown) q1]; exact q1, by rw [hlen] at q2; exact q2, fun i hi => ?_⟩
        obtain ⟨u, hu, hv⟩ := q3 i (by rw [hlen]; exact hi)
        refine ⟨u, hu, ?_⟩
        have e1 : (renB σ ⟨kt, false, kc⟩).cells[i]'(by rw [hlen]; exact hi) = (kc[i]'hi).ren σ := by simp [renB, AV.renL_eq]
        rw [e1] at hv
        exact (hv.unren (σ := σ)).mono k.bsz _ _ hZ hcell (fun _ _ _ h => h)
  · exact hinj t t' (has_dom.1 h1) (has_dom.1 h2) (rel.core.inj _ _ b (hHas t h1) (hHas t' h2) e1 e2)

theorem Trans.alloc {T : Nat → Prop} {w w1 : World} (h : Trans T w w1) (o : Obj) : Trans T w (w1.alloc o) :=
  ⟨h.os, h.tape, h.output, by simpa using Nat.le_succ_of_le h.size, fun b hb hn => by
    rw [RowKit.Below.heap_alloc _ _ _ (Nat.lt_of_lt_of_le hb h.size)]; exact h.block b hb hn, fun b n e => (Kept.alloc (B := fun _ => True) w1 o).bsz _ _ (h.bsz _ _ e)⟩

def markOf (B : Nat) : Deferred := { target := .collected B, args := #[] }
structure RgD where
  ms : List Nat
  w0 : World
  Zs : Nat → Prop
  Zb : Nat → Prop
  T0 : Nat → Prop
structure RgH {R : Type} (r : R) (w00 : World) (Zs0 Zb0 T00 : Nat → Prop) (g : Option R) (d : RgD) : Prop where
  g : g = some r
  tr : Trans T00 w00 d.w0
  own : ∀ b, d.T0 b → T00 b ∨ w00.heap.size ≤ b
  zs : ∀ b, d.Zs b → Zs0 b ∨ T00 b ∨ w00.heap.size ≤ b
  zb : ∀ b, d.Zb b → Zb0 b ∨ Zs0 b ∨ T00 b ∨ w00.heap.size ≤ b
  marks : ∀ B, B ∈ d.ms → d.w0.heap[B]? = some (.deferred (some [])) ∧ ¬ d.T0 B ∧ w00.heap.size ≤ B
  nodup : d.ms.Nodup
def rgFam {R : Type} (P : Program) (N : Nat) (ι0 : Tags) (r : R) (w00 : World) (Zs0 Zb0 T00 : Nat → Prop) : Fam (Option R) where
  D := RgD
  P := P
  r := none
  cx d := ⟨P, none, N, d.ms.map markOf, d.w0, d.Zs, d.Zb, d.T0, [], ι0⟩
  H g d := RgH r w00 Zs0 Zb0 T00 g d
  hP _ := rfl
  hr _ := rfl

section
variable {P : Program} {N : Nat} {ι0 : Tags} {w00 : World} {Zs0 Zb0 T00 : Nat → Prop}
/-- 'for .. := range g { .. }' -/
theorem AWPF.range {σx R E : Type} {r : R} {Q : Exit → Option R → St → Prop} {s : St} {g : Operand} {ps : Array Nat} {assign body : Code} {f : FuncId} {avs cs : List AV} {H : List (Nat × Blk)} {vals : E → List AV} {xs : List E} {σ : Nat → Nat}
    {Hp : σx → List (Nat × Blk)} {Hb : E → σx → List (Nat × Blk)} {step : (σx → Option R) → E → σx → Option R} {k : σx → Option R} {env : List (Nat × AV)} {x0 : σx} {KB : List Nat} {envb : E → σx → List (Nat × AV)} {M : Exit → σx → Prop}
    (hS : ItSpec P f avs H vals xs) (hg : ∀ d, Ev ((rgFam P N ι0 r w00 Zs0 Zb0 T00).cx d) s g (.clo (.func f) [] cs)) (hcs : ∀ d, CvL ((rgFam P N ι0 r w00 Zs0 Zb0 T00).cx d) s σ H false cs avs)
    (hH : ∀ t k, look t H = some k → look (σ t) s.heap = some (renB σ k)) (hinj : ∀ a b, a ∈ dom H → b ∈ dom H → σ a = σ b → a = b)
    (hHp : ∀ t kk, look t (Hp x0) = some kk → look t s.heap = some kk) (hdis : ∀ t, has t (Hp x0) → t ∉ (dom H).map σ)
    (henv : ∀ t v, look t env = some v → look t s.env = some v) (htag : ∀ t v, look t env = some v → ∀ t', AV.free t' v = false → t' ∈ KB)
    (hx : rangeL step xs k x0 = some r) (hB : ∀ l, BodyOk P N l KB env Hp Hb step r vals ps assign body envb M)
    (hk : ∀ x, k x = some r → Q .normal (some r) ⟨env, Hp x⟩) (hstop : ∀ e x, M e x → Q e (some r) ⟨env, Hp x⟩) :
    AWPF (rgFam P N ι0 r w00 Zs0 Zb0 T00) (.rangeFunc g ps assign body) Q (some r) s := by
  intro d ι a w hR rel
  obtain ⟨hable, hspec⟩ := hS
  have hHas : ∀ t, has t H → has (σ t) s.heap := fun t ⟨k, hk⟩ => ⟨_, hH t k hk⟩
  have hv := hg d ι a w rel
  generalize hge : a.eval g = ge at hv
  cases hv with
  | clo _ _ _ _ _ u1 v1 hu hl q1 q2 =>
  have hu1 : u1 = [] := List.eq_nil_of_length_eq_zero (by simpa using hu)
  subst hu1
  have hvrs := (hcs d).vrs hHas rel [] hl q2
  refine wpIn_rangeFunc fun fn _ => ?_
  obtain ⟨W1, hW1⟩ : ∃ W1, (w.alloc (.deferred (some []))).alloc (.loop (recOf fn a.tmps ps assign body w.heap.size .ready none)) = W1 := ⟨_, rfl⟩
  have hL1 : W1.heap[w.heap.size + 1]? = some (.loop (recOf fn a.tmps ps assign body w.heap.size .ready none)) := by
    rw [← hW1]; have := World.alloc_heap_new (w.alloc (.deferred (some []))) (.loop (recOf fn a.tmps ps assign body w.heap.size .ready none)); rwa [World.size_alloc] at this
  have hD1 : W1.heap[w.heap.size]? = some (.deferred (some [])) := by
    rw [← hW1]; exact (RowKit.Below.heap_alloc _ _ _ (by simp)).trans (World.alloc_heap_new w _)
  have kp1 : ∀ B, Kept B w W1 := fun B => by rw [← hW1]; exact (Kept.alloc w _).trans (Kept.alloc _ _)
  have tr1 : Trans (fun b => ownedBy s.heap ι b) w W1 := by rw [← hW1]; exact ((Trans.refl _ w).alloc _).alloc _
  have sz1 : w.heap.size ≤ W1.heap.size := tr1.size
  have hen : (Instr.enterLoop fn a.tmps ps assign body none).run P w = .ok (w.heap.size + 1, [markOf w.heap.size]) W1 := by
    rw [← hW1]; exact run_enterLoop_outer _ _ _ _ _
  have hcore := callee_core rel hH hinj (kp1 _) none []
  have howlt : ∀ b, ownedBy s.heap ι b → b < w.heap.size := fun b hb => rel.core.lt hb
  have hOs : ∀ b, ownedBy H (fun t => ι (σ t)) b → ownedBy s.heap ι b := fun b ⟨t, ht, e⟩ => ⟨σ t, hHas t ht, e⟩
  have hvr1 : VRs W1 (zone ⟨P, none, N, [], W1, fun b => zone ((rgFam P N ι0 r w00 Zs0 Zb0 T00).cx d) s.heap ι w false b, fun b => zone ((rgFam P N ι0 r w00 Zs0 Zb0 T00).cx d) s.heap ι w true b, ownedBy H (fun t => ι (σ t)), [], fun t => ι (σ t)⟩ H (fun t => ι (σ t)) W1) (fun t => ι (σ t)) avs v1 := by
    refine ⟨hvrs.1, fun i hi => ?_⟩
    obtain ⟨u, hu, hvv⟩ := hvrs.2 i hi
    refine ⟨u, hu, hvv.mono (kp1 (fun _ => True)).bsz _ _ (fun β b hz => ?_) (fun β b o u hz hu => (kp1 (fun _ => True)).cell trivial hu) (fun _ _ _ h => h)⟩
    refine ⟨Nat.lt_of_lt_of_le hz.1 sz1, hz.2.1, ?_⟩
    rcases hz.2.2 with ⟨e0, h | ⟨h, _⟩⟩ | h | h | h
    · exact .inl ⟨e0, h⟩
    · cases h
    · exact .inr (.inl h)
    · exact absurd hz.1 (Nat.not_lt.2 h)
    · exact .inr (.inr (.inr h))
  have rP := rel.part none (dfr := []) (tm := a.tmps) rfl henv hHp (KB := KB) (ι0 := ι) (fun _ _ => rfl) (kp1 _)
  have hz0 : ∀ β b, zone ((rgFam P N ι0 r w00 Zs0 Zb0 T00).cx d) s.heap ι w β b → ¬ ownedBy s.heap ι b ∧ b < w.heap.size := fun β b hz => ⟨fun ⟨t, ht, e⟩ => hz.2.1 t ht e, hz.1⟩
  have hround := RgJ.round (P := P) (N := N) (KB := KB) (ιs := ι) (env := env) (tm := a.tmps) (ws := w) (own0 := ownedBy s.heap ι) (z0 := zone ((rgFam P N ι0 r w00 Zs0 Zb0 T00).cx d) s.heap ι w) (l := w.heap.size + 1) (D := w.heap.size)
    (Hp := Hp) (Hb := Hb) (step := step) (k := k) (r := r) (vals := vals) (ps := ps) (assign := assign) (body := body) (envb := envb) (M := M) (fn := fn) (xs := xs) hz0 htag (hB _)
  have hJ0 : RgJ P N KB ι env a.tmps (Hp x0) w (ownedBy s.heap ι) (zone ((rgFam P N ι0 r w00 Zs0 Zb0 T00).cx d) s.heap ι w) (w.heap.size + 1) w.heap.size (recOf fn a.tmps ps assign body w.heap.size .ready none) (ownedBy H (fun t => ι (σ t))) (ownedBy H (fun t => ι (σ t))) W1 := by
    have hdj : ∀ b, ownedBy (Hp x0) ι b → ¬ ownedBy H (fun t => ι (σ t)) b := by
      rintro b ⟨t, ⟨kk, ht⟩, e⟩ ⟨t', ht', e'⟩
      have := rel.core.inj t (σ t') b ⟨kk, hHp t kk ht⟩ (hHas t' ht') e e'
      exact hdis t ⟨kk, ht⟩ (this ▸ List.mem_map_of_mem (has_dom.1 ht'))
    refine ⟨⟨ι, _, _, rP, fun b hb => ⟨hdj b hb, hdj b hb, .inl ?_⟩, fun b hb => ?_, fun b hb => .inl hb, fun b hb => .inl hb⟩, hL1, hD1, ⟨fun h => ?_, fun h => ?_⟩, ⟨by omega, Nat.le_refl _, by omega⟩, fun b hb => .inl (hOs b hb), fun b hb => .inl (hOs b hb), tr1⟩
    · obtain ⟨t, ⟨kk, ht⟩, e⟩ := hb
      exact ⟨t, ⟨kk, hHp t kk ht⟩, e⟩
    · rcases hb with hb | hb
      · exact ⟨Nat.lt_of_lt_of_le hb.1 sz1, fun ho => (hz0 _ b hb).1 (hOs b ho)⟩
      · exact ⟨Nat.lt_of_lt_of_le hb.1 sz1, fun ho => (hz0 _ b hb).1 (hOs b ho)⟩
    · have := howlt _ (hOs _ h); omega
    · have := howlt _ (hOs _ h); omega
  have hcall := hspec _ _ (fun t => ι (σ t)) W1 v1 N [] none hcore hvr1 (w.heap.size + 1) _ _ (fun pre => ?_) ?_ hround ⟨x0, xs, rfl, hx, hJ0⟩
  · refine ⟨w.heap.size + 1, [markOf w.heap.size], W1, { target := .fn (.func f) v1.toArray, args := #[.func (.yield (w.heap.size + 1)) #[] #[]] }, W1, f, #[.func (.yield (w.heap.size + 1)) #[] #[]] ++ v1.toArray, W1, hen, ?_, fun _ _ => trivial, ?_, (fun h => by cases h), ?_⟩
    · simp only [resolve, hge]
      simp [go_sem]
    · simp only [invoke]
      exact run_callFunc hable
    · have earr : (#[Value.func (.yield (w.heap.size + 1)) #[] #[]] ++ v1.toArray : Array Value) = (Value.func (.yield (w.heap.size + 1)) #[] #[] :: v1).toArray := by simp
      rw [earr]
      refine CallsIn.mono hcall ?_
      rintro e W2 ⟨⟨v, rfl⟩, O', I', hend⟩
      have own_l : ∀ {C : Ctx} {H : List (Nat × Blk)} {ι : Tags} {w : World} {b : Nat} {o : Obj}, Core C H ι w → w.heap[b]? = some o → o.isCells = false → ¬ ownedBy H ι b := by
        intro C H ι w b o hc h ho hb
        obtain ⟨c, ty, n, h'⟩ := owned_lt hc hb
        rw [h] at h'
        cases h'
        simp [Obj.isCells] at ho
      -- the caller's state behind the loop
      have fin : ∀ (x : σx) (st : LoopState) (pe : Option Code), RgJ P N KB ι env a.tmps (Hp x) w (ownedBy s.heap ι) (zone ((rgFam P N ι0 r w00 Zs0 Zb0 T00).cx d) s.heap ι w) (w.heap.size + 1) w.heap.size (recOf fn a.tmps ps assign body w.heap.size st pe) O' I' W2 →
          ∀ o, ∃ d' ι', (rgFam P N ι0 r w00 Zs0 Zb0 T00).H (some r) d' ∧ Rel ((rgFam P N ι0 r w00 Zs0 Zb0 T00).cx d') ⟨env, Hp x⟩ ι' { a with defers := [markOf w.heap.size] ++ a.defers } (W2.putObj (w.heap.size + 1) (.loop o)) := by
        intro x st pe hJ o
        obtain ⟨ι1, Zs, Zb, r1, h1, h2, h3, h4⟩ := hJ.st
        have kp : ∀ B, Kept B W2 (W2.putObj (w.heap.size + 1) (.loop o)) := fun B => Kept.putObj hJ.rc rfl
        have r2 := r1.part none (dfr := (w.heap.size :: d.ms).map markOf) (tm := a.tmps) rfl (fun _ _ h => h) (fun _ _ h => h) (KB := []) (ι0 := ι0) (fun _ h => by cases h) (kp _)
        have zs_of : ∀ b, ownedBy s.heap ι b → T00 b ∨ w00.heap.size ≤ b := fun b ⟨t, ht, e⟩ => by
          rcases rel.core.own t b ht e with h | h
          · have h : d.w0.heap.size ≤ b := h
            have := hR.tr.size
            exact .inr (by omega)
          · exact hR.own b h
        have trw : Trans T00 w00 w := hR.tr.comp rel.core.tr fun b hb => hR.own b hb
        have hw : w00.heap.size ≤ w.heap.size := trw.size
        have tr2 : Trans T00 w00 W2 := trw.comp hJ.tr fun b hb => zs_of b hb
        have zF : ∀ b, zone ((rgFam P N ι0 r w00 Zs0 Zb0 T00).cx d) s.heap ι w false b → Zs0 b ∨ T00 b ∨ w00.heap.size ≤ b := fun b hz => by
          rcases hz.2.2 with ⟨e0, _⟩ | h | h | h
          · cases e0
          · exact hR.zs b h
          · have h : d.w0.heap.size ≤ b := h
            have := hR.tr.size
            exact .inr (.inr (by omega))
          · exact .inr (hR.own b h)
        have zT : ∀ b, zone ((rgFam P N ι0 r w00 Zs0 Zb0 T00).cx d) s.heap ι w true b → Zb0 b ∨ Zs0 b ∨ T00 b ∨ w00.heap.size ≤ b := fun b hz => by
          rcases hz.2.2 with ⟨_, h⟩ | h | h | h
          · exact hR.zb b h
          · exact .inr (hR.zs b h)
          · have h : d.w0.heap.size ≤ b := h
            have := hR.tr.size
            exact .inr (.inr (.inr (by omega)))
          · exact .inr (.inr (hR.own b h))
        have zs3 : ∀ b, Zs b → Zs0 b ∨ T00 b ∨ w00.heap.size ≤ b := fun b hb => by
          rcases h3 b hb with h | h | h
          · exact zF b h
          · exact .inr (zs_of b h)
          · exact .inr (.inr (by omega))
        have zb3 : ∀ b, Zb b → Zb0 b ∨ Zs0 b ∨ T00 b ∨ w00.heap.size ≤ b := fun b hb => by
          rcases h4 b hb with h | h | h | h
          · exact zT b h
          · exact .inr (zF b h)
          · exact .inr (.inr (zs_of b h))
          · exact .inr (.inr (.inr (by omega)))
        have hold : ∀ B, B ∈ d.ms → w.heap[B]? = some (.deferred (some [])) ∧ w00.heap.size ≤ B := fun B hB => by
          obtain ⟨m1, m2, m3⟩ := hR.marks B hB
          have tr := rel.core.tr
          have : w.heap[B]? = d.w0.heap[B]? := tr.block B (Array.getElem?_eq_some_iff.1 m1).1 m2
          exact ⟨this.trans m1, m3⟩
        have hmk : ∀ B, B ∈ w.heap.size :: d.ms → (W2.putObj (w.heap.size + 1) (.loop o)).heap[B]? = some (.deferred (some [])) ∧ w00.heap.size ≤ B := fun B hB => by
          rcases List.mem_cons.1 hB with rfl | hB
          · exact ⟨(World.putObj_heap_other (by omega)).trans hJ.mark, hw⟩
          · obtain ⟨m1, m2⟩ := hold B hB
            have hlt := (Array.getElem?_eq_some_iff.1 m1).1
            refine ⟨(World.putObj_heap_other (by omega)).trans ?_, m2⟩
            rw [hJ.tr.block B hlt (own_l rel.core m1 rfl)]; exact m1
        refine ⟨⟨w.heap.size :: d.ms, W2.putObj (w.heap.size + 1) (.loop o), fun b => zone ⟨P, none, N, [], W2, Zs, Zb, ownedBy (Hp x) ι1, KB, ι⟩ (Hp x) ι1 W2 false b, fun b => zone ⟨P, none, N, [], W2, Zs, Zb, ownedBy (Hp x) ι1, KB, ι⟩ (Hp x) ι1 W2 true b, ownedBy (Hp x) ι1⟩, ι1, ⟨rfl, tr2.putObj hJ.rc rfl (by omega), fun b hb => ?_, fun b hb => ?_, fun b hb => ?_, fun B hB => ⟨(hmk B hB).1, own_l r2.core (hmk B hB).1 rfl, (hmk B hB).2⟩, List.nodup_cons.2 ⟨fun hm => ?_, hR.nodup⟩⟩, ?_⟩
        · rcases (h1 b hb).2.2 with h | h
          · exact zs_of b h
          · exact .inr (by omega)
        · rcases zone_at hb with ⟨e0, _⟩ | h
          · cases e0
          · exact zs3 b h
        · rcases zone_at hb with ⟨_, h⟩ | h
          · exact zb3 b h
          · exact .inr (zs3 b h)
        · have := (Array.getElem?_eq_some_iff.1 (hold _ hm).1).1
          omega
        · have ed : a.defers = d.ms.map markOf := rel.dfr
          have ea : ({ a with defers := [markOf w.heap.size] ++ a.defers } : Act) = ⟨a.tmps, (w.heap.size :: d.ms).map markOf⟩ := by
            rw [ed]; rfl
          rw [ea]
          exact r2
      rcases hend with ⟨x, rest, e1, e2, hJ⟩ | ⟨x, e3, c, hc, hM, hJ⟩
      · have : rest = [] := List.append_cancel_left (by rw [List.append_nil]; exact e1.symm)
        subst this
        rw [rangeL] at e2
        obtain ⟨d', ι', g1, g2⟩ := fin x _ _ hJ { recOf fn a.tmps ps assign body w.heap.size .ready none with state := .exhausted }
        refine ⟨none, _, run_endLoop hJ.rc (by simp [recOf]), ?_⟩
        exact ⟨some r, ⟨env, Hp x⟩, d', ι', g1, g2, hk x e2⟩
      · obtain ⟨d', ι', g1, g2⟩ := fin x _ _ hJ { recOf fn a.tmps ps assign body w.heap.size .done (some c) with state := .exhausted }
        refine ⟨some c, _, run_endLoop hJ.rc (by simp [recOf]), ?_⟩
        rcases hc with ⟨rfl, rfl⟩ | ⟨id, rfl, rfl⟩
        · exact wpIn_ret ⟨some r, ⟨env, Hp x⟩, d', ι', g1, g2, hstop _ x hM⟩
        · exact wpIn_exit ⟨some r, ⟨env, Hp x⟩, d', ι', g1, g2, hstop _ x hM⟩
  · rintro O O' I I' W W' ⟨x, rest, e1, e2, hJ⟩ tr hO hI
    exact ⟨x, rest, e1, e2, RgJ.abide _ _ _ _ _ _ hJ tr hO hI⟩
  · rintro O O' I I' W W' ⟨x, e2, c, h1, h2, hJ⟩ tr hO hI
    exact ⟨x, e2, c, h1, h2, RgJ.abide _ _ _ _ _ _ hJ tr hO hI⟩
end

/-- the marks of a function that ends -/
def shut (w : World) : List Nat → World
  | [] => w
  | B :: ms => shut (w.putObj B (.deferred none)) ms
theorem shut_facts : ∀ (ms : List Nat) (w : World), (∀ B, B ∈ ms → w.heap[B]? = some (.deferred (some []))) → ms.Nodup →
    (∀ K, Kept K w (shut w ms)) ∧ (∀ T w00, Trans T w00 w → (∀ B, B ∈ ms → w00.heap.size ≤ B) → Trans T w00 (shut w ms)) ∧
    ∀ (P : Program) (fn : Func) (tm : Array Value) (R : Ending → World → Prop), (∃ v, (results fn tm).run P (shut w ms) = .ok v (shut w ms) ∧ R (.returned v) (shut w ms)) → LeavesInM (Fc none) 0 P fn tm R (ms.map markOf) .returning w
  | [], w, _, _ => ⟨fun K => Kept.refl K w, fun T w00 h _ => h, fun P fn tm R h => h⟩
  | B :: ms, w, hm, hn => by
    have hB := hm B (by simp)
    have hn2 := List.nodup_cons.1 hn
    obtain ⟨f1, f2, f3⟩ := shut_facts ms (w.putObj B (.deferred none)) (fun B' hB' => by
      rw [World.putObj_heap_other (fun e => hn2.1 (by subst e; exact hB'))]
      exact hm B' (List.mem_cons_of_mem _ hB')) hn2.2
    refine ⟨fun K => (Kept.putObj hB rfl).trans (f1 K), fun T w00 h hge => f2 T w00 (h.putObj hB rfl (hge B (by simp))) fun B' hB' => hge B' (List.mem_cons_of_mem _ hB'), fun P fn tm R h => ?_⟩
    exact ⟨(fun h => by cases h), .inl ⟨B, _, rfl, run_takeDeferred hB, f3 P fn tm R h⟩⟩

/-- A contract from the walk of a body that ranges over functions. -/
theorem Spec.ofR {P : Program} {f : FuncId} {fn : Func} {c : Code} {avs : List AV} {H : List (Nat × Blk)} {N : Nat} {R : Type} (rf : R → AV) (Hf : R → List (Nat × Blk)) {rr : R} (hf : P.funcs[f]? = some fn) (hnt : fn.ntmps = N) (hb : fn.body = some c)
    (hc : (fn.name == "runtime.NumGoroutine") = false) (hN : avs.length ≤ N)
    (h : ∀ w0 Zs Zb T0 ι0, AWPF (rgFam P N ι0 rr w0 Zs Zb T0) c (fun e g s' => (e = .ret ∨ e = .normal) ∧ ∃ r', g = some r' ∧ ∀ w0 Zs Zb T0 ι0, Res ⟨P, none, N, [], w0, Zs, Zb, T0, [], ι0⟩ fn s' (rf r') (Hf r')) (some rr) ⟨enum 0 avs, H⟩) : Spec P f [] avs H (rf rr) (Hf rr) := by
  subst hnt
  refine ⟨⟨fn, hf, by simp [hb], hc⟩, fun Zs Zb ι w vs N dfr ro hcore hvs => ?_⟩
  obtain ⟨hl, hv⟩ := hvs
  have hw := h w Zs Zb (ownedBy H ι) ι ⟨[], w, Zs, Zb, ownedBy H ι⟩ ι { tmps := vs.toArray ++ Array.replicate (fn.ntmps - vs.toArray.size) undef, defers := [] } w
    ⟨rfl, Trans.refl _ _, fun _ h => .inl h, fun _ h => .inl h, fun _ h => .inl h, (fun B hB => by cases hB), List.nodup_nil⟩ ?_
  · refine callsIn_of_wp_marks hf hb trivial (wpIn_mono hw fun e a' w' ⟨g, s', d, ι1, hR, rel, he, r', hg', hres⟩ => ?_)
    have hgr := hR.g
    rw [hg'] at hgr
    obtain rfl := Option.some.inj hgr
    have hmk : ∀ B, B ∈ d.ms → w'.heap[B]? = some (.deferred (some [])) := fun B hB => by
      obtain ⟨m1, m2, m3⟩ := hR.marks B hB
      have tr := rel.core.tr
      have : w'.heap[B]? = d.w0.heap[B]? := tr.block B (Array.getElem?_eq_some_iff.1 m1).1 m2
      exact this.trans m1
    obtain ⟨f1, f2, f3⟩ := shut_facts d.ms w' hmk hR.nodup
    have trw : Trans (ownedBy H ι) w w' := hR.tr.comp rel.core.tr fun b hb => hR.own b hb
    have trf := f2 _ _ trw fun B hB => (hR.marks B hB).2.2
    have r2 := rel.anew none (dfr := []) (tm := a'.tmps) rfl (f1 _)
    obtain ⟨v, ι', q1, q2, q3, q4, q5⟩ := hres _ _ _ _ _ ι1 _ _ r2
    have hsz0 : w.heap.size ≤ d.w0.heap.size := hR.tr.size
    have ho1 : ∀ b, ownedBy s'.heap ι1 b → ownedBy H ι b ∨ w.heap.size ≤ b := fun b ⟨t, ht, e⟩ => by
      rcases rel.core.own t b ht e with h | h
      · have h : d.w0.heap.size ≤ b := h
        exact .inr (by omega)
      · exact hR.own b h
    have hz : ∀ β b, zone ⟨P, none, fn.ntmps, [], shut w' d.ms, fun b => zone ((rgFam P fn.ntmps ι r' w Zs Zb (ownedBy H ι)).cx d) s'.heap ι1 w' false b, fun b => zone ((rgFam P fn.ntmps ι r' w Zs Zb (ownedBy H ι)).cx d) s'.heap ι1 w' true b, ownedBy s'.heap ι1, [], ι⟩ (Hf r') ι' (shut w' d.ms) β b →
        zone ⟨P, ro, N, dfr, w, Zs, Zb, ownedBy H ι, [], ι⟩ (Hf r') ι' (shut w' d.ms) β b := by
      intro β b hz
      refine ⟨hz.1, hz.2.1, ?_⟩
      have zF : zone ((rgFam P fn.ntmps ι r' w Zs Zb (ownedBy H ι)).cx d) s'.heap ι1 w' false b → Zs b ∨ w.heap.size ≤ b ∨ ownedBy H ι b := fun hz => by
        rcases hz.2.2 with ⟨e0, _⟩ | h | h | h
        · cases e0
        · rcases hR.zs b h with h | h | h
          · exact .inl h
          · exact .inr (.inr h)
          · exact .inr (.inl h)
        · have h : d.w0.heap.size ≤ b := h
          exact .inr (.inl (by omega))
        · rcases hR.own b h with h | h
          · exact .inr (.inr h)
          · exact .inr (.inl h)
      rcases hz.2.2 with ⟨e0, h⟩ | h | h | h
      · rcases h.2.2 with ⟨_, h⟩ | h | h | h
        · rcases hR.zb b h with h | h | h | h
          · exact .inl ⟨e0, h⟩
          · exact .inr (.inl h)
          · exact .inr (.inr (.inr h))
          · exact .inr (.inr (.inl h))
        · rcases hR.zs b h with h | h | h
          · exact .inr (.inl h)
          · exact .inr (.inr (.inr h))
          · exact .inr (.inr (.inl h))
        · have h : d.w0.heap.size ≤ b := h
          exact .inr (.inr (.inl (by show w.heap.size ≤ b; omega)))
        · rcases hR.own b h with h | h
          · exact .inr (.inr (.inr h))
          · exact .inr (.inr (.inl h))
      · exact .inr (zF h)
      · exact absurd hz.1 (Nat.not_lt.2 h)
      · rcases ho1 b h with h | h
        · exact .inr (.inr (.inr h))
        · exact .inr (.inr (.inl h))
    have hfin : ∃ v, (results fn a'.tmps).run P (shut w' d.ms) = .ok v (shut w' d.ms) ∧ (fun e w' => ∃ v ι', e = Ending.returned v ∧ Core ⟨P, ro, N, dfr, w, Zs, Zb, ownedBy H ι, [], ι⟩ (Hf r') ι' w' ∧ VR w' (zone ⟨P, ro, N, dfr, w, Zs, Zb, ownedBy H ι, [], ι⟩ (Hf r') ι' w') ι' (rf r') v ∧ ∀ t, t ∈ ([] : List Nat) → ι' t = ι t) (.returned v) (shut w' d.ms) := by
      refine ⟨v, q1, v, ι', rfl, ⟨fun t k hk => ?_, q3.inj, fun t b ht e => ?_, trf⟩, q4.mono (fun _ _ h => h) _ _ hz (fun _ _ _ _ _ h => h) (fun _ _ _ h => h), fun t ht => by cases ht⟩
      · have h0 := q3.blk t k hk
        unfold BlkR at h0 ⊢
        cases hx : ι' t with
        | none => simp only [hx] at h0 ⊢; exact h0
        | some b =>
          simp only [hx] at h0 ⊢
          obtain ⟨cur, p1, p2, p3⟩ := h0
          refine ⟨cur, p1, p2, fun i hi => ?_⟩
          obtain ⟨u, hu, hvv⟩ := p3 i hi
          refine ⟨u, hu, hvv.mono (fun _ _ h => h) _ _ ?_ (fun _ _ _ _ _ h => h) (fun _ _ _ h => h)⟩
          cases k.lst with
          | true => exact fun _ b hb => hz _ _ hb
          | false => exact hz
      · rcases q3.own t b ht e with h | h
        · have h : (shut w' d.ms).heap.size ≤ b := h
          have := trf.size
          exact .inl (by show w.heap.size ≤ b; omega)
        · rcases ho1 b h with h | h
          · exact .inr h
          · exact .inl h
    have key := f3 P fn a'.tmps (fun e w' => ∃ v ι', e = Ending.returned v ∧ Core ⟨P, ro, N, dfr, w, Zs, Zb, ownedBy H ι, [], ι⟩ (Hf r') ι' w' ∧ VR w' (zone ⟨P, ro, N, dfr, w, Zs, Zb, ownedBy H ι, [], ι⟩ (Hf r') ι' w') ι' (rf r') v ∧ ∀ t, t ∈ ([] : List Nat) → ι' t = ι t) hfin
    have ed : a'.defers = d.ms.map markOf := rel.dfr
    rcases he with rfl | rfl
    · show LeavesInM _ _ _ _ _ _ a'.defers _ _
      rw [ed]; exact key
    · show LeavesInM _ _ _ _ _ _ a'.defers _ _
      rw [ed]; exact key
  · refine ⟨by show _ = fn.ntmps; simp [hl]; omega, rfl, ?_, ⟨hcore.blk, hcore.inj, hcore.own, hcore.tr⟩, fun _ h => by cases h⟩
    intro d v hlk
    rw [look_enum] at hlk
    simp only [Nat.zero_le, if_true, Nat.sub_zero] at hlk
    have hd := (List.getElem?_eq_some_iff.1 hlk).1
    obtain ⟨u, hu, hvr⟩ := hv d hd
    have he : avs[d] = v := by rw [List.getElem?_eq_getElem hd] at hlk; exact Option.some.inj hlk
    rw [he] at hvr
    have : (vs.toArray ++ Array.replicate (fn.ntmps - vs.toArray.size) undef).getD d undef = u := by
      rw [Array.getD_eq_getD_getElem?, Array.getElem?_append_left (by simp; omega)]
      simp [hu]
    simp only [this]
    exact hvr
end Go.AB

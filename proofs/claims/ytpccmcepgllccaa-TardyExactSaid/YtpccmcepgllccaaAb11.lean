/-
  AB, part 11: a call of a function by its contract: the rule.
-/
import Derived.Test.YtpccmcepgllccaaAb10
namespace Go.AB
open Go

theorem purgeAL_VR {w w' : World} {Z Z' : Zone} {ι ι' : Tags} {ts : List Nat} {v : AV} {u : Value} (hsz : ∀ b n, bsz w b = some n → bsz w' b = some n)
    (hZ : ∀ β b, Z β b → Z' β b) (hcell : ∀ β b o u, Z β b → w.cell? ⟨b, o, none⟩ = some u → w'.cell? ⟨b, o, none⟩ = some u)
    (hι : ∀ t' b, t' ∉ ts → ι t' = some b → ι' t' = some b) (h : VR w Z ι v u) : VR w' Z' ι' (purgeAL ts v) u := by
  unfold purgeAL
  cases hf : ts.all (fun t => AV.free t v) with
  | false => exact .any _ _ _
  | true =>
    refine h.mono hsz _ _ hZ hcell fun t' b ht' => hι t' b ?_
    intro hm
    rw [List.all_eq_true] at hf
    rw [hf t' hm] at ht'; cases ht'

/-- the tags of a call's blocks, written anew, whose block may be another behind it -/
def turned (σ : Nat → Nat) (K : List Nat) (H H' : List (Nat × Blk)) : List Nat := ((dom H ++ dom H').filter fun t => !anyT K t).map σ
/-- The state behind a call. -/
def St.called (s : St) (d : Nat) (σ : Nat → Nat) (K : List Nat) (H : List (Nat × Blk)) (r : AV) (H' : List (Nat × Blk)) : St :=
  ⟨(d, r.ren σ) :: purgeEL (turned σ K H H') s.env, renH σ H' ++ purgeHL (turned σ K H H') (minusH ((dom H).map σ) s.heap)⟩

/-- The tags behind a call. -/
def backT (σ : Nat → Nat) (D : List Nat) (ι ι' : Tags) : Tags := fun x => match D.find? (fun t => Nat.beq (σ t) x) with | some t => ι' t | none => ι x
theorem backT_at {σ : Nat → Nat} {D : List Nat} {ι ι' : Tags} (hinj : ∀ a b, a ∈ D → b ∈ D → σ a = σ b → a = b) {t : Nat} (ht : t ∈ D) : backT σ D ι ι' (σ t) = ι' t := by
  unfold backT
  cases hf : D.find? (fun t' => Nat.beq (σ t') (σ t)) with
  | none =>
    have := List.find?_eq_none.1 hf t ht
    simp at this
  | some t' =>
    have h1 := List.mem_of_find?_eq_some hf
    have h2 := List.find?_some hf
    rw [Nat.beq_eq] at h2
    simp only []
    rw [hinj t' t h1 ht h2]
theorem backT_off {σ : Nat → Nat} {D : List Nat} {ι ι' : Tags} {x : Nat} (h : ∀ t, t ∈ D → σ t ≠ x) : backT σ D ι ι' x = ι x := by
  unfold backT
  cases hf : D.find? (fun t' => Nat.beq (σ t') x) with
  | none => rfl
  | some t' =>
    have h1 := List.mem_of_find?_eq_some hf
    have h2 := List.find?_some hf
    rw [Nat.beq_eq] at h2
    exact absurd h2 (h t' h1)

/-- What the rule of a call asks of the tags: in one word. -/
structure CallOk (C : Ctx) (s : St) (σ : Nat → Nat) (bw : Bool) (K : List Nat) (H : List (Nat × Blk)) (r : AV) (H' : List (Nat × Blk)) : Prop where
  hH : ∀ t k, look t H = some k → look (σ t) s.heap = some (renB σ k)
  inj : ∀ a b, a ∈ dom H ++ dom H' → b ∈ dom H ++ dom H' → σ a = σ b → a = b
  fresh : ∀ t, t ∈ dom H' → ¬ has (σ t) (minusH ((dom H).map σ) s.heap)
  stab : ∀ t, t ∈ dom H ++ dom H' → t ∉ K → σ t ∉ C.K
  clean : bw = true → r.clean = true ∧ ∀ t k, look t H' = some k → k.lst = true ∨ AV.cleanL k.cells = true
  tags : ∀ t, t ∈ r.tags → t ∈ dom H'
  tagsH : ∀ t k, look t H' = some k → k.lst = true ∨ ∀ t', t' ∈ AV.tagsL k.cells → t' ∈ dom H'

theorem AStep.callCore {C : Ctx} {d : Nat} {op : Op} {ty : TypeId} {p : String} {e : Array Edge} {g : Option (Nat × Bool)} {s : St} {f : FuncId}
    {K : List Nat} {avs : List AV} {H : List (Nat × Blk)} {r : AV} {H' : List (Nat × Blk)} {σ : Nat → Nat} {bw : Bool} (hop : ∀ c, op ≠ .defer c) (hd : d < C.N)
    (hS : Spec C.P f K avs H r H') (ok : CallOk C s σ bw K H r H')
    (hcall : ∀ ι a w, Rel C s ι a w → ∃ vs : List Value, (callable C.P f → (execOp a.eval ⟨some d, op, ty, p, e, g⟩).run C.P w = .ok (.enter f vs.toArray) w) ∧
      VRs w (zone (cctx C s σ H bw K ι w) H (fun t => ι (σ t)) w) (fun t => ι (σ t)) avs vs) :
    AStep C ⟨some d, op, ty, p, e, g⟩ s (s.called d σ K H r H') := by
  intro ι a w Kn Q rel hk
  obtain ⟨hable, hspec⟩ := hS
  have hHas : ∀ t, has t H → has (σ t) s.heap := fun t ⟨k, hk⟩ => ⟨_, ok.hH t k hk⟩
  refine ⟨fun _ _ => trivial, ?_⟩
  obtain ⟨vs, hrun0, hvrs⟩ := hcall ι a w rel
  have hrun := hrun0 hable
  rw [semAt_plain _ _ _ hop, hrun]
  rw [Oper.uponIn_enter]
  refine ⟨(fun h => by cases h), ?_⟩
  -- the callee's side
  have hcore : Core (cctx C s σ H bw K ι w) H (fun t => ι (σ t)) w := by
    refine ⟨fun t k hk => ?_, fun t t' b h1 h2 e1 e2 => ?_, fun t b h e => .inr ⟨t, h, e⟩, Trans.refl _ _⟩
    · have h0 := rel.core.blk (σ t) _ (ok.hH t k hk)
      unfold BlkR at h0 ⊢
      cases hx : ι (σ t) with
      | none =>
        simp only [hx] at h0 ⊢
        obtain ⟨kt, kl, kc⟩ := k
        cases kl with
        | true => exact h0
        | false => simp [renB] at h0
      | some b =>
        simp only [hx] at h0 ⊢
        obtain ⟨kt, kl, kc⟩ := k
        cases kl with
        | true =>
          obtain ⟨cur, q1, q2, q3⟩ := h0
          refine ⟨cur, q1, q2, fun i hi => ?_⟩
          obtain ⟨u, hu, hv⟩ := q3 i hi
          exact ⟨u, hu, hv.mono (fun _ _ h => h) _ _ (fun _ _ h => zone_cctx hHas h) (fun _ _ _ _ _ h => h) (fun _ _ _ h => h)⟩
        | false =>
          obtain ⟨cur, q1, q2, q3⟩ := h0
          have hlen : (renB σ ⟨kt, false, kc⟩).cells.length = kc.length := by simp [renB, AV.renL_eq]
          refine ⟨cur, q1, by rw [hlen] at q2; exact q2, fun i hi => ?_⟩
          obtain ⟨u, hu, hv⟩ := q3 i (by rw [hlen]; exact hi)
          refine ⟨u, hu, ?_⟩
          have e1 : (renB σ ⟨kt, false, kc⟩).cells[i]'(by rw [hlen]; exact hi) = (kc[i]'hi).ren σ := by simp [renB, AV.renL_eq]
          rw [e1] at hv
          exact (hv.unren (σ := σ)).mono (fun _ _ h => h) _ _ (fun _ _ h => zone_cctx hHas h) (fun _ _ _ _ _ h => h) (fun _ _ _ h => h)
    · have := rel.core.inj _ _ b (hHas t h1) (hHas t' h2) e1 e2
      exact ok.inj t t' (List.mem_append_left _ (has_dom.1 h1)) (List.mem_append_left _ (has_dom.1 h2)) this
  have hc := hspec (fun b => zone C s.heap ι w false b) (fun b => zone C s.heap ι w true b ∨ (bw = true ∧ ∃ t, has t (minusH ((dom H).map σ) s.heap) ∧ ι t = some b)) (fun t => ι (σ t)) w
    vs C.N C.dfr C.r hcore hvrs
  have hc' : CallsIn (Fc C.r) (0 - 1) C.P f vs.toArray w _ := hc
  refine CallsIn.mono hc' ?_
  rintro e' w' ⟨v, ι', rfl, hcore', hv, hst⟩
  refine hk (backT σ (dom H ++ dom H') ι ι') _ _ ?_
  -- names
  have hD : ∀ t, t ∈ dom H ++ dom H' → backT σ (dom H ++ dom H') ι ι' (σ t) = ι' t := fun t ht => backT_at ok.inj ht
  have tr := hcore'.tr
  have hTsz : ∀ b n, bsz w b = some n → bsz w' b = some n := tr.bsz
  -- a block of the caller's zone keeps its cells
  have notOwned : ∀ β b, zone C s.heap ι w β b → ¬ ownedBy H (fun t => ι (σ t)) b := by
    rintro β b hz ⟨t, ht, e1⟩
    exact hz.2.1 (σ t) (hHas t ht) e1
  have hcell : ∀ β b o u, zone C s.heap ι w β b → w.cell? ⟨b, o, none⟩ = some u → w'.cell? ⟨b, o, none⟩ = some u := by
    intro β b o u hz hu
    rw [World.cell?_of_block (a := ⟨b, o, none⟩) (tr.block b hz.1 (notOwned β b hz))]; exact hu
  -- the frame: blocks that are neither handed over nor handed back
  have hF : ∀ x k, look x (purgeHL (turned σ K H H') (minusH ((dom H).map σ) s.heap)) = some k → ∃ k0, look x s.heap = some k0 ∧ k = purgeBL (turned σ K H H') k0 ∧ x ∉ (dom H).map σ ∧ x ∉ (dom H').map σ := by
    intro x k hl
    rw [purgeHL, look_map] at hl
    cases hq : look x (minusH ((dom H).map σ) s.heap) with
    | none => rw [hq] at hl; cases hl
    | some k0 =>
      rw [hq] at hl
      simp only [Option.map_some, Option.some.injEq] at hl
      have hq' := hq
      rw [look_minusH] at hq
      split at hq
      · cases hq
      · rename_i hn
        refine ⟨k0, hq, hl.symm, hn, fun hm => ?_⟩
        obtain ⟨t, ht, rfl⟩ := List.mem_map.1 hm
        exact ok.fresh t ht ⟨k0, hq'⟩
  have hheap : ∀ x k, look x (s.called d σ K H r H').heap = some k → (∃ t k1, t ∈ dom H' ∧ x = σ t ∧ look t H' = some k1 ∧ k = renB σ k1) ∨
      (∃ k0, look x s.heap = some k0 ∧ k = purgeBL (turned σ K H H') k0 ∧ (∀ t, t ∈ dom H ++ dom H' → σ t ≠ x)) := by
    intro x k hl
    simp only [St.called] at hl
    rw [look_append] at hl
    by_cases hx : x ∈ (dom H').map σ
    · obtain ⟨t, ht, rfl⟩ := List.mem_map.1 hx
      rw [look_renH (fun a ha he => ok.inj a t (List.mem_append_right _ ha) (List.mem_append_right _ ht) he)] at hl
      obtain ⟨k1, hk1⟩ := has_dom.2 ht
      rw [hk1] at hl
      simp only [Option.map_some, Option.some.injEq] at hl
      exact .inl ⟨t, k1, ht, rfl, hk1, hl.symm⟩
    · rw [look_renH_none (fun a ha e => hx (List.mem_map.2 ⟨a, ha, e⟩))] at hl
      obtain ⟨k0, h1, h2, h3, h4⟩ := hF x k hl
      refine .inr ⟨k0, h1, h2, fun t ht e => ?_⟩
      rcases List.mem_append.1 ht with ht | ht
      · exact h3 (List.mem_map.2 ⟨t, ht, e⟩)
      · exact h4 (List.mem_map.2 ⟨t, ht, e⟩)
  have frameOff : ∀ x, (∀ t, t ∈ dom H ++ dom H' → σ t ≠ x) → backT σ (dom H ++ dom H') ι ι' x = ι x := fun x h => backT_off h
  have frameB : ∀ x b, has x s.heap → (∀ t, t ∈ dom H ++ dom H' → σ t ≠ x) → ι x = some b → b < w.heap.size ∧ ¬ ownedBy H (fun t => ι (σ t)) b := by
    rintro x b ⟨k0, hk0⟩ hne hb
    have h0 := rel.core.blk x k0 hk0
    simp only [BlkR, hb] at h0
    obtain ⟨cur, h1, _⟩ := h0
    refine ⟨(Array.getElem?_eq_some_iff.1 h1).1, ?_⟩
    rintro ⟨t, ht, e1⟩
    exact hne t (List.mem_append_left _ (has_dom.1 ht)) (rel.core.inj _ _ b (hHas t ht) ⟨k0, hk0⟩ e1 hb)
  -- zones
  have Zold : ∀ β b, zone C s.heap ι w β b → zone C (s.called d σ K H r H').heap (backT σ (dom H ++ dom H') ι ι') w' β b := by
    intro β b hz
    refine ⟨Nat.lt_of_lt_of_le hz.1 tr.size, ?_, hz.2.2⟩
    rintro x ⟨k, hk'⟩ e1
    rcases hheap x k hk' with ⟨t, k1, ht, rfl, hk1, _⟩ | ⟨k0, hk0, _, hne⟩
    · rw [hD t (List.mem_append_right _ ht)] at e1
      rcases hcore'.own t b ⟨k1, hk1⟩ e1 with h | h
      · exact absurd h (Nat.not_le.2 hz.1)
      · exact notOwned β b hz h
    · rw [frameOff x hne] at e1
      exact hz.2.1 x ⟨k0, hk0⟩ e1
  have Znew : ∀ β b, (bw = true → β = false) → zone (cctx C s σ H bw K ι w) H' ι' w' β b → zone C (s.called d σ K H r H').heap (backT σ (dom H ++ dom H') ι ι') w' β b := by
    intro β b hβ hz
    obtain ⟨h1, h2, h3⟩ := hz
    have h3' : (zone C s.heap ι w β b) ∨ (zone C s.heap ι w false b) ∨ w.heap.size ≤ b ∨ ownedBy H (fun t => ι (σ t)) b := by
      rcases h3 with ⟨hb1, hb2⟩ | h | h | h
      · rcases hb2 with h | ⟨hbw, _⟩
        · rw [hb1]; exact .inl h
        · rw [hβ hbw] at hb1; cases hb1
      · exact .inr (.inl h)
      · exact .inr (.inr (.inl h))
      · exact .inr (.inr (.inr h))
    refine ⟨h1, ?_, ?_⟩
    · rintro x ⟨k, hk'⟩ e1
      rcases hheap x k hk' with ⟨t, k1, ht, rfl, hk1, _⟩ | ⟨k0, hk0, _, hne⟩
      · rw [hD t (List.mem_append_right _ ht)] at e1
        exact h2 t ⟨k1, hk1⟩ e1
      · rw [frameOff x hne] at e1
        obtain ⟨hlt, hno⟩ := frameB x b ⟨k0, hk0⟩ hne e1
        rcases h3' with h | h | h | h
        · exact h.2.1 x ⟨k0, hk0⟩ e1
        · exact h.2.1 x ⟨k0, hk0⟩ e1
        · omega
        · exact hno h
    · rcases h3' with h | h | h | ⟨t, ht, e1⟩
      · exact h.2.2
      · rcases h.2.2 with ⟨h, _⟩ | h | h | h
        · cases h
        · exact .inr (.inl h)
        · exact .inr (.inr (.inl h))
        · exact .inr (.inr (.inr h))
      · exact .inr (.inr (.inl (Nat.le_trans rel.core.tr.size h)))
      · rcases rel.core.own (σ t) b (hHas t ht) e1 with h | h
        · exact .inr (.inr (.inl h))
        · exact .inr (.inr (.inr h))
  have hιold : ∀ t' b, t' ∉ turned σ K H H' → ι t' = some b → backT σ (dom H ++ dom H') ι ι' t' = some b := by
    intro t' b hn hb
    by_cases hx : ∃ t, t ∈ dom H ++ dom H' ∧ σ t = t'
    · obtain ⟨t, ht, rfl⟩ := hx
      rw [hD t ht]
      have htK : t ∈ K := by
        apply Classical.byContradiction
        intro hk'
        refine hn (List.mem_map.2 ⟨t, List.mem_filter.2 ⟨ht, ?_⟩, rfl⟩)
        have : anyT K t = false := by rw [← Bool.not_eq_true, anyT_iff]; exact hk'
        simp [this]
      rw [hst t htK]; exact hb
    · rw [frameOff t' (fun t ht e => hx ⟨t, ht, e⟩)]; exact hb
  -- a value of the callee's, at the caller's
  have back : ∀ (Zx : Zone) v0 u, (∀ β b, Zx β b → zone (cctx C s σ H bw K ι w) H' ι' w' β b) → (bw = true → v0.clean = true) → (∀ t, t ∈ v0.tags → t ∈ dom H') → VR w' Zx ι' v0 u →
      VR w' (zone C (s.called d σ K H r H').heap (backT σ (dom H ++ dom H') ι ι') w') (backT σ (dom H ++ dom H') ι ι') (v0.ren σ) u := by
    intro Zx v0 u hZx hcl htg hv0
    have h1 : VR w' (zone C (s.called d σ K H r H').heap (backT σ (dom H ++ dom H') ι ι') w') ι' v0 u := by
      by_cases hb : bw = true
      · exact hv0.monoC _ (fun b hz => Znew false b (fun _ => rfl) (hZx _ _ hz)) (hcl hb)
      · exact hv0.mono (fun _ _ h => h) _ _ (fun β b hz => Znew β b (fun h => absurd h hb) (hZx _ _ hz)) (fun _ _ _ _ _ h => h) (fun _ _ _ h => h)
    exact h1.renamed fun t b ht hb => by rw [hD t (List.mem_append_right _ (htg t ht))]; exact hb
  refine ⟨by simp [Act.put, rel.size], by simp [Act.put, rel.dfr], ?_, ⟨?_, ?_, ?_, ?_⟩, ?_⟩
  · intro d' v' hl
    simp only [St.called] at hl
    have hsize' := rel.size
    by_cases e1 : d' = d
    · subst e1
      rw [look_cons_self] at hl
      cases hl
      have : (a.put (some d') v).tmps.getD d' undef = v := by
        simp [Act.put, Array.getD_eq_getD_getElem?, hsize', hd]
      rw [this]
      exact back _ r v (fun _ _ h => h) (fun hb => (ok.clean hb).1) ok.tags hv
    · rw [look_cons_ne e1, purgeEL, look_map] at hl
      have : (a.put (some d) v).tmps.getD d' undef = a.tmps.getD d' undef := by
        simp only [Act.put, Array.getD_eq_getD_getElem?, Array.getElem?_setIfInBounds]
        rw [if_neg (fun h => e1 h.symm)]
      rw [this]
      cases hq : look d' s.env with
      | none => rw [hq] at hl; cases hl
      | some q =>
        rw [hq] at hl
        simp only [Option.map_some, Option.some.injEq] at hl
        subst hl
        exact purgeAL_VR hTsz Zold hcell hιold (rel.env d' q hq)
  · intro x k hl
    rcases hheap x k hl with ⟨t, k1, ht, rfl, hk1, rfl⟩ | ⟨k0, hk0, rfl, hne⟩
    · have h0 := hcore'.blk t k1 hk1
      unfold BlkR at h0 ⊢
      rw [hD t (List.mem_append_right _ ht)]
      cases hx : ι' t with
      | none =>
        simp only [hx] at h0 ⊢
        obtain ⟨kt, kl, kc⟩ := k1
        obtain ⟨h1, h2⟩ := h0
        simp only at h1 h2
        subst h2
        exact ⟨h1, rfl⟩
      | some b =>
        simp only [hx] at h0 ⊢
        obtain ⟨cur, q1, q2, q3⟩ := h0
        obtain ⟨kt, kl, kc⟩ := k1
        cases kl with
        | true =>
          refine ⟨cur, q1, q2, fun i hi => ?_⟩
          obtain ⟨u, hu, hv0⟩ := q3 i hi
          exact ⟨u, hu, hv0.mono (fun _ _ h => h) _ _ (fun _ b hz => Znew false b (fun _ => rfl) hz) (fun _ _ _ _ _ h => h) (fun _ _ _ h => h)⟩
        | false =>
          have hlen : (renB σ ⟨kt, false, kc⟩).cells.length = kc.length := by simp [renB, AV.renL_eq]
          refine ⟨cur, q1, by rw [hlen]; exact q2, fun i hi => ?_⟩
          have hi' : i < kc.length := by rw [hlen] at hi; exact hi
          obtain ⟨u, hu, hv0⟩ := q3 i hi'
          refine ⟨u, hu, ?_⟩
          have e1 : (renB σ ⟨kt, false, kc⟩).cells[i]'hi = (kc[i]'hi').ren σ := by simp [renB, AV.renL_eq]
          rw [e1]
          refine back _ _ u (fun _ _ h => h) (fun hb => ?_) (fun t' ht' => ?_) hv0
          · rcases (ok.clean hb).2 t _ hk1 with h | h
            · cases h
            · rw [AV.cleanL_eq, List.all_eq_true] at h
              exact h _ (List.getElem_mem hi')
          · rcases ok.tagsH t _ hk1 with h | h
            · cases h
            · exact h t' (AV.mem_tagsL.2 ⟨_, List.getElem_mem hi', ht'⟩)
    · have h0 := rel.core.blk x k0 hk0
      unfold BlkR at h0 ⊢
      rw [frameOff x hne]
      cases hx : ι x with
      | none =>
        simp only [hx] at h0 ⊢
        obtain ⟨kt, kl, kc⟩ := k0
        obtain ⟨h1, h2⟩ := h0
        simp only at h1 h2
        subst h2
        exact ⟨h1, rfl⟩
      | some b =>
        simp only [hx] at h0 ⊢
        obtain ⟨cur, q1, q2, q3⟩ := h0
        obtain ⟨hlt, hno⟩ := frameB x b ⟨k0, hk0⟩ hne hx
        obtain ⟨kt, kl, kc⟩ := k0
        have hb' := tr.block b hlt hno
        cases kl with
        | true =>
          refine ⟨cur, by rw [hb']; exact q1, q2, fun i hi => ?_⟩
          obtain ⟨u, hu, hv0⟩ := q3 i hi
          exact ⟨u, hu, hv0.mono hTsz _ _ (fun _ b hz => Zold false b hz) (fun _ b o u hz => hcell false b o u hz) (fun _ _ _ h => h)⟩
        | false =>
          have hlen : (purgeBL (turned σ K H H') ⟨kt, false, kc⟩).cells.length = kc.length := by simp [purgeBL]
          refine ⟨cur, by rw [hb']; exact q1, by rw [hlen]; exact q2, fun i hi => ?_⟩
          have hi' : i < kc.length := by rw [hlen] at hi; exact hi
          obtain ⟨u, hu, hv0⟩ := q3 i hi'
          refine ⟨u, hu, ?_⟩
          have e1 : (purgeBL (turned σ K H H') ⟨kt, false, kc⟩).cells[i]'hi = purgeAL (turned σ K H H') (kc[i]'hi') := by simp [purgeBL]
          rw [e1]
          exact purgeAL_VR hTsz Zold hcell hιold hv0
  · rintro x y b ⟨k, hx⟩ ⟨k', hy⟩ ex ey
    rcases hheap x k hx with ⟨t, k1, ht, rfl, hk1, _⟩ | ⟨k0, hk0, _, hne⟩
    · rw [hD t (List.mem_append_right _ ht)] at ex
      rcases hheap y k' hy with ⟨t2, k2, ht2, rfl, hk2, _⟩ | ⟨k2, hk2, _, hne2⟩
      · rw [hD t2 (List.mem_append_right _ ht2)] at ey
        rw [hcore'.inj t t2 b ⟨k1, hk1⟩ ⟨k2, hk2⟩ ex ey]
      · rw [frameOff y hne2] at ey
        obtain ⟨hlt, hno⟩ := frameB y b ⟨k2, hk2⟩ hne2 ey
        rcases hcore'.own t b ⟨k1, hk1⟩ ex with h | h
        · exact absurd h (Nat.not_le.2 hlt)
        · exact absurd h hno
    · rw [frameOff x hne] at ex
      obtain ⟨hlt, hno⟩ := frameB x b ⟨k0, hk0⟩ hne ex
      rcases hheap y k' hy with ⟨t2, k2, ht2, rfl, hk2, _⟩ | ⟨k2, hk2, _, hne2⟩
      · rw [hD t2 (List.mem_append_right _ ht2)] at ey
        rcases hcore'.own t2 b ⟨k2, hk2⟩ ey with h | h
        · exact absurd h (Nat.not_le.2 hlt)
        · exact absurd h hno
      · rw [frameOff y hne2] at ey
        exact rel.core.inj x y b ⟨k0, hk0⟩ ⟨k2, hk2⟩ ex ey
  · rintro x b ⟨k, hx⟩ ex
    rcases hheap x k hx with ⟨t, k1, ht, rfl, hk1, _⟩ | ⟨k0, hk0, _, hne⟩
    · rw [hD t (List.mem_append_right _ ht)] at ex
      rcases hcore'.own t b ⟨k1, hk1⟩ ex with h | ⟨t0, h0, e0⟩
      · exact .inl (Nat.le_trans rel.core.tr.size h)
      · exact rel.core.own (σ t0) b (hHas t0 h0) e0
    · rw [frameOff x hne] at ex
      exact rel.core.own x b ⟨k0, hk0⟩ ex
  · have t0 := rel.core.tr
    refine ⟨tr.os.trans t0.os, tr.tape.trans t0.tape, tr.output.trans t0.output, Nat.le_trans t0.size tr.size, fun i hi hn => ?_, fun b n h => hTsz b n (t0.bsz b n h)⟩
    refine (tr.block i (Nat.lt_of_lt_of_le hi t0.size) ?_).trans (t0.block i hi hn)
    rintro ⟨t, ht, e1⟩
    rcases rel.core.own (σ t) i (hHas t ht) e1 with h | h
    · omega
    · exact hn h
  · intro x hx
    by_cases hq : ∃ t, t ∈ dom H ++ dom H' ∧ σ t = x
    · obtain ⟨t, ht, rfl⟩ := hq
      have htK : t ∈ K := Classical.byContradiction fun h => ok.stab t ht h hx
      rw [hD t ht, hst t htK]; exact rel.stab _ hx
    · rw [frameOff x (fun t ht e => hq ⟨t, ht, e⟩)]; exact rel.stab x hx

theorem run_callFunc {P : Program} {f : FuncId} {w : World} {args : Array Value} (h : callable P f) : (callFunc f args).run P w = .ok (.enter f args) w := by
  obtain ⟨fn, hfn, hbody, hname⟩ := h
  simp only [callFunc, Sem.run_bind, run_program, Result.andThen_ok, hfn, hname, hbody]
  simp

theorem AStep.call {C : Ctx} {d : Nat} {ty : TypeId} {p : String} {e : Array Edge} {g : Option (Nat × Bool)} {s : St} {f : FuncId} {args : Array Operand} {ats : Array TypeId}
    {K : List Nat} {avs : List AV} {H : List (Nat × Blk)} {r : AV} {H' : List (Nat × Blk)} {σ : Nat → Nat} {bw : Bool} (hd : d < C.N)
    (hS : Spec C.P f K avs H r H') (hargs : ArgL C s σ H bw args.toList avs) (ok : CallOk C s σ bw K H r H') :
    AStep C ⟨some d, .call { callee := .value (.func f), args := args, argTypes := ats }, ty, p, e, g⟩ s (s.called d σ K H r H') :=
  AStep.callCore (fun _ h => by cases h) hd hS ok fun ι a w rel => by
    have hHas : ∀ t, has t H → has (σ t) s.heap := fun t ⟨k, hk⟩ => ⟨_, ok.hH t k hk⟩
    refine ⟨args.toList.map a.eval, fun hable => ?_, hargs.vrs hHas rel K⟩
    have hargsEq : (args.toList.map a.eval).toArray = args.map a.eval := by rw [List.map_toArray.symm]
    rw [hargsEq]
    simp only [execOp, resolve, Act.eval, Deferred.ofValue, Sem.run_bind, Sem.run_pure, Result.andThen_ok, invoke]
    have := run_callFunc (w := w) (args := args.map a.eval) hable
    simpa using this

/-- what a closure holds, as the callee has it -/
inductive CvL (C : Ctx) (s : St) (σ : Nat → Nat) (H : List (Nat × Blk)) (bw : Bool) : List AV → List AV → Prop
  | nil : CvL C s σ H bw [] []
  | cons {v v' : AV} {vs vs' : List AV} (h : Cv C s σ H bw v v') (t : CvL C s σ H bw vs vs') : CvL C s σ H bw (v :: vs) (v' :: vs')
theorem CvL.vrs {C : Ctx} {s : St} {σ : Nat → Nat} {H : List (Nat × Blk)} {bw : Bool} {vs vs' : List AV} (h : CvL C s σ H bw vs vs') (hH : ∀ t, has t H → has (σ t) s.heap) {ι : Tags} {a : Act} {w : World} (r : Rel C s ι a w) (K : List Nat) :
    ∀ {us : List Value} (hl : us.length = vs.length), (∀ i (hi : i < vs.length), VR w (zone C s.heap ι w) ι (vs[i]'hi) (us[i]'(hl ▸ hi))) → VRs w (zone (cctx C s σ H bw K ι w) H (fun t => ι (σ t)) w) (fun t => ι (σ t)) vs' us := by
  induction h with
  | nil => intro us hl _; exact ⟨hl, fun i hi => absurd hi (by simp)⟩
  | cons h t ih =>
    intro us hl hu
    match us, hl with
    | u :: us, hl =>
      obtain ⟨h1, h2⟩ := ih (us := us) (by simpa using hl) fun i hi => hu (i + 1) (by simpa using hi)
      refine ⟨by simpa using h1, fun i hi => ?_⟩
      cases i with
      | zero => exact ⟨u, rfl, h K ι a w u r hH (hu 0 (by simp))⟩
      | succ i =>
        obtain ⟨x, hx, hv⟩ := h2 i (by simpa using hi)
        exact ⟨x, by simpa using hx, by simpa using hv⟩
theorem VRs.append {w : World} {Z : Zone} {ι : Tags} {as bs : List AV} {us vs : List Value} (h1 : VRs w Z ι as us) (h2 : VRs w Z ι bs vs) : VRs w Z ι (as ++ bs) (us ++ vs) := by
  refine ⟨by simp [h1.1, h2.1], fun i hi => ?_⟩
  rcases Nat.lt_or_ge i as.length with h | h
  · obtain ⟨u, hu, hv⟩ := h1.2 i h
    exact ⟨u, by rw [List.getElem?_append_left (by rw [h1.1]; exact h)]; exact hu, by rw [List.getElem_append_left h]; exact hv⟩
  · obtain ⟨u, hu, hv⟩ := h2.2 (i - as.length) (by simp at hi; omega)
    exact ⟨u, by rw [List.getElem?_append_right (by rw [h1.1]; exact h), h1.1]; exact hu, by rw [List.getElem_append_right h]; exact hv⟩

/-- A CALL OF A CLOSURE. -/
theorem AStep.callV {C : Ctx} {d : Nat} {ty : TypeId} {p : String} {e : Array Edge} {g : Option (Nat × Bool)} {s : St} {x : Operand} {f : FuncId} {args : Array Operand} {ats : Array TypeId}
    {K : List Nat} {us cs us' avs cs' : List AV} {H : List (Nat × Blk)} {r : AV} {H' : List (Nat × Blk)} {σ : Nat → Nat} {bw : Bool} (hd : d < C.N) (hx : Ev C s x (.clo (.func f) us cs))
    (hS : Spec C.P f K (us' ++ avs ++ cs') H r H') (hus : CvL C s σ H bw us us') (hargs : ArgL C s σ H bw args.toList avs) (hcs : CvL C s σ H bw cs cs') (ok : CallOk C s σ bw K H r H') (hf : ∀ k, x ≠ .func k) :
    AStep C ⟨some d, .call { callee := .value x, args := args, argTypes := ats }, ty, p, e, g⟩ s (s.called d σ K H r H') :=
  AStep.callCore (fun _ h => by cases h) hd hS ok fun ι a w rel => by
    have hHas : ∀ t, has t H → has (σ t) s.heap := fun t ⟨k, hk⟩ => ⟨_, ok.hH t k hk⟩
    have hv := hx ι a w rel
    generalize hxe : a.eval x = xe at hv
    cases hv with
    | clo _ _ _ _ _ u1 v1 hu hl h1 h2 =>
      refine ⟨u1 ++ args.toList.map a.eval ++ v1, fun hable => ?_, ((hus.vrs hHas rel K hu h1).append (hargs.vrs hHas rel K)).append (hcs.vrs hHas rel K hl h2)⟩
      have hargsEq : (args.toList.map a.eval).toArray = args.map a.eval := by rw [List.map_toArray.symm]
      have e1 : (u1 ++ args.toList.map a.eval ++ v1).toArray = u1.toArray ++ args.map a.eval ++ v1.toArray := by
        rw [← hargsEq]; simp
      rw [e1]
      simp only [execOp, resolve, hxe, Deferred.ofValue, Sem.run_bind, Sem.run_pure, Result.andThen_ok, invoke]
      exact run_callFunc (w := w) hable

/-- one state for another, by what they hold -/
theorem VC.looks {C : Ctx} {s s' : St} (hE : ∀ d v, look d s'.env = some v → look d s.env = some v) (hH : ∀ t k, look t s'.heap = some k → look t s.heap = some k) : VC C s s' := by
  intro ι a w r
  have hhas : ∀ t, has t s'.heap → has t s.heap := fun t ⟨k, hk⟩ => ⟨k, hH t k hk⟩
  have hZ : ∀ β b, zone C s.heap ι w β b → zone C s'.heap ι w β b := fun β b h => ⟨h.1, fun t ht => h.2.1 t (hhas t ht), h.2.2⟩
  refine ⟨ι, r.size, r.dfr, fun d v hl => ?_, ⟨fun t k hl => ?_, fun t t' b h1 h2 => r.core.inj t t' b (hhas t h1) (hhas t' h2), fun t b h => r.core.own t b (hhas t h), r.core.tr⟩, r.stab⟩
  · exact (r.env d v (hE d v hl)).mono (fun _ _ h => h) _ _ hZ (fun _ _ _ _ _ h => h) (fun _ _ _ h => h)
  · have h0 := r.core.blk t k (hH t k hl)
    unfold BlkR at h0 ⊢
    cases hx : ι t with
    | none => simp only [hx] at h0 ⊢; exact h0
    | some b =>
      simp only [hx] at h0 ⊢
      obtain ⟨cur, q1, q2, q3⟩ := h0
      refine ⟨cur, q1, q2, fun i hi => ?_⟩
      obtain ⟨u, hu, hv⟩ := q3 i hi
      refine ⟨u, hu, hv.mono (fun _ _ h => h) _ _ ?_ (fun _ _ _ _ _ h => h) (fun _ _ _ h => h)⟩
      cases k.lst with
      | true => exact fun _ b hb => hZ _ _ hb
      | false => exact hZ

/-- a callee that hands back what it was handed, as it was: nothing but the slot has changed -/
theorem AStep.keep {C : Ctx} {o : Oper} {s : St} {d : Nat} {K : List Nat} {H : List (Nat × Blk)} {r : AV} {σ : Nat → Nat} {bw : Bool} (h : AStep C o s (s.called d σ K H r H)) (ok : CallOk C s σ bw K H r H) (hK : (dom H).all (anyT K) = true)
    {r' : AV} (hr : r' = r.ren σ) : AStep C o s (s.put d r') := by
  subst hr
  have hT : turned σ K H H = [] := by
    unfold turned
    have : (dom H ++ dom H).filter (fun t => !anyT K t) = [] := by
      rw [List.filter_eq_nil_iff]
      intro t ht
      have : t ∈ dom H := by rcases List.mem_append.1 ht with h | h <;> exact h
      simp [List.all_eq_true.1 hK t this]
    rw [this]; rfl
  have hE : ∀ l : List (Nat × AV), purgeEL [] l = l := fun l => by
    unfold purgeEL
    have : (fun p : Nat × AV => (p.1, purgeAL [] p.2)) = id := by funext p; simp [purgeAL]
    rw [this, List.map_id]
  have hHL : ∀ l : List (Nat × Blk), purgeHL [] l = l := fun l => by
    unfold purgeHL
    have hb : ∀ k : Blk, purgeBL [] k = k := by
      rintro ⟨ty, lst, cells⟩
      cases lst with
      | true => rfl
      | false =>
        have h1 : (purgeAL [] : AV → AV) = id := by funext v; simp [purgeAL]
        show (⟨ty, false, cells.map (purgeAL [])⟩ : Blk) = _
        rw [h1, List.map_id]
    have : (fun p : Nat × Blk => (p.1, purgeBL [] p.2)) = id := by funext p; rw [hb]; rfl
    rw [this, List.map_id]
  intro ι a w Kn Q rel hk
  refine h ι a w Kn Q rel fun ι' a' w' r' => ?_
  have v : VC C (s.called d σ K H r H) (s.put d (r.ren σ)) := by
    refine VC.looks (fun d' v hl => ?_) (fun t k hl => ?_)
    · simp only [St.called, hT, hE]; exact hl
    · simp only [St.called, hT, hHL]
      rw [look_append]
      by_cases ht : t ∈ (dom H).map σ
      · obtain ⟨x, hx, rfl⟩ := List.mem_map.1 ht
        rw [look_renH (fun a ha he => ok.inj a x (List.mem_append_left _ ha) (List.mem_append_left _ hx) he)]
        obtain ⟨k1, hk1⟩ := has_dom.2 hx
        rw [hk1]
        simp only [Option.map_some]
        have := ok.hH x k1 hk1
        have hl' : look (σ x) s.heap = some k := hl
        rw [this] at hl'
        exact hl'
      · rw [look_renH_none (fun a ha e => ht (List.mem_map.2 ⟨a, ha, e⟩)), look_minusH, if_neg ht]
        exact hl
  obtain ⟨ι2, r2⟩ := v ι' a' w' r'
  exact hk _ _ _ r2
end Go.AB

import Derived.Test.YtnmglighdhaccaaBa
import Derived.OrdersIn
namespace Go.AB
open Go
theorem purgeAL_VR {w w' : World} {Z Z' : Zone} {ι ι' : Tags} {ts : List Nat} {v : AV} {u : Value} (hsz : ∀ b n,bsz w b = some n → bsz w' b = some n)
    (hZ : ∀ β b,Z β b → Z' β b) (hcell : ∀ β b o u,Z β b → w.cell? ⟨b,o,none⟩ = some u → w'.cell? ⟨b,o,none⟩ = some u)
    (hι : ∀ t' b,t' ∉ ts → ι t' = some b → ι' t' = some b) (h : VR w Z ι v u) : VR w' Z' ι' (purgeAL ts v) u := by
  unfold purgeAL
  cases hf : ts.all (fun t => AV.free t v) with
  | false => exact .any _ _ _
  | true =>
    refine h.mono hsz _ _ hZ hcell fun t' b ht' => hι t' b ?_
    intro hm
    rw [List.all_eq_true] at hf
    rw [hf t' hm] at ht'; cases ht'
def turned (σ : Nat → Nat) (K : List Nat) (H H' : List (Nat × Blk)) : List Nat := ((dom H ++ dom H').filter fun t => !anyT K t).map σ
def St.called (s : St) (d : Nat) (σ : Nat → Nat) (K : List Nat) (H : List (Nat × Blk)) (r : AV) (H' : List (Nat × Blk)) : St :=
  ⟨(d,r.ren σ) :: purgeEL (turned σ K H H') s.env,renH σ H' ++ purgeHL (turned σ K H H') (minusH ((dom H).map σ) s.heap)⟩
def backT (σ : Nat → Nat) (D : List Nat) (ι ι' : Tags) : Tags := fun x => match D.find? (fun t => Nat.beq (σ t) x) with | some t => ι' t | none => ι x
theorem backT_at {σ : Nat → Nat} {D : List Nat} {ι ι' : Tags} (hinj : ∀ a b,a ∈ D → b ∈ D → σ a = σ b → a = b) {t : Nat} (ht : t ∈ D) : backT σ D ι ι' (σ t) = ι' t := by
  unfold backT
  cases hf : D.find? (fun t' => Nat.beq (σ t') (σ t)) with
  | none =>
    have := List.find?_eq_none.1 hf t ht
    simp at this
  | some t' =>
    have h1 := List.mem_of_find?_eq_some hf
    have h2 := List.find?_some hf
    rw [Nat.beq_eq] at h2
    simp only []
    rw [hinj t' t h1 ht h2]
theorem backT_off {σ : Nat → Nat} {D : List Nat} {ι ι' : Tags} {x : Nat} (h : ∀ t,t ∈ D → σ t ≠ x) : backT σ D ι ι' x = ι x := by
  unfold backT
  cases hf : D.find? (fun t' => Nat.beq (σ t') x) with
  | none => rfl
  | some t' =>
    have h1 := List.mem_of_find?_eq_some hf
    have h2 := List.find?_some hf
    rw [Nat.beq_eq] at h2
    exact absurd h2 (h t' h1)
structure CallOk (C : Ctx) (s : St) (σ : Nat → Nat) (bw : Bool) (K : List Nat) (H : List (Nat × Blk)) (r : AV) (H' : List (Nat × Blk)) : Prop where
  hH : ∀ t k,look t H = some k → look (σ t) s.heap = some (renB σ k)
  inj : ∀ a b,a ∈ dom H ++ dom H' → b ∈ dom H ++ dom H' → σ a = σ b → a = b
  fresh : ∀ t,t ∈ dom H' → ¬ has (σ t) (minusH ((dom H).map σ) s.heap)
  stab : ∀ t,t ∈ dom H ++ dom H' → t ∉ K → σ t ∉ C.K
  clean : bw = true → r.clean = true ∧ ∀ t k,look t H' = some k → k.lst = true ∨ AV.cleanL k.cells = true
  tags : ∀ t,t ∈ r.tags → t ∈ dom H'
  tagsH : ∀ t k,look t H' = some k → k.lst = true ∨ ∀ t',t' ∈ AV.tagsL k.cells → t' ∈ dom H'
theorem AStep.callCore {C : Ctx} {d : Nat} {op : Op} {ty : TypeId} {p : String} {e : Array Edge} {g : Option (Nat × Bool)} {s : St} {f : FuncId}
    {K : List Nat} {avs : List AV} {H : List (Nat × Blk)} {r : AV} {H' : List (Nat × Blk)} {σ : Nat → Nat} {bw : Bool} (hop : ∀ c,op ≠ .defer c) (hd : d < C.N)
    (hS : Spec C.P f K avs H r H') (ok : CallOk C s σ bw K H r H')
    (hcall : ∀ ι a w,Rel C s ι a w → ∃ vs : List Value,(callable C.P f → (execOp a.eval ⟨some d,op,ty,p,e,g⟩).run C.P w = .ok (.enter f vs.toArray) w) ∧
      VRs w (zone (cctx C s σ H bw K ι w) H (fun t => ι (σ t)) w) (fun t => ι (σ t)) avs vs) :
    AStep C ⟨some d,op,ty,p,e,g⟩ s (s.called d σ K H r H') := by
  intro ι a w Kn Q rel hk
  obtain ⟨hable,hspec⟩ := hS
  have hHas : ∀ t,has t H → has (σ t) s.heap := fun t ⟨k,hk⟩ => ⟨_,ok.hH t k hk⟩
  refine ⟨fun _ _ => trivial,?_⟩
  obtain ⟨vs,hrun0,hvrs⟩ := hcall ι a w rel
  have hrun := hrun0 hable
  rw [semAt_plain _ _ _ hop,hrun]
  rw [Oper.uponIn_enter]
  refine ⟨(fun h => by cases h),?_⟩
  -- the callee's side
  have hcore : Core (cctx C s σ H bw K ι w) H (fun t => ι (σ t)) w := by
    refine ⟨fun t k hk => ?_,fun t t' b h1 h2 e1 e2 => ?_,fun t b h e => .inr ⟨t,h,e⟩,Trans.refl _ _⟩
    · have h0 := rel.core.blk (σ t) _ (ok.hH t k hk)
      unfold BlkR at h0 ⊢
      cases hx : ι (σ t) with
      | none =>
        simp only [hx] at h0 ⊢
        obtain ⟨kt,kl,kc⟩ := k
        cases kl with
        | true => exact h0
        | false => simp [renB] at h0
      | some b =>
        simp only [hx] at h0 ⊢
        obtain ⟨kt,kl,kc⟩ := k
        cases kl with
        | true =>
          obtain ⟨cur,q1,q2,q3⟩ := h0
          refine ⟨cur,q1,q2,fun i hi => ?_⟩
          obtain ⟨u,hu,hv⟩ := q3 i hi
          exact ⟨u,hu,hv.mono (fun _ _ h => h) _ _ (fun _ _ h => zone_cctx hHas h) (fun _ _ _ _ _ h => h) (fun _ _ _ h => h)⟩
        | false =>
          obtain ⟨cur,q1,q2,q3⟩ := h0
          have hlen : (renB σ ⟨kt,false,kc⟩).cells.length = kc.length := by simp [renB,AV.renL_eq]
          refine ⟨cur,q1,by rw [hlen] at q2; exact q2,fun i hi => ?_⟩
          obtain ⟨u,hu,hv⟩ := q3 i (by rw [hlen]; exact hi)
          refine ⟨u,hu,?_⟩
          have e1 : (renB σ ⟨kt,false,kc⟩).cells[i]'(by rw [hlen]; exact hi) = (kc[i]'hi).ren σ := by simp [renB,AV.renL_eq]
          rw [e1] at hv
          exact (hv.unren (σ := σ)).mono (fun _ _ h => h) _ _ (fun _ _ h => zone_cctx hHas h) (fun _ _ _ _ _ h => h) (fun _ _ _ h => h)
    · have := rel.core.inj _ _ b (hHas t h1) (hHas t' h2) e1 e2
      exact ok.inj t t' (List.mem_append_left _ (has_dom.1 h1)) (List.mem_append_left _ (has_dom.1 h2)) this
  have hc := hspec (fun b => zone C s.heap ι w false b) (fun b => zone C s.heap ι w true b ∨ (bw = true ∧ ∃ t,has t (minusH ((dom H).map σ) s.heap) ∧ ι t = some b)) (fun t => ι (σ t)) w
    vs C.N C.dfr C.r hcore hvrs
  have hc' : CallsIn (Fc C.r) (0 - 1) C.P f vs.toArray w _ := hc
  refine CallsIn.mono hc' ?_
  rintro e' w' ⟨v,ι',rfl,hcore',hv,hst⟩
  refine hk (backT σ (dom H ++ dom H') ι ι') _ _ ?_
  -- names
  have hD : ∀ t,t ∈ dom H ++ dom H' → backT σ (dom H ++ dom H') ι ι' (σ t) = ι' t := fun t ht => backT_at ok.inj ht
  have tr := hcore'.tr
  have hTsz : ∀ b n,bsz w b = some n → bsz w' b = some n := tr.bsz
  -- a block of the caller's zone keeps its cells
  have notOwned : ∀ β b,zone C s.heap ι w β b → ¬ ownedBy H (fun t => ι (σ t)) b := by
    rintro β b hz ⟨t,ht,e1⟩
    exact hz.2.1 (σ t) (hHas t ht) e1
  have hcell : ∀ β b o u,zone C s.heap ι w β b → w.cell? ⟨b,o,none⟩ = some u → w'.cell? ⟨b,o,none⟩ = some u := by
    intro β b o u hz hu
    rw [World.cell?_of_block (a := ⟨b,o,none⟩) (tr.block b hz.1 (notOwned β b hz))]; exact hu
  -- the frame: blocks that are neither handed over nor handed back
  have hF : ∀ x k,look x (purgeHL (turned σ K H H') (minusH ((dom H).map σ) s.heap)) = some k → ∃ k0,look x s.heap = some k0 ∧ k = purgeBL (turned σ K H H') k0 ∧ x ∉ (dom H).map σ ∧ x ∉ (dom H').map σ := by
    intro x k hl
    rw [purgeHL,look_map] at hl
    cases hq : look x (minusH ((dom H).map σ) s.heap) with
    | none => rw [hq] at hl; cases hl
    | some k0 =>
      rw [hq] at hl
      simp only [Option.map_some,Option.some.injEq] at hl
      have hq' := hq
      rw [look_minusH] at hq
      split at hq
      · cases hq
      · rename_i hn
        refine ⟨k0,hq,hl.symm,hn,fun hm => ?_⟩
        obtain ⟨t,ht,rfl⟩ := List.mem_map.1 hm
        exact ok.fresh t ht ⟨k0,hq'⟩
  have hheap : ∀ x k,look x (s.called d σ K H r H').heap = some k → (∃ t k1,t ∈ dom H' ∧ x = σ t ∧ look t H' = some k1 ∧ k = renB σ k1) ∨
      (∃ k0,look x s.heap = some k0 ∧ k = purgeBL (turned σ K H H') k0 ∧ (∀ t,t ∈ dom H ++ dom H' → σ t ≠ x)) := by
    intro x k hl
    simp only [St.called] at hl
    rw [look_append] at hl
    by_cases hx : x ∈ (dom H').map σ
    · obtain ⟨t,ht,rfl⟩ := List.mem_map.1 hx
      rw [look_renH (fun a ha he => ok.inj a t (List.mem_append_right _ ha) (List.mem_append_right _ ht) he)] at hl
      obtain ⟨k1,hk1⟩ := has_dom.2 ht
      rw [hk1] at hl
      simp only [Option.map_some,Option.some.injEq] at hl
      exact .inl ⟨t,k1,ht,rfl,hk1,hl.symm⟩
    · rw [look_renH_none (fun a ha e => hx (List.mem_map.2 ⟨a,ha,e⟩))] at hl
      obtain ⟨k0,h1,h2,h3,h4⟩ := hF x k hl
      refine .inr ⟨k0,h1,h2,fun t ht e => ?_⟩
      rcases List.mem_append.1 ht with ht | ht
      · exact h3 (List.mem_map.2 ⟨t,ht,e⟩)
      · exact h4 (List.mem_map.2 ⟨t,ht,e⟩)
  have frameOff : ∀ x,(∀ t,t ∈ dom H ++ dom H' → σ t ≠ x) → backT σ (dom H ++ dom H') ι ι' x = ι x := fun x h => backT_off h
  have frameB : ∀ x b,has x s.heap → (∀ t,t ∈ dom H ++ dom H' → σ t ≠ x) → ι x = some b → b < w.heap.size ∧ ¬ ownedBy H (fun t => ι (σ t)) b := by
    rintro x b ⟨k0,hk0⟩ hne hb
    have h0 := rel.core.blk x k0 hk0
    simp only [BlkR,hb] at h0
    obtain ⟨cur,h1,_⟩ := h0
    refine ⟨(Array.getElem?_eq_some_iff.1 h1).1,?_⟩
    rintro ⟨t,ht,e1⟩
    exact hne t (List.mem_append_left _ (has_dom.1 ht)) (rel.core.inj _ _ b (hHas t ht) ⟨k0,hk0⟩ e1 hb)
  -- zones
  have Zold : ∀ β b,zone C s.heap ι w β b → zone C (s.called d σ K H r H').heap (backT σ (dom H ++ dom H') ι ι') w' β b := by
    intro β b hz
    refine ⟨Nat.lt_of_lt_of_le hz.1 tr.size,?_,hz.2.2⟩
    rintro x ⟨k,hk'⟩ e1
    rcases hheap x k hk' with ⟨t,k1,ht,rfl,hk1,_⟩ | ⟨k0,hk0,_,hne⟩
    · rw [hD t (List.mem_append_right _ ht)] at e1
      rcases hcore'.own t b ⟨k1,hk1⟩ e1 with h | h
      · exact absurd h (Nat.not_le.2 hz.1)
      · exact notOwned β b hz h
    · rw [frameOff x hne] at e1
      exact hz.2.1 x ⟨k0,hk0⟩ e1
  have Znew : ∀ β b,(bw = true → β = false) → zone (cctx C s σ H bw K ι w) H' ι' w' β b → zone C (s.called d σ K H r H').heap (backT σ (dom H ++ dom H') ι ι') w' β b := by
    intro β b hβ hz
    obtain ⟨h1,h2,h3⟩ := hz
    have h3' : (zone C s.heap ι w β b) ∨ (zone C s.heap ι w false b) ∨ w.heap.size ≤ b ∨ ownedBy H (fun t => ι (σ t)) b := by
      rcases h3 with ⟨hb1,hb2⟩ | h | h | h
      · rcases hb2 with h | ⟨hbw,_⟩
        · rw [hb1]; exact .inl h
        · rw [hβ hbw] at hb1; cases hb1
      · exact .inr (.inl h)
      · exact .inr (.inr (.inl h))
      · exact .inr (.inr (.inr h))
    refine ⟨h1,?_,?_⟩
    · rintro x ⟨k,hk'⟩ e1
      rcases hheap x k hk' with ⟨t,k1,ht,rfl,hk1,_⟩ | ⟨k0,hk0,_,hne⟩
      · rw [hD t (List.mem_append_right _ ht)] at e1
        exact h2 t ⟨k1,hk1⟩ e1
      · rw [frameOff x hne] at e1
        obtain ⟨hlt,hno⟩ := frameB x b ⟨k0,hk0⟩ hne e1
        rcases h3' with h | h | h | h
        · exact h.2.1 x ⟨k0,hk0⟩ e1
        · exact h.2.1 x ⟨k0,hk0⟩ e1
        · omega
        · exact hno h
    · rcases h3' with h | h | h | ⟨t,ht,e1⟩
      · exact h.2.2
      · rcases h.2.2 with ⟨h,_⟩ | h | h | h
        · cases h
        · exact .inr (.inl h)
        · exact .inr (.inr (.inl h))
        · exact .inr (.inr (.inr h))
      · exact .inr (.inr (.inl (Nat.le_trans rel.core.tr.size h)))
      · rcases rel.core.own (σ t) b (hHas t ht) e1 with h | h
        · exact .inr (.inr (.inl h))
        · exact .inr (.inr (.inr h))
  have hιold : ∀ t' b,t' ∉ turned σ K H H' → ι t' = some b → backT σ (dom H ++ dom H') ι ι' t' = some b := by
    intro t' b hn hb
    by_cases hx : ∃ t,t ∈ dom H ++ dom H' ∧ σ t = t'
    · obtain ⟨t,ht,rfl⟩ := hx
      rw [hD t ht]
      have htK : t ∈ K := by
        apply Classical.byContradiction
        intro hk'
        refine hn (List.mem_map.2 ⟨t,List.mem_filter.2 ⟨ht,?_⟩,rfl⟩)
        have : anyT K t = false := by rw [← Bool.not_eq_true,anyT_iff]; exact hk'
        simp [this]
      rw [hst t htK]; exact hb
    · rw [frameOff t' (fun t ht e => hx ⟨t,ht,e⟩)]; exact hb
  -- a value of the callee's,at the caller's
  have back : ∀ (Zx : Zone) v0 u,(∀ β b,Zx β b → zone (cctx C s σ H bw K ι w) H' ι' w' β b) → (bw = true → v0.clean = true) → (∀ t,t ∈ v0.tags → t ∈ dom H') → VR w' Zx ι' v0 u →
      VR w' (zone C (s.called d σ K H r H').heap (backT σ (dom H ++ dom H') ι ι') w') (backT σ (dom H ++ dom H') ι ι') (v0.ren σ) u := by
    intro Zx v0 u hZx hcl htg hv0
    have h1 : VR w' (zone C (s.called d σ K H r H').heap (backT σ (dom H ++ dom H') ι ι') w') ι' v0 u := by
      by_cases hb : bw = true
      · exact hv0.monoC _ (fun b hz => Znew false b (fun _ => rfl) (hZx _ _ hz)) (hcl hb)
      · exact hv0.mono (fun _ _ h => h) _ _ (fun β b hz => Znew β b (fun h => absurd h hb) (hZx _ _ hz)) (fun _ _ _ _ _ h => h) (fun _ _ _ h => h)
    exact h1.renamed fun t b ht hb => by rw [hD t (List.mem_append_right _ (htg t ht))]; exact hb
  refine ⟨by simp [Act.put,rel.size],by simp [Act.put,rel.dfr],?_,⟨?_,?_,?_,?_⟩,?_⟩
  · intro d' v' hl
    simp only [St.called] at hl
    have hsize' := rel.size
    by_cases e1 : d' = d
    · subst e1
      rw [look_cons_self] at hl
      cases hl
      have : (a.put (some d') v).tmps.getD d' undef = v := by
        simp [Act.put,Array.getD_eq_getD_getElem?,hsize',hd]
      rw [this]
      exact back _ r v (fun _ _ h => h) (fun hb => (ok.clean hb).1) ok.tags hv
    · rw [look_cons_ne e1,purgeEL,look_map] at hl
      have : (a.put (some d) v).tmps.getD d' undef = a.tmps.getD d' undef := by
        simp only [Act.put,Array.getD_eq_getD_getElem?,Array.getElem?_setIfInBounds]
        rw [if_neg (fun h => e1 h.symm)]
      rw [this]
      cases hq : look d' s.env with
      | none => rw [hq] at hl; cases hl
      | some q =>
        rw [hq] at hl
        simp only [Option.map_some,Option.some.injEq] at hl
        subst hl
        exact purgeAL_VR hTsz Zold hcell hιold (rel.env d' q hq)
  · intro x k hl
    rcases hheap x k hl with ⟨t,k1,ht,rfl,hk1,rfl⟩ | ⟨k0,hk0,rfl,hne⟩
    · have h0 := hcore'.blk t k1 hk1
      unfold BlkR at h0 ⊢
      rw [hD t (List.mem_append_right _ ht)]
      cases hx : ι' t with
      | none =>
        simp only [hx] at h0 ⊢
        obtain ⟨kt,kl,kc⟩ := k1
        obtain ⟨h1,h2⟩ := h0
        simp only at h1 h2
        subst h2
        exact ⟨h1,rfl⟩
      | some b =>
        simp only [hx] at h0 ⊢
        obtain ⟨cur,q1,q2,q3⟩ := h0
        obtain ⟨kt,kl,kc⟩ := k1
        cases kl with
        | true =>
          refine ⟨cur,q1,q2,fun i hi => ?_⟩
          obtain ⟨u,hu,hv0⟩ := q3 i hi
          exact ⟨u,hu,hv0.mono (fun _ _ h => h) _ _ (fun _ b hz => Znew false b (fun _ => rfl) hz) (fun _ _ _ _ _ h => h) (fun _ _ _ h => h)⟩
        | false =>
          have hlen : (renB σ ⟨kt,false,kc⟩).cells.length = kc.length := by simp [renB,AV.renL_eq]
          refine ⟨cur,q1,by rw [hlen]; exact q2,fun i hi => ?_⟩
          have hi' : i < kc.length := by rw [hlen] at hi; exact hi
          obtain ⟨u,hu,hv0⟩ := q3 i hi'
          refine ⟨u,hu,?_⟩
          have e1 : (renB σ ⟨kt,false,kc⟩).cells[i]'hi = (kc[i]'hi').ren σ := by simp [renB,AV.renL_eq]
          rw [e1]
          refine back _ _ u (fun _ _ h => h) (fun hb => ?_) (fun t' ht' => ?_) hv0
          · rcases (ok.clean hb).2 t _ hk1 with h | h
            · cases h
            · rw [AV.cleanL_eq,List.all_eq_true] at h
              exact h _ (List.getElem_mem hi')
          · rcases ok.tagsH t _ hk1 with h | h
            · cases h
            · exact h t' (AV.mem_tagsL.2 ⟨_,List.getElem_mem hi',ht'⟩)
    · have h0 := rel.core.blk x k0 hk0
      unfold BlkR at h0 ⊢
      rw [frameOff x hne]
      cases hx : ι x with
      | none =>
        simp only [hx] at h0 ⊢
        obtain ⟨kt,kl,kc⟩ := k0
        obtain ⟨h1,h2⟩ := h0
        simp only at h1 h2
        subst h2
        exact ⟨h1,rfl⟩
      | some b =>
        simp only [hx] at h0 ⊢
        obtain ⟨cur,q1,q2,q3⟩ := h0
        obtain ⟨hlt,hno⟩ := frameB x b ⟨k0,hk0⟩ hne hx
        obtain ⟨kt,kl,kc⟩ := k0
        have hb' := tr.block b hlt hno
        cases kl with
        | true =>
          refine ⟨cur,by rw [hb']; exact q1,q2,fun i hi => ?_⟩
          obtain ⟨u,hu,hv0⟩ := q3 i hi
          exact ⟨u,hu,hv0.mono hTsz _ _ (fun _ b hz => Zold false b hz) (fun _ b o u hz => hcell false b o u hz) (fun _ _ _ h => h)⟩
        | false =>
          have hlen : (purgeBL (turned σ K H H') ⟨kt,false,kc⟩).cells.length = kc.length := by simp [purgeBL]
          refine ⟨cur,by rw [hb']; exact q1,by rw [hlen]; exact q2,fun i hi => ?_⟩
          have hi' : i < kc.length := by rw [hlen] at hi; exact hi
          obtain ⟨u,hu,hv0⟩ := q3 i hi'
          refine ⟨u,hu,?_⟩
          have e1 : (purgeBL (turned σ K H H') ⟨kt,false,kc⟩).cells[i]'hi = purgeAL (turned σ K H H') (kc[i]'hi') := by simp [purgeBL]
          rw [e1]
          exact purgeAL_VR hTsz Zold hcell hιold hv0
  · rintro x y b ⟨k,hx⟩ ⟨k',hy⟩ ex ey
    rcases hheap x k hx with ⟨t,k1,ht,rfl,hk1,_⟩ | ⟨k0,hk0,_,hne⟩
    · rw [hD t (List.mem_append_right _ ht)] at ex
      rcases hheap y k' hy with ⟨t2,k2,ht2,rfl,hk2,_⟩ | ⟨k2,hk2,_,hne2⟩
      · rw [hD t2 (List.mem_append_right _ ht2)] at ey
        rw [hcore'.inj t t2 b ⟨k1,hk1⟩ ⟨k2,hk2⟩ ex ey]
      · rw [frameOff y hne2] at ey
        obtain ⟨hlt,hno⟩ := frameB y b ⟨k2,hk2⟩ hne2 ey
        rcases hcore'.own t b ⟨k1,hk1⟩ ex with h | h
        · exact absurd h (Nat.not_le.2 hlt)
        · exact absurd h hno
    · rw [frameOff x hne] at ex
      obtain ⟨hlt,hno⟩ := frameB x b ⟨k0,hk0⟩ hne ex
      rcases hheap y k' hy with ⟨t2,k2,ht2,rfl,hk2,_⟩ | ⟨k2,hk2,_,hne2⟩
      · rw [hD t2 (List.mem_append_right _ ht2)] at ey
        rcases hcore'.own t2 b ⟨k2,hk2⟩ ey with h | h
        · exact absurd h (Nat.not_le.2 hlt)
        · exact absurd h hno
      · rw [frameOff y hne2] at ey
        exact rel.core.inj x y b ⟨k0,hk0⟩ ⟨k2,hk2⟩ ex ey
  · rintro x b ⟨k,hx⟩ ex
    rcases hheap x k hx with ⟨t,k1,ht,rfl,hk1,_⟩ | ⟨k0,hk0,_,hne⟩
    · rw [hD t (List.mem_append_right _ ht)] at ex
      rcases hcore'.own t b ⟨k1,hk1⟩ ex with h | ⟨t0,h0,e0⟩
      · exact .inl (Nat.le_trans rel.core.tr.size h)
      · exact rel.core.own (σ t0) b (hHas t0 h0) e0
    · rw [frameOff x hne] at ex
      exact rel.core.own x b ⟨k0,hk0⟩ ex
  · have t0 := rel.core.tr
    refine ⟨tr.os.trans t0.os,tr.tape.trans t0.tape,tr.output.trans t0.output,Nat.le_trans t0.size tr.size,fun i hi hn => ?_,fun b n h => hTsz b n (t0.bsz b n h)⟩
    refine (tr.block i (Nat.lt_of_lt_of_le hi t0.size) ?_).trans (t0.block i hi hn)
    rintro ⟨t,ht,e1⟩
    rcases rel.core.own (σ t) i (hHas t ht) e1 with h | h
    · omega
    · exact hn h
  · intro x hx
    by_cases hq : ∃ t,t ∈ dom H ++ dom H' ∧ σ t = x
    · obtain ⟨t,ht,rfl⟩ := hq
      have htK : t ∈ K := Classical.byContradiction fun h => ok.stab t ht h hx
      rw [hD t ht,hst t htK]; exact rel.stab _ hx
    · rw [frameOff x (fun t ht e => hq ⟨t,ht,e⟩)]; exact rel.stab x hx
theorem run_callFunc {P : Program} {f : FuncId} {w : World} {args : Array Value} (h : callable P f) : (callFunc f args).run P w = .ok (.enter f args) w := by
  obtain ⟨fn,hfn,hbody,hname⟩ := h
  simp only [callFunc,Sem.run_bind,run_program,Result.andThen_ok,hfn,hname,hbody]
  simp
theorem AStep.call {C : Ctx} {d : Nat} {ty : TypeId} {p : String} {e : Array Edge} {g : Option (Nat × Bool)} {s : St} {f : FuncId} {args : Array Operand} {ats : Array TypeId}
    {K : List Nat} {avs : List AV} {H : List (Nat × Blk)} {r : AV} {H' : List (Nat × Blk)} {σ : Nat → Nat} {bw : Bool} (hd : d < C.N)
    (hS : Spec C.P f K avs H r H') (hargs : ArgL C s σ H bw args.toList avs) (ok : CallOk C s σ bw K H r H') :
    AStep C ⟨some d,.call { callee := .value (.func f),args := args,argTypes := ats },ty,p,e,g⟩ s (s.called d σ K H r H') :=
  AStep.callCore (fun _ h => by cases h) hd hS ok fun ι a w rel => by
    have hHas : ∀ t,has t H → has (σ t) s.heap := fun t ⟨k,hk⟩ => ⟨_,ok.hH t k hk⟩
    refine ⟨args.toList.map a.eval,fun hable => ?_,hargs.vrs hHas rel K⟩
    have hargsEq : (args.toList.map a.eval).toArray = args.map a.eval := by rw [List.map_toArray.symm]
    rw [hargsEq]
    simp only [execOp,resolve,Act.eval,Deferred.ofValue,Sem.run_bind,Sem.run_pure,Result.andThen_ok,invoke]
    have := run_callFunc (w := w) (args := args.map a.eval) hable
    simpa using this
inductive CvL (C : Ctx) (s : St) (σ : Nat → Nat) (H : List (Nat × Blk)) (bw : Bool) : List AV → List AV → Prop
  | nil : CvL C s σ H bw [] []
  | cons {v v' : AV} {vs vs' : List AV} (h : Cv C s σ H bw v v') (t : CvL C s σ H bw vs vs') : CvL C s σ H bw (v :: vs) (v' :: vs')
theorem CvL.vrs {C : Ctx} {s : St} {σ : Nat → Nat} {H : List (Nat × Blk)} {bw : Bool} {vs vs' : List AV} (h : CvL C s σ H bw vs vs') (hH : ∀ t,has t H → has (σ t) s.heap) {ι : Tags} {a : Act} {w : World} (r : Rel C s ι a w) (K : List Nat) :
    ∀ {us : List Value} (hl : us.length = vs.length),(∀ i (hi : i < vs.length),VR w (zone C s.heap ι w) ι (vs[i]'hi) (us[i]'(hl ▸ hi))) → VRs w (zone (cctx C s σ H bw K ι w) H (fun t => ι (σ t)) w) (fun t => ι (σ t)) vs' us := by
  induction h with
  | nil => intro us hl _; exact ⟨hl,fun i hi => absurd hi (by simp)⟩
  | cons h t ih =>
    intro us hl hu
    match us,hl with
    | u :: us,hl =>
      obtain ⟨h1,h2⟩ := ih (us := us) (by simpa using hl) fun i hi => hu (i + 1) (by simpa using hi)
      refine ⟨by simpa using h1,fun i hi => ?_⟩
      cases i with
      | zero => exact ⟨u,rfl,h K ι a w u r hH (hu 0 (by simp))⟩
      | succ i =>
        obtain ⟨x,hx,hv⟩ := h2 i (by simpa using hi)
        exact ⟨x,by simpa using hx,by simpa using hv⟩
theorem VRs.append {w : World} {Z : Zone} {ι : Tags} {as bs : List AV} {us vs : List Value} (h1 : VRs w Z ι as us) (h2 : VRs w Z ι bs vs) : VRs w Z ι (as ++ bs) (us ++ vs) := by
  refine ⟨by simp [h1.1,h2.1],fun i hi => ?_⟩
  rcases Nat.lt_or_ge i as.length with h | h
  · obtain ⟨u,hu,hv⟩ := h1.2 i h
    exact ⟨u,by rw [List.getElem?_append_left (by rw [h1.1]; exact h)]; exact hu,by rw [List.getElem_append_left h]; exact hv⟩
  · obtain ⟨u,hu,hv⟩ := h2.2 (i - as.length) (by simp at hi; omega)
    exact ⟨u,by rw [List.getElem?_append_right (by rw [h1.1]; exact h),h1.1]; exact hu,by rw [List.getElem_append_right h]; exact hv⟩
theorem AStep.callV {C : Ctx} {d : Nat} {ty : TypeId} {p : String} {e : Array Edge} {g : Option (Nat × Bool)} {s : St} {x : Operand} {f : FuncId} {args : Array Operand} {ats : Array TypeId}
    {K : List Nat} {us cs us' avs cs' : List AV} {H : List (Nat × Blk)} {r : AV} {H' : List (Nat × Blk)} {σ : Nat → Nat} {bw : Bool} (hd : d < C.N) (hx : Ev C s x (.clo (.func f) us cs))
    (hS : Spec C.P f K (us' ++ avs ++ cs') H r H') (hus : CvL C s σ H bw us us') (hargs : ArgL C s σ H bw args.toList avs) (hcs : CvL C s σ H bw cs cs') (ok : CallOk C s σ bw K H r H') (hf : ∀ k,x ≠ .func k) :
    AStep C ⟨some d,.call { callee := .value x,args := args,argTypes := ats },ty,p,e,g⟩ s (s.called d σ K H r H') :=
  AStep.callCore (fun _ h => by cases h) hd hS ok fun ι a w rel => by
    have hHas : ∀ t,has t H → has (σ t) s.heap := fun t ⟨k,hk⟩ => ⟨_,ok.hH t k hk⟩
    have hv := hx ι a w rel
    generalize hxe : a.eval x = xe at hv
    cases hv with
    | clo _ _ _ _ _ u1 v1 hu hl h1 h2 =>
      refine ⟨u1 ++ args.toList.map a.eval ++ v1,fun hable => ?_,((hus.vrs hHas rel K hu h1).append (hargs.vrs hHas rel K)).append (hcs.vrs hHas rel K hl h2)⟩
      have hargsEq : (args.toList.map a.eval).toArray = args.map a.eval := by rw [List.map_toArray.symm]
      have e1 : (u1 ++ args.toList.map a.eval ++ v1).toArray = u1.toArray ++ args.map a.eval ++ v1.toArray := by
        rw [← hargsEq]; simp
      rw [e1]
      simp only [execOp,resolve,hxe,Deferred.ofValue,Sem.run_bind,Sem.run_pure,Result.andThen_ok,invoke]
      exact run_callFunc (w := w) hable
theorem VC.looks {C : Ctx} {s s' : St} (hE : ∀ d v,look d s'.env = some v → look d s.env = some v) (hH : ∀ t k,look t s'.heap = some k → look t s.heap = some k) : VC C s s' := by
  intro ι a w r
  have hhas : ∀ t,has t s'.heap → has t s.heap := fun t ⟨k,hk⟩ => ⟨k,hH t k hk⟩
  have hZ : ∀ β b,zone C s.heap ι w β b → zone C s'.heap ι w β b := fun β b h => ⟨h.1,fun t ht => h.2.1 t (hhas t ht),h.2.2⟩
  refine ⟨ι,r.size,r.dfr,fun d v hl => ?_,⟨fun t k hl => ?_,fun t t' b h1 h2 => r.core.inj t t' b (hhas t h1) (hhas t' h2),fun t b h => r.core.own t b (hhas t h),r.core.tr⟩,r.stab⟩
  · exact (r.env d v (hE d v hl)).mono (fun _ _ h => h) _ _ hZ (fun _ _ _ _ _ h => h) (fun _ _ _ h => h)
  · have h0 := r.core.blk t k (hH t k hl)
    unfold BlkR at h0 ⊢
    cases hx : ι t with
    | none => simp only [hx] at h0 ⊢; exact h0
    | some b =>
      simp only [hx] at h0 ⊢
      obtain ⟨cur,q1,q2,q3⟩ := h0
      refine ⟨cur,q1,q2,fun i hi => ?_⟩
      obtain ⟨u,hu,hv⟩ := q3 i hi
      refine ⟨u,hu,hv.mono (fun _ _ h => h) _ _ ?_ (fun _ _ _ _ _ h => h) (fun _ _ _ h => h)⟩
      cases k.lst with
      | true => exact fun _ b hb => hZ _ _ hb
      | false => exact hZ
theorem AStep.keep {C : Ctx} {o : Oper} {s : St} {d : Nat} {K : List Nat} {H : List (Nat × Blk)} {r : AV} {σ : Nat → Nat} {bw : Bool} (h : AStep C o s (s.called d σ K H r H)) (ok : CallOk C s σ bw K H r H) (hK : (dom H).all (anyT K) = true)
    {r' : AV} (hr : r' = r.ren σ) : AStep C o s (s.put d r') := by
  subst hr
  have hT : turned σ K H H = [] := by
    unfold turned
    have : (dom H ++ dom H).filter (fun t => !anyT K t) = [] := by
      rw [List.filter_eq_nil_iff]
      intro t ht
      have : t ∈ dom H := by rcases List.mem_append.1 ht with h | h <;> exact h
      simp [List.all_eq_true.1 hK t this]
    rw [this]; rfl
  have hE : ∀ l : List (Nat × AV),purgeEL [] l = l := fun l => by
    unfold purgeEL
    have : (fun p : Nat × AV => (p.1,purgeAL [] p.2)) = id := by funext p; simp [purgeAL]
    rw [this,List.map_id]
  have hHL : ∀ l : List (Nat × Blk),purgeHL [] l = l := fun l => by
    unfold purgeHL
    have hb : ∀ k : Blk,purgeBL [] k = k := by
      rintro ⟨ty,lst,cells⟩
      cases lst with
      | true => rfl
      | false =>
        have h1 : (purgeAL [] : AV → AV) = id := by funext v; simp [purgeAL]
        show (⟨ty,false,cells.map (purgeAL [])⟩ : Blk) = _
        rw [h1,List.map_id]
    have : (fun p : Nat × Blk => (p.1,purgeBL [] p.2)) = id := by funext p; rw [hb]; rfl
    rw [this,List.map_id]
  intro ι a w Kn Q rel hk
  refine h ι a w Kn Q rel fun ι' a' w' r' => ?_
  have v : VC C (s.called d σ K H r H) (s.put d (r.ren σ)) := by
    refine VC.looks (fun d' v hl => ?_) (fun t k hl => ?_)
    · simp only [St.called,hT,hE]; exact hl
    · simp only [St.called,hT,hHL]
      rw [look_append]
      by_cases ht : t ∈ (dom H).map σ
      · obtain ⟨x,hx,rfl⟩ := List.mem_map.1 ht
        rw [look_renH (fun a ha he => ok.inj a x (List.mem_append_left _ ha) (List.mem_append_left _ hx) he)]
        obtain ⟨k1,hk1⟩ := has_dom.2 hx
        rw [hk1]
        simp only [Option.map_some]
        have := ok.hH x k1 hk1
        have hl' : look (σ x) s.heap = some k := hl
        rw [this] at hl'
        exact hl'
      · rw [look_renH_none (fun a ha e => ht (List.mem_map.2 ⟨a,ha,e⟩)),look_minusH,if_neg ht]
        exact hl
  obtain ⟨ι2,r2⟩ := v ι' a' w' r'
  exact hk _ _ _ r2
end Go.AB
namespace Go.AB
open Go
inductive SubE : List (Nat × AV) → List (Nat × AV) → Prop
  | n (e : List (Nat × AV)) : SubE [] e
  | c {d : Nat} {v : AV} {l e : List (Nat × AV)} (h : look d e = some v) (t : SubE l e) : SubE ((d,v) :: l) e
inductive SubH : List (Nat × Blk) → List (Nat × Blk) → Prop
  | n (e : List (Nat × Blk)) : SubH [] e
  | c {d : Nat} {v : Blk} {l e : List (Nat × Blk)} (h : look d e = some v) (t : SubH l e) : SubH ((d,v) :: l) e
theorem SubE.look {d : Nat} {v : AV} {l e : List (Nat × AV)} (hs : SubE l e) (h : look d l = some v) : look d e = some v := by
  induction hs with
  | n => cases h
  | c h' t ih =>
    rename_i d' v' l e
    by_cases hd : d = d'
    · subst hd; rw [look_cons_self] at h; cases h; exact h'
    · rw [look_cons_ne hd] at h; exact ih h
theorem SubH.look {d : Nat} {v : Blk} {l e : List (Nat × Blk)} (hs : SubH l e) (h : look d l = some v) : look d e = some v := by
  induction hs with
  | n => cases h
  | c h' t ih =>
    rename_i d' v' l e
    by_cases hd : d = d'
    · subst hd; rw [look_cons_self] at h; cases h; exact h'
    · rw [look_cons_ne hd] at h; exact ih h
theorem VC.sub {C : Ctx} {s s' : St} (hE : SubE s'.env s.env) (hH : SubH s'.heap s.heap) : VC C s s' := by
  intro ι a w r
  have hhas : ∀ t,has t s'.heap → has t s.heap := fun t ⟨k,hk⟩ => ⟨k,hH.look hk⟩
  have hZ : ∀ β b,zone C s.heap ι w β b → zone C s'.heap ι w β b := fun β b h => ⟨h.1,fun t ht => h.2.1 t (hhas t ht),h.2.2⟩
  refine ⟨ι,r.size,r.dfr,fun d v hl => ?_,⟨fun t k hl => ?_,fun t t' b h1 h2 => r.core.inj t t' b (hhas t h1) (hhas t' h2),fun t b h => r.core.own t b (hhas t h),r.core.tr⟩,r.stab⟩
  · exact (r.env d v (hE.look hl)).mono (fun _ _ h => h) _ _ hZ (fun _ _ _ _ _ h => h) (fun _ _ _ h => h)
  · have h0 := r.core.blk t k (hH.look hl)
    unfold BlkR at h0 ⊢
    cases hx : ι t with
    | none => simp only [hx] at h0 ⊢; exact h0
    | some b =>
      simp only [hx] at h0 ⊢
      obtain ⟨cur,q1,q2,q3⟩ := h0
      refine ⟨cur,q1,q2,fun i hi => ?_⟩
      obtain ⟨u,hu,hv⟩ := q3 i hi
      refine ⟨u,hu,hv.mono (fun _ _ h => h) _ _ ?_ (fun _ _ _ _ _ h => h) (fun _ _ _ h => h)⟩
      cases k.lst with
      | true => exact fun _ b hb => hZ _ _ hb
      | false => exact hZ
theorem VC.nilOwn {C : Ctx} {s : St} {d t sz : Nat} {E : TypeId} (hd : look d s.env = some (.sc (.slice none 0 0))) (hK : t ∉ C.K) :
    VC C s ⟨(d,.own t sz 0 0) :: purgeE t s.env,(t,⟨E,true,[]⟩) :: purgeH t s.heap⟩ := by
  intro ι a w r
  let ι' : Tags := fun x => if x = t then none else ι x
  have hZ : ∀ β b,zone C s.heap ι w β b → zone C ((t,⟨E,true,[]⟩) :: purgeH t s.heap) ι' w β b := by
    rintro β b ⟨h1,h2,h3⟩
    refine ⟨h1,fun t' ht' => ?_,h3⟩
    by_cases e : t' = t
    · simp [ι',e]
    · simp only [ι',if_neg e]
      obtain ⟨q,hq⟩ := ht'
      rw [look_cons_ne e] at hq
      exact h2 t' (has_purgeH.1 ⟨q,hq⟩).2
  have hι : ∀ t' b,t' ≠ t → ι t' = some b → ι' t' = some b := fun t' b hne h => by simp only [ι',if_neg hne]; exact h
  have hkey : ∀ t',has t' ((t,(⟨E,true,[]⟩ : Blk)) :: purgeH t s.heap) → t' ≠ t → has t' s.heap := by
    rintro t' ⟨q,hq⟩ hne
    rw [look_cons_ne hne] at hq
    exact (has_purgeH.1 ⟨q,hq⟩).2
  refine ⟨ι',r.size,r.dfr,fun d' v hl => ?_,⟨fun t' k hl => ?_,fun t1 t2 b h1 h2 e1 e2 => ?_,fun t' b h e => ?_,r.core.tr⟩,fun t' ht' => ?_⟩
  · by_cases e : d' = d
    · subst e
      rw [look_cons_self] at hl
      cases hl
      rw [sc_inv (r.env d' _ hd)]
      exact .ownnil _ _ _ _ _
    · rw [look_cons_ne e,look_purgeE] at hl
      cases hq : look d' s.env with
      | none => rw [hq] at hl; cases hl
      | some q =>
        rw [hq] at hl
        simp only [Option.map_some,Option.some.injEq] at hl
        subst hl
        exact purgeA_VR (fun _ _ h => h) hZ (fun _ _ _ _ _ h => h) hι (r.env d' q hq)
  · by_cases e : t' = t
    · subst e
      rw [look_cons_self] at hl
      cases hl
      simp [BlkR,ι']
    · rw [look_cons_ne e,look_purgeH_ne e] at hl
      cases hq : look t' s.heap with
      | none => rw [hq] at hl; cases hl
      | some q =>
        rw [hq] at hl
        simp only [Option.map_some,Option.some.injEq] at hl
        subst hl
        have h0 := r.core.blk t' q hq
        have ht' : ι' t' = ι t' := by simp [ι',e]
        unfold BlkR at h0 ⊢
        rw [ht']
        obtain ⟨qt,ql,qc⟩ := q
        cases hx : ι t' with
        | none =>
          simp only [hx] at h0 ⊢
          obtain ⟨h1,h2⟩ := h0
          subst h2
          exact ⟨h1,rfl⟩
        | some x =>
          simp only [hx] at h0 ⊢
          obtain ⟨cur,h1,h2,h3⟩ := h0
          cases ql with
          | true =>
            refine ⟨cur,h1,h2,fun i hi => ?_⟩
            obtain ⟨y,hy,hv⟩ := h3 i hi
            exact ⟨y,hy,hv.mono (fun _ _ h => h) _ _ (fun _ b hb => hZ _ _ hb) (fun _ _ _ _ _ h => h) (fun _ _ _ h => h)⟩
          | false =>
            have hlen : (purgeB t ⟨qt,false,qc⟩).cells.length = qc.length := by simp [purgeB]
            refine ⟨cur,h1,by rw [hlen]; exact h2,fun i hi => ?_⟩
            have hi' : i < qc.length := by rw [hlen] at hi; exact hi
            obtain ⟨y,hy,hv⟩ := h3 i hi'
            refine ⟨y,hy,?_⟩
            have e1 : (purgeB t ⟨qt,false,qc⟩).cells[i]'hi = purgeA t (qc[i]'hi') := by simp [purgeB]
            rw [e1]
            exact purgeA_VR (fun _ _ h => h) hZ (fun _ _ _ _ _ h => h) hι hv
  · by_cases q1 : t1 = t
    · simp [ι',q1] at e1
    · by_cases q2 : t2 = t
      · simp [ι',q2] at e2
      · simp only [ι',if_neg q1,if_neg q2] at e1 e2
        exact r.core.inj t1 t2 b (hkey t1 h1 q1) (hkey t2 h2 q2) e1 e2
  · by_cases q1 : t' = t
    · simp [ι',q1] at e
    · simp only [ι',if_neg q1] at e
      exact r.core.own t' b (hkey t' h q1) e
  · have hne : t' ≠ t := fun h => hK (h ▸ ht')
    simp only [ι',if_neg hne]; exact r.stab t' ht'
theorem VC.newTag {C : Ctx} {s : St} {t : Nat} {E : TypeId} (hK : t ∉ C.K) :
    VC C s ⟨purgeE t s.env,(t,⟨E,true,[]⟩) :: purgeH t s.heap⟩ := by
  intro ι a w r
  let ι' : Tags := fun x => if x = t then none else ι x
  have hZ : ∀ β b,zone C s.heap ι w β b → zone C ((t,⟨E,true,[]⟩) :: purgeH t s.heap) ι' w β b := by
    rintro β b ⟨h1,h2,h3⟩
    refine ⟨h1,fun t' ht' => ?_,h3⟩
    by_cases e : t' = t
    · simp [ι',e]
    · simp only [ι',if_neg e]
      obtain ⟨q,hq⟩ := ht'
      rw [look_cons_ne e] at hq
      exact h2 t' (has_purgeH.1 ⟨q,hq⟩).2
  have hι : ∀ t' b,t' ≠ t → ι t' = some b → ι' t' = some b := fun t' b hne h => by simp only [ι',if_neg hne]; exact h
  have hkey : ∀ t',has t' ((t,(⟨E,true,[]⟩ : Blk)) :: purgeH t s.heap) → t' ≠ t → has t' s.heap := by
    rintro t' ⟨q,hq⟩ hne
    rw [look_cons_ne hne] at hq
    exact (has_purgeH.1 ⟨q,hq⟩).2
  refine ⟨ι',r.size,r.dfr,fun d' v hl => ?_,⟨fun t' k hl => ?_,fun t1 t2 b h1 h2 e1 e2 => ?_,fun t' b h e => ?_,r.core.tr⟩,fun t' ht' => ?_⟩
  · rw [look_purgeE] at hl
    cases hq : look d' s.env with
    | none => rw [hq] at hl; cases hl
    | some q =>
      rw [hq] at hl
      simp only [Option.map_some,Option.some.injEq] at hl
      subst hl
      exact purgeA_VR (fun _ _ h => h) hZ (fun _ _ _ _ _ h => h) hι (r.env d' q hq)
  · by_cases e : t' = t
    · subst e
      rw [look_cons_self] at hl
      cases hl
      simp [BlkR,ι']
    · rw [look_cons_ne e,look_purgeH_ne e] at hl
      cases hq : look t' s.heap with
      | none => rw [hq] at hl; cases hl
      | some q =>
        rw [hq] at hl
        simp only [Option.map_some,Option.some.injEq] at hl
        subst hl
        have h0 := r.core.blk t' q hq
        have ht' : ι' t' = ι t' := by simp [ι',e]
        unfold BlkR at h0 ⊢
        rw [ht']
        obtain ⟨qt,ql,qc⟩ := q
        cases hx : ι t' with
        | none =>
          simp only [hx] at h0 ⊢
          obtain ⟨h1,h2⟩ := h0
          subst h2
          exact ⟨h1,rfl⟩
        | some x =>
          simp only [hx] at h0 ⊢
          obtain ⟨cur,h1,h2,h3⟩ := h0
          cases ql with
          | true =>
            refine ⟨cur,h1,h2,fun i hi => ?_⟩
            obtain ⟨y,hy,hv⟩ := h3 i hi
            exact ⟨y,hy,hv.mono (fun _ _ h => h) _ _ (fun _ b hb => hZ _ _ hb) (fun _ _ _ _ _ h => h) (fun _ _ _ h => h)⟩
          | false =>
            have hlen : (purgeB t ⟨qt,false,qc⟩).cells.length = qc.length := by simp [purgeB]
            refine ⟨cur,h1,by rw [hlen]; exact h2,fun i hi => ?_⟩
            have hi' : i < qc.length := by rw [hlen] at hi; exact hi
            obtain ⟨y,hy,hv⟩ := h3 i hi'
            refine ⟨y,hy,?_⟩
            have e1 : (purgeB t ⟨qt,false,qc⟩).cells[i]'hi = purgeA t (qc[i]'hi') := by simp [purgeB]
            rw [e1]
            exact purgeA_VR (fun _ _ h => h) hZ (fun _ _ _ _ _ h => h) hι hv
  · by_cases q1 : t1 = t
    · simp [ι',q1] at e1
    · by_cases q2 : t2 = t
      · simp [ι',q2] at e2
      · simp only [ι',if_neg q1,if_neg q2] at e1 e2
        exact r.core.inj t1 t2 b (hkey t1 h1 q1) (hkey t2 h2 q2) e1 e2
  · by_cases q1 : t' = t
    · simp [ι',q1] at e
    · simp only [ι',if_neg q1] at e
      exact r.core.own t' b (hkey t' h q1) e
  · have hne : t' ≠ t := fun h => hK (h ▸ ht')
    simp only [ι',if_neg hne]; exact r.stab t' ht'
mutual
def frzA (t : Nat) (cells : List AV) : AV → AV
  | .own t' sz off n => bif Nat.beq t' t then .rd false n ((cells.drop off).take (n * sz)) else .own t' sz off n
  | .ownc t' sz n c => bif Nat.beq t' t then .rd false n (cells.take (n * sz)) else .ownc t' sz n c
  | .ptr t' off => bif Nat.beq t' t then .rptr false (cells.drop off) else .ptr t' off
  | .agg cs => .agg (frzL t cells cs)
  | .tup cs => .tup (frzL t cells cs)
  | .clo f a b => .clo f (frzL t cells a) (frzL t cells b)
  | .gd c v => .gd c (frzA t cells v)
  | a => a
def frzL (t : Nat) (cells : List AV) : List AV → List AV
  | [] => []
  | a :: l => frzA t cells a :: frzL t cells l
end
theorem frzL_eq (t : Nat) (cells : List AV) (l : List AV) : frzL t cells l = l.map (frzA t cells) := by
  induction l with
  | nil => simp [frzL]
  | cons a l ih => simp [frzL,ih]
def frzE (t : Nat) (cells : List AV) : List (Nat × AV) → List (Nat × AV)
  | [] => []
  | (d,v) :: l => (d,frzA t cells v) :: frzE t cells l
def frzB (t : Nat) (cells : List AV) (k : Blk) : Blk := bif k.lst then k else { k with cells := frzL t cells k.cells }
def frzH (t : Nat) (cells : List AV) : List (Nat × Blk) → List (Nat × Blk)
  | [] => []
  | (t',k) :: l => bif Nat.beq t' t then frzH t cells l else (t',frzB t cells k) :: frzH t cells l
theorem look_frzE (t : Nat) (cells : List AV) (d : Nat) : ∀ l,look d (frzE t cells l) = (look d l).map (frzA t cells)
  | [] => rfl
  | (d',v) :: l => by
    by_cases h : d = d'
    · subst h; simp [frzE,look]
    · simp only [frzE,look,beq_ne h,cond_false]; exact look_frzE t cells d l
theorem look_frzH (t : Nat) (cells : List AV) (x : Nat) : ∀ l : List (Nat × Blk),look x (frzH t cells l) = if x = t then none else (look x l).map (frzB t cells)
  | [] => by simp [frzH,look]
  | (t',k) :: l => by
    have ih := look_frzH t cells x l
    by_cases h1 : t' = t
    · subst h1
      simp only [frzH,Nat.beq_refl,cond_true,ih]
      by_cases h : x = t'
      · rw [if_pos h,if_pos h]
      · rw [if_neg h,if_neg h,look_cons_ne h]
    · simp only [frzH,beq_ne h1,cond_false]
      by_cases h : x = t'
      · subst h; rw [if_neg h1]; simp [look]
      · rw [look_cons_ne h,look_cons_ne h,ih]
theorem frzA_VR {w : World} {Z Z' : Zone} {ι : Tags} {t : Nat} {cells : List AV} (hZ : ∀ β b,Z β b → Z' β b)
    (hc : ∀ b,ι t = some b → Z' false b ∧ ∃ vs : Nat → Value,(∀ i,i < cells.length → w.cell? ⟨b,i,none⟩ = some (vs i)) ∧ ∀ i (hi : i < cells.length),VR w (fun _ => Z' false) (fun _ => none) (cells[i]'hi) (vs i)) {v : AV} :
    ∀ {u : Value},VR w Z ι v u → VR w Z' ι (frzA t cells v) u := by
  induction v using AV.rec (motive_2 := fun l => ∀ (us : List Value),(∀ i (hi : i < l.length),∃ u,us[i]? = some u ∧ VR w Z ι (l[i]'hi) u) →
      ∀ i (hi : i < l.length),∃ u,us[i]? = some u ∧ VR w Z' ι (frzA t cells (l[i]'hi)) u) with
  | sc => intro u h; exact h.mono (fun _ _ h => h) _ _ hZ (fun _ _ _ _ _ h => h) (fun _ _ _ h => h)
  | rd => intro u h; exact h.mono (fun _ _ h => h) _ _ hZ (fun _ _ _ _ _ h => h) (fun _ _ _ h => h)
  | rdx => intro u h; exact h.mono (fun _ _ h => h) _ _ hZ (fun _ _ _ _ _ h => h) (fun _ _ _ h => h)
  | rptr => intro u h; exact h.mono (fun _ _ h => h) _ _ hZ (fun _ _ _ _ _ h => h) (fun _ _ _ h => h)
  | any => intro u _; exact .any _ _ _
  | own t' sz off n =>
    intro u h
    by_cases e : t' = t
    · subst e
      simp only [frzA,Nat.beq_refl,cond_true]
      rcases own_inv h with ⟨rfl,hu⟩ | ⟨b,cap,q,hu,hb,hn,hcp,_⟩
      · simp only [Nat.zero_mul,List.take_zero]
        rcases hu with rfl | ⟨b,o,rfl⟩
        · exact .rdnil _ _ _ _
        · exact .rd _ _ _ _ _ _ _ _ (fun _ => undef) (fun h => absurd rfl h) (Nat.le_refl _) (by simp [maxLen]) (fun i hi => absurd hi (by simp)) (fun i hi => absurd hi (by simp))
      · obtain ⟨hz,vs,h1,h2⟩ := hc b hb
        rw [hu]
        have key : ∀ i,i < ((cells.drop off).take (n * sz)).length → ∃ h' : off + i < cells.length,((cells.drop off).take (n * sz))[i]? = some cells[off + i] := fun i hi => by
          have h' : off + i < cells.length := by simp at hi; omega
          exact ⟨h',by rw [List.getElem?_take,if_pos (by simp at hi; omega),List.getElem?_drop,List.getElem?_eq_getElem h']⟩
        refine .rd _ _ _ _ _ b off cap (fun i => vs (off + i)) (fun _ => hz) hn hcp (fun i hi => ?_) (fun i hi => ?_)
        · obtain ⟨h',_⟩ := key i hi; exact h1 _ h'
        · obtain ⟨h',e⟩ := key i hi
          rw [List.getElem?_eq_getElem hi] at e
          rw [Option.some.inj e]; exact h2 _ h'
    · simp only [frzA,beq_ne e,cond_false]; exact h.mono (fun _ _ h => h) _ _ hZ (fun _ _ _ _ _ h => h) (fun _ _ _ h => h)
  | ownc t' sz n c =>
    intro u h
    by_cases e : t' = t
    · subst e
      simp only [frzA,Nat.beq_refl,cond_true]
      cases h with
      | ownc _ _ _ _ _ b _ q hb hn hcp _ _ =>
        obtain ⟨hz,vs,h1,h2⟩ := hc b hb
        have key : ∀ i,i < (cells.take (n * sz)).length → ∃ h' : i < cells.length,(cells.take (n * sz))[i]? = some cells[i] := fun i hi => by
          have h' : i < cells.length := by simp at hi; omega
          exact ⟨h',by rw [List.getElem?_take,if_pos (by simp at hi; omega),List.getElem?_eq_getElem h']⟩
        refine .rd _ _ _ _ _ b 0 c vs (fun _ => hz) hn hcp (fun i hi => ?_) (fun i hi => ?_)
        · obtain ⟨h',_⟩ := key i hi; rw [Nat.zero_add]; exact h1 _ h'
        · obtain ⟨h',e⟩ := key i hi
          rw [List.getElem?_eq_getElem hi] at e
          rw [Option.some.inj e]; exact h2 _ h'
    · simp only [frzA,beq_ne e,cond_false]; exact h.mono (fun _ _ h => h) _ _ hZ (fun _ _ _ _ _ h => h) (fun _ _ _ h => h)
  | ptr t' off =>
    intro u h
    by_cases e : t' = t
    · subst e
      simp only [frzA,Nat.beq_refl,cond_true]
      obtain ⟨b,hu,hb⟩ := ptr_inv h
      obtain ⟨hz,vs,h1,h2⟩ := hc b hb
      rw [hu]
      refine .rptr _ _ _ _ b off (fun i => vs (off + i)) (fun _ => hz) (fun i hi => h1 _ (by simp at hi; omega)) (fun i hi => ?_)
      have := h2 (off + i) (by simp at hi; omega)
      simpa using this
    · simp only [frzA,beq_ne e,cond_false]; exact h.mono (fun _ _ h => h) _ _ hZ (fun _ _ _ _ _ h => h) (fun _ _ _ h => h)
  | agg cs ih =>
    intro u h
    cases h with
    | agg _ _ _ vs hl h =>
      have hl' : vs.length = (frzL t cells cs).length := by rw [hl,frzL_eq]; simp
      simp only [frzA]
      refine .agg _ _ _ _ hl' fun i hi => ?_
      have hi' : i < cs.length := by rw [frzL_eq] at hi; simpa using hi
      obtain ⟨y,hy,hv⟩ := ih vs (fun i hi => ⟨_,List.getElem?_eq_getElem (hl ▸ hi),h i hi⟩) i hi'
      rw [List.getElem?_eq_getElem (hl' ▸ hi)] at hy
      have e : (frzL t cells cs)[i]'hi = frzA t cells (cs[i]'hi') := by simp [frzL_eq]
      rw [e,Option.some.inj hy]; exact hv
  | tup cs ih =>
    intro u h
    cases h with
    | tup _ _ _ vs hl h =>
      have hl' : vs.length = (frzL t cells cs).length := by rw [hl,frzL_eq]; simp
      simp only [frzA]
      refine .tup _ _ _ _ hl' fun i hi => ?_
      have hi' : i < cs.length := by rw [frzL_eq] at hi; simpa using hi
      obtain ⟨y,hy,hv⟩ := ih vs (fun i hi => ⟨_,List.getElem?_eq_getElem (hl ▸ hi),h i hi⟩) i hi'
      rw [List.getElem?_eq_getElem (hl' ▸ hi)] at hy
      have e : (frzL t cells cs)[i]'hi = frzA t cells (cs[i]'hi') := by simp [frzL_eq]
      rw [e,Option.some.inj hy]; exact hv
  | clo f a b iha ihb =>
    intro u h
    cases h with
    | clo _ _ _ _ _ us vs hu hl h1 h2 =>
      have hu' : us.length = (frzL t cells a).length := by rw [hu,frzL_eq]; simp
      have hl' : vs.length = (frzL t cells b).length := by rw [hl,frzL_eq]; simp
      simp only [frzA]
      refine .clo _ _ _ _ _ _ _ hu' hl' (fun i hi => ?_) (fun i hi => ?_)
      · have hi' : i < a.length := by rw [frzL_eq] at hi; simpa using hi
        obtain ⟨y,hy,hv⟩ := iha us (fun i hi => ⟨_,List.getElem?_eq_getElem (hu ▸ hi),h1 i hi⟩) i hi'
        rw [List.getElem?_eq_getElem (hu' ▸ hi)] at hy
        have e : (frzL t cells a)[i]'hi = frzA t cells (a[i]'hi') := by simp [frzL_eq]
        rw [e,Option.some.inj hy]; exact hv
      · have hi' : i < b.length := by rw [frzL_eq] at hi; simpa using hi
        obtain ⟨y,hy,hv⟩ := ihb vs (fun i hi => ⟨_,List.getElem?_eq_getElem (hl ▸ hi),h2 i hi⟩) i hi'
        rw [List.getElem?_eq_getElem (hl' ▸ hi)] at hy
        have e : (frzL t cells b)[i]'hi = frzA t cells (b[i]'hi') := by simp [frzL_eq]
        rw [e,Option.some.inj hy]; exact hv
  | gd c v ih => intro u h; cases h with | gd _ _ _ _ _ h hu => exact .gd _ _ _ _ _ (fun hc => ih (h hc)) hu
  | nil => rename_i us h i hi; exact absurd hi (by simp)
  | cons a l iha ihl =>
    rename_i us h i hi
    cases i with
    | zero =>
      obtain ⟨u,hu,hv⟩ := h 0 (by simp)
      exact ⟨u,hu,iha hv⟩
    | succ i =>
      cases us with
      | nil => obtain ⟨u,hu,_⟩ := h 0 (by simp); simp at hu
      | cons u0 us =>
        obtain ⟨u,hu,hv⟩ := ihl us (fun j hj => by
          obtain ⟨u,hu,hv⟩ := h (j + 1) (by simp; omega)
          exact ⟨u,by simpa using hu,by simpa using hv⟩) i (by simp at hi; omega)
        exact ⟨u,by simpa using hu,by simpa using hv⟩
theorem VC.freeze {C : Ctx} {s : St} {t : Nat} {E : TypeId} {cells : List AV} (hk : look t s.heap = some ⟨E,true,cells⟩) : VC C s ⟨frzE t cells s.env,frzH t cells s.heap⟩ := by
  intro ι a w r
  have hhas : ∀ x,has x (frzH t cells s.heap) → x ≠ t ∧ has x s.heap := by
    rintro x ⟨k,hk'⟩
    rw [look_frzH] at hk'
    split at hk'
    · cases hk'
    · rename_i hne
      cases hq : look x s.heap with
      | none => rw [hq] at hk'; cases hk'
      | some q => exact ⟨hne,q,hq⟩
  have hZ : ∀ β b,zone C s.heap ι w β b → zone C (frzH t cells s.heap) ι w β b := fun β b h => ⟨h.1,fun x hx => h.2.1 x (hhas x hx).2,h.2.2⟩
  have hc : ∀ b,ι t = some b → zone C (frzH t cells s.heap) ι w false b ∧ ∃ vs : Nat → Value,(∀ i,i < cells.length → w.cell? ⟨b,i,none⟩ = some (vs i)) ∧
      ∀ i (hi : i < cells.length),VR w (fun _ => zone C (frzH t cells s.heap) ι w false) (fun _ => none) (cells[i]'hi) (vs i) := by
    intro b hb
    obtain ⟨cur,h1,h2,h3⟩ := blk_inv r.core hk hb
    simp only [cond_true] at h1 h2 h3
    refine ⟨⟨(Array.getElem?_eq_some_iff.1 h1).1,fun x hx e => ?_,?_⟩,fun i => cur.getD i undef,fun i hi => ?_,fun i hi => ?_⟩
    · exact (hhas x hx).1 (r.core.inj x t b (hhas x hx).2 ⟨_,hk⟩ e hb)
    · rcases r.core.own t b ⟨_,hk⟩ hb with h | h
      · exact .inr (.inr (.inl h))
      · exact .inr (.inr (.inr h))
    · rw [cell_of_row w b i cur E (0,0) h1]
      have : i < cur.size := by omega
      simp [Array.getD_eq_getD_getElem?,this]
    · obtain ⟨u,hu,hv⟩ := h3 i hi
      have : cur.getD i undef = u := by simp [Array.getD_eq_getD_getElem?,hu]
      show VR w _ _ cells[i] (cur.getD i undef)
      rw [this]
      exact hv.mono (fun _ _ h => h) _ _ (fun _ b hb => hZ _ _ hb) (fun _ _ _ _ _ h => h) (fun _ _ _ h => h)
  refine ⟨ι,r.size,r.dfr,fun d v hl => ?_,⟨fun x k hl => ?_,fun x y b h1 h2 => r.core.inj x y b (hhas x h1).2 (hhas y h2).2,fun x b h => r.core.own x b (hhas x h).2,r.core.tr⟩,r.stab⟩
  · rw [look_frzE] at hl
    cases hq : look d s.env with
    | none => rw [hq] at hl; cases hl
    | some q =>
      rw [hq] at hl
      simp only [Option.map_some,Option.some.injEq] at hl
      subst hl
      exact frzA_VR hZ hc (r.env d q hq)
  · rw [look_frzH] at hl
    split at hl
    · cases hl
    · rename_i hne
      cases hq : look x s.heap with
      | none => rw [hq] at hl; cases hl
      | some q =>
        rw [hq] at hl
        simp only [Option.map_some,Option.some.injEq] at hl
        subst hl
        have h0 := r.core.blk x q hq
        unfold BlkR at h0 ⊢
        obtain ⟨qt,ql,qc⟩ := q
        cases hx : ι x with
        | none =>
          simp only [hx] at h0 ⊢
          obtain ⟨h1,h2⟩ := h0
          subst h2
          exact ⟨h1,rfl⟩
        | some b =>
          simp only [hx] at h0 ⊢
          obtain ⟨cur,h1,h2,h3⟩ := h0
          cases ql with
          | true =>
            refine ⟨cur,h1,h2,fun i hi => ?_⟩
            obtain ⟨y,hy,hv⟩ := h3 i hi
            exact ⟨y,hy,hv.mono (fun _ _ h => h) _ _ (fun _ b hb => hZ _ _ hb) (fun _ _ _ _ _ h => h) (fun _ _ _ h => h)⟩
          | false =>
            have hlen : (frzB t cells ⟨qt,false,qc⟩).cells.length = qc.length := by simp [frzB,frzL_eq]
            refine ⟨cur,h1,by rw [hlen]; exact h2,fun i hi => ?_⟩
            have hi' : i < qc.length := by rw [hlen] at hi; exact hi
            obtain ⟨y,hy,hv⟩ := h3 i hi'
            refine ⟨y,hy,?_⟩
            have e1 : (frzB t cells ⟨qt,false,qc⟩).cells[i]'hi = frzA t cells (qc[i]'hi') := by simp [frzB,frzL_eq]
            rw [e1]
            exact frzA_VR hZ hc hv
theorem VC.slot {C : Ctx} {s : St} {d : Nat} {v v' : AV} (hd : look d s.env = some v) (h : ∀ w Z ι u,VR w Z ι v u → VR w Z ι v' u) : VC C s ⟨(d,v') :: s.env,s.heap⟩ := by
  intro ι a w r
  refine ⟨ι,r.size,r.dfr,fun d' x hl => ?_,r.core,r.stab⟩
  by_cases e : d' = d
  · subst e; rw [look_cons_self] at hl; cases hl; exact h _ _ _ _ (r.env d' v hd)
  · rw [look_cons_ne e] at hl; exact r.env d' x hl
theorem nil_own {w : World} {Z : Zone} {ι : Tags} {t sz : Nat} {u : Value} (h : VR w Z ι (.sc (.slice none 0 0)) u) : VR w Z ι (.own t sz 0 0) u := by
  rw [sc_inv h]; exact .ownnil _ _ _ _ _
theorem nil_rd {w : World} {Z : Zone} {ι : Tags} {β : Bool} {u : Value} (h : VR w Z ι (.sc (.slice none 0 0)) u) : VR w Z ι (.rd β 0 []) u := by
  rw [sc_inv h]; exact .rdnil _ _ _ _
def resVar (a : Act) : ResultVar → Sem Value
  | .tmp t => pure (a.tmps.getD t undef)
  | .cell b t => do loadVar t (← asAddr (a.tmps.getD b undef))
theorem results_eq (fn : Func) (a : Act) : results fn a.tmps = (do
    let vs ← fn.results.mapM (resVar a)
    pure (if h : vs.size = 1 then vs[0] else .tuple vs)) := by
  unfold results
  congr 1
def RV (C : Ctx) (s : St) (x : ResultVar) (v : AV) : Prop := ∀ ι a w,Rel C s ι a w → ∃ u,(resVar a x).run C.P w = .ok u w ∧ VR w (zone C s.heap ι w) ι v u
theorem RV.tmp {C : Ctx} {s : St} {t : Nat} {v : AV} (h : look t s.env = some v) : RV C s (.tmp t) v := fun _ _ _ r => ⟨_,rfl,r.env t v h⟩
inductive RVL (C : Ctx) (s : St) : List ResultVar → List AV → Prop
  | nil : RVL C s [] []
  | cons {x : ResultVar} {v : AV} {xs : List ResultVar} {vs : List AV} (h : RV C s x v) (t : RVL C s xs vs) : RVL C s (x :: xs) (v :: vs)
theorem RVL.run {C : Ctx} {s : St} {ι : Tags} {a : Act} {w : World} (r : Rel C s ι a w) {xs : List ResultVar} {vs : List AV} (h : RVL C s xs vs) :
    ∃ us : List Value,(xs.mapM (resVar a)).run C.P w = .ok us w ∧ us.length = vs.length ∧
      ∀ i (hi : i < vs.length),∃ u,us[i]? = some u ∧ VR w (zone C s.heap ι w) ι (vs[i]'hi) u := by
  induction h with
  | nil => exact ⟨[],by simp,rfl,fun i hi => absurd hi (by simp)⟩
  | cons h t ih =>
    obtain ⟨us,h1,h2,h3⟩ := ih
    obtain ⟨u,hu,hv⟩ := h ι a w r
    refine ⟨u :: us,?_,by simp [h2],fun i hi => ?_⟩
    · rw [List.mapM_cons]
      simp only [Sem.run_bind,hu,Result.andThen_ok,h1,Sem.run_pure]
    · cases i with
      | zero => exact ⟨u,rfl,hv⟩
      | succ i =>
        obtain ⟨y,hy,hvr⟩ := h3 i (by simpa using hi)
        exact ⟨y,by simpa using hy,by simpa using hvr⟩
def tupR : List AV → AV
  | [v] => v
  | vs => .tup vs
theorem Res.of {C : Ctx} {fn : Func} {s : St} {vs : List AV} {r : AV} {xs : List ResultVar} (hfn : fn.results = xs.toArray) (h : RVL C s xs vs) (hd : C.dfr = [])
    (hr : r = tupR vs) : Res C fn s r s.heap := fun ι a w rel => by
  obtain ⟨us,h1,h2,h3⟩ := h.run rel
  have hmap : (fn.results.mapM (resVar a)).run C.P w = .ok us.toArray w := by
    rw [hfn,List.mapM_toArray]
    simp only [Sem.run_map,h1,Result.andThen_ok]
  have hres : (results fn a.tmps).run C.P w = .ok (if h : us.toArray.size = 1 then us.toArray[0] else .tuple us.toArray) w := by
    rw [results_eq]
    simp only [Sem.run_bind,hmap,Result.andThen_ok,Sem.run_pure]
  refine ⟨_,ι,hres,by rw [rel.dfr,hd],rel.core,?_,rel.stab⟩
  subst hr
  clear h hmap hres h1
  match vs,us,h2,h3 with
  | [],[],_,_ => exact .tup _ _ [] [] rfl (fun i hi => absurd hi (by simp))
  | [v],[u],_,h3 =>
    obtain ⟨y,hy,hv⟩ := h3 0 (by simp)
    simp at hy
    subst hy
    simpa [tupR] using hv
  | v1 :: v2 :: vs,u1 :: u2 :: us,h2,h3 =>
    have : ¬ ((u1 :: u2 :: us).toArray.size = 1) := by simp
    rw [dif_neg this]
    refine .tup _ _ _ (u1 :: u2 :: us) h2 fun i hi => ?_
    obtain ⟨y,hy,hv⟩ := h3 i hi
    rw [List.getElem?_eq_getElem (h2 ▸ hi)] at hy
    rw [Option.some.inj hy]; exact hv
theorem Res.vc {C : Ctx} {fn : Func} {s s' : St} {r : AV} {H : List (Nat × Blk)} (h : VC C s s') (k : Res C fn s' r H) : Res C fn s r H := fun ι a w rel =>
  let ⟨ι',rel'⟩ := h ι a w rel; k ι' a w rel'
end Go.AB
namespace Go.AB
open Go
def OStep (C : Ctx) (A : Array Oper) (o : Oper) (s s' : St) : Prop :=
  ∀ ι a w (K : Act → World → Prop) (Q : Exit → Act → World → Prop),Rel C s ι a w → (∀ ι' a' w',Rel C s' ι' a' w' → K a' w') →
    if Region.wanted o (yielded A a.tmps) then o.wpIn (Fc C.r) 0 C.P a w K Q else (∀ f,o.about C.P w a.eval = some f → (Fc C.r).fn f) ∧ K (a.put o.dst undef) w
theorem OStep.plain {C : Ctx} {A : Array Oper} {d : Option Nat} {op : Op} {ty : TypeId} {p : String} {e : Array Edge} {s s' : St} (h : AStep C ⟨d,op,ty,p,e,none⟩ s s') :
    OStep C A ⟨d,op,ty,p,e,none⟩ s s' := fun ι a w K Q r hk => by
  simp only [Region.wanted,if_true]
  exact h ι a w K Q r hk
theorem OStep.guardC {C : Ctx} {A : Array Oper} {d : Nat} {op : Op} {ty : TypeId} {p : String} {e : Array Edge} {j : Nat} {want c : Bool} {s : St} {v : AV}
    (hw : ∀ ι a w,Rel C s ι a w → (yielded A a.tmps j == some want) = c) (hd : d < C.N)
    (h : c = true → AStep C ⟨some d,op,ty,p,e,some (j,want)⟩ s (s.put d v)) :
    OStep C A ⟨some d,op,ty,p,e,some (j,want)⟩ s (s.put d (.gd c v)) := fun ι a w K Q r hk => by
  have hw : Region.wanted ⟨some d,op,ty,p,e,some (j,want)⟩ (yielded A a.tmps) = c := hw ι a w r
  rw [hw]
  by_cases hg : c = true
  · rw [if_pos hg]
    refine h hg ι a w K Q r fun ι' a' w' r' => hk ι' a' w' ?_
    refine ⟨r'.size,r'.dfr,?_,r'.core,r'.stab⟩
    intro d' v' hl
    by_cases ed : d' = d
    · subst ed
      simp only [St.put,look_cons_self] at hl
      cases hl
      exact .gd _ _ _ _ _ (fun _ => r'.env d' v (by simp [St.put,look_cons_self])) (fun hf => by rw [hg] at hf; cases hf)
    · simp only [St.put,look_cons_ne ed] at hl
      exact r'.env d' v' (by simpa [St.put,look_cons_ne ed] using hl)
  · rw [if_neg hg]
    exact ⟨fun _ _ => trivial,hk ι _ w (r.put hd (.gd _ _ _ _ _ (fun h => absurd h hg) (fun _ => rfl)))⟩
theorem Rel.drew {C : Ctx} {s : St} {ι : Tags} {a : Act} {w : World} (r : Rel C s ι a w) : Rel C s ι a { w with drawn := w.drawn + 1 } := by
  have hZ : zone C s.heap ι { w with drawn := w.drawn + 1 } = zone C s.heap ι w := rfl
  have key : ∀ Z ι v u,VR w Z ι v u → VR { w with drawn := w.drawn + 1 } Z ι v u := fun Z ι v u h => VR.mono (w := w) (w' := { w with drawn := w.drawn + 1 }) (fun _ _ h => h) h _ _ (fun _ _ h => h) (fun _ _ _ _ _ h => h) (fun _ _ _ h => h)
  refine ⟨r.size,r.dfr,fun d v hl => key _ _ _ _ (r.env d v hl),⟨fun t k hl => ?_,r.core.inj,r.core.own,r.core.tr.os,r.core.tr.tape,r.core.tr.output,r.core.tr.size,r.core.tr.block,r.core.tr.bsz⟩,r.stab⟩
  have h0 := r.core.blk t k hl
  unfold BlkR at h0 ⊢
  cases hx : ι t with
  | none => simp only [hx] at h0 ⊢; exact h0
  | some b =>
    simp only [hx] at h0 ⊢
    obtain ⟨cur,h1,h2,h3⟩ := h0
    exact ⟨cur,h1,h2,fun i hi => let ⟨u,hu,hv⟩ := h3 i hi; ⟨u,hu,key _ _ _ _ hv⟩⟩
def Need : List (Nat × AV) → List (Nat × AV) → Prop
  | [],_ => True
  | (d,v) :: l,E => look d E = some v ∧ Need l E
def freeOf (T : List Nat) (v : AV) : Bool := T.all fun t => AV.free t v
def DStep (C : Ctx) (A : Array Oper) (o : Oper) (need : List (Nat × AV)) (H : List (Nat × Blk)) (dv : Option (Nat × AV)) (T : List Nat) (H' : List (Nat × Blk)) : Prop :=
  ∀ E,Need need E → ∃ E',OStep C A o ⟨E,H⟩ ⟨E',H'⟩ ∧ (∀ d v,dv = some (d,v) → look d E' = some v) ∧
    ∀ x v,(∀ d v',dv = some (d,v') → x ≠ d) → look x E = some v → freeOf T v = true → look x E' = some v
section
variable {C : Ctx} {A : Array Oper} {op : Op} {ty : TypeId} {p : String} {e : Array Edge} {need : List (Nat × AV)} {H H' : List (Nat × Blk)}
theorem DStep.put {d : Nat} {v : AV} (h : ∀ E,Need need E → AStep C ⟨some d,op,ty,p,e,none⟩ ⟨E,H⟩ (St.put ⟨E,H⟩ d v)) : DStep C A ⟨some d,op,ty,p,e,none⟩ need H (some (d,v)) [] H :=
  fun E hE => ⟨_,OStep.plain (h E hE),fun d' v' hd => by cases hd; simp [look_cons_self],fun x v' hx hl _ => by simp [look_cons_ne (hx d v rfl),hl]⟩
theorem DStep.gput {d : Nat} {j dj : Nat} {b want : Bool} {v : AV} (hj : (A[j]?).bind (·.dst) = some dj) (hdj : dj < C.N) (hd : d < C.N) (hb : ∀ E,Need need E → look dj E = some (.sc (.bool b)))
    (h : (bif want then b else !b) = true → ∀ E,Need need E → AStep C ⟨some d,op,ty,p,e,some (j,want)⟩ ⟨E,H⟩ (St.put ⟨E,H⟩ d v)) :
    DStep C A ⟨some d,op,ty,p,e,some (j,want)⟩ need H (some (d,.gd (bif want then b else !b) v)) [] H :=
  fun E hE => ⟨_,OStep.guardC (fun _ _ _ r => wanted1 r hj hdj (hb E hE)) hd (fun hg => h hg E hE),fun d' v' hd => by cases hd; simp [look_cons_self],fun x v' hx hl _ => by simp [look_cons_ne (hx d _ rfl),hl]⟩
theorem DStep.gput2 {d : Nat} {j dj : Nat} {a0 b want : Bool} {v : AV} (hj : (A[j]?).bind (·.dst) = some dj) (hdj : dj < C.N) (hd : d < C.N) (hb : ∀ E,Need need E → look dj E = some (.gd a0 (.sc (.bool b))))
    (h : (a0 && (bif want then b else !b)) = true → ∀ E,Need need E → AStep C ⟨some d,op,ty,p,e,some (j,want)⟩ ⟨E,H⟩ (St.put ⟨E,H⟩ d v)) :
    DStep C A ⟨some d,op,ty,p,e,some (j,want)⟩ need H (some (d,.gd (a0 && (bif want then b else !b)) v)) [] H :=
  fun E hE => ⟨_,OStep.guardC (fun _ _ _ r => wanted2 r hj hdj (hb E hE)) hd (fun hg => h hg E hE),fun d' v' hd => by cases hd; simp [look_cons_self],fun x v' hx hl _ => by simp [look_cons_ne (hx d _ rfl),hl]⟩
theorem DStep.new {d t : Nat} {k : Blk} {v : AV} (h : ∀ E,Need need E → AStep C ⟨some d,op,ty,p,e,none⟩ ⟨E,H⟩ (St.newP ⟨E,H⟩ d t k v)) (hH : H' = (t,k) :: purgeH t H) :
    DStep C A ⟨some d,op,ty,p,e,none⟩ need H (some (d,v)) [t] H' := fun E hE => by
  subst hH
  refine ⟨_,OStep.plain (h E hE),fun d' v' hd => ?_,fun x v' hx hl hf => ?_⟩
  · cases hd; simp [look_cons_self]
  · have hf' : AV.free t v' = true := by simpa [freeOf] using hf
    rw [look_cons_ne (hx d v rfl),look_purgeE,hl]
    simp [purgeA,hf']
theorem DStep.called {d : Nat} {σ : Nat → Nat} {K : List Nat} {Hc Hc' : List (Nat × Blk)} {r : AV} {v : AV} {T : List Nat} (h : ∀ E,Need need E → AStep C ⟨some d,op,ty,p,e,none⟩ ⟨E,H⟩ (St.called ⟨E,H⟩ d σ K Hc r Hc'))
    (hT : T = turned σ K Hc Hc') (hv : v = r.ren σ) (hH : H' = renH σ Hc' ++ purgeHL T (minusH ((dom Hc).map σ) H)) :
    DStep C A ⟨some d,op,ty,p,e,none⟩ need H (some (d,v)) T H' := fun E hE => by
  subst hH hv hT
  refine ⟨_,OStep.plain (h E hE),fun d' v' hd => ?_,fun x v' hx hl hf => ?_⟩
  · cases hd; simp [look_cons_self]
  · rw [look_cons_ne (hx d _ rfl),purgeEL,look_map,hl]
    simp only [Option.map_some,Option.some.injEq,purgeAL]
    unfold freeOf at hf
    rw [hf]; rfl
theorem DStep.store {t : Nat} {k : Blk} (h : ∀ E,Need need E → AStep C ⟨none,op,ty,p,e,none⟩ ⟨E,H⟩ ⟨E,updH t k H⟩) (hH : H' = updH t k H) :
    DStep C A ⟨none,op,ty,p,e,none⟩ need H none [] H' := fun E hE => by
  subst hH
  exact ⟨_,OStep.plain (h E hE),(fun _ _ h => by cases h),fun x v' _ hl _ => hl⟩
end
structure DFact where
  slot : Nat
  v : AV
  born : Option Nat
  dies : List Nat
structure DOp where
  need : List Nat
  lo : Nat
  hi : Nat
  dv : Option (Nat × AV)
  T : List Nat
def preds (o : Oper) : List Nat := (o.after.toList.filter (Region.binds .any)).map (·.on)
def pre (R : List (List Nat)) (i j : Nat) : Bool := anyT (R.getD i []) j
def rcheck (R : List (List Nat)) : Nat → List Oper → Bool
  | _,[] => true
  | i,o :: os => (R.getD i []).all (fun j => anyT (preds o) j || (preds o).any fun m => pre R m j) && rcheck R (i + 1) os
theorem rcheck_at {R : List (List Nat)} : ∀ {os : List Oper} {i : Nat},rcheck R i os = true → ∀ j o,os[j]? = some o → (R.getD (i + j) []).all (fun k => anyT (preds o) k || (preds o).any fun m => pre R m k) = true
  | [],_,_,j,o,h => by simp at h
  | o' :: os,i,h,j,o,ho => by
    simp only [rcheck,Bool.and_eq_true] at h
    cases j with
    | zero => simp at ho; subst ho; exact h.1
    | succ j =>
      simp at ho
      have := rcheck_at h.2 j o ho
      rw [show i + 1 + j = i + (j + 1) from by omega] at this
      exact this
theorem pre_listed {l : List Oper} {R : List (List Nat)} {L : Nat → Bool} (hR : rcheck R 0 l = true) (hlt : ∀ i o,l[i]? = some o → ∀ j,j ∈ preds o → j < i) (hL : ∀ i o,l[i]? = some o → L i = true → ∀ j,j ∈ preds o → L j = true) :
    ∀ i,i < l.length → (∀ o,l[i]? = some o → ∀ j,j ∈ preds o → L j = true) → ∀ j,pre R i j = true → L j = true := by
  intro i
  induction i using Nat.strongRecOn with
  | _ i ih =>
    intro hi hp j hj
    have ho : l[i]? = some l[i] := List.getElem?_eq_getElem hi
    have h1 := rcheck_at hR i _ ho
    rw [Nat.zero_add,List.all_eq_true] at h1
    have h2 := h1 j (anyT_iff.1 hj)
    rw [Bool.or_eq_true] at h2
    rcases h2 with h2 | h2
    · exact hp _ ho j (anyT_iff.1 h2)
    · rw [List.any_eq_true] at h2
      obtain ⟨m,hm,hmj⟩ := h2
      have hmi := hlt i _ ho m hm
      exact ih m hmi (by omega) (fun o hom j' hj' => hL m o hom (hp _ ho m hm) j' hj') j hmj
def needOf (F : List DFact) (ns : List Nat) : List (Nat × AV) := ns.filterMap fun n => (F[n]?).map fun f => (f.slot,f.v)
def dcheck1 (R : List (List Nat)) (F : List DFact) (chain : List Nat) (i : Nat) (o : Oper) (x : DOp) : Bool :=
  (preds o).all (fun j => Nat.blt j i) &&
  x.need.all (fun n => match F[n]? with
    | none => false
    | some f => (match f.born with | none => true | some j => pre R i j) && f.dies.all (fun k => Nat.beq k i || pre R k i)) &&
  F.all (fun f => anyT f.dies i || (match f.born with | some j => Nat.beq j i || pre R j i | none => false) ||
    ((match x.dv with | some (d,_) => !(Nat.beq f.slot d) | none => true) && freeOf x.T f.v)) &&
  (Nat.beq x.lo 0 || (match chain[x.lo - 1]? with | some c => pre R i c | none => false)) &&
  Nat.ble x.hi chain.length &&
  (Nat.beq x.hi chain.length || (match chain[x.hi]? with | some c => Nat.beq c i || pre R c i | none => false))
def dcheck (R : List (List Nat)) (F : List DFact) (chain : List Nat) : Nat → List Oper → List DOp → Bool
  | _,[],[] => true
  | i,o :: os,x :: xs => dcheck1 R F chain i o x && dcheck R F chain (i + 1) os xs
  | _,_,_ => false
theorem dcheck_at {l : List (List Nat)} {F : List DFact} {chain : List Nat} : ∀ {os : List Oper} {xs : List DOp} {i : Nat},dcheck l F chain i os xs = true → xs.length = os.length ∧
    ∀ j o x,os[j]? = some o → xs[j]? = some x → dcheck1 l F chain (i + j) o x = true
  | [],[],i,_ => ⟨rfl,fun j o x h => by simp at h⟩
  | [],_ :: _,i,h => by simp [dcheck] at h
  | _ :: _,[],i,h => by simp [dcheck] at h
  | o :: os,x :: xs,i,h => by
    simp only [dcheck,Bool.and_eq_true] at h
    obtain ⟨h1,h2⟩ := dcheck_at h.2
    refine ⟨by simp [h1],fun j o' x' ho hx => ?_⟩
    cases j with
    | zero => simp at ho hx; subst ho hx; exact h.1
    | succ j =>
      simp at ho hx
      have := h2 j o' x' ho hx
      rw [show i + 1 + j = i + (j + 1) from by omega] at this
      exact this
def BornOk (D : List DOp) : List DFact → Prop
  | [] => True
  | f :: F => (match f.born with | none => True | some j => ∃ x,D[j]? = some x ∧ x.dv = some (f.slot,f.v)) ∧ BornOk D F
def BaseOk (E : List (Nat × AV)) : List DFact → Prop
  | [] => True
  | f :: F => (match f.born with | none => look f.slot E = some f.v | some _ => True) ∧ BaseOk E F
theorem BornOk.at {D : List DOp} {f : DFact} : ∀ {F : List DFact},BornOk D F → f ∈ F → ∀ j,f.born = some j → ∃ x,D[j]? = some x ∧ x.dv = some (f.slot,f.v)
  | [],_,hf,_,_ => by cases hf
  | g :: F,h,hf,j,hj => by
    rcases List.mem_cons.1 hf with rfl | hf
    · have := h.1; rw [hj] at this; exact this
    · exact h.2.at hf j hj
theorem BaseOk.at {E : List (Nat × AV)} {f : DFact} : ∀ {F : List DFact},BaseOk E F → f ∈ F → f.born = none → look f.slot E = some f.v
  | [],_,hf,_ => by cases hf
  | g :: F,h,hf,hj => by
    rcases List.mem_cons.1 hf with rfl | hf
    · have := h.1; rw [hj] at this; exact this
    · exact h.2.at hf hj
inductive AllL {α : Type} (P : α → Prop) : List α → Prop
  | n : AllL P []
  | c {a : α} {l : List α} (h : P a) (t : AllL P l) : AllL P (a :: l)
theorem AllL.mem {α : Type} {P : α → Prop} {l : List α} (h : AllL P l) {a : α} (ha : a ∈ l) : P a := by
  induction h with
  | n => cases ha
  | c h t ih =>
    rcases List.mem_cons.1 ha with rfl | ha
    · exact h
    · exact ih ha
inductive DSteps (C : Ctx) (A : Array Oper) (F : List DFact) (chain : List Nat) (Hs : List (List (Nat × Blk))) : Nat → List Oper → List DOp → Prop
  | nil (i : Nat) : DSteps C A F chain Hs i [] []
  | pure {i : Nat} {o : Oper} {os : List Oper} {x : DOp} {xs : List DOp} (hc : chain.findIdx? (Nat.beq i) = none) (h : ∀ H,DStep C A o (needOf F x.need) H x.dv x.T H)
      (t : DSteps C A F chain Hs (i + 1) os xs) : DSteps C A F chain Hs i (o :: os) (x :: xs)
  | read {i : Nat} {o : Oper} {os : List Oper} {x : DOp} {xs : List DOp} (hc : chain.findIdx? (Nat.beq i) = none)
      (h : AllL (fun H => DStep C A o (needOf F x.need) H x.dv x.T H) ((Hs.drop x.lo).take (x.hi + 1 - x.lo))) (t : DSteps C A F chain Hs (i + 1) os xs) : DSteps C A F chain Hs i (o :: os) (x :: xs)
  | turn {i q : Nat} {o : Oper} {os : List Oper} {x : DOp} {xs : List DOp} {H H' : List (Nat × Blk)} (hc : chain.findIdx? (Nat.beq i) = some q) (hl : x.lo = q) (hh : x.hi = q) (hH : Hs[q]? = some H) (hH' : Hs[q + 1]? = some H')
      (h : DStep C A o (needOf F x.need) H x.dv x.T H') (t : DSteps C A F chain Hs (i + 1) os xs) : DSteps C A F chain Hs i (o :: os) (x :: xs)
def stage (chain : List Nat) (L : Nat → Bool) (c : Nat) : Prop := c ≤ chain.length ∧ (∀ q,q < c → ∀ k,chain[q]? = some k → L k = true) ∧ ∀ q,c ≤ q → ∀ k,chain[q]? = some k → L k = false
theorem DSteps.at {C : Ctx} {A : Array Oper} {F : List DFact} {chain : List Nat} {Hs : List (List (Nat × Blk))} : ∀ {os : List Oper} {xs : List DOp} {i : Nat},DSteps C A F chain Hs i os xs →
    ∀ j o x,os[j]? = some o → xs[j]? = some x → ∀ c H,x.lo ≤ c → c ≤ x.hi → Hs[c]? = some H →
      (chain.findIdx? (Nat.beq (i + j)) = none ∧ DStep C A o (needOf F x.need) H x.dv x.T H) ∨
      (chain.findIdx? (Nat.beq (i + j)) = some c ∧ ∃ H',Hs[c + 1]? = some H' ∧ DStep C A o (needOf F x.need) H x.dv x.T H')
  | _,_,_,.nil i,j,o,x,ho,_,_,_,_,_,_ => by simp at ho
  | _,_,i,.pure hc h t,j,o,x,ho,hx,c,H,h1,h2,hH => by
    cases j with
    | zero => simp at ho hx; subst ho hx; exact .inl ⟨hc,h H⟩
    | succ j =>
      simp at ho hx
      have := t.at j o x ho hx c H h1 h2 hH
      rw [show i + 1 + j = i + (j + 1) from by omega] at this
      exact this
  | _,_,i,.read hc h t,j,o,x,ho,hx,c,H,h1,h2,hH => by
    cases j with
    | zero =>
      simp at ho hx; subst ho hx
      refine .inl ⟨hc,h.mem ?_⟩
      rename_i x0 _
      rw [List.mem_iff_getElem?]
      refine ⟨c - x0.lo,?_⟩
      rw [List.getElem?_take,if_pos (by omega),List.getElem?_drop,show x0.lo + (c - x0.lo) = c from by omega]
      exact hH
    | succ j =>
      simp at ho hx
      have := t.at j o x ho hx c H h1 h2 hH
      rw [show i + 1 + j = i + (j + 1) from by omega] at this
      exact this
  | _,_,i,.turn hc hl hh hH0 hH1 h t,j,o,x,ho,hx,c,H,h1,h2,hH => by
    cases j with
    | zero =>
      simp at ho hx; subst ho hx
      rename_i q _ _ _ _ H0 H1
      have : c = q := by omega
      subst this
      rw [hH0] at hH; cases hH
      exact .inr ⟨hc,_,hH1,h⟩
    | succ j =>
      simp at ho hx
      have := t.at j o x ho hx c H h1 h2 hH
      rw [show i + 1 + j = i + (j + 1) from by omega] at this
      exact this
def DInv (F : List DFact) (L : Nat → Bool) (E : List (Nat × AV)) : Prop := ∀ f,f ∈ F → (∀ j,f.born = some j → L j = true) → (∀ k,k ∈ f.dies → L k = false) → look f.slot E = some f.v
theorem needOf_Need {F : List DFact} {E : List (Nat × AV)} : ∀ {ns : List Nat},(∀ n,n ∈ ns → ∀ f,F[n]? = some f → look f.slot E = some f.v) → Need (needOf F ns) E
  | [],_ => trivial
  | n :: ns,h => by
    have ih := needOf_Need (F := F) (E := E) (ns := ns) fun m hm => h m (by simp [hm])
    unfold needOf at ih ⊢
    cases hf : F[n]? with
    | none => simp only [List.filterMap_cons,hf,Option.map_none]; exact ih
    | some f => simp only [List.filterMap_cons,hf,Option.map_some]; exact ⟨h n (by simp) f hf,ih⟩
theorem AWP.drawAny {C : Ctx} {Q : Exit → St → Prop} {s s' : St} {l : List Oper} (F : List DFact) (D : List DOp) (chain : List Nat) (Hs : List (List (Nat × Blk)))
    (R : List (List Nat)) (hR : rcheck R 0 l = true) (hchk : dcheck R F chain 0 l D = true) (hborn : BornOk D F) (hbase : BaseOk s.env F) (h0 : Hs[0]? = some s.heap) (hnd : chain.Nodup) (hch : ∀ c,c ∈ chain → c < l.length)
    (hsteps : DSteps C l.toArray F chain Hs 0 l D) (hE : ∀ E,DInv F (fun i => decide (i < l.length)) E → SubE s'.env E) (hH : Hs[chain.length]? = some s'.heap) (hq : Q .normal s') : ∀ ι a w,Rel C s ι a w →
    wpAnyIn (Fc C.r) 0 C.P .any l.toArray (fun e a' w' => ∃ s' ι',Rel C s' ι' a' w' ∧ Q e s') l.length (Array.replicate l.length false) a w := by
  intro ι a w r
  obtain ⟨hDl,hD⟩ := dcheck_at hchk
  have hltp : ∀ i o,l[i]? = some o → ∀ j,j ∈ preds o → j < i := by
    intro i o ho j hj
    have hi : i < l.length := (List.getElem?_eq_some_iff.1 ho).1
    obtain ⟨x,hx⟩ : ∃ x,D[i]? = some x := ⟨D[i]'(by omega),List.getElem?_eq_getElem (by omega)⟩
    have hc1 := hD i o x ho hx
    simp only [Nat.zero_add,dcheck1,Bool.and_eq_true] at hc1
    have hp := hc1.1.1.1.1.1
    rw [List.all_eq_true] at hp
    have := hp j hj
    rwa [Nat.blt_eq] at this
  -- the invariant
  have key : ∀ (fuel : Nat) (listed : Array Bool) (ι : Tags) (a : Act) (w : World) (E : List (Nat × AV)) (c : Nat) (H : List (Nat × Blk)),
      listed.size = l.length → (∀ i o,l[i]? = some o → listed.getD i false = true → ∀ j,j ∈ preds o → listed.getD j false = true) →
      ((List.range l.length).filter fun i => !listed.getD i false).length ≤ fuel → DInv F (fun i => listed.getD i false) E → stage chain (fun i => listed.getD i false) c → Hs[c]? = some H →
      Rel C ⟨E,H⟩ ι a w → wpAnyIn (Fc C.r) 0 C.P .any l.toArray (fun e a' w' => ∃ s' ι',Rel C s' ι' a' w' ∧ Q e s') fuel listed a w := by
    intro fuel
    -- if nothing is ready all is done
    have fin : ∀ (listed : Array Bool) (ι : Tags) (a : Act) (w : World) (E : List (Nat × AV)) (c : Nat) (H : List (Nat × Blk)),listed.size = l.length → DInv F (fun i => listed.getD i false) E →
        stage chain (fun i => listed.getD i false) c → Hs[c]? = some H → Rel C ⟨E,H⟩ ι a w → Region.ready .any l.toArray listed = [] → ∃ s' ι',Rel C s' ι' a w ∧ Q .normal s' := by
      intro listed ι a w E c H hls hI hst hHc hr hready
      have hall : ∀ i,i < l.length → listed.getD i false = true := by
        intro i
        induction i using Nat.strongRecOn with
        | _ i ih =>
          intro hi
          apply Classical.byContradiction
          intro hn
          obtain ⟨o,ho⟩ : ∃ o,l[i]? = some o := ⟨l[i],List.getElem?_eq_getElem hi⟩
          obtain ⟨x,hx⟩ : ∃ x,D[i]? = some x := ⟨D[i]'(by omega),List.getElem?_eq_getElem (by omega)⟩
          have hc1 := hD i o x ho hx
          simp only [Nat.zero_add,dcheck1,Bool.and_eq_true] at hc1
          have hp := hc1.1.1.1.1.1
          rw [List.all_eq_true] at hp
          have hmem : i ∈ Region.ready .any l.toArray listed := by
            unfold Region.ready
            refine List.mem_filter.2 ⟨by simpa using hi,?_⟩
            have e1 : listed.getD i true = false := by
              have hi' : i < listed.size := by omega
              simp only [Array.getD_eq_getD_getElem?,Array.getElem?_eq_getElem hi',Option.getD_some] at hn ⊢
              simpa using hn
            simp only [e1,Bool.not_false,Bool.true_and,List.getElem?_toArray,ho,Option.map_some,Option.getD_some]
            rw [Array.all_eq_true']
            intro ed hed
            cases hb : Region.binds .any ed with
            | false => rfl
            | true =>
              have hm : ed.on ∈ preds o := by
                unfold preds
                exact List.mem_map.2 ⟨ed,List.mem_filter.2 ⟨Array.mem_toList_iff.2 hed,hb⟩,rfl⟩
              have hlt := hp _ hm
              rw [Nat.blt_eq] at hlt
              simp [ih _ hlt (by omega)]
          rw [hready] at hmem; cases hmem
      have hI' : DInv F (fun i => decide (i < l.length)) E := by
        intro f hf h1 h2
        refine hI f hf (fun j hj => hall j (by simpa using h1 j hj)) (fun k hk => ?_)
        have := h2 k hk
        simp only [decide_eq_false_iff_not,Nat.not_lt] at this
        have hk' : listed.size ≤ k := by omega
        simp [Array.getD_eq_getD_getElem?,Array.getElem?_eq_none hk']
      have hc : c = chain.length := by
        obtain ⟨h1,h2,h3⟩ := hst
        rcases Nat.lt_or_ge c chain.length with h | h
        · have h4 : listed.getD chain[c] false = false := h3 c (Nat.le_refl _) chain[c] (List.getElem?_eq_getElem h)
          rw [hall _ (hch _ (List.getElem_mem h))] at h4
          cases h4
        · omega
      subst hc
      rw [hH] at hHc
      cases hHc
      exact ⟨s',ι,hr.weak (s' := s') (fun _ => Iff.rfl) (fun d v hl => .inr ((hE E hI').look hl)) (fun t k hk => ⟨k,hk,rfl,rfl,.inl rfl⟩),hq⟩
    have readyAt : ∀ (listed : Array Bool) i,i ∈ Region.ready .any l.toArray listed → i < l.length ∧ listed.getD i true = false ∧ ∀ o,l[i]? = some o → ∀ j,j ∈ preds o → listed.getD j false = true := by
      intro listed i hi
      obtain ⟨h1,h2⟩ := List.mem_filter.1 hi
      have hlt : i < l.length := by simpa using h1
      simp only [Bool.and_eq_true,Bool.not_eq_true'] at h2
      refine ⟨hlt,h2.1,fun o ho j hj => ?_⟩
      have h3 := h2.2
      simp only [List.getElem?_toArray,ho,Option.map_some,Option.getD_some] at h3
      rw [Array.all_eq_true'] at h3
      obtain ⟨ed,hed,rfl⟩ := List.mem_map.1 hj
      obtain ⟨q1,q2⟩ := List.mem_filter.1 hed
      have h4 := h3 ed (Array.mem_toList_iff.1 q1)
      simpa [q2] using h4
    induction fuel with
    | zero =>
      intro listed ι a w E c H hls hdc hn hI hst hHc hr
      have hready : Region.ready .any l.toArray listed = [] := by
        apply Classical.byContradiction
        intro hne
        obtain ⟨i,hi⟩ := List.exists_mem_of_ne_nil _ hne
        obtain ⟨h1,h2,_⟩ := readyAt listed i hi
        have hf : listed.getD i false = false := by
          have hi' : i < listed.size := by omega
          simp only [Array.getD_eq_getD_getElem?,Array.getElem?_eq_getElem hi',Option.getD_some] at h2 ⊢
          exact h2
        have : i ∈ (List.range l.length).filter fun i => !listed.getD i false := List.mem_filter.2 ⟨by simpa using h1,by simp [hf]⟩
        have := List.length_pos_of_mem this
        omega
      exact ⟨hready,fin listed ι a w E c H hls hI hst hHc hr hready⟩
    | succ fuel ih =>
      intro listed ι a w E c H hls hdc hn hI hst hHc hr
      refine ⟨fun hready => fin listed ι a w E c H hls hI hst hHc hr hready,fun i hi => ?_⟩
      obtain ⟨hlt,h2,h3⟩ := readyAt listed i hi
      have hi' : i < listed.size := by omega
      have hf : listed.getD i false = false := by
        simp only [Array.getD_eq_getD_getElem?,Array.getElem?_eq_getElem hi',Option.getD_some] at h2 ⊢
        exact h2
      obtain ⟨o,ho⟩ : ∃ o,l[i]? = some o := ⟨l[i],List.getElem?_eq_getElem hlt⟩
      obtain ⟨x,hx⟩ : ∃ x,D[i]? = some x := ⟨D[i]'(by omega),List.getElem?_eq_getElem (by omega)⟩
      have hc1 := hD i o x ho hx
      simp only [Nat.zero_add,dcheck1,Bool.and_eq_true] at hc1
      obtain ⟨⟨⟨⟨⟨p1,p2⟩,p3⟩,p4⟩,p5⟩,p6⟩ := hc1
      have hpre0 := h3 o ho
      have hpre : ∀ j,pre R i j = true → listed.getD j false = true := pre_listed (L := fun j => listed.getD j false) hR hltp hdc i hlt h3
      -- an operation that waits for this one has not been
      have hbef : ∀ k,pre R k i = true → listed.getD k false = false := by
        intro k hk
        apply Classical.byContradiction
        intro hn
        have hn' : listed.getD k false = true := by simpa using hn
        have hkl : k < l.length := by
          apply Classical.byContradiction
          intro hge
          have : listed.size ≤ k := by omega
          rw [Array.getD_eq_getD_getElem?,Array.getElem?_eq_none this] at hn'
          cases hn'
        have := pre_listed (L := fun j => listed.getD j false) hR hltp hdc k hkl (fun ok hok j hj => hdc k ok hok hn' j hj) i hk
        rw [hf] at this; cases this
      obtain ⟨s1,s2,s3⟩ := hst
      have hlo : x.lo ≤ c := by
        rcases Nat.eq_zero_or_pos x.lo with h | h
        · omega
        · rcases Nat.lt_or_ge c x.lo with hcl | hcl
          · simp only [Bool.or_eq_true,Nat.beq_eq] at p4
            rcases p4 with h0 | h0
            · omega
            · cases hq : chain[x.lo - 1]? with
              | none => rw [hq] at h0; cases h0
              | some k =>
                rw [hq] at h0
                have h5 : listed.getD k false = false := s3 (x.lo - 1) (by omega) k hq
                rw [hpre k h0] at h5; cases h5
          · exact hcl
      have hhi : c ≤ x.hi := by
        rw [Nat.ble_eq] at p5
        rcases Nat.lt_or_ge x.hi c with hcl | hcl
        · simp only [Bool.or_eq_true,Nat.beq_eq] at p6
          rcases p6 with h0 | h0
          · omega
          · cases hq : chain[x.hi]? with
            | none => rw [hq] at h0; cases h0
            | some k =>
              rw [hq] at h0
              have h5 : listed.getD k false = true := s2 x.hi hcl k hq
              simp only [Bool.or_eq_true,Nat.beq_eq] at h0
              rcases h0 with h0 | h0
              · subst h0; rw [hf] at h5; cases h5
              · rw [hbef k h0] at h5; cases h5
        · exact hcl
      have hneed : Need (needOf F x.need) E := by
        refine needOf_Need fun n hn f hfn => ?_
        rw [List.all_eq_true] at p2
        have h5 := p2 n hn
        rw [hfn] at h5
        simp only [Bool.and_eq_true] at h5
        refine hI f (List.mem_of_getElem? hfn) (fun j hj => ?_) (fun k hk => ?_)
        · rw [hj] at h5; exact hpre j h5.1
        · have h6 := h5.2
          rw [List.all_eq_true] at h6
          have h7 := h6 k hk
          simp only [Bool.or_eq_true,Nat.beq_eq] at h7
          rcases h7 with h7 | h7
          · subst h7; exact hf
          · exact hbef k h7
      have hL' : ∀ j,(listed.setIfInBounds i true).getD j false = if j = i then true else listed.getD j false := by
        intro j
        simp only [Array.getD_eq_getD_getElem?,Array.getElem?_setIfInBounds]
        by_cases e1 : j = i
        · subst e1; simp [hi']
        · rw [if_neg (fun h => e1 h.symm),if_neg e1]
      have next : ∀ E' H' c' ι' a' w',(∀ d v,x.dv = some (d,v) → look d E' = some v) → (∀ y v,(∀ d v',x.dv = some (d,v') → y ≠ d) → look y E = some v → freeOf x.T v = true → look y E' = some v) →
          stage chain (fun j => (listed.setIfInBounds i true).getD j false) c' → Hs[c']? = some H' → Rel C ⟨E',H'⟩ ι' a' w' →
          wpAnyIn (Fc C.r) 0 C.P .any l.toArray (fun e a' w' => ∃ s' ι',Rel C s' ι' a' w' ∧ Q e s') fuel (listed.setIfInBounds i true) a' w' := by
        intro E' H' c' ι' a' w' hd hkeep hst' hH' hr'
        refine ih _ ι' a' w' E' c' H' (by simpa using hls) (fun k ok hk hk' j hj => ?_) ?_ ?_ hst' hH' hr'
        · rw [hL'] at hk' ⊢
          by_cases e1 : j = i
          · rw [if_pos e1]
          · rw [if_neg e1]
            by_cases e2 : k = i
            · subst e2; rw [ho] at hk; cases hk; exact hpre0 j hj
            · rw [if_neg e2] at hk'; exact hdc k ok hk hk' j hj
        · have hlt2 : ((List.range l.length).filter fun j => !(listed.setIfInBounds i true).getD j false).length < ((List.range l.length).filter fun j => !listed.getD j false).length := by
            have hmem : i ∈ (List.range l.length).filter fun j => !listed.getD j false := List.mem_filter.2 ⟨by simpa using hlt,by simp only [hf]; rfl⟩
            have hsub : ((List.range l.length).filter fun j => !(listed.setIfInBounds i true).getD j false) = (((List.range l.length).filter fun j => !listed.getD j false).filter fun j => !decide (j = i)) := by
              rw [List.filter_filter]
              refine List.filter_congr fun j _ => ?_
              rw [hL']
              by_cases e1 : j = i
              · simp [e1]
              · simp [e1]
            rw [hsub]
            refine Nat.lt_of_le_of_ne (List.length_filter_le _ _) fun he => ?_
            have := (List.length_filter_eq_length_iff.1 he) i hmem
            simp at this
          omega
        · intro f hfF hb1 hb2
          rw [List.all_eq_true] at p3
          have h5 := p3 f hfF
          simp only [Bool.or_eq_true,Bool.and_eq_true] at h5
          rcases h5 with (h5 | h5) | ⟨h5,h6⟩
          · have h7 : (listed.setIfInBounds i true).getD i false = false := hb2 i (anyT_iff.1 h5)
            rw [hL',if_pos rfl] at h7; cases h7
          · cases hb : f.born with
            | none => rw [hb] at h5; cases h5
            | some j =>
              rw [hb] at h5
              simp only [Bool.or_eq_true,Nat.beq_eq] at h5
              rcases h5 with h5 | h5
              · subst h5
                obtain ⟨x',hx',hdv⟩ := hborn.at hfF j hb
                rw [hx] at hx'; cases hx'
                exact hd _ _ hdv
              · exfalso
                have h7 : (listed.setIfInBounds i true).getD j false = true := hb1 j hb
                rw [hL'] at h7
                by_cases e1 : j = i
                · subst e1
                  have := hpre j h5
                  rw [hf] at this; cases this
                · rw [if_neg e1,hbef j h5] at h7; cases h7
          · by_cases hbi : f.born = some i
            · obtain ⟨x',hx',hdv⟩ := hborn.at hfF i hbi
              rw [hx] at hx'; cases hx'
              exact hd _ _ hdv
            · refine hkeep _ _ (fun d v' hdv e1 => ?_) (hI f hfF (fun j hj => ?_) (fun k hk => ?_)) h6
              · rw [hdv] at h5
                simp only [Bool.not_eq_true'] at h5
                rw [e1] at h5
                rw [Nat.beq_refl] at h5; cases h5
              · have h7 : (listed.setIfInBounds i true).getD j false = true := hb1 j hj
                rw [hL',if_neg (fun e => hbi (by rw [hj,e]))] at h7
                exact h7
              · have h7 : (listed.setIfInBounds i true).getD k false = false := hb2 k hk
                rw [hL'] at h7
                split at h7
                · cases h7
                · exact h7
      have hop : ∀ (K : Act → World → Prop) E' H',OStep C l.toArray o ⟨E,H⟩ ⟨E',H'⟩ → (∀ ι' a' w',Rel C ⟨E',H'⟩ ι' a' w' → K a' w') →
          wpOpIn (Fc C.r) 0 C.P l.toArray (fun e a' w' => ∃ s' ι',Rel C s' ι' a' w' ∧ Q e s') i K a w := by
        intro K E' H' hos hK
        unfold wpOpIn
        simp only [List.getElem?_toArray,ho]
        exact hos ι a w K _ hr hK
      rcases hsteps.at i o x ho hx c H hlo hhi hHc with ⟨hfi,hds⟩ | ⟨hfi,H',hH',hds⟩
      · obtain ⟨E',hos,hd,hkeep⟩ := hds E hneed
        refine hop _ E' H hos fun ι' a' w' hr' => next E' H c ι' a' w' hd hkeep ⟨s1,fun q hq k hk => ?_,fun q hq k hk => ?_⟩ hHc hr'
        · show (listed.setIfInBounds i true).getD k false = true
          rw [hL']
          split
          · rfl
          · exact s2 q hq k hk
        · show (listed.setIfInBounds i true).getD k false = false
          rw [hL',if_neg]
          · exact s3 q hq k hk
          · intro e1
            rw [Nat.zero_add] at hfi
            have := List.findIdx?_eq_none_iff.1 hfi k (List.mem_of_getElem? hk)
            rw [e1,Nat.beq_refl] at this; cases this
      · obtain ⟨E',hos,hd,hkeep⟩ := hds E hneed
        rw [Nat.zero_add] at hfi
        obtain ⟨hcl,hci,_⟩ := List.findIdx?_eq_some_iff_getElem.1 hfi
        rw [Nat.beq_eq] at hci
        refine hop _ E' H' hos fun ι' a' w' hr' => next E' H' (c + 1) ι' a' w' hd hkeep ⟨by omega,fun q hq k hk => ?_,fun q hq k hk => ?_⟩ hH' hr'
        · show (listed.setIfInBounds i true).getD k false = true
          rw [hL']
          split
          · rfl
          · rename_i hne
            rcases Nat.lt_or_ge q c with h | h
            · exact s2 q h k hk
            · have : q = c := by omega
              subst this
              rw [List.getElem?_eq_getElem hcl] at hk
              exact absurd (Option.some.inj hk).symm (by rw [← hci]; exact hne)
        · show (listed.setIfInBounds i true).getD k false = false
          rw [hL',if_neg]
          · exact s3 q (by omega) k hk
          · intro e1
            have hql := (List.getElem?_eq_some_iff.1 hk).1
            have e2 : chain[q] = chain[c] := by
              rw [List.getElem?_eq_getElem hql] at hk
              rw [Option.some.inj hk,e1,hci]
            rcases Nat.lt_or_ge c q with h | h
            · exact List.pairwise_iff_getElem.1 hnd c q hcl hql h e2.symm
            · omega
  refine key l.length (Array.replicate l.length false) ι a w s.env 0 s.heap (by simp) (fun i o _ h => ?_) ?_ ?_ ⟨Nat.zero_le _,fun q hq => absurd hq (Nat.not_lt_zero _),fun q _ k _ => ?_⟩ h0 r
  · exfalso
    simp only [Array.getD_eq_getD_getElem?,Array.getElem?_replicate] at h
    split at h <;> simp at h
  · exact Nat.le_trans (List.length_filter_le _ _) (by simp)
  · intro f hf hb _
    refine hbase.at hf ?_
    cases hb' : f.born with
    | none => rfl
    | some j =>
      have := hb j hb'
      simp only [Array.getD_eq_getD_getElem?,Array.getElem?_replicate] at this
      split at this <;> simp at this
  · show (Array.replicate l.length false).getD k false = false
    simp only [Array.getD_eq_getD_getElem?,Array.getElem?_replicate]
    split <;> simp
theorem AWP.draw {C : Ctx} {Q : Exit → St → Prop} {s s' : St} {id : Nat} {l : List Oper} (hm : C.P.follows .mixedOrders = true) (F : List DFact) (D : List DOp) (chain : List Nat) (Hs : List (List (Nat × Blk)))
    (R : List (List Nat)) (hR : rcheck R 0 l = true) (hchk : dcheck R F chain 0 l D = true) (hborn : BornOk D F) (hbase : BaseOk s.env F) (h0 : Hs[0]? = some s.heap) (hnd : chain.Nodup) (hch : ∀ c,c ∈ chain → c < l.length)
    (hsteps : DSteps C l.toArray F chain Hs 0 l D) (hE : ∀ E,DInv F (fun i => decide (i < l.length)) E → SubE s'.env E) (hH : Hs[chain.length]? = some s'.heap) (hq : Q .normal s') : AWP C (.region id l.toArray true) Q s := fun ι a w r =>
  wpIn_region_any hm (by simpa using AWP.drawAny F D chain Hs R hR hchk hborn hbase h0 hnd hch hsteps hE hH hq ι a _ r.drew)
end Go.AB
namespace Go.AB
open Go
def encI (k : IntKind) (n : Int) : List AV := [.sc (.int k n)]
theorem encI_len (k : IntKind) (n : Int) : (encI k n).length = 1 := rfl
section
variable {C : Ctx} {d : Nat} {ty : TypeId} {p : String} {e : Array Edge} {g : Option (Nat × Bool)} {s : St}
theorem AStep.storePA {x y : Operand} {T : TypeId} {t off n : Nat} {k : Blk} {vs cells : List AV} (hx : Ev C s x (.ptr t off)) (hy : Ev C s y (.agg vs)) (hT : szOf C.P T n) (hn : vs.length = n) (hk : look t s.heap = some k)
    (hlt : off + n ≤ k.cells.length) (h1 : ∀ v,v ∈ vs → v.one = true) (hst : k.lst = true → ∀ v,v ∈ vs → v.still = true) (hc : cells = splL k.cells off vs) :
    AStep C ⟨none,.store T x y,ty,p,e,g⟩ s ⟨s.env,updH t { k with cells := cells } s.heap⟩ :=
  .runSkip (fun _ h => by cases h) fun ι a w r => by
    subst hc
    obtain ⟨b,hu,ht⟩ := ptr_inv (hx ι a w r)
    obtain ⟨cur,hb,hl,h⟩ := blk_inv r.core hk ht
    have hvy := hy ι a w r
    generalize hyv : a.eval y = yv at hvy
    cases hvy with
    | agg _ _ _ us hul huv =>
    have hone : ∀ u,u ∈ us → u.oneCell' = true := by
      intro u hu'
      obtain ⟨i,hi,rfl⟩ := List.mem_iff_getElem.1 hu'
      exact ((huv i (hul ▸ hi)).one (h1 _ (List.getElem_mem (hul ▸ hi)))).1
    have hst' := run_storeCells_at C.P b off k.ty us 0 cur w hb (by omega) hone
    have hcs' : (cur.toList.take (off + 0) ++ us ++ cur.toList.drop (off + 0 + us.length)).toArray.size = cur.size := by simp; omega
    have hbig := setRow_heap w b cur (cur.toList.take (off + 0) ++ us ++ cur.toList.drop (off + 0 + us.length)).toArray k.ty (0,0) hb
    have hoth : ∀ j,j ≠ b → (w.setRow b (cur.toList.take (off + 0) ++ us ++ cur.toList.drop (off + 0 + us.length)).toArray).heap[j]? = w.heap[j]? := fun j hj => setRow_other w b j _ hj
    refine ⟨w.setRow b (cur.toList.take (off + 0) ++ us ++ cur.toList.drop (off + 0 + us.length)).toArray,ι,?_,?_⟩
    · simp only [execOp,hu,hyv,Sem.run_bind,Instr.storeAt,Instr.sureAddr,Sem.run_pure,Result.andThen_ok,storeVar,hT.run,Value.cells]
      rw [if_neg (by simp [hul,hn])]
      simp only [hst',Result.andThen_ok]
    · generalize hW : w.setRow b (cur.toList.take (off + 0) ++ us ++ cur.toList.drop (off + 0 + us.length)).toArray = W at hbig hoth ⊢
      have hsz : ∀ x q,bsz w x = some q → bsz W x = some q := by
        intro x q hx
        by_cases e : x = b
        · subst e
          simp only [bsz,hb] at hx
          simp only [bsz,hbig,hcs']
          exact hx
        · simp only [bsz,hoth x e]; exact hx
      have hcell : ∀ β x o y',zone C s.heap ι w β x → w.cell? ⟨x,o,none⟩ = some y' → W.cell? ⟨x,o,none⟩ = some y' := by
        rintro β x o y' ⟨_,h2,_⟩ hy'
        have hne : x ≠ b := fun e => h2 t ⟨k,hk⟩ (by rw [ht,e])
        rw [World.cell?_of_block (a := ⟨x,o,none⟩) (hoth x hne)]; exact hy'
      refine r.write (w' := W) hk ht (by rw [← hW]; rfl) (by rw [← hW]; rfl) (by rw [← hW]; rfl) (by rw [← hW]; simp) hoth (k' := { k with cells := splL k.cells off vs }) hb hbig hcs' (by rw [hcs']; simp [splL]; omega) ?_
      intro i hi
      have base := splL_row (w := w) (Z := bif k.lst then fun _ => zone C s.heap ι w false else zone C s.heap ι w) (ι := bif k.lst then fun _ => none else ι) (xs := k.cells) (ys := vs) (us := cur.toList.take k.cells.length) (vs := us) (off := off)
        (by simp; omega) hul.symm (by omega) (fun j hj => by
          obtain ⟨u,hu',hvr⟩ := h j hj
          exact ⟨u,by rw [List.getElem?_take,if_pos hj]; simpa using hu',hvr⟩) (fun j hj => by
          refine ⟨us[j]'(hul ▸ hj),List.getElem?_eq_getElem (hul ▸ hj),?_⟩
          have := huv j hj
          cases hlst : k.lst with
          | true => exact this.still (hst hlst _ (List.getElem_mem hj))
          | false => exact this)
      obtain ⟨u,hu',hvr⟩ := base.2 i hi
      refine ⟨u,?_,hvr.mono hsz _ _ (fun _ _ h => h) ?_ (fun _ _ _ h => h)⟩
      · rw [← Array.getElem?_toList]
        simp only [splL] at hu' hi ⊢
        simp only [List.length_append,List.length_take,List.length_drop] at hi
        have hul' : us.length = n := by omega
        simp only [List.append_assoc] at hu' ⊢
        rw [List.take_take,show min off k.cells.length = off from by omega] at hu'
        rcases Nat.lt_or_ge i (off + us.length) with hlt' | hge
        · rw [← List.append_assoc,List.getElem?_append_left (by simp; omega)] at hu' ⊢
          exact hu'
        · rw [← List.append_assoc,List.getElem?_append_right (by simp; omega)] at hu' ⊢
          rw [List.getElem?_drop] at hu' ⊢
          rw [List.getElem?_take] at hu'
          split at hu'
          · simpa using hu'
          · cases hu'
      · cases k.lst with
        | true => exact fun _ x o y' hz => hcell false x o y' hz
        | false => exact hcell
inductive EvR (C : Ctx) (s : St) : List Operand → List AV → Prop
  | nil : EvR C s [] []
  | cons {x : Operand} {v : AV} {xs : List Operand} {vs : List AV} (h : Ev C s x v) (t : EvR C s xs vs) : EvR C s (x :: xs) (v :: vs)
theorem EvR.vrs {xs : List Operand} {vs : List AV} (h : EvR C s xs vs) {ι : Tags} {a : Act} {w : World} (r : Rel C s ι a w) :
    ∃ hl : (xs.map a.eval).length = vs.length,∀ i (hi : i < vs.length),VR w (zone C s.heap ι w) ι (vs[i]'hi) ((xs.map a.eval)[i]'(hl ▸ hi)) := by
  induction h with
  | nil => exact ⟨rfl,fun i hi => absurd hi (by simp)⟩
  | cons h t ih =>
    obtain ⟨hl,hv⟩ := ih
    refine ⟨by simpa using hl,fun i hi => ?_⟩
    cases i with
    | zero => exact h ι a w r
    | succ i => simpa using hv i (by simpa using hi)
theorem AStep.makeFunc {fn : Go.Fn} {first captured : Array Operand} {us vs : List AV} (hd : d < C.N) (h1 : EvR C s first.toList us) (h2 : EvR C s captured.toList vs) :
    AStep C ⟨some d,.makeFunc fn first captured,ty,p,e,g⟩ s (s.put d (.clo fn us vs)) :=
  .val hd (fun _ h => by cases h) fun ι a w r => by
    obtain ⟨l1,v1⟩ := h1.vrs r
    obtain ⟨l2,v2⟩ := h2.vrs r
    refine ⟨_,rfl,?_⟩
    have e1 : first.map a.eval = (first.toList.map a.eval).toArray := by rw [← List.map_toArray]
    have e2 : captured.map a.eval = (captured.toList.map a.eval).toArray := by rw [← List.map_toArray]
    rw [e1,e2]
    exact .clo _ _ _ _ _ _ _ l1 l2 v1 v2
end
end Go.AB
namespace Go.AB
open Go
theorem lt1 {d N : Nat} (h : Nat.blt d N = true) : d < N := by rwa [Nat.blt_eq] at h
theorem nm {t : Nat} {K : List Nat} (h : anyT K t = false) : t ∉ K := fun hm => by rw [anyT_iff.2 hm] at h; cases h
def asrt {α : Type} (p : Prop) [Decidable p] (k : Option α) : Option α := if p then k else none
theorem asrtS {α : Type} {p : Prop} [Decidable p] {k : Option α} {r : α} (h : asrt p k = some r) : p ∧ k = some r := by
  unfold asrt at h
  split at h
  · exact ⟨‹_›,h⟩
  · cases h
theorem bindS {α β : Type} {o : Option α} {k : α → Option β} {r : β} (h : o.bind k = some r) : ∃ y,o = some y ∧ k y = some r := Option.bind_eq_some_iff.1 h
theorem iteT {α : Type} {c : Bool} {a b : Option α} {r : α} (hc : c = true) (h : (if c = true then a else b) = some r) : a = some r := by rwa [if_pos hc] at h
theorem iteF {α : Type} {c : Bool} {a b : Option α} {r : α} (hc : c = false) (h : (if c = true then a else b) = some r) : b = some r := by rwa [if_neg (by simp [hc])] at h
def loopM {σ R : Type} (body : (σ → Option R) → σ → Option R) : Nat → σ → Option R
  | 0,_ => none
  | n + 1,x => body (loopM body n) x
theorem loopM_succ {σ R : Type} (body : (σ → Option R) → σ → Option R) (n : Nat) (x : σ) : loopM body (n + 1) x = body (loopM body n) x := rfl
def jn {α β : Type} (f : α) (g : α → β) : β := g f
theorem AWP.loopM {C : Ctx} {Q : Exit → St → Prop} {c : Code} {σ R : Type} {body : (σ → Option R) → σ → Option R} {r : R} (S : σ → St)
    (step : ∀ (nx : σ → Option R) (x : σ),body nx x = some r → AWP C c (thn (fun s' => ∃ x',nx x' = some r ∧ VC C s' (S x')) Q) (S x))
    {n : Nat} {x : σ} (hx : Go.AB.loopM body n x = some r) : AWP C (.loop c) Q (S x) :=
  AWP.loop S (fun n x => Go.AB.loopM body n x = some r) (fun x h => by cases h) (fun n x h => step (Go.AB.loopM body n) x h) n x hx
def slc {α : Type} (xs : List α) (lo hi : Int) : Option (List α) := if 0 ≤ lo ∧ lo ≤ hi ∧ hi ≤ xs.length then some ((xs.drop lo.toNat).take (hi.toNat - lo.toNat)) else none
theorem slcS {α : Type} {xs y : List α} {lo hi : Int} (h : slc xs lo hi = some y) : 0 ≤ lo ∧ lo ≤ hi ∧ hi ≤ xs.length ∧ y = (xs.drop lo.toNat).take (hi.toNat - lo.toNat) ∧ y.length = hi.toNat - lo.toNat := by
  unfold slc at h
  split at h
  · rename_i hc
    simp only [Option.some.injEq] at h
    refine ⟨hc.1,hc.2.1,hc.2.2,h.symm,?_⟩
    rw [← h]
    simp
    omega
  · cases h
def setIdx {α : Type} (xs : List α) (i : Int) (y : α) : Option (List α) := if 0 ≤ i ∧ i < xs.length then some (xs.set i.toNat y) else none
theorem setIdxS {α : Type} {xs ys : List α} {i : Int} {y : α} (h : setIdx xs i y = some ys) : 0 ≤ i ∧ i < xs.length ∧ ys = xs.set i.toNat y ∧ ys.length = xs.length := by
  unfold setIdx at h
  split at h
  · rename_i hc
    simp only [Option.some.injEq] at h
    exact ⟨hc.1,hc.2,h.symm,by rw [← h]; simp⟩
  · cases h
def apd {α : Type} (xs ys : List α) : Option (List α) := if xs.length + ys.length ≤ 1099511627776 then some (xs ++ ys) else none
theorem apdS {α : Type} {xs ys zs : List α} (h : apd xs ys = some zs) : xs.length + ys.length ≤ 1099511627776 ∧ zs = xs ++ ys ∧ zs.length = xs.length + ys.length := by
  unfold apd at h
  split at h
  · simp only [Option.some.injEq] at h
    exact ⟨‹_›,h.symm,by rw [← h]; simp⟩
  · cases h
def mk {α : Type} (y0 : α) (l c : Int) : Option (List α) := if 0 ≤ l ∧ l ≤ c ∧ c ≤ 1099511627776 then some (List.replicate l.toNat y0) else none
theorem mkS' {α : Type} {y0 : α} {l c : Int} {zs : List α} (h : mk y0 l c = some zs) : 0 ≤ l ∧ l ≤ c ∧ c ≤ 1099511627776 ∧ zs = List.replicate l.toNat y0 ∧ zs.length = l.toNat := by
  unfold mk at h
  split at h
  · rename_i hc
    simp only [Option.some.injEq] at h
    exact ⟨hc.1,hc.2.1,hc.2.2,h.symm,by rw [← h]; simp⟩
  · cases h
def BdI (C : Ctx) (s : St) (x : Option Operand) (d n : Int) : Prop := (x = none ∧ n = d) ∨ ∃ y k,x = some y ∧ Ev C s y (.sc (.int k n))
theorem BdI.none (C : Ctx) (s : St) (n : Int) : BdI C s .none n n := .inl ⟨rfl,rfl⟩
theorem BdI.some {C : Ctx} {s : St} {y : Operand} {k : IntKind} {j d : Int} (h : Ev C s y (.sc (.int k j))) : BdI C s (.some y) d j := .inr ⟨y,k,rfl,h⟩
theorem BdI.nat {C : Ctx} {s : St} {x : Option Operand} {d : Nat} {n : Int} (h : BdI C s x (d : Int) n) (h0 : 0 ≤ n) : Bd C s x d n.toNat := by
  rcases h with ⟨rfl,rfl⟩ | ⟨y,k,rfl,hy⟩
  · exact .inl ⟨rfl,by omega⟩
  · exact Bd.some hy h0
section
variable {C : Ctx} {d : Nat} {ty : TypeId} {p : String} {e : Array Edge} {g : Option (Nat × Bool)} {s : St}
theorem AStep.slRd {α : Type} {enc : α → List AV} {sz : Nat} {x : Operand} {lo hi : Option Operand} {T E : TypeId} {β : Bool} {xs y : List α} {n : Nat} {l h : Int} (hd : d < C.N)
    (hx : Ev C s x (.rd β n (xs.flatMap enc))) (hT : C.P.underlying T = some (.slice E)) (hE : szOf C.P E sz) (henc : ∀ y,(enc y).length = sz) (hn : n = xs.length)
    (hl : BdI C s lo 0 l) (hh : BdI C s hi xs.length h) (hy : slc xs l h = some y) :
    AStep C ⟨some d,.slice T x lo hi none,ty,p,e,g⟩ s (s.put d (.rd β y.length (y.flatMap enc))) := by
  obtain ⟨h1,h2,h3,rfl,h5⟩ := slcS hy
  subst hn
  have := AStep.sliceRd (ty := ty) (p := p) (e := e) (g := g) hd hx hT hE henc rfl (BdI.nat (d := 0) hl h1) (BdI.nat hh (by omega)) (by omega) (by omega)
  rw [h5]
  exact this
theorem AStep.idxOwn {α : Type} {x i : Operand} {T E : TypeId} {t sz n : Nat} {k : IntKind} {j : Int} {xs : List α} {y : α} (hd : d < C.N)
    (hx : Ev C s x (.own t sz 0 n)) (hi : Ev C s i (.sc (.int k j))) (hT : C.P.underlying T = some (.slice E)) (hE : szOf C.P E sz) (hn : n = xs.length)
    (hy : getIdx xs j = some y) : AStep C ⟨some d,.indexAddr T x i,ty,p,e,g⟩ s (s.put d (.ptr t (0 + j.toNat * sz))) := by
  obtain ⟨h0,h1,_⟩ := getIdx_some hy
  exact AStep.indexOwn hd hx hi hT hE ⟨h0,by omega⟩
theorem cell_at {α : Type} {enc : α → List AV} {sz : Nat} (henc : ∀ y,(enc y).length = sz) {xs : List α} {j : Int} {y : α} (hy : getIdx xs j = some y) {o : Nat} (ho : o < sz) : (xs.flatMap enc)[0 + j.toNat * sz + o]? = (enc y)[o]? := by
  obtain ⟨_,_,h⟩ := getIdx_some hy
  rw [Nat.zero_add]
  exact flatMap_at henc xs _ h o ho
theorem cell_at1 {α : Type} {enc : α → List AV} (henc : ∀ y,(enc y).length = 1) {xs : List α} {j : Int} {y : α} (hy : getIdx xs j = some y) : (xs.flatMap enc)[0 + j.toNat * 1]? = (enc y)[0]? := by
  have := cell_at henc hy (o := 0) (by omega)
  simpa using this
theorem setIdx_of {α : Type} {xs ys : List α} {j : Int} {y' : α} (h : setIdx xs j y' = some ys) : ∃ y,getIdx xs j = some y := by
  obtain ⟨h0,h1,_⟩ := setIdxS h
  refine ⟨xs[j.toNat]'(by omega),?_⟩
  rw [getIdx,if_pos h0,List.getElem?_eq_getElem]
theorem set_at {α : Type} {enc : α → List AV} {sz : Nat} (henc : ∀ y,(enc y).length = sz) {xs ys : List α} {j : Int} {y y' : α} (hy : getIdx xs j = some y) (hs : setIdx xs j y' = some ys) {o : Nat} {v : AV} (ho : o < sz)
    (he : enc y' = (enc y).set o v) : ys.flatMap enc = (xs.flatMap enc).set (0 + j.toNat * sz + o) v := by
  obtain ⟨_,_,h⟩ := getIdx_some hy
  obtain ⟨_,_,rfl,_⟩ := setIdxS hs
  rw [Nat.zero_add]
  exact (flatMap_set henc y' xs _ y h o v he ho).symm
theorem set_at1 {α : Type} {enc : α → List AV} (henc : ∀ y,(enc y).length = 1) {xs ys : List α} {j : Int} {y' : α} (hs : setIdx xs j y' = some ys) {v : AV} (he : enc y' = [v]) :
    ys.flatMap enc = (xs.flatMap enc).set (0 + j.toNat * 1) v := by
  obtain ⟨y,hy⟩ := setIdx_of hs
  have h1 := henc y
  have := set_at henc hy hs (o := 0) (v := v) (by omega) (by
    rw [he]
    match h2 : enc y,h1 with
    | [a],_ => rfl)
  simpa using this
theorem lt_at {α : Type} {enc : α → List AV} {sz : Nat} (henc : ∀ y,(enc y).length = sz) {xs : List α} {j : Int} {y : α} (hy : getIdx xs j = some y) {o : Nat} (ho : o < sz) : 0 + j.toNat * sz + o < (xs.flatMap enc).length := by
  obtain ⟨h0,h1,_⟩ := getIdx_some hy
  rw [flatMap_length henc]
  have : (j.toNat + 1) * sz ≤ xs.length * sz := Nat.mul_le_mul_right _ (by omega)
  rw [Nat.add_mul] at this
  omega
theorem lt_at1 {α : Type} {enc : α → List AV} (henc : ∀ y,(enc y).length = 1) {xs : List α} {j : Int} {y : α} (hy : getIdx xs j = some y) : 0 + j.toNat * 1 < (xs.flatMap enc).length := by
  have := lt_at henc hy (o := 0) (by omega)
  simpa using this
theorem AStep.app {α : Type} {enc : α → List AV} {x y : Operand} {T U E : TypeId} {t sz by_ n m : Nat} {xs ys zs : List α} (hd : d < C.N) (hK : t ∉ C.K) (hx : Ev C s x (.own t sz 0 n)) (hy : Src C s y sz m (ys.flatMap enc))
    (hT : C.P.underlying T = some (.slice E)) (hU : ∃ D,C.P.underlying U = some D ∧ ∀ k,D ≠ .int k) (hE : elT C.P E sz by_) (hk : look t s.heap = some ⟨E,true,xs.flatMap enc⟩)
    (henc : ∀ y,(enc y).length = sz) (hn : n = xs.length) (hm : m = ys.length) (hb : by_ ≤ 128) (hz : apd xs ys = some zs) :
    AStep C ⟨some d,.call { callee := .builtin .append,args := #[x,y],argTypes := #[T,U] },ty,p,e,g⟩ s (s.newP d t ⟨E,true,zs.flatMap enc⟩ (.own t sz 0 zs.length)) := by
  obtain ⟨h1,rfl,h3⟩ := apdS hz
  subst hn hm
  have hbytes : (xs.length + ys.length) * by_ ≤ 140737488355328 := by
    have : (xs.length + ys.length) * by_ ≤ 1099511627776 * 128 := Nat.mul_le_mul h1 hb
    omega
  have := AStep.append (ty := ty) (p := p) (e := e) (g := g) hd hK hx hy hT hU hE hk (flatMap_length henc xs) (by simp only [maxLen]; omega) hbytes
  rw [h3,List.flatMap_append]
  exact this
theorem AStep.mkS {α : Type} {enc : α → List AV} {y0 : α} {x y : Operand} {T E : TypeId} {t sz by_ : Nat} {z : List Value} {k k' : IntKind} {l c : Int} {zs : List α} (hd : d < C.N) (hK : t ∉ C.K)
    (hx : Ev C s x (.sc (.int k l))) (hy : Ev C s y (.sc (.int k' c))) (hT : C.P.underlying T = some (.slice E)) (hz : zeroT C.P E z) (hE : elT C.P E sz by_) (h0 : enc y0 = z.map .sc)
    (henc : ∀ y,(enc y).length = sz) (hb : by_ ≤ 128) (hm : mk y0 l c = some zs) :
    AStep C ⟨some d,.makeSlice T x y,ty,p,e,g⟩ s (s.newP d t ⟨E,true,zs.flatMap enc⟩ (.own t sz 0 zs.length)) := by
  obtain ⟨h1,h2,h3,rfl,h5⟩ := mkS' hm
  have hbc : (by_ : Int) * c ≤ 128 * 1099511627776 := Int.mul_le_mul (by omega) h3 (by omega) (by omega)
  rw [h5]
  exact AStep.make hd hK hx hy hT hz hE h0 henc h1 h2 (by omega) (by omega)
end
theorem one_all {α : Type} {enc : α → List AV} (h : ∀ y,∀ c,c ∈ enc y → c.one = true) (xs : List α) : ∀ c,c ∈ xs.flatMap enc → c.one = true := by
  intro c hc; obtain ⟨y,_,hy⟩ := List.mem_flatMap.1 hc; exact h y c hy
theorem scal_all {α : Type} {enc : α → List AV} (h : ∀ y,∀ c,c ∈ enc y → c.scal = true) (xs : List α) : ∀ c,c ∈ xs.flatMap enc → c.scal = true := by
  intro c hc; obtain ⟨y,_,hy⟩ := List.mem_flatMap.1 hc; exact h y c hy
theorem encI_one (k : IntKind) (y : Int) : ∀ c,c ∈ encI k y → c.one = true := by intro c hc; simp [encI] at hc; subst hc; rfl
theorem encI_scal (k : IntKind) (y : Int) : ∀ c,c ∈ encI k y → c.scal = true := by intro c hc; simp [encI] at hc; subst hc; rfl
end Go.AB
namespace Go.AB
open Go
theorem AWP.join {C : Ctx} {c : Code} {Q : Exit → St → Prop} {s : St} {σ R : Type} {f : σ → Option R} {g : (σ → Option R) → Option R} {r : R} (S : σ → St) (h : jn f g = some r)
    (rest : ∀ p,f p = some r → Q .normal (S p)) (main : g f = some r → AWP C c (thn (fun s' => ∃ p,f p = some r ∧ VC C s' (S p)) Q) s) : AWP C c Q s := fun ι a w rel =>
  wpIn_mono (main h ι a w rel) fun e a' w' ⟨s',ι',r',q⟩ => by
    cases e with
    | normal =>
      obtain ⟨p,hp,hv⟩ := q
      obtain ⟨ι2,r2⟩ := hv ι' a' w' r'
      exact ⟨S p,ι2,r2,rest p hp⟩
    | exit id => exact ⟨s',ι',r',q⟩
    | goto l => exact ⟨s',ι',r',q⟩
    | ret => exact ⟨s',ι',r',q⟩
    | panic ch => exact ⟨s',ι',r',q⟩
    | outgrown => exact ⟨s',ι',r',q⟩
def inbJ (id : Nat) (M : St → Prop) (Q : Exit → St → Prop) : Exit → St → Prop
  | .exit i,s => bif Nat.beq i id then M s else Q (.exit i) s
  | .normal,s => M s
  | e,s => Q e s
theorem AWP.joinB {C : Ctx} {id : Nat} {c : Code} {Q : Exit → St → Prop} {s : St} {σ R : Type} {f : σ → Option R} {g : (σ → Option R) → Option R} {r : R} (S : σ → St) (h : jn f g = some r)
    (rest : ∀ p,f p = some r → Q .normal (S p)) (main : g f = some r → AWP C c (inbJ id (fun s' => ∃ p,f p = some r ∧ VC C s' (S p)) Q) s) : AWP C (.block id c) Q s := fun ι a w rel =>
  wpIn_block (wpIn_mono (main h ι a w rel) fun e a' w' ⟨s',ι',r',q⟩ => by
    cases e with
    | normal =>
      obtain ⟨p,hp,hv⟩ := q
      obtain ⟨ι2,r2⟩ := hv ι' a' w' r'
      exact ⟨S p,ι2,r2,rest p hp⟩
    | exit i =>
      by_cases hi : i = id
      · subst hi
        simp only [inbJ,Nat.beq_refl,cond_true] at q
        simp only [Exit.inBlock,if_true]
        obtain ⟨p,hp,hv⟩ := q
        obtain ⟨ι2,r2⟩ := hv ι' a' w' r'
        exact ⟨S p,ι2,r2,rest p hp⟩
      · have hb : Nat.beq i id = false := beq_ne hi
        simp only [inbJ,hb,cond_false] at q
        simp only [Exit.inBlock,if_neg hi]
        exact ⟨s',ι',r',q⟩
    | goto l => exact ⟨s',ι',r',q⟩
    | ret => exact ⟨s',ι',r',q⟩
    | panic ch => exact ⟨s',ι',r',q⟩
    | outgrown => exact ⟨s',ι',r',q⟩)
inductive AllH (P : Nat → Blk → Prop) : List (Nat × Blk) → Prop
  | n : AllH P []
  | c {t : Nat} {k : Blk} {l : List (Nat × Blk)} (h : P t k) (r : AllH P l) : AllH P ((t,k) :: l)
theorem AllH.at {P : Nat → Blk → Prop} {H : List (Nat × Blk)} (h : AllH P H) {t : Nat} {k : Blk} (hl : look t H = some k) : P t k := by
  induction h with
  | n => cases hl
  | c h' r ih =>
    rename_i t' k' l
    by_cases e : t = t'
    · subst e; rw [look_cons_self] at hl; cases hl; exact h'
    · rw [look_cons_ne e] at hl; exact ih hl
def callB (CK : List Nat) (heap : List (Nat × Blk)) (σ : Nat → Nat) (bw : Bool) (K : List Nat) (H : List (Nat × Blk)) (r : AV) (H' : List (Nat × Blk)) : Bool :=
  (dom H ++ dom H').all (fun a => (dom H ++ dom H').all fun b => !(Nat.beq (σ a) (σ b)) || Nat.beq a b) &&
  (dom H').all (fun t => !anyT (dom (minusH ((dom H).map σ) heap)) (σ t)) &&
  (dom H ++ dom H').all (fun t => anyT K t || !anyT CK (σ t)) &&
  (!bw || (r.clean && H'.all fun p => p.2.lst || AV.cleanL p.2.cells)) &&
  r.tags.all (fun t => anyT (dom H') t) &&
  H'.all (fun p => p.2.lst || (AV.tagsL p.2.cells).all fun t => anyT (dom H') t)
theorem look_mem {α : Type} {t : Nat} {k : α} : ∀ {H : List (Nat × α)},look t H = some k → (t,k) ∈ H
  | [],h => by cases h
  | (t',k') :: H,h => by
    by_cases e : t = t'
    · subst e; rw [look_cons_self] at h; cases h; simp
    · rw [look_cons_ne e] at h; exact List.mem_cons_of_mem _ (look_mem h)
theorem CallOk.mk' {C : Ctx} {s : St} {σ : Nat → Nat} {bw : Bool} {K : List Nat} {H : List (Nat × Blk)} {r : AV} {H' : List (Nat × Blk)} (hH : AllH (fun t k => look (σ t) s.heap = some (renB σ k)) H)
    (hb : callB C.K s.heap σ bw K H r H' = true) : CallOk C s σ bw K H r H' := by
  simp only [callB,Bool.and_eq_true,List.all_eq_true] at hb
  obtain ⟨⟨⟨⟨⟨b1,b2⟩,b3⟩,b4⟩,b5⟩,b6⟩ := hb
  refine ⟨fun t k hl => hH.at hl,fun a b ha hb e => ?_,fun t ht hh => ?_,fun t ht hk hc => ?_,fun hw => ?_,fun t ht => anyT_iff.1 (b5 t ht),fun t k hl => ?_⟩
  · have := b1 a ha b hb
    rw [e] at this
    simp only [Nat.beq_refl,Bool.not_true,Bool.false_or,Nat.beq_eq] at this
    exact this
  · have := b2 t ht
    rw [anyT_iff.2 (has_dom.1 hh)] at this; cases this
  · have := b3 t ht
    simp only [Bool.or_eq_true,Bool.not_eq_true'] at this
    rcases this with h | h
    · exact hk (anyT_iff.1 h)
    · rw [anyT_iff.2 hc] at h; cases h
  · rw [hw] at b4
    simp only [Bool.not_true,Bool.false_or,Bool.and_eq_true,List.all_eq_true,Bool.or_eq_true] at b4
    exact ⟨b4.1,fun t k hl => b4.2 _ (look_mem hl)⟩
  · have := b6 _ (look_mem hl)
    simp only [Bool.or_eq_true,List.all_eq_true] at this
    rcases this with h | h
    · exact .inl h
    · exact .inr fun t' ht' => anyT_iff.1 (h t' ht')
theorem lendAll {α : Type} {enc : α → List AV} {sz : Nat} (henc : ∀ y,(enc y).length = sz) (xs : List α) : xs.flatMap enc = ((xs.flatMap enc).drop 0).take (xs.length * sz) := by
  rw [List.drop_zero,← flatMap_length henc,List.take_length]
def gdO {α : Type} (c : Bool) (o : Option α) (d : α) : Option α := if c = true then o else some d
theorem gdS {α : Type} {c : Bool} {o : Option α} {d r : α} (hc : c = true) (h : gdO c o d = some r) : o = some r := by unfold gdO at h; rwa [if_pos hc] at h
theorem gdO_true {α : Type} (o : Option α) (d : α) : gdO true o d = o := rfl
theorem gdO_false {α : Type} (o : Option α) (d : α) : gdO false o d = some d := rfl
theorem AStep.vc {C : Ctx} {o : Oper} {s s1 s2 : St} (h : AStep C o s s1) (v : VC C s1 s2) : AStep C o s s2 := fun ι a w K Q r hk =>
  h ι a w K Q r fun ι' a' w' r' => let ⟨ι2,r2⟩ := v ι' a' w' r'; hk ι2 a' w' r2
theorem endJ {C : Ctx} {σ R : Type} {f : σ → Option R} {r : R} {S : σ → St} {s : St} (p : σ) (h : f p = some r) (v : VC C s (S p)) : ∃ p,f p = some r ∧ VC C s (S p) := ⟨p,h,v⟩
end Go.AB
namespace Go.AB
open Go
def letM {α β : Type} (e : α) (k : α → Option β) : Option β := k e
theorem letS {α β : Type} {e : α} {k : α → Option β} {r : β} (h : letM e k = some r) : ∃ y,y = e ∧ k y = some r := ⟨e,rfl,h⟩
theorem letM_eq {α β : Type} (e : α) (k : α → Option β) : letM e k = k e := rfl
theorem retJ {C : Ctx} {fn : Func} {s : St} {r : AV} {H : List (Nat × Blk)} (h : Res C fn s r H) : (Exit.ret = Exit.ret ∨ Exit.ret = Exit.normal) ∧ Res C fn s r H := ⟨.inl rfl,h⟩
theorem norJ {C : Ctx} {fn : Func} {s : St} {r : AV} {H : List (Nat × Blk)} (h : Res C fn s r H) : (Exit.normal = Exit.ret ∨ Exit.normal = Exit.normal) ∧ Res C fn s r H := ⟨.inr rfl,h⟩
theorem renL_id (v : AV) : AV.ren (fun t => t) v = v := by
  induction v using AV.rec (motive_2 := fun l => AV.renL (fun t => t) l = l) <;> simp_all [AV.ren,AV.renL]
theorem purgeEL_nil (E : List (Nat × AV)) : purgeEL [] E = E := by
  unfold purgeEL
  induction E with
  | nil => rfl
  | cons a l ih => rw [List.map_cons,ih]; rfl
theorem purgeHL_nil (H : List (Nat × Blk)) : purgeHL [] H = H := by
  unfold purgeHL
  induction H with
  | nil => rfl
  | cons a l ih =>
    rw [List.map_cons,ih]
    have : purgeBL [] a.2 = a.2 := by
      unfold purgeBL
      cases hl : a.2.lst with
      | true => rfl
      | false =>
        have h1 : purgeAL [] = id := by funext v; rfl
        obtain ⟨t,ty,l1,c⟩ := a
        simp only at hl
        subst hl
        simp only [cond_false,h1,List.map_id]
    rw [this]
theorem minusH_nil (H : List (Nat × Blk)) : minusH [] H = H := by
  induction H with
  | nil => rfl
  | cons a l ih => obtain ⟨t,k⟩ := a; simp only [minusH,List.any_nil,cond_false,ih]
theorem AStep.call0 {C : Ctx} {d : Nat} {ty : TypeId} {p : String} {e : Array Edge} {g : Option (Nat × Bool)} {s : St} {f : FuncId} {args : Array Operand} {ats : Array TypeId} {avs : List AV} {r : AV} {bw : Bool}
    (hd : d < C.N) (hS : Spec C.P f [] avs [] r []) (hargs : ArgL C s (fun t => t) [] bw args.toList avs) (hr : (r.tags.isEmpty && (!bw || r.clean)) = true) :
    AStep C ⟨some d,.call { callee := .value (.func f),args := args,argTypes := ats },ty,p,e,g⟩ s (s.put d r) := by
  have ht : r.tags = [] := by
    have := andL hr
    simpa using this
  have ok : CallOk C s (fun t => t) bw [] [] r [] := by
    refine ⟨fun t k h => (by cases h),fun a b ha => (by cases ha),fun t h => (by cases h),fun t h => (by cases h),fun hb => ⟨?_,fun t k h => (by cases h)⟩,
      fun t h => (by rw [ht] at h; cases h),fun t k h => (by cases h)⟩
    have := andR hr
    rw [hb] at this
    simpa using this
  have key := AStep.call (ty := ty) (p := p) (e := e) (g := g) (ats := ats) hd hS hargs ok
  have he : s.called d (fun t => t) [] [] r [] = s.put d r := by
    show (⟨(d,r.ren fun t => t) :: purgeEL [] s.env,purgeHL [] (minusH [] s.heap)⟩ : St) = ⟨(d,r) :: s.env,s.heap⟩
    rw [purgeEL_nil,minusH_nil,purgeHL_nil,renL_id]
  rw [he] at key
  exact key
theorem frz_rd {α : Type} {enc : α → List AV} {sz : Nat} (henc : ∀ y,(enc y).length = sz) (xs : List α) (β : Bool) :
    AV.rd β xs.length (((xs.flatMap enc).drop 0).take (xs.length * sz)) = AV.rd β xs.length (xs.flatMap enc) := by rw [← lendAll henc xs]
theorem VC.slotEq {C : Ctx} {s : St} {d : Nat} {v v' : AV} (hd : look d s.env = some v) (h : v = v') : VC C s ⟨(d,v') :: s.env,s.heap⟩ := VC.slot hd fun _ _ _ _ hv => h ▸ hv
theorem VC.frz {C : Ctx} {s : St} {α : Type} {enc : α → List AV} {d t sz : Nat} {E : TypeId} {xs : List α} (hk : look t s.heap = some ⟨E,true,xs.flatMap enc⟩) (hd : look d s.env = some (.own t sz 0 xs.length))
    (henc : ∀ y,(enc y).length = sz) : VC C s ⟨(d,.rd false xs.length (xs.flatMap enc)) :: frzE t (xs.flatMap enc) s.env,frzH t (xs.flatMap enc) s.heap⟩ := by
  refine (VC.freeze hk).trans (VC.slotEq (v := .rd false xs.length (((xs.flatMap enc).drop 0).take (xs.length * sz))) ?_ (frz_rd henc xs false))
  show look d (frzE t _ s.env) = _
  rw [look_frzE,hd]
  simp [frzA]
theorem VC.nilRd {C : Ctx} {s : St} {d : Nat} (β : Bool) (hd : look d s.env = some (.sc (.slice none 0 0))) : VC C s ⟨(d,.rd β 0 []) :: s.env,s.heap⟩ := VC.slot hd fun _ _ _ _ h => nil_rd h
theorem Cv.lendRow {C : Ctx} {s : St} {σ : Nat → Nat} {H : List (Nat × Blk)} {α : Type} {enc : α → List AV} {t sz n : Nat} {E : TypeId} {xs : List α} (hk : look t s.heap = some ⟨E,true,xs.flatMap enc⟩)
    (ht : anyT ((dom H).map σ) t = false) (henc : ∀ y,(enc y).length = sz) (hn : n = xs.length) : Cv C s σ H true (.own t sz 0 n) (.rd true xs.length (xs.flatMap enc)) := by
  subst hn
  exact Cv.lend hk rfl (nm ht) (lendAll henc xs) (flatMap_length henc xs)
theorem gdB {α : Type} {c : Bool} {o : Option α} {d y : α} (h : gdO c o d = some y) : c = true → o = some y := fun hc => gdS hc h
def asrtG {α : Type} (c : Bool) (p : Prop) [Decidable p] (k : Option α) : Option α := if c = true then asrt p k else k
theorem asrtGS {α : Type} {c : Bool} {p : Prop} [Decidable p] {k : Option α} {r : α} (h : asrtG c p k = some r) : (c = true → p) ∧ k = some r := by
  unfold asrtG at h
  by_cases hc : c = true
  · rw [if_pos hc] at h
    exact ⟨fun _ => (asrtS h).1,(asrtS h).2⟩
  · rw [if_neg hc] at h
    exact ⟨fun h => absurd h hc,h⟩
end Go.AB
namespace Go.AB
open Go
theorem AWP.join' {C : Ctx} {c : Code} {Q : Exit → St → Prop} {s : St} {σ R : Type} {f : σ → Option R} {g : (σ → Option R) → Option R} {r : R} (S : σ → St) (h : jn f g = some r)
    (rest : ∀ p,f p = some r → Q .normal (S p)) (main : ∀ k : σ → Option R,g k = some r → AWP C c (thn (fun s' => ∃ p,k p = some r ∧ VC C s' (S p)) Q) s) : AWP C c Q s :=
  AWP.join S h rest (main f)
theorem AWP.joinB' {C : Ctx} {id : Nat} {c : Code} {Q : Exit → St → Prop} {s : St} {σ R : Type} {f : σ → Option R} {g : (σ → Option R) → Option R} {r : R} (S : σ → St) (h : jn f g = some r)
    (rest : ∀ p,f p = some r → Q .normal (S p)) (main : ∀ k : σ → Option R,g k = some r → AWP C c (inbJ id (fun s' => ∃ p,k p = some r ∧ VC C s' (S p)) Q) s) : AWP C (.block id c) Q s :=
  AWP.joinB S h rest (main f)
theorem Res.drop {C : Ctx} {fn : Func} {s : St} {r : AV} {H : List (Nat × Blk)} (ht : r.tags = []) (h : Res C fn s r H) : Res C fn s r [] := fun ι a w rel => by
  obtain ⟨v,ι',h1,h2,h3,h4,h5⟩ := h ι a w rel
  have hno : ∀ t,¬ has t ([] : List (Nat × Blk)) := fun t ⟨k,hk⟩ => by cases hk
  refine ⟨v,ι',h1,h2,⟨fun t k hk => (by cases hk),fun t t' b ht => absurd ht (hno t),fun t b ht => absurd ht (hno t),h3.tr⟩,?_,h5⟩
  refine h4.mono (fun _ _ h => h) _ _ (fun β b hz => ⟨hz.1,fun t ht => absurd ht (hno t),hz.2.2⟩) (fun _ _ _ _ _ h => h) (fun t b hf => ?_)
  have := AV.tags_of_free hf
  rw [ht] at this
  cases this
theorem le1 {a b : Nat} (h : Nat.ble a b = true) : a ≤ b := Nat.le_of_ble_eq_true h
theorem encI_still (k : IntKind) (y : Int) : ∀ c,c ∈ encI k y → c.still = true := by simp [encI,AV.still]
section
variable {α : Type} {enc : α → List AV} {sz : Nat}
theorem still_all (h : ∀ y,∀ c,c ∈ enc y → c.still = true) (xs : List α) : ∀ c,c ∈ xs.flatMap enc → c.still = true := by
  intro c hc
  obtain ⟨y,_,hy⟩ := List.mem_flatMap.1 hc
  exact h y c hy
theorem cells_at (henc : ∀ y,(enc y).length = sz) {xs : List α} {j : Int} {y : α} (hy : getIdx xs j = some y) : ((xs.flatMap enc).drop (0 + j.toNat * sz)).take sz = enc y := by
  obtain ⟨h0,h1,h2⟩ := getIdx_some hy
  rw [Nat.zero_add,flatMap_drop henc]
  have : xs.drop j.toNat = y :: xs.drop (j.toNat + 1) := by
    obtain ⟨hlt,he⟩ := List.getElem?_eq_some_iff.1 h2
    rw [List.drop_eq_getElem_cons hlt,he]
  rw [this,List.flatMap_cons,List.take_append_of_le_length (by rw [henc]; exact Nat.le_refl _),List.take_of_length_le (by rw [henc]; exact Nat.le_refl _)]
theorem le_at (henc : ∀ y,(enc y).length = sz) {xs : List α} {j : Int} {y : α} (hy : getIdx xs j = some y) : 0 + j.toNat * sz + sz ≤ (xs.flatMap enc).length := by
  obtain ⟨h0,h1,h2⟩ := getIdx_some hy
  rw [flatMap_length henc]
  have : j.toNat + 1 ≤ xs.length := by omega
  calc 0 + j.toNat * sz + sz = (j.toNat + 1) * sz := by rw [Nat.zero_add,Nat.add_mul,Nat.one_mul]
    _ ≤ xs.length * sz := Nat.mul_le_mul_right _ this
theorem splL_at (henc : ∀ y,(enc y).length = sz) {xs ys : List α} {j : Int} {y y' : α} (hy : getIdx xs j = some y) (hs : setIdx xs j y' = some ys) : ys.flatMap enc = splL (xs.flatMap enc) (0 + j.toNat * sz) (enc y') := by
  obtain ⟨h0,h1,h2⟩ := getIdx_some hy
  obtain ⟨_,_,rfl,_⟩ := setIdxS hs
  unfold splL
  rw [Nat.zero_add,henc,show j.toNat * sz + sz = (j.toNat + 1) * sz from by rw [Nat.add_mul,Nat.one_mul],flatMap_take henc,flatMap_drop henc]
  obtain ⟨hlt,he⟩ := List.getElem?_eq_some_iff.1 h2
  rw [List.set_eq_take_append_cons_drop,if_pos hlt,List.flatMap_append,List.flatMap_cons,List.append_assoc]
end
section
variable {C : Ctx} {d : Nat} {ty : TypeId} {p : String} {e : Array Edge} {g : Option (Nat × Bool)} {s : St}
def freshB (t : Nat) (s : St) : Bool := s.env.all (fun q => AV.free t q.2) && s.heap.all (fun q => !(Nat.beq q.1 t) && (q.2.lst || AV.freeL t q.2.cells))
theorem purgeA_of_free {t : Nat} {v : AV} (h : AV.free t v = true) : purgeA t v = v := by unfold purgeA; rw [h]; rfl
theorem frzA_of_free {t : Nat} {cells : List AV} (v : AV) (h : AV.free t v = true) : frzA t cells v = v := by
  induction v using AV.rec (motive_2 := fun l => AV.freeL t l = true → frzL t cells l = l) <;> simp_all [AV.free,AV.freeL,frzA,frzL,beq_ne]
theorem AStep.frzNew {α : Type} {enc : α → List AV} {o : Oper} {t sz : Nat} {E : TypeId} {xs : List α} {n : Nat} (h : AStep C o s (s.newP d t ⟨E,true,xs.flatMap enc⟩ (.own t sz 0 n))) (hf : freshB t s = true) (hn : n = xs.length)
    (henc : ∀ y,(enc y).length = sz) : AStep C o s (s.put d (.rd false xs.length (xs.flatMap enc))) := by
  subst hn
  have h1 : ∀ q ∈ s.env,AV.free t q.2 = true := List.all_eq_true.1 (andL hf)
  have h2 := List.all_eq_true.1 (andR hf)
  refine AStep.vc h ((VC.frz (d := d) (t := t) (E := E) (xs := xs) (enc := enc) (sz := sz) ?_ ?_ henc).trans ?_)
  · simp [St.newP,look_cons_self]
  · simp [St.newP,look_cons_self]
  · intro ι a w r
    have he : frzE t (xs.flatMap enc) ((d,AV.own t sz 0 xs.length) :: purgeE t s.env) = (d,frzA t (xs.flatMap enc) (AV.own t sz 0 xs.length)) :: s.env := by
      show (d,_) :: frzE t _ (purgeE t s.env) = _
      congr 1
      generalize s.env = E at h1
      induction E with
      | nil => rfl
      | cons a l ih =>
        obtain ⟨x,v⟩ := a
        have hv := h1 (x,v) (by simp)
        simp only [purgeE,frzE]
        rw [ih fun q hq => h1 q (List.mem_cons_of_mem _ hq),purgeA_of_free hv,frzA_of_free v hv]
    have hh : frzH t (xs.flatMap enc) ((t,⟨E,true,xs.flatMap enc⟩) :: purgeH t s.heap) = s.heap := by
      show (bif Nat.beq t t then frzH t _ (purgeH t s.heap) else _) = _
      rw [Nat.beq_refl,cond_true]
      generalize s.heap = H at h2
      induction H with
      | nil => rfl
      | cons a l ih =>
        obtain ⟨x,k⟩ := a
        have hv := h2 (x,k) (by simp)
        have hx : Nat.beq x t = false := by have := andL hv; simpa using this
        have hx' : Nat.beq t x = false := by rw [← Bool.not_eq_true,Nat.beq_eq] at hx ⊢; exact fun e => hx e.symm
        simp only [purgeH,hx',cond_false,frzH,hx]
        rw [ih fun q hq => h2 q (List.mem_cons_of_mem _ hq)]
        congr 2
        obtain ⟨kt,kl,kc⟩ := k
        cases kl with
        | true => rfl
        | false =>
          have hc : AV.freeL t kc = true := by simpa using andR hv
          rw [AV.freeL_eq,List.all_eq_true] at hc
          simp only [purgeB,frzB,cond_false,frzL_eq,List.map_map]
          congr 1
          conv => rhs; rw [← List.map_id kc]
          refine List.map_congr_left fun c hc' => ?_
          simp only [Function.comp,id,purgeA_of_free (hc c hc'),frzA_of_free c (hc c hc')]
    refine ⟨ι,r.size,r.dfr,?_,?_,r.stab⟩
    · intro d' v' hl
      have r2 := r.env d' v'
      have hz : zone C (St.put s d (.rd false xs.length (xs.flatMap enc))).heap ι w = zone C (frzH t (xs.flatMap enc) (s.newP d t ⟨E,true,xs.flatMap enc⟩ (.own t sz 0 xs.length)).heap) ι w := by
        show zone C s.heap ι w = zone C (frzH t (xs.flatMap enc) ((t,⟨E,true,xs.flatMap enc⟩) :: purgeH t s.heap)) ι w
        rw [hh]
      rw [hz]
      refine r2 ?_
      by_cases ed : d' = d
      · subst ed
        simp only [St.put,look_cons_self] at hl ⊢
        exact hl
      · simp only [St.put,look_cons_ne ed] at hl ⊢
        show look d' (frzE t (xs.flatMap enc) ((d,AV.own t sz 0 xs.length) :: purgeE t s.env)) = some v'
        rw [he,look_cons_ne ed]
        exact hl
    · have := r.core
      have e2 : (frzH t (xs.flatMap enc) (s.newP d t ⟨E,true,xs.flatMap enc⟩ (.own t sz 0 xs.length)).heap) = s.heap := hh
      rw [e2] at this
      exact this
end
theorem setLen {α : Type} {xs ys : List α} {i : Int} {y : α} (h : setIdx xs i y = some ys) : ys.length = xs.length := (setIdxS h).2.2.2
theorem Ev.ownN {C : Ctx} {s : St} {x : Operand} {t sz o n m : Nat} (h : n = m) (hx : Ev C s x (.own t sz o n)) : Ev C s x (.own t sz o m) := h ▸ hx
theorem lenC {l : Option AV} {t sz o n m : Nat} (h : n = m) (hl : l = some (.own t sz o n)) : l = some (.own t sz o m) := h ▸ hl
theorem AStep.box {C : Ctx} {d : Nat} {ty : TypeId} {p : String} {e : Array Edge} {g : Option (Nat × Bool)} {s : St} {T : TypeId} {x : Operand} {v : AV} {t n : Nat} (hd : d < C.N) (hK : t ∉ C.K) (hx : Ev C s x v)
    (hw : v.wide n) (hfr : AV.free t v = true) : AStep C ⟨some d,.box T x,ty,p,e,g⟩ s (s.newP d t ⟨T,false,v.cellsOf⟩ (.ptr t 0)) :=
  .run (fun _ h => by cases h) fun ι a w r => by
    have hv := hx ι a w r
    obtain ⟨h1,h2,h3⟩ := hv.wide hw
    refine ⟨.pointer (some ⟨w.heap.size,0,none⟩),w.alloc (.cells (a.eval x).cells T),setT ι t w.heap.size,?_,?_⟩
    · simp [execOp,Instr.box,newVar,newRow]
    · refine r.new hd hK rfl rfl rfl (by simp) (fun j hj => heap_alloc_old w _ hj) (Nat.le_refl _) (fun Z' hZ' => ?_) (fun Z' hZ' => ?_)
      · simp only [BlkR,setT,if_true]
        refine ⟨(a.eval x).cells,heap_alloc_new w _,by rw [h2,h1]; exact Nat.le_refl _,fun i hi => ?_⟩
        obtain ⟨y,hy,hvr⟩ := h3 i hi
        refine ⟨y,hy,?_⟩
        simp only [cond_false]
        have hfree : AV.free t (v.cellsOf[i]'hi) = true := by
          cases v <;> simp_all [AV.cellsOf,AV.free,AV.freeL_eq]
        refine hvr.mono (fun b n hb => ?_) _ _ hZ' (fun β b o u hz hc => ?_) (fun t' b hf ht => ?_)
        · unfold bsz at hb ⊢
          by_cases hlt : b < w.heap.size
          · rw [heap_alloc_old w _ hlt]; exact hb
          · rw [Array.getElem?_eq_none (by omega)] at hb; cases hb
        · rw [← hc]
          unfold World.cell?
          simp only [heap_alloc_old w _ hz.1]
        · have : t' ≠ t := fun e => by subst e; rw [hfree] at hf; cases hf
          simp [setT,this,ht]
      · exact .ptr _ _ _ _ _ (by simp [setT])
end Go.AB
namespace Go.AB
open Go
section
variable {C : Ctx} {d : Nat} {ty : TypeId} {p : String} {e : Array Edge} {g : Option (Nat × Bool)} {s : St}
end
theorem Need.at {l : List (Nat × AV)} {E : List (Nat × AV)} (h : Need l E) : ∀ {k d : Nat} {v : AV},l[k]? = some (d,v) → look d E = some v := by
  induction l with
  | nil => intro k d v hk; simp at hk
  | cons a l ih =>
    intro k d v hk
    obtain ⟨d0,v0⟩ := a
    cases k with
    | zero => simp at hk; obtain ⟨rfl,rfl⟩ := hk; exact h.1
    | succ k => simp at hk; exact ih h.2 hk
theorem DInv.at {F : List DFact} {L : Nat → Bool} {E : List (Nat × AV)} (h : DInv F L E) {k : Nat} {f : DFact} (hf : F[k]? = some f) (hb : (match f.born with | none => true | some j => L j) = true) (hd : f.dies = []) : look f.slot E = some f.v := by
  refine h f (List.mem_of_getElem? hf) (fun j hj => ?_) (fun k hk => by rw [hd] at hk; cases hk)
  rw [hj] at hb
  exact hb
theorem allLt {c : List Nat} {n : Nat} (h : c.all (fun x => Nat.blt x n) = true) : ∀ x,x ∈ c → x < n := fun x hx => by
  have := List.all_eq_true.1 h x hx
  exact lt1 this
theorem bigger (l : List Nat) : ∃ t,t ∉ l := by
  refine ⟨l.foldr max 0 + 1,fun h => ?_⟩
  have : ∀ (l : List Nat) (x : Nat),x ∈ l → x ≤ l.foldr max 0 := by
    intro l
    induction l with
    | nil => intro x hx; cases hx
    | cons a l ih =>
      intro x hx
      rw [List.foldr_cons]
      rcases List.mem_cons.1 hx with rfl | hx
      · exact Nat.le_max_left _ _
      · exact Nat.le_trans (ih x hx) (Nat.le_max_right _ _)
  have := this l _ h
  omega
theorem AV.free_of_not_tag {t : Nat} {v : AV} (h : t ∉ v.tags) : AV.free t v = true := by
  cases hf : AV.free t v with
  | true => rfl
  | false => exact absurd (AV.tags_of_free hf) h
theorem AStep.frzAny {C : Ctx} {d : Nat} {s : St} {α : Type} {enc : α → List AV} {o : Oper} {sz n : Nat} {E : TypeId} {xs : List α} (h : ∀ t,t ∉ C.K → AStep C o s (s.newP d t ⟨E,true,xs.flatMap enc⟩ (.own t sz 0 n))) (hn : n = xs.length)
    (henc : ∀ y,(enc y).length = sz) : AStep C o s (s.put d (.rd false xs.length (xs.flatMap enc))) := by
  obtain ⟨t,ht⟩ := bigger (C.K ++ s.env.flatMap (fun q => q.2.tags) ++ s.heap.flatMap (fun q => q.1 :: AV.tagsL q.2.cells))
  simp only [List.mem_append,List.mem_flatMap,not_or,not_exists,not_and] at ht
  refine AStep.frzNew (h t ht.1.1) ?_ hn henc
  unfold freshB
  rw [Bool.and_eq_true,List.all_eq_true,List.all_eq_true]
  refine ⟨fun q hq => AV.free_of_not_tag (ht.1.2 q hq),fun q hq => ?_⟩
  have hq' := ht.2 q hq
  simp only [List.mem_cons,not_or] at hq'
  have h1 : Nat.beq q.1 t = false := beq_ne fun e => hq'.1 e.symm
  rw [h1]
  have h2 : AV.freeL t q.2.cells = true := by
    rw [AV.freeL_eq,List.all_eq_true]
    exact fun c hc => AV.free_of_not_tag fun hm => hq'.2 (AV.mem_tagsL.2 ⟨c,hc,hm⟩)
  rw [h2]
  simp
end Go.AB
namespace Go.AB
open Go
end Go.AB
namespace Go.AB
open Go
end Go.AB

import Derived.Test.YtnmglighdhaccaaBd
import Derived.Laws.CopyRow
import Derived.Laws.IdiomCopy
namespace Go.AB
open Go
theorem jnE {α β : Type} {f : α} {g : α → Option β} {r : β} (h : jn f g = some r) : ∃ k,k = f ∧ g k = some r := ⟨f,rfl,h⟩
theorem called_rel {C C' : Ctx} {d : Nat} {s : St} {K : List Nat} {H : List (Nat × Blk)} {r : AV} {H' : List (Nat × Blk)} {σ : Nat → Nat} (hd : d < C.N) (ok : CallOk C s σ false K H r H') {ι ι' : Tags} {a : Act} {w w' : World} {v : Value} {Zc : Zone}
    (rel : Rel C s ι a w) (hsize : w.heap.size ≤ w'.heap.size) (hTsz : ∀ b n,bsz w b = some n → bsz w' b = some n)
    (hkeep : ∀ b,(∃ β,zone C s.heap ι w β b) ∨ (∃ x,has x s.heap ∧ ι x = some b ∧ ∀ t,t ∈ dom H → σ t ≠ x) → ∀ c ty n,w.heap[b]? = some (.cells c ty n) → w'.heap[b]? = w.heap[b]?)
    (cblk : ∀ t k,look t H' = some k → BlkR w' Zc ι' t k) (cinj : ∀ t t' b,has t H' → has t' H' → ι' t = some b → ι' t' = some b → t = t')
    (cown : ∀ t b,has t H' → ι' t = some b → w.heap.size ≤ b ∨ ownedBy H (fun t => ι (σ t)) b) (hst : ∀ t,t ∈ K → ι' t = ι (σ t)) (hv : VR w' Zc ι' r v)
    (Nw : Nat → Prop) (hNw : ∀ b,Nw b → w.heap.size ≤ b ∨ ownedBy H (fun t => ι (σ t)) b) (hZc : ∀ β b,Zc β b → b < w'.heap.size ∧ (∀ t,has t H' → ι' t ≠ some b) ∧ (zone C s.heap ι w β b ∨ zone C s.heap ι w false b ∨ Nw b))
    (eN : C'.N = C.N) (eD : C'.dfr = C.dfr) (eK : C'.K = C.K) (eι : C'.ι0 = C.ι0)
    (hZ' : ∀ β b,b < w'.heap.size → (zone C s.heap ι w β b ∨ zone C s.heap ι w false b ∨ Nw b) → (β = true ∧ C'.Zb b) ∨ C'.Zs b ∨ C'.w0.heap.size ≤ b ∨ C'.T0 b)
    (hown' : ∀ b,ownedBy (s.called d σ K H r H').heap (backT σ (dom H ++ dom H') ι ι') b → C'.w0.heap.size ≤ b ∨ C'.T0 b) (htr' : Trans C'.T0 C'.w0 w') :
    Rel C' (s.called d σ K H r H') (backT σ (dom H ++ dom H') ι ι') (a.put (some d) v) w' := by
  have hHas : ∀ t,has t H → has (σ t) s.heap := fun t ⟨k,hk⟩ => ⟨_,ok.hH t k hk⟩
  -- names
  have hD : ∀ t,t ∈ dom H ++ dom H' → backT σ (dom H ++ dom H') ι ι' (σ t) = ι' t := fun t ht => backT_at ok.inj ht
  -- a block of the caller's zone keeps its cells
  have notOwned : ∀ β b,zone C s.heap ι w β b → ¬ ownedBy H (fun t => ι (σ t)) b := by
    rintro β b hz ⟨t,ht,e1⟩
    exact hz.2.1 (σ t) (hHas t ht) e1
  have hcell : ∀ β b o u,zone C s.heap ι w β b → w.cell? ⟨b,o,none⟩ = some u → w'.cell? ⟨b,o,none⟩ = some u := by
    intro β b o u hz hu
    obtain ⟨c,ty,n,hc⟩ := cells_of_cell hu
    rw [World.cell?_of_block (a := ⟨b,o,none⟩) (hkeep b (.inl ⟨β,hz⟩) c ty n hc)]; exact hu
  -- the frame: blocks that are neither handed over nor handed back
  have hF : ∀ x k,look x (purgeHL (turned σ K H H') (minusH ((dom H).map σ) s.heap)) = some k → ∃ k0,look x s.heap = some k0 ∧ k = purgeBL (turned σ K H H') k0 ∧ x ∉ (dom H).map σ ∧ x ∉ (dom H').map σ := by
    intro x k hl
    rw [purgeHL,look_map] at hl
    cases hq : look x (minusH ((dom H).map σ) s.heap) with
    | none => rw [hq] at hl; cases hl
    | some k0 =>
      rw [hq] at hl
      simp only [Option.map_some,Option.some.injEq] at hl
      have hq' := hq
      rw [look_minusH] at hq
      split at hq
      · cases hq
      · rename_i hn
        refine ⟨k0,hq,hl.symm,hn,fun hm => ?_⟩
        obtain ⟨t,ht,rfl⟩ := List.mem_map.1 hm
        exact ok.fresh t ht ⟨k0,hq'⟩
  have hheap : ∀ x k,look x (s.called d σ K H r H').heap = some k → (∃ t k1,t ∈ dom H' ∧ x = σ t ∧ look t H' = some k1 ∧ k = renB σ k1) ∨
      (∃ k0,look x s.heap = some k0 ∧ k = purgeBL (turned σ K H H') k0 ∧ (∀ t,t ∈ dom H ++ dom H' → σ t ≠ x)) := by
    intro x k hl
    simp only [St.called] at hl
    rw [look_append] at hl
    by_cases hx : x ∈ (dom H').map σ
    · obtain ⟨t,ht,rfl⟩ := List.mem_map.1 hx
      rw [look_renH (fun a ha he => ok.inj a t (List.mem_append_right _ ha) (List.mem_append_right _ ht) he)] at hl
      obtain ⟨k1,hk1⟩ := has_dom.2 ht
      rw [hk1] at hl
      simp only [Option.map_some,Option.some.injEq] at hl
      exact .inl ⟨t,k1,ht,rfl,hk1,hl.symm⟩
    · rw [look_renH_none (fun a ha e => hx (List.mem_map.2 ⟨a,ha,e⟩))] at hl
      obtain ⟨k0,h1,h2,h3,h4⟩ := hF x k hl
      refine .inr ⟨k0,h1,h2,fun t ht e => ?_⟩
      rcases List.mem_append.1 ht with ht | ht
      · exact h3 (List.mem_map.2 ⟨t,ht,e⟩)
      · exact h4 (List.mem_map.2 ⟨t,ht,e⟩)
  have frameOff : ∀ x,(∀ t,t ∈ dom H ++ dom H' → σ t ≠ x) → backT σ (dom H ++ dom H') ι ι' x = ι x := fun x h => backT_off h
  have frameB : ∀ x b,has x s.heap → (∀ t,t ∈ dom H ++ dom H' → σ t ≠ x) → ι x = some b → b < w.heap.size ∧ ¬ ownedBy H (fun t => ι (σ t)) b := by
    rintro x b ⟨k0,hk0⟩ hne hb
    have h0 := rel.core.blk x k0 hk0
    simp only [BlkR,hb] at h0
    obtain ⟨cur,h1,_⟩ := h0
    refine ⟨(Array.getElem?_eq_some_iff.1 h1).1,?_⟩
    rintro ⟨t,ht,e1⟩
    exact hne t (List.mem_append_left _ (has_dom.1 ht)) (rel.core.inj _ _ b (hHas t ht) ⟨k0,hk0⟩ e1 hb)
  -- zones
  have Zold : ∀ β b,zone C s.heap ι w β b → zone C' (s.called d σ K H r H').heap (backT σ (dom H ++ dom H') ι ι') w' β b := by
    intro β b hz
    refine ⟨Nat.lt_of_lt_of_le hz.1 hsize,?_,hZ' β b (Nat.lt_of_lt_of_le hz.1 hsize) (.inl hz)⟩
    rintro x ⟨k,hk'⟩ e1
    rcases hheap x k hk' with ⟨t,k1,ht,rfl,hk1,_⟩ | ⟨k0,hk0,_,hne⟩
    · rw [hD t (List.mem_append_right _ ht)] at e1
      rcases cown t b ⟨k1,hk1⟩ e1 with h | h
      · exact absurd h (Nat.not_le.2 hz.1)
      · exact notOwned β b hz h
    · rw [frameOff x hne] at e1
      exact hz.2.1 x ⟨k0,hk0⟩ e1
  have Znew : ∀ β b,Zc β b → zone C' (s.called d σ K H r H').heap (backT σ (dom H ++ dom H') ι ι') w' β b := by
    intro β b hz
    obtain ⟨h1,h2,h3'⟩ := hZc β b hz
    refine ⟨h1,?_,hZ' β b h1 h3'⟩
    rintro x ⟨k,hk'⟩ e1
    rcases hheap x k hk' with ⟨t,k1,ht,rfl,hk1,_⟩ | ⟨k0,hk0,_,hne⟩
    · rw [hD t (List.mem_append_right _ ht)] at e1
      exact h2 t ⟨k1,hk1⟩ e1
    · rw [frameOff x hne] at e1
      obtain ⟨hlt,hno⟩ := frameB x b ⟨k0,hk0⟩ hne e1
      rcases h3' with h | h | h
      · exact h.2.1 x ⟨k0,hk0⟩ e1
      · exact h.2.1 x ⟨k0,hk0⟩ e1
      · rcases hNw b h with h | h
        · omega
        · exact hno h
  have hιold : ∀ t' b,t' ∉ turned σ K H H' → ι t' = some b → backT σ (dom H ++ dom H') ι ι' t' = some b := by
    intro t' b hn hb
    by_cases hx : ∃ t,t ∈ dom H ++ dom H' ∧ σ t = t'
    · obtain ⟨t,ht,rfl⟩ := hx
      rw [hD t ht]
      have htK : t ∈ K := by
        apply Classical.byContradiction
        intro hk'
        refine hn (List.mem_map.2 ⟨t,List.mem_filter.2 ⟨ht,?_⟩,rfl⟩)
        have : anyT K t = false := by rw [← Bool.not_eq_true,anyT_iff]; exact hk'
        simp [this]
      rw [hst t htK]; exact hb
    · rw [frameOff t' (fun t ht e => hx ⟨t,ht,e⟩)]; exact hb
  -- a value of the callee's,at the caller's
  have back : ∀ v0 u,(∀ t,t ∈ v0.tags → t ∈ dom H') → VR w' Zc ι' v0 u → VR w' (zone C' (s.called d σ K H r H').heap (backT σ (dom H ++ dom H') ι ι') w') (backT σ (dom H ++ dom H') ι ι') (v0.ren σ) u := by
    intro v0 u htg hv0
    have h1 : VR w' (zone C' (s.called d σ K H r H').heap (backT σ (dom H ++ dom H') ι ι') w') ι' v0 u :=
      hv0.mono (fun _ _ h => h) _ _ (fun β b hz => Znew β b hz) (fun _ _ _ _ _ h => h) (fun _ _ _ h => h)
    exact h1.renamed fun t b ht hb => by rw [hD t (List.mem_append_right _ (htg t ht))]; exact hb
  refine ⟨by rw [eN]; simp [Act.put,rel.size],by rw [eD]; simp [Act.put,rel.dfr],?_,⟨?_,?_,?_,?_⟩,?_⟩
  · intro d' v' hl
    simp only [St.called] at hl
    have hsize' := rel.size
    by_cases e1 : d' = d
    · subst e1
      rw [look_cons_self] at hl
      cases hl
      have : (a.put (some d') v).tmps.getD d' undef = v := by
        simp [Act.put,Array.getD_eq_getD_getElem?,hsize',hd]
      rw [this]
      exact back r v ok.tags hv
    · rw [look_cons_ne e1,purgeEL,look_map] at hl
      have : (a.put (some d) v).tmps.getD d' undef = a.tmps.getD d' undef := by
        simp only [Act.put,Array.getD_eq_getD_getElem?,Array.getElem?_setIfInBounds]
        rw [if_neg (fun h => e1 h.symm)]
      rw [this]
      cases hq : look d' s.env with
      | none => rw [hq] at hl; cases hl
      | some q =>
        rw [hq] at hl
        simp only [Option.map_some,Option.some.injEq] at hl
        subst hl
        exact purgeAL_VR hTsz Zold hcell hιold (rel.env d' q hq)
  · intro x k hl
    rcases hheap x k hl with ⟨t,k1,ht,rfl,hk1,rfl⟩ | ⟨k0,hk0,rfl,hne⟩
    · have h0 := cblk t k1 hk1
      unfold BlkR at h0 ⊢
      rw [hD t (List.mem_append_right _ ht)]
      cases hx : ι' t with
      | none =>
        simp only [hx] at h0 ⊢
        obtain ⟨kt,kl,kc⟩ := k1
        obtain ⟨h1,h2⟩ := h0
        simp only at h1 h2
        subst h2
        exact ⟨h1,rfl⟩
      | some b =>
        simp only [hx] at h0 ⊢
        obtain ⟨cur,q1,q2,q3⟩ := h0
        obtain ⟨kt,kl,kc⟩ := k1
        cases kl with
        | true =>
          refine ⟨cur,q1,q2,fun i hi => ?_⟩
          obtain ⟨u,hu,hv0⟩ := q3 i hi
          exact ⟨u,hu,hv0.mono (fun _ _ h => h) _ _ (fun _ b hz => Znew false b hz) (fun _ _ _ _ _ h => h) (fun _ _ _ h => h)⟩
        | false =>
          have hlen : (renB σ ⟨kt,false,kc⟩).cells.length = kc.length := by simp [renB,AV.renL_eq]
          refine ⟨cur,q1,by rw [hlen]; exact q2,fun i hi => ?_⟩
          have hi' : i < kc.length := by rw [hlen] at hi; exact hi
          obtain ⟨u,hu,hv0⟩ := q3 i hi'
          refine ⟨u,hu,?_⟩
          have e1 : (renB σ ⟨kt,false,kc⟩).cells[i]'hi = (kc[i]'hi').ren σ := by simp [renB,AV.renL_eq]
          rw [e1]
          refine back _ u (fun t' ht' => ?_) hv0
          rcases ok.tagsH t _ hk1 with h | h
          · cases h
          · exact h t' (AV.mem_tagsL.2 ⟨_,List.getElem_mem hi',ht'⟩)
    · have h0 := rel.core.blk x k0 hk0
      unfold BlkR at h0 ⊢
      rw [frameOff x hne]
      cases hx : ι x with
      | none =>
        simp only [hx] at h0 ⊢
        obtain ⟨kt,kl,kc⟩ := k0
        obtain ⟨h1,h2⟩ := h0
        simp only at h1 h2
        subst h2
        exact ⟨h1,rfl⟩
      | some b =>
        simp only [hx] at h0 ⊢
        obtain ⟨cur,q1,q2,q3⟩ := h0
        obtain ⟨hlt,hno⟩ := frameB x b ⟨k0,hk0⟩ hne hx
        obtain ⟨kt,kl,kc⟩ := k0
        have hb' := hkeep b (.inr ⟨x,⟨_,hk0⟩,hx,fun t ht => hne t (List.mem_append_left _ ht)⟩) _ _ _ q1
        cases kl with
        | true =>
          refine ⟨cur,by rw [hb']; exact q1,q2,fun i hi => ?_⟩
          obtain ⟨u,hu,hv0⟩ := q3 i hi
          exact ⟨u,hu,hv0.mono hTsz _ _ (fun _ b hz => Zold false b hz) (fun _ b o u hz => hcell false b o u hz) (fun _ _ _ h => h)⟩
        | false =>
          have hlen : (purgeBL (turned σ K H H') ⟨kt,false,kc⟩).cells.length = kc.length := by simp [purgeBL]
          refine ⟨cur,by rw [hb']; exact q1,by rw [hlen]; exact q2,fun i hi => ?_⟩
          have hi' : i < kc.length := by rw [hlen] at hi; exact hi
          obtain ⟨u,hu,hv0⟩ := q3 i hi'
          refine ⟨u,hu,?_⟩
          have e1 : (purgeBL (turned σ K H H') ⟨kt,false,kc⟩).cells[i]'hi = purgeAL (turned σ K H H') (kc[i]'hi') := by simp [purgeBL]
          rw [e1]
          exact purgeAL_VR hTsz Zold hcell hιold hv0
  · rintro x y b ⟨k,hx⟩ ⟨k',hy⟩ ex ey
    rcases hheap x k hx with ⟨t,k1,ht,rfl,hk1,_⟩ | ⟨k0,hk0,_,hne⟩
    · rw [hD t (List.mem_append_right _ ht)] at ex
      rcases hheap y k' hy with ⟨t2,k2,ht2,rfl,hk2,_⟩ | ⟨k2,hk2,_,hne2⟩
      · rw [hD t2 (List.mem_append_right _ ht2)] at ey
        rw [cinj t t2 b ⟨k1,hk1⟩ ⟨k2,hk2⟩ ex ey]
      · rw [frameOff y hne2] at ey
        obtain ⟨hlt,hno⟩ := frameB y b ⟨k2,hk2⟩ hne2 ey
        rcases cown t b ⟨k1,hk1⟩ ex with h | h
        · exact absurd h (Nat.not_le.2 hlt)
        · exact absurd h hno
    · rw [frameOff x hne] at ex
      obtain ⟨hlt,hno⟩ := frameB x b ⟨k0,hk0⟩ hne ex
      rcases hheap y k' hy with ⟨t2,k2,ht2,rfl,hk2,_⟩ | ⟨k2,hk2,_,hne2⟩
      · rw [hD t2 (List.mem_append_right _ ht2)] at ey
        rcases cown t2 b ⟨k2,hk2⟩ ey with h | h
        · exact absurd h (Nat.not_le.2 hlt)
        · exact absurd h hno
      · rw [frameOff y hne2] at ey
        exact rel.core.inj x y b ⟨k0,hk0⟩ ⟨k2,hk2⟩ ex ey
  · exact fun x b hx ex => hown' b ⟨x,hx,ex⟩
  · exact htr'
  · intro x hx
    rw [eK] at hx
    rw [eι]
    by_cases hq : ∃ t,t ∈ dom H ++ dom H' ∧ σ t = x
    · obtain ⟨t,ht,rfl⟩ := hq
      have htK : t ∈ K := Classical.byContradiction fun h => ok.stab t ht h hx
      rw [hD t ht,hst t htK]; exact rel.stab _ hx
    · rw [frameOff x (fun t ht e => hq ⟨t,ht,e⟩)]; exact rel.stab x hx
theorem called_owned {C : Ctx} {d : Nat} {s : St} {bw : Bool} {K : List Nat} {H : List (Nat × Blk)} {r : AV} {H' : List (Nat × Blk)} {σ : Nat → Nat} (ok : CallOk C s σ bw K H r H') {ι ι' : Tags} {b : Nat}
    (h : ownedBy (s.called d σ K H r H').heap (backT σ (dom H ++ dom H') ι ι') b) : ownedBy H' ι' b ∨ ∃ x,has x s.heap ∧ ι x = some b ∧ ∀ t,t ∈ dom H → σ t ≠ x := by
  obtain ⟨x,⟨k,hl⟩,e⟩ := h
  simp only [St.called] at hl
  rw [look_append] at hl
  by_cases hx : x ∈ (dom H').map σ
  · obtain ⟨t,ht,rfl⟩ := List.mem_map.1 hx
    rw [backT_at ok.inj (List.mem_append_right _ ht)] at e
    exact .inl ⟨t,has_dom.2 ht,e⟩
  · rw [look_renH_none (fun a ha e => hx (List.mem_map.2 ⟨a,ha,e⟩)),purgeHL,look_map] at hl
    cases hq : look x (minusH ((dom H).map σ) s.heap) with
    | none => rw [hq] at hl; cases hl
    | some k0 =>
      rw [look_minusH] at hq
      split at hq
      · cases hq
      · rename_i hn
        have h1 : ∀ t,t ∈ dom H → σ t ≠ x := fun t ht e => hn (List.mem_map.2 ⟨t,ht,e⟩)
        rw [backT_off (fun t ht e => ?_)] at e
        · exact .inr ⟨x,⟨k0,hq⟩,e,h1⟩
        · rcases List.mem_append.1 ht with ht | ht
          · exact h1 t ht e
          · exact hx (List.mem_map.2 ⟨t,ht,e⟩)
def yPhi {E X : Type} (tail : List E) : Option (List E × X) → Option (List E) := Option.map fun q => q.1 ++ tail
def yPsi {E X : Type} (x : X) (g : Option (List E × X)) : Prop := ∀ q,g = some q → q.2 = x
abbrev cxY (P : Program) (N : Nat) (K : List Nat) (ι0 : Tags) (d : ItD) : Ctx := ⟨P,none,N,[],d.w0,d.Zs,d.Zb,d.T0,K,ι0⟩
def yFam {E X : Type} (P : Program) (N : Nat) (K : List Nat) (ι0 : Tags) (xs tail : List E) (x : X) (Zs Zb : Nat → Prop) (J : List E → (Nat → Prop) → (Nat → Prop) → World → Prop) (Jx : (Nat → Prop) → (Nat → Prop) → World → Prop) : Fam (Option (List E × X)) where
  D := ItD
  P := P
  r := none
  cx d := cxY P N K ι0 d
  H g d := ItH xs Zs Zb J Jx (yPhi tail g) d ∧ yPsi x g
  hP _ := rfl
  hr _ := rfl
section
variable {E X : Type} {P : Program} {N : Nat} {K : List Nat} {ι0 : Tags} {xs tail : List E} {xf : X} {Zs Zb : Nat → Prop} {J : List E → (Nat → Prop) → (Nat → Prop) → World → Prop} {Jx : (Nat → Prop) → (Nat → Prop) → World → Prop}
theorem ItH.nowC {g : Option (List E)} {d : ItD}
    (h : ItH xs Zs Zb J Jx g d) (hJ : ∀ pre,Abide (J pre)) (hJx : Abide Jx) {s : St} {ι : Tags} {a : Act} {w : World} (r : Rel ⟨P,none,N,[],d.w0,d.Zs,d.Zb,d.T0,K,ι0⟩ s ι a w) :
    ItH xs Zs Zb J Jx g ⟨w,fun b => zone ⟨P,none,N,[],d.w0,d.Zs,d.Zb,d.T0,K,ι0⟩ s.heap ι w false b,fun b => zone ⟨P,none,N,[],d.w0,d.Zs,d.Zb,d.T0,K,ι0⟩ s.heap ι w true b,ownedBy s.heap ι,
      fun b => d.I b ∨ (d.w0.heap.size ≤ b ∧ b < w.heap.size)⟩ := by
  have hO : ∀ b,ownedBy s.heap ι b → d.T0 b ∨ d.w0.heap.size ≤ b := by
    rintro b ⟨t,ht,e⟩
    exact (r.core.own t b ht e).symm
  have hOlt : ∀ b,ownedBy s.heap ι b → b < w.heap.size := fun b hb => r.core.lt hb
  refine ⟨?_,fun b hb => ?_,fun b hb => ?_,fun b hb => ?_,fun b hb => ?_⟩
  · have hp := h.past
    cases g with
    | none => exact hJx _ _ _ _ _ _ hp r.core.tr hO (fun b => Iff.rfl)
    | some rest =>
      obtain ⟨pre,e,hj⟩ := hp
      exact ⟨pre,e,hJ pre _ _ _ _ _ _ hj r.core.tr hO (fun b => Iff.rfl)⟩
  · rcases hO b hb with h1 | h1
    · exact .inl (h.own b h1)
    · exact .inr ⟨h1,hOlt b hb⟩
  · rcases hb with hb | hb
    · exact Nat.lt_of_lt_of_le (h.lt b hb) r.core.tr.size
    · exact hb.2
  · obtain ⟨z1,_,z3⟩ := hb
    rcases z3 with ⟨h1,_⟩ | h1 | h1 | h1
    · cases h1
    · rcases h.zs b h1 with h2 | h2
      · exact .inl h2
      · exact .inr (.inl h2)
    · exact .inr (.inr ⟨h1,z1⟩)
    · exact .inr (.inl (h.own b h1))
  · obtain ⟨z1,_,z3⟩ := hb
    rcases z3 with ⟨_,h1⟩ | h1 | h1 | h1
    · rcases h.zb b h1 with h2 | h2 | h2
      · exact .inl h2
      · exact .inr (.inl h2)
      · exact .inr (.inr (.inl h2))
    · rcases h.zs b h1 with h2 | h2
      · exact .inr (.inl h2)
      · exact .inr (.inr (.inl h2))
    · exact .inr (.inr (.inr ⟨h1,z1⟩))
    · exact .inr (.inr (.inl (h.own b h1)))
def YSpec (P : Program) (l : Nat) (f : FuncId) (K : List Nat) (avs : List AV) (H : List (Nat × Blk)) (vals : E → List AV) (ys : List E) (Hf : X → List (Nat × Blk)) (x : X) : Prop :=
  callable P f ∧ ∀ (Zs Zb : Nat → Prop) (ι : Tags) (w : World) (vs : List Value) (N : Nat) (dfr : List Deferred) (ro : Option Nat),
    Core ⟨P,ro,N,dfr,w,Zs,Zb,ownedBy H ι,K,ι⟩ H ι w → VRs w (zone ⟨P,ro,N,dfr,w,Zs,Zb,ownedBy H ι,K,ι⟩ H ι w) ι avs vs →
    ∀ (xs pre tail : List E) (J : List E → (Nat → Prop) → (Nat → Prop) → World → Prop) (Jx : (Nat → Prop) → (Nat → Prop) → World → Prop),(∀ pre,Abide (J pre)) → Abide Jx → RoundOk P l vals xs Zs Zb J Jx →
    xs = pre ++ (ys ++ tail) → J pre (ownedBy H ι) (ownedBy H ι) w →
    CallsIn (Fc none) 0 P f vs.toArray w fun e w' => ∃ (b : Bool) (x' : X) (ι' : Tags) (Zs' Zb' I' : Nat → Prop),e = .returned (.bool b) ∧ (b = true → x' = x) ∧
      Core ⟨P,ro,N,dfr,w',Zs',Zb',ownedBy (Hf x') ι',K,ι'⟩ (Hf x') ι' w' ∧ (∀ t,t ∈ K → ι' t = ι t) ∧
      ItH xs Zs Zb J Jx (if b = true then some tail else none) ⟨w',Zs',Zb',ownedBy (Hf x') ι',I'⟩
theorem YSpec.of {l : Nat} {f : FuncId} {fn : Func} {c : Code} {avs : List AV} {H : List (Nat × Blk)} {vals : E → List AV} {ys : List E} {Hf : X → List (Nat × Blk)} (hf : P.funcs[f]? = some fn) (hnt : fn.ntmps = N) (hb : fn.body = some c)
    (hc : (fn.name == "runtime.NumGoroutine") = false) (hN : avs.length ≤ N)
    (h : ∀ ι0 xs tail Zs Zb J Jx,(∀ pre,Abide (J pre)) → Abide Jx → RoundOk P l vals xs Zs Zb J Jx →
      AWPF (yFam P N K ι0 xs tail xf Zs Zb J Jx) c (fun e g s => (e = .ret ∨ e = .normal) ∧ ((∃ x',g = some ([],x') ∧ ∀ w0 Zs Zb T0,Res ⟨P,none,N,[],w0,Zs,Zb,T0,K,ι0⟩ fn s (.sc (.bool true)) (Hf x')) ∨
        (g = none ∧ ∃ x',∀ w0 Zs Zb T0,Res ⟨P,none,N,[],w0,Zs,Zb,T0,K,ι0⟩ fn s (.sc (.bool false)) (Hf x')))) (some (ys,xf)) ⟨enum 0 avs,H⟩) : YSpec P l f K avs H vals ys Hf xf := by
  subst hnt
  refine ⟨⟨fn,hf,by simp [hb],hc⟩,fun Zs Zb ι w vs N dfr ro hcore hvs xs pre tail J Jx hJ hJx hR exs h0 => ?_⟩
  obtain ⟨hl,hv⟩ := hvs
  have hw := h ι xs tail Zs Zb J Jx hJ hJx hR ⟨w,Zs,Zb,ownedBy H ι,ownedBy H ι⟩ ι { tmps := vs.toArray ++ Array.replicate (fn.ntmps - vs.toArray.size) undef,defers := [] } w
    ⟨⟨⟨pre,exs,h0⟩,fun _ h => h,fun b hb => hcore.lt hb,fun _ h => .inl h,fun _ h => .inl h⟩,fun q hq => by cases hq; rfl⟩ ?_
  · refine callsIn_of_wp hf hb trivial (wpIn_mono hw fun e a' w' ⟨g,s',d',ι',hH',r',he,hg⟩ => ?_)
    have fin : ∀ (b : Bool) (x' : X),(b = true → x' = xf) → yPhi tail g = (if b = true then some tail else none) → (∀ w0 Zs Zb T0,Res ⟨P,none,fn.ntmps,[],w0,Zs,Zb,T0,K,ι⟩ fn s' (.sc (.bool b)) (Hf x')) →
        bodyPost P fn (fun e w' => ∃ (b : Bool) (x' : X) (ι' : Tags) (Zs' Zb' I' : Nat → Prop),e = Ending.returned (.bool b) ∧ (b = true → x' = xf) ∧
          Core ⟨P,ro,N,dfr,w',Zs',Zb',ownedBy (Hf x') ι',K,ι'⟩ (Hf x') ι' w' ∧ (∀ t,t ∈ K → ι' t = ι t) ∧
          ItH xs Zs Zb J Jx (if b = true then some tail else none) ⟨w',Zs',Zb',ownedBy (Hf x') ι',I'⟩) .normal a' w' := by
      intro b x' hbx hphi hres
      obtain ⟨v,ι2,q1,q2,q3,q4,q5⟩ := hres _ _ _ _ ι' a' w' r'
      have hv : v = .bool b := by
        generalize hvb : AV.sc (.bool b) = y at q4
        cases q4 <;> cases hvb
        rfl
      subst hv
      refine ⟨q2,_,q1,b,x',ι2,fun b => zone ((yFam P fn.ntmps K ι xs tail xf Zs Zb J Jx).cx d') (Hf x') ι2 w' false b,fun b => zone ((yFam P fn.ntmps K ι xs tail xf Zs Zb J Jx).cx d') (Hf x') ι2 w' true b,fun b => d'.I b ∨ (d'.w0.heap.size ≤ b ∧ b < w'.heap.size),
        rfl,hbx,⟨fun t k hk => ?_,q3.inj,fun t b ht e => .inr ⟨t,ht,e⟩,Trans.refl _ _⟩,q5,?_⟩
      · have hZ : ∀ β b,zone ((yFam P fn.ntmps K ι xs tail xf Zs Zb J Jx).cx d') (Hf x') ι2 w' β b → zone ⟨P,ro,N,dfr,w',fun b => zone ((yFam P fn.ntmps K ι xs tail xf Zs Zb J Jx).cx d') (Hf x') ι2 w' false b,fun b => zone ((yFam P fn.ntmps K ι xs tail xf Zs Zb J Jx).cx d') (Hf x') ι2 w' true b,ownedBy (Hf x') ι2,K,ι2⟩ (Hf x') ι2 w' β b := by
          intro β b hz
          refine ⟨hz.1,hz.2.1,?_⟩
          cases β with
          | true => exact .inl ⟨rfl,hz⟩
          | false => exact .inr (.inl hz)
        have h0 := q3.blk t k hk
        unfold BlkR at h0 ⊢
        cases hx : ι2 t with
        | none => simp only [hx] at h0 ⊢; exact h0
        | some b =>
          simp only [hx] at h0 ⊢
          obtain ⟨cur,p1,p2,p3⟩ := h0
          refine ⟨cur,p1,p2,fun i hi => ?_⟩
          obtain ⟨u,hu,hvv⟩ := p3 i hi
          refine ⟨u,hu,hvv.mono (fun _ _ h => h) _ _ ?_ (fun _ _ _ _ _ h => h) (fun _ _ _ h => h)⟩
          cases k.lst with
          | true => exact fun _ b hb => hZ _ _ hb
          | false => exact hZ
      · have hn := ItH.nowC hH'.1 hJ hJx r'
        have hO : ∀ b,ownedBy (Hf x') ι2 b → d'.T0 b ∨ d'.w0.heap.size ≤ b := fun b ⟨t,ht,e⟩ => (q3.own t b ht e).symm
        have hOlt : ∀ b,ownedBy (Hf x') ι2 b → b < w'.heap.size := fun b hb => q3.lt hb
        refine ⟨?_,fun b hb => ?_,hn.lt,fun b hb => ?_,fun b hb => ?_⟩
        · have hp := hH'.1.past
          rw [hphi] at hp
          cases b with
          | true =>
            obtain ⟨pre,e,hj⟩ := hp
            exact ⟨pre,e,hJ pre _ _ _ _ _ _ hj q3.tr hO (fun b => Iff.rfl)⟩
          | false => exact hJx _ _ _ _ _ _ hp q3.tr hO (fun b => Iff.rfl)
        · rcases hO b hb with h1 | h1
          · exact .inl (hH'.1.own b h1)
          · exact .inr ⟨h1,hOlt b hb⟩
        · obtain ⟨z1,_,z3⟩ := hb
          rcases z3 with ⟨h1,_⟩ | h1 | h1 | h1
          · cases h1
          · rcases hH'.1.zs b h1 with h2 | h2
            · exact .inl h2
            · exact .inr (.inl h2)
          · exact .inr (.inr ⟨h1,z1⟩)
          · exact .inr (.inl (hH'.1.own b h1))
        · obtain ⟨z1,_,z3⟩ := hb
          rcases z3 with ⟨_,h1⟩ | h1 | h1 | h1
          · rcases hH'.1.zb b h1 with h2 | h2 | h2
            · exact .inl h2
            · exact .inr (.inl h2)
            · exact .inr (.inr (.inl h2))
          · rcases hH'.1.zs b h1 with h2 | h2
            · exact .inr (.inl h2)
            · exact .inr (.inr (.inl h2))
          · exact .inr (.inr (.inr ⟨h1,z1⟩))
          · exact .inr (.inr (.inl (hH'.1.own b h1)))
    rcases he with rfl | rfl
    all_goals
      rcases hg with ⟨x',rfl,hres⟩ | ⟨rfl,x',hres⟩
      · exact fin true x' (fun _ => hH'.2 ([],x') rfl) (by simp [yPhi]) hres
      · exact fin false x' (fun h => by cases h) rfl hres
  · refine ⟨by show _ = fn.ntmps; simp [hl]; omega,rfl,?_,⟨hcore.blk,hcore.inj,hcore.own,hcore.tr⟩,fun _ _ => rfl⟩
    intro d v hlk
    rw [look_enum] at hlk
    simp only [Nat.zero_le,if_true,Nat.sub_zero] at hlk
    have hd := (List.getElem?_eq_some_iff.1 hlk).1
    obtain ⟨u,hu,hvr⟩ := hv d hd
    have he : avs[d] = v := by rw [List.getElem?_eq_getElem hd] at hlk; exact Option.some.inj hlk
    rw [he] at hvr
    have : (vs.toArray ++ Array.replicate (fn.ntmps - vs.toArray.size) undef).getD d undef = u := by
      rw [Array.getD_eq_getD_getElem?,Array.getElem?_append_left (by simp; omega)]
      simp [hu]
    simp only [this]
    exact hvr
end
def ARunO {R ω : Type} (φ : Fam (Option R)) (A : Array Oper) (l : List Oper) (g : Option R) (s : St) (OK : ω → Prop) (S : ω → Option R × St) : Prop :=
  ∀ d ι a w (Q : Exit → Act → World → Prop),φ.H g d → Rel (φ.cx d) s ι a w → (∀ o d' ι' a' w',OK o → φ.H (S o).1 d' → Rel (φ.cx d') (S o).2 ι' a' w' → Q .normal a' w') → wpListIn (Fc φ.r) 0 φ.P A Q l a w
section
variable {R ω : Type} {φ : Fam (Option R)} {A : Array Oper} {l : List Oper} {g : Option R} {s s1 s2 : St} {OK : ω → Prop} {S : ω → Option R × St}
theorem ARunO.cons {dst : Option Nat} {op : Op} {ty : TypeId} {p : String} {e : Array Edge} (h : ∀ d,AStep (φ.cx d) ⟨dst,op,ty,p,e,none⟩ s s1) (t : ARunO φ A l g s1 OK S) :
    ARunO φ A (⟨dst,op,ty,p,e,none⟩ :: l) g s OK S := fun d ι a w Q hH r hq => by
  refine wpListIn_plain rfl fun K hK => ?_
  have := h d ι a w K Q r fun ι' a' w' r' => hK _ _ (t d ι' a' w' Q hH r' hq)
  rw [φ.hP,φ.hr] at this
  exact this
theorem ARunO.step {dst : Option Nat} {op : Op} {ty : TypeId} {p : String} {e : Array Edge} {gb : ω → Option R} {sb s' : ω → St}
    (h : ∀ d ι a w K Q,φ.H g d → Rel (φ.cx d) s ι a w → (∀ o d' ι' a' w',OK o → φ.H (gb o) d' → Rel (φ.cx d') (sb o) ι' a' w' → K a' w') → (⟨dst,op,ty,p,e,none⟩ : Oper).wpIn (Fc φ.r) 0 φ.P a w K Q)
    (t : ∀ o d,ARun (φ.cx d) A l (sb o) (s' o)) : ARunO φ A (⟨dst,op,ty,p,e,none⟩ :: l) g s OK (fun o => (gb o,s' o)) := fun d ι a w Q hH r hq => by
  refine wpListIn_plain rfl fun K hK => h d ι a w K Q hH r fun o d' ι' a' w' ho hH' r' => hK _ _ ?_
  have := t o d' ι' a' w' Q r' fun ι2 a2 w2 r2 => hq o d' ι2 a2 w2 ho hH' r2
  rw [φ.hP,φ.hr] at this
  exact this
theorem ARunO.gyield {OK : Bool → Prop} {dst : Nat} {op : Op} {ty : TypeId} {p : String} {e : Array Edge} {j : Nat} {want c : Bool} {gb : Bool → Option R} {s' : Bool → St}
    (hw : ∀ d ι a w,Rel (φ.cx d) s ι a w → (yielded A a.tmps j == some want) = c) (hd : ∀ d,dst < (φ.cx d).N)
    (h : c = true → ∀ d ι a w K Q,φ.H g d → Rel (φ.cx d) s ι a w → (∀ b d' ι' a' w',φ.H (gb b) d' → Rel (φ.cx d') (s.put dst (.sc (.bool b))) ι' a' w' → K a' w') → (⟨some dst,op,ty,p,e,some (j,want)⟩ : Oper).wpIn (Fc φ.r) 0 φ.P a w K Q)
    (hg : c = false → gb true = g) (hOt : OK true) (hOf : c = true → OK false)
    (t : ∀ b d,ARun (φ.cx d) A l (s.put dst (.gd c (.sc (.bool b)))) (s' b)) : ARunO φ A (⟨some dst,op,ty,p,e,some (j,want)⟩ :: l) g s OK (fun b => (gb b,s' b)) := fun d ι a w Q hH r hq => by
  refine wpListIn_step fun K hK => ?_
  have hw : Region.wanted ⟨some dst,op,ty,p,e,some (j,want)⟩ (yielded A a.tmps) = c := hw d ι a w r
  rw [hw]
  have fin : ∀ b d' ι' a' w',OK b → φ.H (gb b) d' → Rel (φ.cx d') (s.put dst (.gd c (.sc (.bool b)))) ι' a' w' → K a' w' := fun b d' ι' a' w' ho hH' r' => by
    refine hK _ _ ?_
    have := t b d' ι' a' w' Q r' fun ι2 a2 w2 r2 => hq b d' ι2 a2 w2 ho hH' r2
    rw [φ.hP,φ.hr] at this
    exact this
  by_cases hg1 : c = true
  · rw [if_pos hg1]
    refine h hg1 d ι a w K Q hH r fun b d' ι' a' w' hH' r' => fin b d' ι' a' w' (by cases b; exact hOf hg1; exact hOt) hH' ?_
    refine ⟨r'.size,r'.dfr,?_,r'.core,r'.stab⟩
    intro d2 v' hl
    by_cases ed : d2 = dst
    · subst ed
      simp only [St.put,look_cons_self] at hl
      cases hl
      exact .gd _ _ _ _ _ (fun _ => r'.env d2 _ (by simp [St.put,look_cons_self])) (fun hf => by rw [hg1] at hf; cases hf)
    · simp only [St.put,look_cons_ne ed] at hl
      exact r'.env d2 v' (by simpa [St.put,look_cons_ne ed] using hl)
  · rw [if_neg hg1]
    refine ⟨fun _ _ => trivial,fin true d ι _ w hOt (by rw [hg (by simpa using hg1)]; exact hH) (r.put (hd d) (.gd _ _ _ _ _ (fun h => absurd h hg1) (fun _ => rfl)))⟩
theorem AWPF.regionO {Q : Exit → Option R → St → Prop} {id : Nat} (h : ARunO φ l.toArray l g s OK S) (hq : ∀ o,OK o → Q .normal (S o).1 (S o).2) : AWPF φ (.region id l.toArray false) Q g s :=
  fun d ι a w hH r => wpIn_region_lit (h d ι a w _ hH r fun o d' ι' _ _ ho hH' r' => ⟨(S o).1,(S o).2,d',ι',hH',r',hq o ho⟩)
end
section
variable {E X : Type} {P : Program} {N : Nat} {K : List Nat} {ι0 : Tags} {xs tail : List E} {xf : X} {Zs Zb : Nat → Prop} {J : List E → (Nat → Prop) → (Nat → Prop) → World → Prop} {Jx : (Nat → Prop) → (Nat → Prop) → World → Prop}
theorem yieldY {l : Nat} {vals : E → List AV} (hJ : ∀ pre,Abide (J pre)) (hJx : Abide Jx) (hR : RoundOk P l vals xs Zs Zb J Jx) {dst : Nat} {y : Operand} {args : Array Operand} {ats : Array TypeId} {ty : TypeId} {p : String} {e : Array Edge} {gd : Option (Nat × Bool)} {s : St}
    {x : E} {q : List E × X} (hd : dst < N) (hy : ∀ d,Ev ((yFam P N K ι0 xs tail xf Zs Zb J Jx).cx d) s y (.sc (.func (.yield l) #[] #[]))) (ha : ∀ d,EvV ((yFam P N K ι0 xs tail xf Zs Zb J Jx).cx d) s args.toList (vals x))
    {d : ItD} {ι : Tags} {a : Act} {w : World} (Kn : Act → World → Prop) (Q : Exit → Act → World → Prop) (hH : (yFam P N K ι0 xs tail xf Zs Zb J Jx).H (some (x :: q.1,q.2)) d) (r : Rel ((yFam P N K ι0 xs tail xf Zs Zb J Jx).cx d) s ι a w)
    (hk : ∀ b d' ι' a' w',(yFam P N K ι0 xs tail xf Zs Zb J Jx).H (if b = true then some q else none) d' → Rel ((yFam P N K ι0 xs tail xf Zs Zb J Jx).cx d') (s.put dst (.sc (.bool b))) ι' a' w' → Kn a' w') :
    (⟨some dst,.call { callee := .value y,args := args,argTypes := ats },ty,p,e,gd⟩ : Oper).wpIn (Fc none) 0 P a w Kn Q := by
  have h1 : ItH xs Zs Zb J Jx (some (x :: (q.1 ++ tail))) d := hH.1
  have hn := ItH.nowC h1 hJ hJx r
  obtain ⟨pre,exs,hj⟩ := hn.past
  have hv := (ha d).vrs r
  obtain ⟨fn,tmps,assign,body,hrun,hround⟩ := hR pre x (q.1 ++ tail) _ _ w (zone ((yFam P N K ι0 xs tail xf Zs Zb J Jx).cx d) s.heap ι w) _ exs hj hn.own hn.lt (fun β b hz => by
    refine ⟨hz.1,fun ⟨t,ht,e1⟩ => hz.2.1 t ht e1,?_⟩
    cases β with
    | false =>
      rcases hn.zs b hz with h | h
      · exact .inl h
      · exact .inr (.inr h)
    | true =>
      rcases hn.zb b hz with h | h | h
      · exact .inr (.inl ⟨rfl,h⟩)
      · exact .inl h
      · exact .inr (.inr h)) hv
  refine ⟨fun _ _ => trivial,?_⟩
  rw [semAt_plain _ _ _ (fun _ h => by cases h)]
  have he : a.eval y = .func (.yield l) #[] #[] := (hy d).sc r
  have hexec : (execOp a.eval ⟨some dst,.call { callee := .value y,args := args,argTypes := ats },ty,p,e,gd⟩).run P w = .ok (.round l fn tmps assign body) w := by
    have hargs : (args.toList.map a.eval).toArray = args.map a.eval := by
      apply Array.ext'
      simp
    rw [hargs] at hrun
    simp [execOp,resolve,he,Deferred.ofValue,invoke,hrun]
  rw [hexec,Oper.uponIn_round]
  refine ⟨(fun h => by cases h),RoundIn.mono hround ?_⟩
  rintro e' W' ⟨kept,hres⟩
  have fin : ∀ b : Bool,(match (if b = true then some (q.1 ++ tail) else none) with | some rest => ∃ pre,xs = pre ++ rest ∧ J pre (ownedBy s.heap ι) (fun b => d.I b ∨ (d.w0.heap.size ≤ b ∧ b < w.heap.size)) W' | none => Jx (ownedBy s.heap ι) (fun b => d.I b ∨ (d.w0.heap.size ≤ b ∧ b < w.heap.size)) W') → Kn (a.put (some dst) (.bool b)) W' := by
    intro b hp
    have r2 := r.anew none (dfr := []) (tm := a.tmps) rfl kept
    refine hk b ⟨W',_,_,_,fun b => d.I b ∨ (d.w0.heap.size ≤ b ∧ b < w.heap.size)⟩ ι _ _ ⟨⟨?_,hn.own,fun b hb => Nat.lt_of_lt_of_le (hn.lt b hb) kept.size,hn.zs,hn.zb⟩,fun q' hq' => ?_⟩ (by
      have h3 := r2.put (d := dst) (u := .bool b) hd (.sc _ _ _)
      have e1 : a = ⟨a.tmps,[]⟩ := by
        have := r.dfr
        obtain ⟨x,y⟩ := a
        simp only at this
        subst this
        rfl
      rw [e1]
      exact h3)
    · cases b with
      | true => exact hp
      | false => exact hp
    · cases b with
      | true => cases hq'; exact hH.2 (x :: q.1,q.2) rfl
      | false => cases hq'
  rcases hres with ⟨rfl,hj'⟩ | ⟨rfl,hj'⟩
  · exact fin true ⟨pre ++ [x],by rw [exs]; simp,hj'⟩
  · exact fin false hj'
structure KeepJ (own rest : Nat → Prop) (zo : Bool → Nat → Prop) (I0 : Nat → Prop) (w : World) (J : (Nat → Prop) → (Nat → Prop) → World → Prop) (O I : Nat → Prop) (W : World) : Prop where
  j : J (fun b => O b ∨ rest b) (fun b => I b ∨ I0 b) W
  kept : Kept (fun b => rest b ∨ zo false b ∨ zo true b) w W
  oo : ∀ b,O b → own b ∨ w.heap.size ≤ b
  oi : ∀ b,I b → own b ∨ w.heap.size ≤ b
theorem KeepJ.abide {own rest : Nat → Prop} {zo : Bool → Nat → Prop} {I0 : Nat → Prop} {w : World} {J : (Nat → Prop) → (Nat → Prop) → World → Prop} (hJ : Abide J) (hr : ∀ b,rest b → b < w.heap.size ∧ ¬ own b) (hz : ∀ β b,zo β b → b < w.heap.size ∧ ¬ own b) :
    Abide (KeepJ own rest zo I0 w J) := by
  intro O O' I I' W W' h tr hO hI
  have hsz := h.kept.size
  refine ⟨hJ _ _ _ _ _ _ h.j ⟨tr.os,tr.tape,tr.output,tr.size,fun k hk hn => tr.block k hk fun h => hn (.inl h),tr.bsz⟩ (fun b hb => ?_) (fun b => ?_),h.kept.trans (tr.kept fun b _ hb ho => ?_),fun b hb => ?_,fun b hb => ?_⟩
  · rcases hb with hb | hb
    · rcases hO b hb with h1 | h1
      · exact .inl (.inl h1)
      · exact .inr h1
    · exact .inl (.inr hb)
  · constructor
    · rintro (h1 | h1)
      · rcases (hI b).1 h1 with h2 | h2
        · exact .inl (.inl h2)
        · exact .inr h2
      · exact .inl (.inr h1)
    · rintro ((h1 | h1) | h1)
      · exact .inl ((hI b).2 (.inl h1))
      · exact .inr h1
      · exact .inl ((hI b).2 (.inr h1))
  · have : b < w.heap.size ∧ ¬ own b := by
      rcases hb with hb | hb | hb
      · exact hr b hb
      · exact hz _ b hb
      · exact hz _ b hb
    rcases h.oo b ho with h1 | h1
    · exact this.2 h1
    · omega
  · rcases hO b hb with h1 | h1
    · exact h.oo b h1
    · exact .inr (by omega)
  · rcases (hI b).1 hb with h1 | h1
    · exact h.oi b h1
    · exact .inr (by omega)
theorem yCallStep {X1 : Type} {l : Nat} {vals : E → List AV} (hJ : ∀ pre,Abide (J pre)) (hJx : Abide Jx) (hR : RoundOk P l vals xs Zs Zb J Jx) {dst : Nat} {o : Oper} (ho : o.dst = some dst) (hop : ∀ c,o.op ≠ .defer c) {s : St} {f : FuncId} {K1 : List Nat} {avs : List AV} {H : List (Nat × Blk)}
    {ys : List E} {Hf : X1 → List (Nat × Blk)} {x1 : X1} {q : List E × X} {σ : Nat → Nat} (hd : dst < N) (hS : YSpec P l f K1 avs H vals ys Hf x1)
    (ok : ∀ d b x',CallOk (cxY P N K ι0 d) s σ false K1 H (.sc (.bool b)) (Hf x'))
    {d : ItD} {ι : Tags} {a : Act} {w : World}
    (hcall : ∃ vs : List Value,(callable P f → (execOp a.eval o).run P w = .ok (.enter f vs.toArray) w) ∧
      VRs w (zone (cctx (cxY P N K ι0 d) s σ H false K1 ι w) H (fun t => ι (σ t)) w) (fun t => ι (σ t)) avs vs)
    (Kn : Act → World → Prop) (Q : Exit → Act → World → Prop) (hH : (yFam P N K ι0 xs tail xf Zs Zb J Jx).H (some (ys ++ q.1,q.2)) d) (r : Rel (cxY P N K ι0 d) s ι a w)
    (hk : ∀ (b : Bool) (x' : X1) d' ι' a' w',(b = true → x' = x1) → (yFam P N K ι0 xs tail xf Zs Zb J Jx).H (if b = true then some q else none) d' → Rel (cxY P N K ι0 d') (s.called dst σ K1 H (.sc (.bool b)) (Hf x')) ι' a' w' → Kn a' w') :
    o.wpIn (Fc none) 0 P a w Kn Q := by
  obtain ⟨hable,hspec⟩ := hS
  have ok0 := ok d true x1
  have hHas : ∀ t,has t H → has (σ t) s.heap := fun t ⟨k,hk⟩ => ⟨_,ok0.hH t k hk⟩
  have h1 : ItH xs Zs Zb J Jx (some (ys ++ q.1 ++ tail)) d := hH.1
  have hn := ItH.nowC h1 hJ hJx r
  obtain ⟨pre,exs,hj⟩ := hn.past
  obtain ⟨vs,hrun0,hvrs⟩ := hcall
  have hrun := hrun0 hable
  refine ⟨fun _ _ => trivial,?_⟩
  rw [semAt_plain _ _ _ hop,hrun,Oper.uponIn_enter]
  refine ⟨(fun h => by cases h),?_⟩
  -- the callee's side
  have hcore : Core (cctx (cxY P N K ι0 d) s σ H false K1 ι w) H (fun t => ι (σ t)) w := by
    refine ⟨fun t k hk => ?_,fun t t' b h1 h2 e1 e2 => ?_,fun t b h e => .inr ⟨t,h,e⟩,Trans.refl _ _⟩
    · have h0 := r.core.blk (σ t) _ (ok0.hH t k hk)
      unfold BlkR at h0 ⊢
      cases hx : ι (σ t) with
      | none =>
        simp only [hx] at h0 ⊢
        obtain ⟨kt,kl,kc⟩ := k
        cases kl with
        | true => exact h0
        | false => simp [renB] at h0
      | some b =>
        simp only [hx] at h0 ⊢
        obtain ⟨kt,kl,kc⟩ := k
        cases kl with
        | true =>
          obtain ⟨cur,q1,q2,q3⟩ := h0
          refine ⟨cur,q1,q2,fun i hi => ?_⟩
          obtain ⟨u,hu,hv⟩ := q3 i hi
          exact ⟨u,hu,hv.mono (fun _ _ h => h) _ _ (fun _ _ h => zone_cctx hHas h) (fun _ _ _ _ _ h => h) (fun _ _ _ h => h)⟩
        | false =>
          obtain ⟨cur,q1,q2,q3⟩ := h0
          have hlen : (renB σ ⟨kt,false,kc⟩).cells.length = kc.length := by simp [renB,AV.renL_eq]
          refine ⟨cur,q1,by rw [hlen] at q2; exact q2,fun i hi => ?_⟩
          obtain ⟨u,hu,hv⟩ := q3 i (by rw [hlen]; exact hi)
          refine ⟨u,hu,?_⟩
          have e1 : (renB σ ⟨kt,false,kc⟩).cells[i]'(by rw [hlen]; exact hi) = (kc[i]'hi).ren σ := by simp [renB,AV.renL_eq]
          rw [e1] at hv
          exact (hv.unren (σ := σ)).mono (fun _ _ h => h) _ _ (fun _ _ h => zone_cctx hHas h) (fun _ _ _ _ _ h => h) (fun _ _ _ h => h)
    · have := r.core.inj _ _ b (hHas t h1) (hHas t' h2) e1 e2
      exact ok0.inj t t' (List.mem_append_left _ (has_dom.1 h1)) (List.mem_append_left _ (has_dom.1 h2)) this
  -- what is lent,and what is not
  have hown : ∀ b,ownedBy H (fun t => ι (σ t)) b → ownedBy s.heap ι b := fun b ⟨t,ht,e⟩ => ⟨σ t,hHas t ht,e⟩
  have hrest : ∀ b,(∃ x,has x s.heap ∧ ι x = some b ∧ ∀ t,t ∈ dom H → σ t ≠ x) → b < w.heap.size ∧ ¬ ownedBy H (fun t => ι (σ t)) b := by
    rintro b ⟨x,hx,e,hne⟩
    refine ⟨r.core.lt ⟨x,hx,e⟩,?_⟩
    rintro ⟨t,ht,e1⟩
    exact hne t (has_dom.1 ht) (r.core.inj _ _ b (hHas t ht) hx e1 e)
  have hsplit : ∀ b,ownedBy s.heap ι b → ownedBy H (fun t => ι (σ t)) b ∨ (∃ x,has x s.heap ∧ ι x = some b ∧ ∀ t,t ∈ dom H → σ t ≠ x) := by
    rintro b ⟨x,hx,e⟩
    by_cases hq : ∃ t,t ∈ dom H ∧ σ t = x
    · obtain ⟨t,ht,rfl⟩ := hq
      exact .inl ⟨t,has_dom.2 ht,e⟩
    · exact .inr ⟨x,hx,e,fun t ht e1 => hq ⟨t,ht,e1⟩⟩
  have hzone : ∀ β b,zone (cxY P N K ι0 d) s.heap ι w β b → b < w.heap.size ∧ ¬ ownedBy H (fun t => ι (σ t)) b := fun β b hz =>
    ⟨hz.1,fun h => by obtain ⟨t,ht,e⟩ := hown b h; exact hz.2.1 t ht e⟩
  have hzr : ∀ β b,zone (cxY P N K ι0 d) s.heap ι w β b → ¬ ∃ x,has x s.heap ∧ ι x = some b ∧ ∀ t,t ∈ dom H → σ t ≠ x := fun β b hz ⟨x,hx,e,_⟩ => hz.2.1 x hx e
  generalize hI0 : (fun b => d.I b ∨ (d.w0.heap.size ≤ b ∧ b < w.heap.size)) = I0 at *
  -- the round
  have hR' : RoundOk P l vals xs (fun b => zone (cxY P N K ι0 d) s.heap ι w false b) (fun b => zone (cxY P N K ι0 d) s.heap ι w true b ∨ (false = true ∧ ∃ t,has t (minusH ((dom H).map σ) s.heap) ∧ ι t = some b))
      (fun pre => KeepJ (ownedBy H (fun t => ι (σ t))) (fun b => ∃ x,has x s.heap ∧ ι x = some b ∧ ∀ t,t ∈ dom H → σ t ≠ x) (zone (cxY P N K ι0 d) s.heap ι w) I0 w (J pre))
      (KeepJ (ownedBy H (fun t => ι (σ t))) (fun b => ∃ x,has x s.heap ∧ ι x = some b ∧ ∀ t,t ∈ dom H → σ t ≠ x) (zone (cxY P N K ι0 d) s.heap ι w) I0 w Jx) := by
    intro pre' x rest' O Ic W Z us exs' h hOI hIlt hZ hvs
    have hsz := h.kept.size
    have hnr : ∀ b,(∃ x,has x s.heap ∧ ι x = some b ∧ ∀ t,t ∈ dom H → σ t ≠ x) → ¬ O b ∧ ¬ Ic b := fun b hb => by
      have := hrest b hb
      constructor
      · intro ho
        rcases h.oo b ho with h1 | h1
        · exact this.2 h1
        · omega
      · intro ho
        rcases h.oi b ho with h1 | h1
        · exact this.2 h1
        · omega
    have hzz : ∀ β b,zone (cxY P N K ι0 d) s.heap ι w β b → ¬ O b := fun β b hz ho => by
      have := hzone β b hz
      rcases h.oo b ho with h1 | h1
      · exact this.2 h1
      · omega
    have zin : ∀ β b,zone (cxY P N K ι0 d) s.heap ι w β b → Zs b ∨ (β = true ∧ Zb b) ∨ (Ic b ∨ I0 b) := fun β b hz => by
      cases β with
      | false =>
        rcases hn.zs b hz with h1 | h1
        · exact .inl h1
        · exact .inr (.inr (.inr h1))
      | true =>
        rcases hn.zb b hz with h1 | h1 | h1
        · exact .inr (.inl ⟨rfl,h1⟩)
        · exact .inl h1
        · exact .inr (.inr (.inr h1))
    obtain ⟨fn,tmps,assign,body,hrun,hround⟩ := hR pre' x rest' _ _ W (fun β b => Z β b ∨ zone (cxY P N K ι0 d) s.heap ι w β b) us exs' h.j (fun b hb => by
        rcases hb with hb | hb
        · exact .inl (hOI b hb)
        · obtain ⟨x,hx,e,_⟩ := hb
          exact .inr (hn.own b ⟨x,hx,e⟩)) (fun b hb => by
        rcases hb with hb | hb
        · exact hIlt b hb
        · exact Nat.lt_of_lt_of_le (hn.lt b hb) hsz) (fun β b hb => by
        rcases hb with hb | hb
        · obtain ⟨z1,z2,z3⟩ := hZ β b hb
          refine ⟨z1,fun ho => ?_,?_⟩
          · rcases ho with ho | ho
            · exact z2 ho
            · rcases z3 with z3 | ⟨_,z3⟩ | z3
              · exact hzr _ b z3 ho
              · rcases z3 with z3 | ⟨h0,_⟩
                · exact hzr _ b z3 ho
                · cases h0
              · exact (hnr b ho).2 z3
          · rcases z3 with z3 | ⟨e1,z3⟩ | z3
            · rcases zin _ b z3 with h1 | ⟨h1,_⟩ | h1
              · exact .inl h1
              · cases h1
              · exact .inr (.inr h1)
            · rcases z3 with z3 | ⟨h0,_⟩
              · rcases zin _ b z3 with h1 | ⟨_,h1⟩ | h1
                · exact .inl h1
                · exact .inr (.inl ⟨e1,h1⟩)
                · exact .inr (.inr h1)
              · cases h0
            · exact .inr (.inr (.inl z3))
        · refine ⟨Nat.lt_of_lt_of_le hb.1 hsz,fun ho => ?_,zin _ b hb⟩
          rcases ho with ho | ho
          · exact hzz _ b hb ho
          · exact hzr _ b hb ho) ⟨hvs.1,fun i hi => by
        obtain ⟨u,hu,hv⟩ := hvs.2 i hi
        exact ⟨u,hu,hv.mono (fun _ _ h => h) _ _ (fun _ _ h => .inl h) (fun _ _ _ _ _ h => h) (fun _ _ _ h => h)⟩⟩
    refine ⟨fn,tmps,assign,body,hrun,RoundIn.mono hround ?_⟩
    rintro e' W' ⟨kept,hres⟩
    have k2 : Kept (fun b => (∃ x,has x s.heap ∧ ι x = some b ∧ ∀ t,t ∈ dom H → σ t ≠ x) ∨ zone (cxY P N K ι0 d) s.heap ι w false b ∨ zone (cxY P N K ι0 d) s.heap ι w true b) W W' := kept.sub fun b hb => by
      rcases hb with hb | hb | hb
      · exact .inl (.inr hb)
      · exact .inr (.inl (.inr hb))
      · exact .inr (.inr (.inr hb))
    refine ⟨kept.sub fun b hb => ?_,?_⟩
    · rcases hb with hb | hb | hb
      · exact .inl (.inl hb)
      · exact .inr (.inl (.inl hb))
      · exact .inr (.inr (.inl hb))
    · rcases hres with ⟨rfl,hj'⟩ | ⟨rfl,hj'⟩
      · exact .inl ⟨rfl,hj',h.kept.trans k2,h.oo,h.oi⟩
      · exact .inr ⟨rfl,hj',h.kept.trans k2,h.oo,h.oi⟩
  have hc := hspec (fun b => zone (cxY P N K ι0 d) s.heap ι w false b) (fun b => zone (cxY P N K ι0 d) s.heap ι w true b ∨ (false = true ∧ ∃ t,has t (minusH ((dom H).map σ) s.heap) ∧ ι t = some b)) (fun t => ι (σ t)) w
    vs N [] none hcore hvrs xs pre (q.1 ++ tail) _ _ (fun pre => KeepJ.abide (hJ pre) hrest hzone) (KeepJ.abide hJx hrest hzone) hR' (by rw [exs]; simp)
    ⟨hJ pre _ _ _ _ _ _ hj (Trans.refl _ _) (fun b hb => by
        rcases hb with hb | ⟨x,hx,e,_⟩
        · exact .inl (hown b hb)
        · exact .inl ⟨x,hx,e⟩) (fun b => ⟨fun h => by
        rcases h with h | h
        · exact .inl (hn.own b (hown b h))
        · exact .inl h,fun h => by
        rcases h with h | h
        · exact .inr h
        · exact absurd h.2 (Nat.not_lt.2 h.1)⟩),Kept.refl _ _,fun b hb => .inl hb,fun b hb => .inl hb⟩
  refine CallsIn.mono hc ?_
  rintro e' w' ⟨b,x',ι1,Zs',Zb',I1,rfl,hbx,hcore',hst,hIt⟩
  have okb := ok d b x'
  -- what it kept
  have hkp : ∃ pre',KeepJ (ownedBy H (fun t => ι (σ t))) (fun b => ∃ x,has x s.heap ∧ ι x = some b ∧ ∀ t,t ∈ dom H → σ t ≠ x) (zone (cxY P N K ι0 d) s.heap ι w) I0 w (if b = true then J pre' else Jx) (ownedBy (Hf x') ι1) I1 w' ∧ (b = true → xs = pre' ++ (q.1 ++ tail)) := by
    have hp := hIt.past
    cases b with
    | true =>
      obtain ⟨pre',e1,h⟩ := hp
      exact ⟨pre',h,fun _ => e1⟩
    | false => exact ⟨[],hp,fun h => by cases h⟩
  obtain ⟨pre',kj,hpre'⟩ := hkp
  have hsz := kj.kept.size
  have hOn : ∀ b',ownedBy (s.called dst σ K1 H (.sc (.bool b)) (Hf x')).heap (backT σ (dom H ++ dom (Hf x')) ι ι1) b' → ownedBy (Hf x') ι1 b' ∨ (∃ x,has x s.heap ∧ ι x = some b' ∧ ∀ t,t ∈ dom H → σ t ≠ x) := fun b' hb => called_owned okb hb
  refine hk b x' ⟨w',fun b' => zone (cxY P N K ι0 d) s.heap ι w false b' ∨ I1 b',fun b' => zone (cxY P N K ι0 d) s.heap ι w true b',
    ownedBy (s.called dst σ K1 H (.sc (.bool b)) (Hf x')).heap (backT σ (dom H ++ dom (Hf x')) ι ι1),fun b' => I1 b' ∨ I0 b'⟩ (backT σ (dom H ++ dom (Hf x')) ι ι1) _ _ hbx ⟨⟨?_,fun b' hb => ?_,fun b' hb => ?_,fun b' hb => ?_,fun b' hb => ?_⟩,fun q' hq' => ?_⟩ ?_
  · have hI : ∀ b',(I1 b' ∨ I0 b') ↔ (I1 b' ∨ I0 b') ∨ (w'.heap.size ≤ b' ∧ b' < w'.heap.size) := fun b' => ⟨fun h => .inl h,fun h => by
      rcases h with h | h
      · exact h
      · exact absurd h.2 (Nat.not_lt.2 h.1)⟩
    cases b with
    | true => exact ⟨pre',hpre' rfl,hJ pre' _ _ _ _ _ _ kj.j (Trans.refl _ _) (fun b' hb => .inl (hOn b' hb)) hI⟩
    | false => exact hJx _ _ _ _ _ _ kj.j (Trans.refl _ _) (fun b' hb => .inl (hOn b' hb)) hI
  · rcases hOn b' hb with h | ⟨x,hx,e,_⟩
    · exact .inl (hIt.own b' h)
    · exact .inr (hn.own b' ⟨x,hx,e⟩)
  · rcases hb with h | h
    · exact hIt.lt b' h
    · exact Nat.lt_of_lt_of_le (hn.lt b' h) hsz
  · rcases hb with h | h
    · rcases hn.zs b' h with h1 | h1
      · exact .inl h1
      · exact .inr (.inr h1)
    · exact .inr (.inl h)
  · rcases hn.zb b' hb with h1 | h1 | h1
    · exact .inl h1
    · exact .inr (.inl h1)
    · exact .inr (.inr (.inr h1))
  · cases b with
    | true => cases hq'; exact hH.2 (ys ++ q.1,q.2) rfl
    | false => cases hq'
  · rw [ho]
    refine called_rel (C' := cxY P N K ι0 ⟨w',fun b' => zone (cxY P N K ι0 d) s.heap ι w false b' ∨ I1 b',fun b' => zone (cxY P N K ι0 d) s.heap ι w true b',
      ownedBy (s.called dst σ K1 H (.sc (.bool b)) (Hf x')).heap (backT σ (dom H ++ dom (Hf x')) ι ι1),fun b' => I1 b' ∨ I0 b'⟩) (Zc := zone ⟨P,none,N,[],w',Zs',Zb',ownedBy (Hf x') ι1,K1,ι1⟩ (Hf x') ι1 w') (v := .bool b) hd okb r hsz kj.kept.bsz (fun b' hb c ty n hcells => ?_) hcore'.blk hcore'.inj (fun t b' ht e => (kj.oo b' ⟨t,ht,e⟩).symm) hst (.sc _ _ _)
      I1 (fun b' hb => (kj.oi b' hb).symm) (fun β b' hz => ⟨hz.1,hz.2.1,?_⟩) rfl rfl rfl rfl (fun β b' hlt hz => ?_) (fun b' hb => .inr hb) (Trans.refl _ _)
    · refine kj.kept.block b' c ty n ?_ hcells
      rcases hb with ⟨β,hz⟩ | hb
      · cases β with
        | true => exact .inr (.inr hz)
        | false => exact .inr (.inl hz)
      · exact .inl hb
    · rcases hz.2.2 with ⟨e1,h⟩ | h | h | ⟨t,ht,e1⟩
      · rcases hIt.zb b' h with h1 | h1 | h1
        · rcases h1 with h1 | ⟨h0,_⟩
          · rw [e1]; exact .inl h1
          · cases h0
        · exact .inr (.inl h1)
        · exact .inr (.inr h1)
      · rcases hIt.zs b' h with h1 | h1
        · exact .inr (.inl h1)
        · exact .inr (.inr h1)
      · exact absurd hz.1 (Nat.not_lt.2 h)
      · exact absurd e1 (hz.2.1 t ht)
    · rcases hz with h | h | h
      · cases β with
        | true => exact .inl ⟨rfl,h⟩
        | false => exact .inr (.inl (.inl h))
      · exact .inr (.inl (.inl h))
      · exact .inr (.inl (.inr h))
end
theorem mem_ready {l : List Oper} {L : Array Bool} (hL : L.size = l.length) (i : Nat) :
    i ∈ Region.ready .any l.toArray L ↔ i < l.length ∧ L.getD i false = false ∧ ∀ o,l[i]? = some o → ∀ j,j ∈ preds o → L.getD j false = true := by
  have e0 : ∀ i,i < l.length → L.getD i true = L.getD i false := fun i hi => by
    have hi' : i < L.size := by omega
    simp only [Array.getD_eq_getD_getElem?,Array.getElem?_eq_getElem hi',Option.getD_some]
  unfold Region.ready
  constructor
  · intro h
    obtain ⟨h1,h2⟩ := List.mem_filter.1 h
    have hlt : i < l.length := by simpa using h1
    simp only [Bool.and_eq_true,Bool.not_eq_true'] at h2
    refine ⟨hlt,by rw [← e0 i hlt]; exact h2.1,fun o ho j hj => ?_⟩
    have h3 := h2.2
    simp only [List.getElem?_toArray,ho,Option.map_some,Option.getD_some] at h3
    rw [Array.all_eq_true'] at h3
    obtain ⟨ed,hed,rfl⟩ := List.mem_map.1 hj
    obtain ⟨q1,q2⟩ := List.mem_filter.1 hed
    have h4 := h3 ed (Array.mem_toList_iff.1 q1)
    simpa [q2] using h4
  · rintro ⟨hlt,hf,hp⟩
    obtain ⟨o,ho⟩ : ∃ o,l[i]? = some o := ⟨l[i],List.getElem?_eq_getElem hlt⟩
    refine List.mem_filter.2 ⟨by simpa using hlt,?_⟩
    simp only [e0 i hlt,hf,Bool.not_false,Bool.true_and,List.getElem?_toArray,ho,Option.map_some,Option.getD_some]
    rw [Array.all_eq_true']
    intro ed hed
    cases hb : Region.binds .any ed with
    | false => rfl
    | true =>
      have hm : ed.on ∈ preds o := by
        unfold preds
        exact List.mem_map.2 ⟨ed,List.mem_filter.2 ⟨Array.mem_toList_iff.2 hed,hb⟩,rfl⟩
      simpa using hp o ho _ hm
def ltpB : Nat → List Oper → Bool
  | _,[] => true
  | i,o :: os => (preds o).all (fun j => Nat.blt j i) && ltpB (i + 1) os
theorem ltpB_at : ∀ {os : List Oper} {i : Nat},ltpB i os = true → ∀ j o,os[j]? = some o → ∀ k,k ∈ preds o → k < i + j
  | [],i,_,j,o,h,_,_ => by simp at h
  | o' :: os,i,h,j,o,ho,k,hk => by
    simp only [ltpB,Bool.and_eq_true,List.all_eq_true] at h
    cases j with
    | zero => simp at ho; subst ho; have := h.1 k hk; rw [Nat.blt_eq] at this; exact this
    | succ j => simp at ho; have := ltpB_at h.2 j o ho k hk; omega
def rowB : Nat → List Oper → Bool
  | _,[] => true
  | i,o :: os => anyT (preds o) (i - 1) && rowB (i + 1) os
theorem rowB_at : ∀ {os : List Oper} {i : Nat},rowB i os = true → ∀ j o,os[j]? = some o → i + j - 1 ∈ preds o
  | [],i,_,j,o,h => by simp at h
  | o' :: os,i,h,j,o,ho => by
    simp only [rowB,Bool.and_eq_true] at h
    cases j with
    | zero => simp at ho; subst ho; exact anyT_iff.1 h.1
    | succ j => simp at ho; have := rowB_at h.2 j o ho; rwa [show i + (j + 1) - 1 = i + 1 + j - 1 from by omega]
def guardB (b : Nat) (l : List Oper) : Bool := l.all fun o => match o.guard with | some (j,_) => Nat.blt j b | none => true
def cutB (R : List (List Nat)) (b : Nat) (l : List Oper) : Bool := Nat.blt b l.length && rcheck R 0 l && (List.range b).all (fun j => pre R b j) && ltpB 0 l && rowB (b + 1) (l.drop (b + 1)) && guardB b (l.take b)
section
variable {F : Fence} {n : Nat} {P : Program} {Q : Exit → Act → World → Prop} {l : List Oper} {b : Nat}
theorem wpAny_tail (hlt : ∀ i o,l[i]? = some o → ∀ j,j ∈ preds o → j < i) (hrow : ∀ i o,b < i → l[i]? = some o → i - 1 ∈ preds o) : ∀ (m k : Nat),k + m = l.length → b ≤ k → ∀ (fuel : Nat) (L : Array Bool) (a : Act) (w : World),m ≤ fuel → L.size = l.length →
    (∀ i,L.getD i false = decide (i < k)) → wpListIn F n P l.toArray Q (l.drop k) a w → wpAnyIn F n P .any l.toArray Q fuel L a w := by
  intro m
  induction m with
  | zero =>
    intro k hk hb fuel L a w _ hL hl hw
    have hr : Region.ready .any l.toArray L = [] := by
      apply List.eq_nil_iff_forall_not_mem.2
      intro i hi
      obtain ⟨h1,h2,_⟩ := (mem_ready hL i).1 hi
      rw [hl,decide_eq_false_iff_not] at h2
      omega
    have hq : Q .normal a w := by rw [List.drop_of_length_le (by omega)] at hw; exact hw
    cases fuel with
    | zero => exact ⟨hr,hq⟩
    | succ f => exact ⟨fun _ => hq,fun i hi => by rw [hr] at hi; cases hi⟩
  | succ m ih =>
    intro k hk hb fuel L a w hf hL hl hw
    cases fuel with
    | zero => omega
    | succ f =>
      have hkl : k < l.length := by omega
      have hko : l[k]? = some l[k] := List.getElem?_eq_getElem hkl
      have hkr : k ∈ Region.ready .any l.toArray L := (mem_ready hL k).2 ⟨hkl,by rw [hl]; simp,fun o ho j hj => by rw [hl]; simpa using hlt k o ho j hj⟩
      refine ⟨(fun h => by rw [h] at hkr; cases hkr),fun i hi => ?_⟩
      obtain ⟨h1,h2,h3⟩ := (mem_ready hL i).1 hi
      have hik : i = k := by
        rw [hl,decide_eq_false_iff_not] at h2
        rcases Nat.lt_or_ge k i with h | h
        · have h4 := h3 l[i] (List.getElem?_eq_getElem h1) _ (hrow i l[i] (by omega) (List.getElem?_eq_getElem h1))
          rw [hl,decide_eq_true_iff] at h4
          omega
        · omega
      subst hik
      have hnext : ∀ a w,wpListIn F n P l.toArray Q (l.drop (i + 1)) a w → wpAnyIn F n P .any l.toArray Q f (L.setIfInBounds i true) a w := fun a w h =>
        ih (i + 1) (by omega) (by omega) f _ a w (by omega) (by simpa using hL) (fun j => by
          simp only [Array.getD_eq_getD_getElem?,Array.getElem?_setIfInBounds]
          by_cases e : i = j
          · subst e; simp [show i < L.size by omega]
          · rw [if_neg e]
            have := hl j
            rw [Array.getD_eq_getD_getElem?] at this
            rw [this,decide_eq_decide]
            omega) h
      rw [List.drop_eq_getElem_cons hkl] at hw
      unfold wpOpIn
      simp only [List.getElem?_toArray,hko]
      simp only [wpListIn] at hw
      split
      · rename_i hwant; rw [if_pos hwant] at hw; exact Oper.wpIn_mono hnext hw
      · rename_i hwant; rw [if_neg hwant] at hw; exact ⟨hw.1,hnext _ _ hw.2⟩
theorem wpAny_cut {R : List (List Nat)} (hc : cutB R b l = true) : ∀ (fuel : Nat) (L1 L : Array Bool) (a : Act) (w : World),L1.size = b → L.size = l.length → (∀ i,L.getD i false = L1.getD i false) →
    (∀ i o,l[i]? = some o → L.getD i false = true → ∀ j,j ∈ preds o → L.getD j false = true) →
    wpAnyIn F n P .any (l.take b).toArray (fun e a' w' => match e with | .normal => wpListIn F n P l.toArray Q (l.drop b) a' w' | e => Q e a' w') fuel L1 a w →
    ∀ fuel2,fuel + (l.length - b) ≤ fuel2 → wpAnyIn F n P .any l.toArray Q fuel2 L a w := by
  simp only [cutB,Bool.and_eq_true] at hc
  obtain ⟨⟨⟨⟨⟨hb0,hR⟩,hRb⟩,hlt0⟩,hrow0⟩,hg0⟩ := hc
  rw [Nat.blt_eq] at hb0
  have hlt : ∀ i o,l[i]? = some o → ∀ j,j ∈ preds o → j < i := fun i o ho j hj => by have := ltpB_at hlt0 i o ho j hj; omega
  have hrow : ∀ i o,b < i → l[i]? = some o → i - 1 ∈ preds o := fun i o hi ho => by
    have := rowB_at hrow0 (i - (b + 1)) o (by rw [List.getElem?_drop,show b + 1 + (i - (b + 1)) = i from by omega]; exact ho)
    rwa [show b + 1 + (i - (b + 1)) - 1 = i - 1 from by omega] at this
  have htk : ∀ i,i < b → (l.take b)[i]? = l[i]? := fun i hi => List.getElem?_take_of_lt hi
  have hlen : (l.take b).length = b := by rw [List.length_take]; omega
  intro fuel
  have done : ∀ (L1 L : Array Bool) (a : Act) (w : World),L1.size = b → L.size = l.length → (∀ i,L.getD i false = L1.getD i false) → (∀ i,i < b → L1.getD i false = true) → wpListIn F n P l.toArray Q (l.drop b) a w →
      ∀ fuel2,l.length - b ≤ fuel2 → wpAnyIn F n P .any l.toArray Q fuel2 L a w := by
    intro L1 L a w h1 h2 h3 h4 h5 fuel2 hf
    refine wpAny_tail hlt hrow (l.length - b) b (by omega) (Nat.le_refl _) fuel2 L a w hf h2 (fun i => ?_) h5
    rw [h3]
    rcases Nat.lt_or_ge i b with h | h
    · rw [h4 i h]; simp [h]
    · rw [Array.getD_eq_getD_getElem?,Array.getElem?_eq_none (by omega)]; simp; omega
  -- the least that is not listed is ready
  have some_ready : ∀ (L1 : Array Bool),L1.size = b → (∀ i,i < b → L1.getD i false = true) ∨ ∃ i,i < b ∧ L1.getD i false = false ∧ ∀ j,j < i → L1.getD j false = true := by
    intro L1 h1
    by_cases h : ∃ i,i < b ∧ L1.getD i false = false
    · right
      obtain ⟨i,hi⟩ := h
      revert hi
      induction i using Nat.strongRecOn with
      | _ i ih =>
        intro hi
        by_cases h2 : ∃ j,j < i ∧ L1.getD j false = false
        · obtain ⟨j,hj,hj2⟩ := h2
          exact ih j hj ⟨by omega,hj2⟩
        · exact ⟨i,hi.1,hi.2,fun j hj => by
            apply Classical.byContradiction
            intro hn
            exact h2 ⟨j,hj,by simpa using hn⟩⟩
    · left
      intro i hi
      apply Classical.byContradiction
      intro hn
      exact h ⟨i,hi,by simpa using hn⟩
  have ready1 : ∀ (L1 : Array Bool),L1.size = b → Region.ready .any (l.take b).toArray L1 = [] → ∀ i,i < b → L1.getD i false = true := by
    intro L1 h1 hr
    rcases some_ready L1 h1 with h | ⟨i,hi,h2,h3⟩
    · exact h
    · exfalso
      have : i ∈ Region.ready .any (l.take b).toArray L1 := (mem_ready (by rw [hlen]; exact h1) i).2 ⟨by rw [hlen]; exact hi,h2,fun o ho j hj => h3 j (hlt i o (by rw [htk i hi] at ho; exact ho) j hj)⟩
      rw [hr] at this; cases this
  induction fuel with
  | zero =>
    intro L1 L a w h1 h2 h3 h4 hw fuel2 hf
    exact done L1 L a w h1 h2 h3 (ready1 L1 h1 hw.1) hw.2 fuel2 (by omega)
  | succ fuel ih =>
    intro L1 L a w h1 h2 h3 h4 hw fuel2 hf
    rcases some_ready L1 h1 with h | ⟨i0,hi0,hi1,hi2⟩
    · refine done L1 L a w h1 h2 h3 h (hw.1 ?_) fuel2 (by omega)
      apply List.eq_nil_iff_forall_not_mem.2
      intro i hi
      obtain ⟨q1,q2,_⟩ := (mem_ready (by rw [hlen]; exact h1) i).1 hi
      rw [hlen] at q1
      rw [h i q1] at q2; cases q2
    · cases fuel2 with
      | zero => omega
      | succ f2 =>
        refine ⟨fun hr => ?_,fun i hi => ?_⟩
        · exfalso
          have : i0 ∈ Region.ready .any l.toArray L := (mem_ready h2 i0).2 ⟨by omega,by rw [h3]; exact hi1,fun o ho j hj => by rw [h3]; exact hi2 j (hlt i0 o ho j hj)⟩
          rw [hr] at this; cases this
        · obtain ⟨q1,q2,q3⟩ := (mem_ready h2 i).1 hi
          have hib : i < b := by
            apply Classical.byContradiction
            intro hn
            have hge : b ≤ i := Nat.not_lt.1 hn
            rcases Nat.lt_or_ge b i with h5 | h5
            · have h6 := q3 l[i] (List.getElem?_eq_getElem q1) _ (hrow i l[i] h5 (List.getElem?_eq_getElem q1))
              rw [h3,Array.getD_eq_getD_getElem?,Array.getElem?_eq_none (by omega)] at h6
              cases h6
            · have e : i = b := by omega
              subst e
              have h6 := pre_listed (L := fun j => L.getD j false) hR hlt h4 i q1 q3 i0 (by
                rw [List.all_eq_true] at hRb
                exact hRb i0 (List.mem_range.2 hi0))
              rw [h3,hi1] at h6; cases h6
          have hm : i ∈ Region.ready .any (l.take b).toArray L1 := (mem_ready (by rw [hlen]; exact h1) i).2 ⟨by rw [hlen]; exact hib,by rw [← h3]; exact q2,fun o ho j hj => by rw [← h3]; exact q3 o (by rw [← htk i hib]; exact ho) j hj⟩
          have hop := hw.2 i hm
          have hio : l[i]? = some l[i] := List.getElem?_eq_getElem q1
          have hnext : ∀ a w,wpAnyIn F n P .any (l.take b).toArray (fun e a' w' => match e with | .normal => wpListIn F n P l.toArray Q (l.drop b) a' w' | e => Q e a' w') fuel (L1.setIfInBounds i true) a w → wpAnyIn F n P .any l.toArray Q f2 (L.setIfInBounds i true) a w := by
            intro a w h
            refine ih (L1.setIfInBounds i true) (L.setIfInBounds i true) a w (by simpa using h1) (by simpa using h2) (fun j => ?_) (fun k ok hk hk' j hj => ?_) h f2 (by omega)
            · have := h3 j
              simp only [Array.getD_eq_getD_getElem?] at this ⊢
              simp only [Array.getElem?_setIfInBounds]
              by_cases e : i = j
              · subst e; simp [show i < L.size by omega,show i < L1.size by omega]
              · rw [if_neg e,if_neg e]; exact this
            · have hL' : ∀ j,(L.setIfInBounds i true).getD j false = if j = i then true else L.getD j false := by
                intro j
                simp only [Array.getD_eq_getD_getElem?,Array.getElem?_setIfInBounds]
                by_cases e1 : j = i
                · subst e1; simp [show j < L.size by omega]
                · rw [if_neg (fun h => e1 h.symm),if_neg e1]
              rw [hL'] at hk' ⊢
              by_cases e1 : j = i
              · rw [if_pos e1]
              · rw [if_neg e1]
                by_cases e2 : k = i
                · subst e2; exact q3 ok hk j hj
                · rw [if_neg e2] at hk'; exact h4 k ok hk hk' j hj
          unfold wpOpIn at hop ⊢
          have ht := htk i hib
          rw [hio] at ht
          simp only [List.getElem?_toArray,hio,ht] at hop ⊢
          have hwant : ∀ tm,Region.wanted l[i] (yielded (l.take b).toArray tm) = Region.wanted l[i] (yielded l.toArray tm) := by
            intro tm
            unfold guardB at hg0
            rw [List.all_eq_true] at hg0
            have hgi := hg0 l[i] (List.mem_of_getElem? ht)
            unfold Region.wanted
            cases hgd : l[i].guard with
            | none => rfl
            | some p =>
              obtain ⟨j,wt⟩ := p
              rw [hgd] at hgi
              rw [Nat.blt_eq] at hgi
              have : yielded (l.take b).toArray tm j = yielded l.toArray tm j := by
                unfold yielded
                simp only [List.getElem?_toArray,htk j hgi]
              simp only [this]
          rw [hwant] at hop
          have hQ : ∀ (o : Oper),o.wpIn F n P a w (wpAnyIn F n P .any (l.take b).toArray (fun e a' w' => match e with | .normal => wpListIn F n P l.toArray Q (l.drop b) a' w' | e => Q e a' w') fuel (L1.setIfInBounds i true)) (fun e a' w' => match e with | .normal => wpListIn F n P l.toArray Q (l.drop b) a' w' | e => Q e a' w') →
              o.wpIn F n P a w (wpAnyIn F n P .any l.toArray Q f2 (L.setIfInBounds i true)) Q := by
            intro o h
            have h' := Oper.wpIn_mono hnext h
            revert h'
            unfold Oper.wpIn
            refine fun h' => ⟨h'.1,?_⟩
            have h' := h'.2
            generalize (o.semAt F.round a.eval).run P w = r at *
            cases r with
            | ok x w' =>
              cases x <;> simp only [Oper.uponIn] at h' ⊢ <;>
                first
                  | exact h'
                  | exact ⟨h'.1,CallsIn.mono h'.2 (fun e w'' he => by cases e <;> exact he)⟩
                  | exact ⟨h'.1,RowsIn.mono h'.2 (fun _ _ he => he)⟩
                  | exact ⟨h'.1,RoundIn.mono h'.2 (fun e w'' he => by cases e <;> exact he)⟩
            | halt x w' => cases x <;> simp only [Oper.uponIn] at h' ⊢ <;> exact h'
          split
          · rename_i hw1; rw [if_pos hw1] at hop; exact hQ _ hop
          · rename_i hw1; rw [if_neg hw1] at hop; exact ⟨hop.1,hnext _ _ hop.2⟩
end
section
variable {F : Fence} {n : Nat} {P : Program} {ops : Array Oper} {md : Region.Mode}
theorem Oper.wpIn_monoKQ {o : Oper} {a : Act} {w : World} {K K' : Act → World → Prop} {Q Q' : Exit → Act → World → Prop} (hK : ∀ a w,K a w → K' a w) (hQ : ∀ e a w,Q e a w → Q' e a w) (h : o.wpIn F n P a w K Q) : o.wpIn F n P a w K' Q' := by
  revert h
  unfold Oper.wpIn
  refine fun h => ⟨h.1,?_⟩
  have h := h.2
  generalize (o.semAt F.round a.eval).run P w = r at *
  cases r with
  | ok x w' =>
    cases x <;> simp only [Oper.uponIn] at h ⊢ <;>
      first
        | exact hK _ _ h
        | exact ⟨h.1,CallsIn.mono h.2 (fun e w'' he => by cases e <;> first | exact hK _ _ he | exact hQ _ _ _ he | exact Exists.elim he fun a h => Exists.elim h fun w h => ⟨a,w,hQ _ _ _ h⟩)⟩
        | exact ⟨h.1,RowsIn.mono h.2 (fun _ _ he => hK _ _ he)⟩
        | exact ⟨h.1,RoundIn.mono h.2 (fun e w'' he => by cases e <;> first | exact hK _ _ he | exact hQ _ _ _ he | exact Exists.elim he fun a h => Exists.elim h fun w h => ⟨a,w,hQ _ _ _ h⟩)⟩
        | exact hQ _ _ _ h
  | halt x w' => cases x <;> simp only [Oper.uponIn] at h ⊢ <;> first | exact hQ _ _ _ h | exact h
theorem wpAnyIn_monoQ {Q Q' : Exit → Act → World → Prop} (hQ : ∀ e a w,Q e a w → Q' e a w) : ∀ (fuel : Nat) (L : Array Bool) (a : Act) (w : World),wpAnyIn F n P md ops Q fuel L a w → wpAnyIn F n P md ops Q' fuel L a w
  | 0,_,_,_,h => ⟨h.1,hQ _ _ _ h.2⟩
  | fuel + 1,L,a,w,h => ⟨fun hr => hQ _ _ _ (h.1 hr),fun i hi => by
    have ih := wpAnyIn_monoQ hQ fuel (L.setIfInBounds i true)
    have h2 := h.2 i hi
    unfold wpOpIn at h2 ⊢
    split
    · rename_i ho; simp only [ho] at h2; exact ih _ _ h2
    · rename_i o ho
      simp only [ho] at h2
      split
      · rename_i hw; rw [if_pos hw] at h2; exact Oper.wpIn_monoKQ ih hQ h2
      · rename_i hw; rw [if_neg hw] at h2; exact ⟨h2.1,ih _ _ h2.2⟩⟩
end
theorem AWPF.drawO {R ω : Type} {φ : Fam (Option R)} {g : Option R} {s s1 : St} {OK : ω → Prop} {S : ω → Option R × St} {Q : Exit → Option R → St → Prop} {id b : Nat} {l : List Oper} (hm : φ.P.follows .mixedOrders = true) {Rr : List (List Nat)} (hcut : cutB Rr b l = true)
    (hA : ∀ d ι a w,Rel (φ.cx d) s ι a w → wpAnyIn (Fc (φ.cx d).r) 0 (φ.cx d).P .any (l.take b).toArray (fun e a' w' => ∃ s' ι',Rel (φ.cx d) s' ι' a' w' ∧ (e = .normal ∧ s' = s1)) (l.take b).length (Array.replicate (l.take b).length false) a w)
    (h : ARunO φ l.toArray (l.drop b) g s1 OK S) (hq : ∀ o,OK o → Q .normal (S o).1 (S o).2) : AWPF φ (.region id l.toArray true) Q g s := by
  intro d ι a w hH r
  have hb : b < l.length := by
    have hc := hcut
    simp only [cutB,Bool.and_eq_true] at hc
    have := hc.1.1.1.1.1
    rwa [Nat.blt_eq] at this
  have hlen : (l.take b).length = b := by rw [List.length_take]; omega
  refine wpIn_region_any hm ?_
  have h0 := hA d ι a _ r.drew
  rw [hlen,φ.hP,φ.hr] at h0
  refine wpAny_cut hcut b (Array.replicate b false) _ a _ (by simp) (by simp) (fun i => ?_) (fun i o _ hi => ?_) (wpAnyIn_monoQ (fun e a' w' hq' => ?_) _ _ _ _ h0) _ (by simp; omega)
  · have e1 : ∀ n : Nat,(Array.replicate n false).getD i false = false := fun n => by
      simp only [Array.getD_eq_getD_getElem?,Array.getElem?_replicate]
      split <;> rfl
    rw [e1,e1]
  · exfalso
    simp only [Array.getD_eq_getD_getElem?,Array.getElem?_replicate] at hi
    split at hi <;> simp at hi
  · obtain ⟨s',ι',r',rfl,rfl⟩ := hq'
    exact h d ι' a' w' _ hH r' fun o d' ι2 a2 w2 ho hH2 r2 => ⟨(S o).1,(S o).2,d',ι2,hH2,r2,hq o ho⟩
theorem splitC {R X1 : Type} {Q : Exit → Option R → St → Prop} {q : R} {x1 : X1} {s' : Bool × X1 → St} (go : Q .normal (some q) (s' (true,x1))) (stop : ∀ x',Q .normal none (s' (false,x'))) :
    ∀ o : Bool × X1,(o.1 = true → o.2 = x1) → Q .normal ((fun o : Bool × X1 => ((if o.1 = true then some q else none : Option R),s' o)) o).1 ((fun o : Bool × X1 => ((if o.1 = true then some q else none : Option R),s' o)) o).2 := by
  rintro ⟨b,x'⟩ h
  cases b with
  | true => obtain rfl := h rfl; exact go
  | false => exact stop x'
theorem splitE {R : Type} {Q : Exit → Option R → St → Prop} {q : R} {e : Bool} {s' : Bool → St} (go : Q .normal (some q) (s' true)) (stop : e = false → Q .normal none (s' false)) :
    ∀ b : Bool,(e = true → b = true) → Q .normal ((fun b : Bool => ((if b = true then some q else none : Option R),s' b)) b).1 ((fun b : Bool => ((if b = true then some q else none : Option R),s' b)) b).2 := by
  intro b h
  cases b with
  | true => exact go
  | false => exact stop (by cases e with | false => rfl | true => exact absurd (h rfl) (by decide))
def yldC {E X : Type} (e : Bool) (x : E) (m : Option (List E × X)) : Option (List E × X) := if e = true then m else m.map fun q => (x :: q.1,q.2)
theorem yldCS {E X : Type} {e : Bool} {x : E} {m : Option (List E × X)} {r : List E × X} (h : yldC e x m = some r) : ∃ q,m = some q ∧ (e = true → r = q) ∧ (e = false → r = (x :: q.1,q.2)) := by
  unfold yldC at h
  cases e with
  | true => exact ⟨r,by simpa using h,fun _ => rfl,fun h => by cases h⟩
  | false =>
    simp only [Bool.false_eq_true,if_false] at h
    cases m with
    | none => cases h
    | some q => simp only [Option.map_some,Option.some.injEq] at h; exact ⟨q,rfl,(fun h => by cases h),fun _ => h.symm⟩
def yldsM {E X1 X : Type} (m : Option (List E × X1)) (k : X1 → Option (List E × X)) : Option (List E × X) := m.bind fun p => (k p.2).map fun q => (p.1 ++ q.1,q.2)
theorem yldsS {E X1 X : Type} {m : Option (List E × X1)} {k : X1 → Option (List E × X)} {r : List E × X} (h : yldsM m k = some r) : ∃ ys x1 q,m = some (ys,x1) ∧ k x1 = some q ∧ r = (ys ++ q.1,q.2) := by
  unfold yldsM at h
  cases m with
  | none => cases h
  | some p =>
    simp only [Option.bind_some] at h
    cases hk : k p.2 with
    | none => rw [hk] at h; cases h
    | some q => rw [hk] at h; simp only [Option.map_some,Option.some.injEq] at h; exact ⟨p.1,p.2,q,rfl,hk,h.symm⟩
section
variable {E X : Type} {P : Program} {N : Nat} {K : List Nat} {ι0 : Tags} {xs tail : List E} {xf : X} {Zs Zb : Nat → Prop} {J : List E → (Nat → Prop) → (Nat → Prop) → World → Prop} {Jx : (Nat → Prop) → (Nat → Prop) → World → Prop} {A : Array Oper} {ol : List Oper} {s : St}
theorem ARunO.yG {l : Nat} {vals : E → List AV} {dst : Nat} {y : Operand} {args : Array Operand} {ats : Array TypeId} {ty : TypeId} {p : String} {ed : Array Edge} {j : Nat} {want e : Bool} {x : E} {r q : List E × X} {s' : Bool → St}
    (hJ : ∀ pre,Abide (J pre)) (hJx : Abide Jx) (hR : RoundOk P l vals xs Zs Zb J Jx) (hq : (e = true → r = q) ∧ (e = false → r = (x :: q.1,q.2)))
    (hw : ∀ d ι a w,Rel (cxY P N K ι0 d) s ι a w → (yielded A a.tmps j == some want) = !e) (hd : dst < N)
    (hy : e = false → ∀ d,Ev (cxY P N K ι0 d) s y (.sc (.func (.yield l) #[] #[]))) (ha : e = false → ∀ d,EvV (cxY P N K ι0 d) s args.toList (vals x))
    (t : ∀ b d,ARun (cxY P N K ι0 d) A ol (s.put dst (.gd (!e) (.sc (.bool b)))) (s' b)) :
    ARunO (yFam P N K ι0 xs tail xf Zs Zb J Jx) A (⟨some dst,.call { callee := .value y,args := args,argTypes := ats },ty,p,ed,some (j,want)⟩ :: ol) (some r) s (fun b => e = true → b = true) (fun b => (if b = true then some q else none,s' b)) := by
  refine ARunO.gyield (c := !e) hw (fun _ => hd) (fun hc d ι a w K Q hH rel hk => ?_) (fun hc => ?_) (fun _ => rfl) (fun hc he => ?_) t
  · have he : e = false := by cases e <;> simp_all
    obtain rfl := hq.2 he
    exact yieldY hJ hJx hR hd (hy he) (ha he) K Q hH rel hk
  · have he : e = true := by cases e <;> simp_all
    rw [hq.1 he]; rfl
  · subst he; cases hc
theorem ARunO.ycall {X1 : Type} {l : Nat} {vals : E → List AV} {dst : Nat} {x : Operand} {args : Array Operand} {ats : Array TypeId} {ty : TypeId} {p : String} {ed : Array Edge} {f : FuncId} {K1 : List Nat} {us cs us' avs cs' : List AV} {H : List (Nat × Blk)}
    {ys : List E} {Hf : X1 → List (Nat × Blk)} {x1 : X1} {r q : List E × X} {σ : Nat → Nat} {s' : Bool × X1 → St}
    (hJ : ∀ pre,Abide (J pre)) (hJx : Abide Jx) (hR : RoundOk P l vals xs Zs Zb J Jx) (hq : r = (ys ++ q.1,q.2)) (hd : dst < N) (hx : ∀ d,Ev (cxY P N K ι0 d) s x (.clo (.func f) us cs)) (hS : YSpec P l f K1 (us' ++ avs ++ cs') H vals ys Hf x1)
    (hus : ∀ d,CvL (cxY P N K ι0 d) s σ H false us us') (hargs : ∀ d,ArgL (cxY P N K ι0 d) s σ H false args.toList avs) (hcs : ∀ d,CvL (cxY P N K ι0 d) s σ H false cs cs') (ok : ∀ d b x',CallOk (cxY P N K ι0 d) s σ false K1 H (.sc (.bool b)) (Hf x'))
    (t : ∀ (o : Bool × X1) d,ARun (cxY P N K ι0 d) A ol (s.called dst σ K1 H (.sc (.bool o.1)) (Hf o.2)) (s' o)) :
    ARunO (yFam P N K ι0 xs tail xf Zs Zb J Jx) A (⟨some dst,.call { callee := .value x,args := args,argTypes := ats },ty,p,ed,none⟩ :: ol) (some r) s (fun o : Bool × X1 => o.1 = true → o.2 = x1) (fun o => (if o.1 = true then some q else none,s' o)) := by
  subst hq
  refine ARunO.step (sb := fun o : Bool × X1 => s.called dst σ K1 H (.sc (.bool o.1)) (Hf o.2)) (fun d ι a w Kn Q hH rel hk => ?_) t
  refine yCallStep hJ hJx hR rfl (fun _ h => by cases h) hd hS ok ?_ Kn Q hH rel fun b x' d' ι' a' w' hb hH' r' => hk (b,x') d' ι' a' w' hb hH' r'
  have hHas : ∀ t,has t H → has (σ t) s.heap := fun t ⟨k,hk⟩ => ⟨_,(ok d true x1).hH t k hk⟩
  have rel : Rel (cxY P N K ι0 d) s ι a w := rel
  have hv := hx d ι a w rel
  generalize hxe : a.eval x = xe at hv
  cases hv with
  | clo _ _ _ _ _ u1 v1 hu hl h1 h2 =>
    refine ⟨u1 ++ args.toList.map a.eval ++ v1,fun hable => ?_,(((hus d).vrs hHas rel K1 hu h1).append ((hargs d).vrs hHas rel K1)).append ((hcs d).vrs hHas rel K1 hl h2)⟩
    have hargsEq : (args.toList.map a.eval).toArray = args.map a.eval := by rw [List.map_toArray.symm]
    have e1 : (u1 ++ args.toList.map a.eval ++ v1).toArray = u1.toArray ++ args.map a.eval ++ v1.toArray := by
      rw [← hargsEq]; simp
    rw [e1]
    simp only [execOp,resolve,hxe,Deferred.ofValue,Sem.run_bind,Sem.run_pure,Result.andThen_ok,invoke]
    exact run_callFunc (w := w) hable
end
theorem ItSpec.ofY {E : Type} {P : Program} {f : FuncId} {fn : Func} {c : Code} {avs : List AV} {H : List (Nat × Blk)} {vals : E → List AV} {xs : List E} {N : Nat} (hf : P.funcs[f]? = some fn) (hnt : fn.ntmps = N) (hb : fn.body = some c)
    (hc : (fn.name == "runtime.NumGoroutine") = false) (hN : avs.length + 1 ≤ N) (hres : ∀ tmps w,∃ v,(results fn tmps).run P w = .ok v w)
    (h : ∀ l ι0 Zs Zb J Jx,(∀ pre,Abide (J pre)) → Abide Jx → RoundOk P l vals xs Zs Zb J Jx →
      AWPF (yFam P N [] ι0 xs [] () Zs Zb J Jx) c (fun e g _ => (e = .ret ∨ e = .normal) ∧ (g = some ([],()) ∨ g = none)) (some (xs,())) ⟨enum 0 (.sc (.func (.yield l) #[] #[]) :: avs),H⟩) : ItSpec P f avs H vals xs :=
  ItSpec.of hf hnt hb hc hN hres fun l ι0 Zs Zb J Jx hJ hJx hR d ι a w hH r =>
    wpIn_mono (h l ι0 Zs Zb J Jx hJ hJx hR d ι a w ⟨by have h1 : ItH xs Zs Zb J Jx (some xs) d := hH; simpa [yPhi] using h1,fun q hq => by cases hq; rfl⟩ r) fun e a' w' ⟨g,s',d',ι',hH',r',he,hg⟩ =>
      ⟨yPhi [] g,s',d',ι',hH'.1,r',he,by rcases hg with rfl | rfl <;> simp [yPhi]⟩
theorem mapU {E : Type} {m : Option (List E × Unit)} {r : List E} (h : m.map (fun q => q.1) = some r) : m = some (r,()) := by
  cases m with
  | none => cases h
  | some q => simp only [Option.map_some,Option.some.injEq] at h; subst h; rfl
theorem orFF {e : Bool} (h : e = false) : (e || false) = false := by simp [h]
section
variable {R X1 : Type} {φ : Fam (Option R)} {g : Option R} {s s1 : St} {Q : Exit → Option R → St → Prop} {id b : Nat} {l : List Oper} {q : R}
theorem AWPF.regionC {x1 : X1} {s' : Bool × X1 → St} (h : ARunO φ l.toArray l g s (fun o : Bool × X1 => o.1 = true → o.2 = x1) (fun o => (if o.1 = true then some q else none,s' o)))
    (go : Q .normal (some q) (s' (true,x1))) (stop : ∀ x',Q .normal none (s' (false,x'))) : AWPF φ (.region id l.toArray false) Q g s := AWPF.regionO h (splitC go stop)
theorem AWPF.drawC {x1 : X1} {s' : Bool × X1 → St} (hm : φ.P.follows .mixedOrders = true) {Rr : List (List Nat)} (hcut : cutB Rr b l = true)
    (hA : ∀ d ι a w,Rel (φ.cx d) s ι a w → wpAnyIn (Fc (φ.cx d).r) 0 (φ.cx d).P .any (l.take b).toArray (fun e a' w' => ∃ s' ι',Rel (φ.cx d) s' ι' a' w' ∧ (e = .normal ∧ s' = s1)) (l.take b).length (Array.replicate (l.take b).length false) a w)
    (h : ARunO φ l.toArray (l.drop b) g s1 (fun o : Bool × X1 => o.1 = true → o.2 = x1) (fun o => (if o.1 = true then some q else none,s' o)))
    (go : Q .normal (some q) (s' (true,x1))) (stop : ∀ x',Q .normal none (s' (false,x'))) : AWPF φ (.region id l.toArray true) Q g s := AWPF.drawO hm hcut hA h (splitC go stop)
theorem AWPF.drawE {e : Bool} {s' : Bool → St} (hm : φ.P.follows .mixedOrders = true) {Rr : List (List Nat)} (hcut : cutB Rr b l = true)
    (hA : ∀ d ι a w,Rel (φ.cx d) s ι a w → wpAnyIn (Fc (φ.cx d).r) 0 (φ.cx d).P .any (l.take b).toArray (fun e a' w' => ∃ s' ι',Rel (φ.cx d) s' ι' a' w' ∧ (e = .normal ∧ s' = s1)) (l.take b).length (Array.replicate (l.take b).length false) a w)
    (h : ARunO φ l.toArray (l.drop b) g s1 (fun b => e = true → b = true) (fun b => (if b = true then some q else none,s' b)))
    (go : Q .normal (some q) (s' true)) (stop : e = false → Q .normal none (s' false)) : AWPF φ (.region id l.toArray true) Q g s := AWPF.drawO hm hcut hA h (splitE go stop)
end
end Go.AB
namespace Go.AB
open Go
section
variable {C : Ctx} {d : Nat} {ty : TypeId} {p : String} {e : Array Edge} {g : Option (Nat × Bool)} {s : St}
end
section
variable {C : Ctx} {d : Nat} {ty : TypeId} {p : String} {e : Array Edge} {g : Option (Nat × Bool)} {s : St}
end
section
variable {C : Ctx} {d : Nat} {ty : TypeId} {p : String} {e : Array Edge} {g : Option (Nat × Bool)} {s : St}
end
section
variable {C : Ctx} {d : Nat} {ty : TypeId} {p : String} {e : Array Edge} {g : Option (Nat × Bool)} {s : St}
end
section
variable {C : Ctx} {d : Nat} {ty : TypeId} {p : String} {e : Array Edge} {g : Option (Nat × Bool)} {s : St}
end
end Go.AB
set_option linter.unusedVariables false
namespace Go.AB
open Go
section
variable {C : Ctx} {d : Nat} {ty : TypeId} {p : String} {e : Array Edge} {g : Option (Nat × Bool)} {s : St}
end
end Go.AB

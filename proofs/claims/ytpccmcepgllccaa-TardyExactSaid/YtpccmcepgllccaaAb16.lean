/-
  AB, part 16: where ways meet; tags written anew; what a call asks, by reckoning.
-/
import Derived.Test.YtpccmcepgllccaaAb15
namespace Go.AB
open Go

/-- Where ways meet behind a piece of code. -/
theorem AWP.join {C : Ctx} {c : Code} {Q : Exit → St → Prop} {s : St} {σ R : Type} {f : σ → Option R} {g : (σ → Option R) → Option R} {r : R} (S : σ → St) (h : jn f g = some r)
    (rest : ∀ p, f p = some r → Q .normal (S p)) (main : g f = some r → AWP C c (thn (fun s' => ∃ p, f p = some r ∧ VC C s' (S p)) Q) s) : AWP C c Q s := fun ι a w rel =>
  wpIn_mono (main h ι a w rel) fun e a' w' ⟨s', ι', r', q⟩ => by
    cases e with
    | normal =>
      obtain ⟨p, hp, hv⟩ := q
      obtain ⟨ι2, r2⟩ := hv ι' a' w' r'
      exact ⟨S p, ι2, r2, rest p hp⟩
    | exit id => exact ⟨s', ι', r', q⟩
    | goto l => exact ⟨s', ι', r', q⟩
    | ret => exact ⟨s', ι', r', q⟩
    | panic ch => exact ⟨s', ι', r', q⟩
    | outgrown => exact ⟨s', ι', r', q⟩

/-- the ends of a block whose ways out meet -/
def inbJ (id : Nat) (M : St → Prop) (Q : Exit → St → Prop) : Exit → St → Prop
  | .exit i, s => bif Nat.beq i id then M s else Q (.exit i) s
  | .normal, s => M s
  | e, s => Q e s
/-- Where the ways out of a block meet. -/
theorem AWP.joinB {C : Ctx} {id : Nat} {c : Code} {Q : Exit → St → Prop} {s : St} {σ R : Type} {f : σ → Option R} {g : (σ → Option R) → Option R} {r : R} (S : σ → St) (h : jn f g = some r)
    (rest : ∀ p, f p = some r → Q .normal (S p)) (main : g f = some r → AWP C c (inbJ id (fun s' => ∃ p, f p = some r ∧ VC C s' (S p)) Q) s) : AWP C (.block id c) Q s := fun ι a w rel =>
  wpIn_block (wpIn_mono (main h ι a w rel) fun e a' w' ⟨s', ι', r', q⟩ => by
    cases e with
    | normal =>
      obtain ⟨p, hp, hv⟩ := q
      obtain ⟨ι2, r2⟩ := hv ι' a' w' r'
      exact ⟨S p, ι2, r2, rest p hp⟩
    | exit i =>
      by_cases hi : i = id
      · subst hi
        simp only [inbJ, Nat.beq_refl, cond_true] at q
        simp only [Exit.inBlock, if_true]
        obtain ⟨p, hp, hv⟩ := q
        obtain ⟨ι2, r2⟩ := hv ι' a' w' r'
        exact ⟨S p, ι2, r2, rest p hp⟩
      · have hb : Nat.beq i id = false := beq_ne hi
        simp only [inbJ, hb, cond_false] at q
        simp only [Exit.inBlock, if_neg hi]
        exact ⟨s', ι', r', q⟩
    | goto l => exact ⟨s', ι', r', q⟩
    | ret => exact ⟨s', ι', r', q⟩
    | panic ch => exact ⟨s', ι', r', q⟩
    | outgrown => exact ⟨s', ι', r', q⟩)

/-- one tag for another -/
def rn (t t' : Nat) (x : Nat) : Nat := bif Nat.beq x t then t' else x
def renE (σ : Nat → Nat) : List (Nat × AV) → List (Nat × AV)
  | [] => []
  | (d, v) :: l => (d, v.ren σ) :: renE σ l
theorem look_renE (σ : Nat → Nat) (d : Nat) : ∀ l, look d (renE σ l) = (look d l).map (AV.ren σ)
  | [] => rfl
  | (d', v) :: l => by
    by_cases h : d = d'
    · subst h; simp [renE, look]
    · simp only [renE, look, beq_ne h, cond_false]; exact look_renE σ d l
theorem purgeA_free (t : Nat) (v : AV) : AV.free t (purgeA t v) = true := by
  unfold purgeA
  cases h : AV.free t v with
  | true => simpa using h
  | false => rfl
theorem AV.free_of_tags {t : Nat} {v : AV} : t ∈ AV.tags v → AV.free t v = false := by
  induction v using AV.rec (motive_2 := fun l => t ∈ AV.tagsL l → AV.freeL t l = false) with
  | sc => simp [AV.tags]
  | rd => simp [AV.tags]
  | rdx => simp [AV.tags]
  | own => simp [AV.tags, AV.free]; exact fun h => h.symm
  | ptr => simp [AV.tags, AV.free]; exact fun h => h.symm
  | rptr => simp [AV.tags]
  | agg cs ih => simpa [AV.tags, AV.free] using ih
  | tup cs ih => simpa [AV.tags, AV.free] using ih
  | clo f a b iha ihb =>
    simp only [AV.tags, AV.free, Bool.and_eq_false_iff, List.mem_append]
    rintro (h | h)
    · exact .inl (iha h)
    · exact .inr (ihb h)
  | gd c v ih => simpa [AV.tags, AV.free] using ih
  | any => simp [AV.tags]
  | nil => rename_i h; simp [AV.tagsL] at h
  | cons a l iha ihl =>
    rename_i h
    simp only [AV.tagsL, List.mem_append] at h
    simp only [AV.freeL, Bool.and_eq_false_iff]
    rcases h with h | h
    · exact .inl (iha h)
    · exact .inr (ihl h)

theorem VC.retag {C : Ctx} {s : St} {t t' : Nat} (hne : t ≠ t') (hf : ¬ has t' s.heap) (hK : t ∉ C.K) (hK' : t' ∉ C.K) : VC C s ⟨renE (rn t t') (purgeE t' s.env), renH (rn t t') (purgeH t' s.heap)⟩ := by
  intro ι a w r
  let ι' : Tags := fun x => if x = t' then ι t else ι x
  have hrn : ∀ x, x ≠ t' → ι' (rn t t' x) = ι x := by
    intro x hx
    by_cases e : x = t
    · subst e; simp [rn, ι']
    · simp only [rn, beq_ne e, cond_false, ι', if_neg hx]
  have hhas : ∀ x, has x (renH (rn t t') (purgeH t' s.heap)) → ∃ y, y ≠ t' ∧ x = rn t t' y ∧ has y s.heap := by
    intro x hx
    have hx' := has_dom.1 hx
    have : ∀ (H : List (Nat × Blk)), x ∈ dom (renH (rn t t') H) → ∃ y, y ∈ dom H ∧ x = rn t t' y := by
      intro H
      induction H with
      | nil => intro h; simp [renH, dom] at h
      | cons q H ih =>
        intro h
        obtain ⟨q1, q2⟩ := q
        simp only [renH, dom, List.map_cons, List.mem_cons] at h
        rcases h with h | h
        · exact ⟨q1, by simp [dom], h⟩
        · obtain ⟨y, hy, e⟩ := ih h
          exact ⟨y, by simp [dom] at hy ⊢; exact .inr hy, e⟩
    obtain ⟨y, hy, e⟩ := this _ hx'
    obtain ⟨h1, h2⟩ := has_purgeH.1 (has_dom.2 hy)
    exact ⟨y, h1, e, h2⟩
  have hZ : zone C (renH (rn t t') (purgeH t' s.heap)) ι' w = zone C s.heap ι w := by
    funext β b
    apply propext
    constructor
    · rintro ⟨h1, h2, h3⟩
      refine ⟨h1, fun x hx e => ?_, h3⟩
      have hx' : x ≠ t' := fun e => hf (e ▸ hx)
      refine h2 (rn t t' x) ?_ (by rw [hrn x hx']; exact e)
      obtain ⟨k, hk⟩ := hx
      refine ⟨renB (rn t t') (purgeB t' k), ?_⟩
      · rw [look_renH]
        · rw [look_purgeH_ne hx', hk]; rfl
        · intro a ha e
          obtain ⟨h4, _⟩ := has_purgeH.1 (has_dom.2 ha)
          by_cases e1 : a = t
          · by_cases e2 : x = t
            · rw [e1, e2]
            · simp only [rn, e1, Nat.beq_refl, cond_true, beq_ne e2, cond_false] at e
              exact absurd e.symm hx'
          · by_cases e2 : x = t
            · simp only [rn, e2, Nat.beq_refl, cond_true, beq_ne e1, cond_false] at e
              exact absurd e h4
            · simpa only [rn, beq_ne e1, beq_ne e2, cond_false] using e
    · rintro ⟨h1, h2, h3⟩
      refine ⟨h1, fun x hx e => ?_, h3⟩
      obtain ⟨y, hy, rfl, hy'⟩ := hhas x hx
      rw [hrn y hy] at e
      exact h2 y hy' e
  have back : ∀ v u, VR w (zone C s.heap ι w) ι v u → VR w (zone C s.heap ι w) ι' ((purgeA t' v).ren (rn t t')) u := by
    intro v u h
    have h1 : VR w (zone C s.heap ι w) ι (purgeA t' v) u := purgeA_VR (fun _ _ h => h) (fun _ _ h => h) (fun _ _ _ _ _ h => h) (fun _ _ _ h => h) h
    refine h1.renamed fun x b hx hb => ?_
    have hx' : x ≠ t' := by
      intro e
      subst e
      have := AV.free_of_tags hx
      rw [purgeA_free] at this; cases this
    rw [hrn x hx']; exact hb
  refine ⟨ι', r.size, r.dfr, fun d v hl => ?_, ⟨fun x k hl => ?_, fun x y b h1 h2 e1 e2 => ?_, fun x b h e => ?_, r.core.tr⟩, fun x hx => ?_⟩
  · rw [look_renE, look_purgeE] at hl
    cases hq : look d s.env with
    | none => rw [hq] at hl; cases hl
    | some q =>
      rw [hq] at hl
      simp only [Option.map_some, Option.some.injEq] at hl
      subst hl
      rw [hZ]
      exact back _ _ (r.env d q hq)
  · obtain ⟨y, hy, rfl, hy'⟩ := hhas x ⟨k, hl⟩
    have hinj : ∀ a, a ∈ dom (purgeH t' s.heap) → rn t t' a = rn t t' y → a = y := by
      intro a ha e
      obtain ⟨h4, _⟩ := has_purgeH.1 (has_dom.2 ha)
      by_cases e1 : a = t
      · by_cases e2 : y = t
        · rw [e1, e2]
        · simp only [rn, e1, Nat.beq_refl, cond_true, beq_ne e2, cond_false] at e
          exact absurd e.symm hy
      · by_cases e2 : y = t
        · simp only [rn, e2, Nat.beq_refl, cond_true, beq_ne e1, cond_false] at e
          exact absurd e h4
        · simpa only [rn, beq_ne e1, beq_ne e2, cond_false] using e
    rw [look_renH hinj, look_purgeH_ne hy] at hl
    cases hq : look y s.heap with
    | none => rw [hq] at hl; cases hl
    | some q =>
      rw [hq] at hl
      simp only [Option.map_some, Option.some.injEq] at hl
      subst hl
      have h0 := r.core.blk y q hq
      unfold BlkR at h0 ⊢
      rw [hrn y hy, hZ]
      obtain ⟨qt, ql, qc⟩ := q
      cases hx : ι y with
      | none =>
        simp only [hx] at h0 ⊢
        obtain ⟨h1, h2⟩ := h0
        subst h2
        exact ⟨h1, rfl⟩
      | some b =>
        simp only [hx] at h0 ⊢
        obtain ⟨cur, h1, h2, h3⟩ := h0
        cases ql with
        | true => exact ⟨cur, h1, h2, h3⟩
        | false =>
          have hlen : (renB (rn t t') (purgeB t' ⟨qt, false, qc⟩)).cells.length = qc.length := by simp [renB, purgeB, AV.renL_eq]
          refine ⟨cur, h1, by rw [hlen]; exact h2, fun i hi => ?_⟩
          have hi' : i < qc.length := by rw [hlen] at hi; exact hi
          obtain ⟨u, hu, hv⟩ := h3 i hi'
          refine ⟨u, hu, ?_⟩
          have e1 : (renB (rn t t') (purgeB t' ⟨qt, false, qc⟩)).cells[i]'hi = (purgeA t' (qc[i]'hi')).ren (rn t t') := by simp [renB, purgeB, AV.renL_eq]
          rw [e1]
          exact back _ _ hv
  · obtain ⟨x', hx1, rfl, hx2⟩ := hhas x h1
    obtain ⟨y', hy1, rfl, hy2⟩ := hhas y h2
    rw [hrn x' hx1] at e1
    rw [hrn y' hy1] at e2
    rw [r.core.inj x' y' b hx2 hy2 e1 e2]
  · obtain ⟨x', hx1, rfl, hx2⟩ := hhas x h
    rw [hrn x' hx1] at e
    exact r.core.own x' b hx2 e
  · have h1 : x ≠ t' := fun e => hK' (e ▸ hx)
    simp only [ι', if_neg h1]
    exact r.stab x hx

/-- all rows of a list of blocks -/
inductive AllH (P : Nat → Blk → Prop) : List (Nat × Blk) → Prop
  | n : AllH P []
  | c {t : Nat} {k : Blk} {l : List (Nat × Blk)} (h : P t k) (r : AllH P l) : AllH P ((t, k) :: l)
theorem AllH.at {P : Nat → Blk → Prop} {H : List (Nat × Blk)} (h : AllH P H) {t : Nat} {k : Blk} (hl : look t H = some k) : P t k := by
  induction h with
  | n => cases hl
  | c h' r ih =>
    rename_i t' k' l
    by_cases e : t = t'
    · subst e; rw [look_cons_self] at hl; cases hl; exact h'
    · rw [look_cons_ne e] at hl; exact ih hl

/-- what a call asks of the tags, by reckoning -/
def callB (CK : List Nat) (heap : List (Nat × Blk)) (σ : Nat → Nat) (bw : Bool) (K : List Nat) (H : List (Nat × Blk)) (r : AV) (H' : List (Nat × Blk)) : Bool :=
  (dom H ++ dom H').all (fun a => (dom H ++ dom H').all fun b => !(Nat.beq (σ a) (σ b)) || Nat.beq a b) &&
  (dom H').all (fun t => !anyT (dom (minusH ((dom H).map σ) heap)) (σ t)) &&
  (dom H ++ dom H').all (fun t => anyT K t || !anyT CK (σ t)) &&
  (!bw || (r.clean && H'.all fun p => p.2.lst || AV.cleanL p.2.cells)) &&
  r.tags.all (fun t => anyT (dom H') t) &&
  H'.all (fun p => p.2.lst || (AV.tagsL p.2.cells).all fun t => anyT (dom H') t)
theorem look_mem {α : Type} {t : Nat} {k : α} : ∀ {H : List (Nat × α)}, look t H = some k → (t, k) ∈ H
  | [], h => by cases h
  | (t', k') :: H, h => by
    by_cases e : t = t'
    · subst e; rw [look_cons_self] at h; cases h; simp
    · rw [look_cons_ne e] at h; exact List.mem_cons_of_mem _ (look_mem h)
theorem CallOk.mk' {C : Ctx} {s : St} {σ : Nat → Nat} {bw : Bool} {K : List Nat} {H : List (Nat × Blk)} {r : AV} {H' : List (Nat × Blk)} (hH : AllH (fun t k => look (σ t) s.heap = some (renB σ k)) H)
    (hb : callB C.K s.heap σ bw K H r H' = true) : CallOk C s σ bw K H r H' := by
  simp only [callB, Bool.and_eq_true, List.all_eq_true] at hb
  obtain ⟨⟨⟨⟨⟨b1, b2⟩, b3⟩, b4⟩, b5⟩, b6⟩ := hb
  refine ⟨fun t k hl => hH.at hl, fun a b ha hb e => ?_, fun t ht hh => ?_, fun t ht hk hc => ?_, fun hw => ?_, fun t ht => anyT_iff.1 (b5 t ht), fun t k hl => ?_⟩
  · have := b1 a ha b hb
    rw [e] at this
    simp only [Nat.beq_refl, Bool.not_true, Bool.false_or, Nat.beq_eq] at this
    exact this
  · have := b2 t ht
    rw [anyT_iff.2 (has_dom.1 hh)] at this; cases this
  · have := b3 t ht
    simp only [Bool.or_eq_true, Bool.not_eq_true'] at this
    rcases this with h | h
    · exact hk (anyT_iff.1 h)
    · rw [anyT_iff.2 hc] at h; cases h
  · rw [hw] at b4
    simp only [Bool.not_true, Bool.false_or, Bool.and_eq_true, List.all_eq_true, Bool.or_eq_true] at b4
    exact ⟨b4.1, fun t k hl => b4.2 _ (look_mem hl)⟩
  · have := b6 _ (look_mem hl)
    simp only [Bool.or_eq_true, List.all_eq_true] at this
    rcases this with h | h
    · exact .inl h
    · exact .inr fun t' ht' => anyT_iff.1 (h t' ht')

theorem lendAll {α : Type} {enc : α → List AV} {sz : Nat} (henc : ∀ y, (enc y).length = sz) (xs : List α) : xs.flatMap enc = ((xs.flatMap enc).drop 0).take (xs.length * sz) := by
  rw [List.drop_zero, ← flatMap_length henc, List.take_length]

/-- under a guard alone; else it does not matter -/
def gdO {α : Type} (c : Bool) (o : Option α) (d : α) : Option α := if c = true then o else some d
theorem gdS {α : Type} {c : Bool} {o : Option α} {d r : α} (hc : c = true) (h : gdO c o d = some r) : o = some r := by unfold gdO at h; rwa [if_pos hc] at h
theorem gdO_true {α : Type} (o : Option α) (d : α) : gdO true o d = o := rfl
theorem gdO_false {α : Type} (o : Option α) (d : α) : gdO false o d = some d := rfl

theorem AStep.vc {C : Ctx} {o : Oper} {s s1 s2 : St} (h : AStep C o s s1) (v : VC C s1 s2) : AStep C o s s2 := fun ι a w K Q r hk =>
  h ι a w K Q r fun ι' a' w' r' => let ⟨ι2, r2⟩ := v ι' a' w' r'; hk ι2 a' w' r2
/-- one state for another, the loop's or the join's end -/
theorem endJ {C : Ctx} {σ R : Type} {f : σ → Option R} {r : R} {S : σ → St} {s : St} (p : σ) (h : f p = some r) (v : VC C s (S p)) : ∃ p, f p = some r ∧ VC C s (S p) := ⟨p, h, v⟩
end Go.AB

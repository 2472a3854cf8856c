/-
  AB, part 10: a call of a function by its contract.
-/
import Derived.Test.YtpccmcepgllccaaAb9
namespace Go.AB
open Go

def dom {α : Type} (H : List (Nat × α)) : List Nat := H.map (·.1)
theorem has_dom {α : Type} {t : Nat} : ∀ {H : List (Nat × α)}, has t H ↔ t ∈ dom H
  | [] => by simp [has, look, dom]
  | (t', k) :: H => by
    by_cases h : t = t'
    · subst h; exact ⟨fun _ => by simp [dom], fun _ => ⟨k, look_cons_self _ _ _⟩⟩
    · have := has_dom (t := t) (H := H)
      unfold has at this ⊢
      rw [look_cons_ne h, this]
      simp [dom, h]

def anyT (ts : List Nat) (t : Nat) : Bool := ts.any (Nat.beq t)
theorem anyT_iff {ts : List Nat} {t : Nat} : anyT ts t = true ↔ t ∈ ts := by
  simp only [anyT, List.any_eq_true]
  constructor
  · rintro ⟨x, hx, h⟩; rw [Nat.beq_eq] at h; exact h ▸ hx
  · intro h; exact ⟨t, h, Nat.beq_refl t⟩

/-- forget what speaks of one of the tags -/
def purgeAL (ts : List Nat) (v : AV) : AV := bif ts.all (fun t => AV.free t v) then v else .any
def purgeEL (ts : List Nat) (E : List (Nat × AV)) : List (Nat × AV) := E.map fun p => (p.1, purgeAL ts p.2)
def purgeBL (ts : List Nat) (k : Blk) : Blk := bif k.lst then k else { k with cells := k.cells.map (purgeAL ts) }
def purgeHL (ts : List Nat) (H : List (Nat × Blk)) : List (Nat × Blk) := H.map fun p => (p.1, purgeBL ts p.2)
theorem look_map {α β : Type} (f : α → β) (d : Nat) : ∀ l : List (Nat × α), look d (l.map fun p => (p.1, f p.2)) = (look d l).map f
  | [] => rfl
  | (d', v) :: l => by
    by_cases h : d = d'
    · subst h; simp [look]
    · simp only [List.map_cons, look, beq_ne h, cond_false]; exact look_map f d l

theorem look_minusH {ts : List Nat} {t : Nat} : ∀ {H : List (Nat × Blk)}, look t (minusH ts H) = if t ∈ ts then none else look t H
  | [] => by simp [minusH, look]
  | (t', k) :: H => by
    have ih := look_minusH (ts := ts) (t := t) (H := H)
    by_cases h : anyT ts t' = true
    · have : minusH ts ((t', k) :: H) = minusH ts H := by
        have h' : ts.any (Nat.beq t') = true := h
        simp [minusH, h']
      rw [this, ih]
      by_cases e : t = t'
      · subst e; rw [if_pos (anyT_iff.1 h), if_pos (anyT_iff.1 h)]
      · rw [look_cons_ne e]
    · have : minusH ts ((t', k) :: H) = (t', k) :: minusH ts H := by
        have h' : ts.any (Nat.beq t') = false := by rw [← Bool.not_eq_true]; exact h
        simp [minusH, h']
      rw [this]
      by_cases e : t = t'
      · subst e
        rw [look_cons_self, look_cons_self, if_neg]
        intro hm; exact h (anyT_iff.2 hm)
      · rw [look_cons_ne e, look_cons_ne e, ih]

theorem look_append {α : Type} {t : Nat} : ∀ {l m : List (Nat × α)}, look t (l ++ m) = match look t l with | some v => some v | none => look t m
  | [], m => by simp [look]
  | (t', v) :: l, m => by
    by_cases e : t = t'
    · subst e; simp [look]
    · rw [List.cons_append, look_cons_ne e, look_cons_ne e]; exact look_append
theorem look_renH {σ : Nat → Nat} {t : Nat} : ∀ {H : List (Nat × Blk)}, (∀ a, a ∈ dom H → σ a = σ t → a = t) → look (σ t) (renH σ H) = (look t H).map (renB σ)
  | [], _ => by simp [renH, look]
  | (t', k) :: H, hinj => by
    by_cases e : t = t'
    · subst e; simp [renH, look]
    · have hne : σ t ≠ σ t' := fun h => e (hinj t' (by simp [dom]) h.symm).symm
      simp only [renH]
      rw [look_cons_ne hne, look_cons_ne e]
      exact look_renH fun a ha h => hinj a (by simp [dom] at ha ⊢; exact .inr ha) h
theorem look_renH_none {σ : Nat → Nat} {x : Nat} : ∀ {H : List (Nat × Blk)}, (∀ a, a ∈ dom H → σ a ≠ x) → look x (renH σ H) = none
  | [], _ => by simp [renH, look]
  | (t', k) :: H, h => by
    simp only [renH]
    rw [look_cons_ne (fun e => h t' (by simp [dom]) e.symm)]
    exact look_renH_none fun a ha => h a (by simp [dom] at ha ⊢; exact .inr ha)

/-- from one zone to another, for what bears no borrowed flag -/
theorem VR.monoC {w : World} {Z : Zone} {ι : Tags} {v : AV} {u : Value} (h : VR w Z ι v u) : ∀ (Z' : Zone), (∀ b, Z false b → Z' false b) → AV.clean v = true → VR w Z' ι v u := by
  induction h with
  | sc Z ι v => intro Z' _ _; exact .sc _ _ _
  | rdnil Z ι β a0 => intro Z' _ _; exact .rdnil _ _ _ _
  | rd Z ι β n cells b off cap vs hz hn hc hv h ih =>
    intro Z' hZ hcl
    have hβ : β = false := by simpa [AV.clean] using hcl
    subst hβ
    exact .rd _ _ _ _ _ _ _ _ _ (fun hne => hZ _ (hz hne)) hn hc hv fun i hi => (h i hi).mono (fun _ _ h => h) _ _ (fun _ b hb => hZ b hb) (fun _ _ _ _ _ h => h) (fun _ _ _ h => h)
  | rdx Z ι β n cells b off vs hz hc hv h ih =>
    intro Z' hZ hcl
    have hβ : β = false := by simpa [AV.clean] using hcl
    subst hβ
    exact .rdx _ _ _ _ _ _ _ _ (fun hne => hZ _ (hz hne)) hc hv fun i hi => (h i hi).mono (fun _ _ h => h) _ _ (fun _ b hb => hZ b hb) (fun _ _ _ _ _ h => h) (fun _ _ _ h => h)
  | rdxnil Z ι β a0 => intro Z' _ _; exact .rdxnil _ _ _ _
  | ownnil Z ι t sz off => intro Z' _ _; exact .ownnil _ _ _ _ _
  | ownz Z ι t sz off b o => intro Z' _ _; exact .ownz _ _ _ _ _ _ _
  | own Z ι t sz off n b cap s ht hn hc hs ho => intro Z' _ _; exact .own _ _ _ _ _ _ _ _ _ ht hn hc hs ho
  | ptr Z ι t off b ht => intro Z' _ _; exact .ptr _ _ _ _ _ ht
  | rptr Z ι β cells b off vs hz hv h ih =>
    intro Z' hZ hcl
    have hβ : β = false := by simpa [AV.clean] using hcl
    subst hβ
    exact .rptr _ _ _ _ _ _ _ (fun hne => hZ _ (hz hne)) hv fun i hi => (h i hi).mono (fun _ _ h => h) _ _ (fun _ b hb => hZ b hb) (fun _ _ _ _ _ h => h) (fun _ _ _ h => h)
  | agg Z ι cells vs hl h ih =>
    intro Z' hZ hcl
    refine .agg _ _ _ _ hl fun i hi => ih i hi Z' hZ ?_
    simp only [AV.clean, AV.cleanL_eq, List.all_eq_true] at hcl
    exact hcl _ (List.getElem_mem hi)
  | tup Z ι cells vs hl h ih =>
    intro Z' hZ hcl
    refine .tup _ _ _ _ hl fun i hi => ih i hi Z' hZ ?_
    simp only [AV.clean, AV.cleanL_eq, List.all_eq_true] at hcl
    exact hcl _ (List.getElem_mem hi)
  | clo Z ι f a c us vs hu hl h1 h2 ih1 ih2 =>
    intro Z' hZ hcl
    simp only [AV.clean, AV.cleanL_eq, List.all_eq_true, Bool.and_eq_true] at hcl
    exact .clo _ _ _ _ _ _ _ hu hl (fun i hi => ih1 i hi Z' hZ (hcl.1 _ (List.getElem_mem hi))) (fun i hi => ih2 i hi Z' hZ (hcl.2 _ (List.getElem_mem hi)))
  | gd Z ι c x v h hu ih => intro Z' hZ hcl; exact .gd _ _ _ _ _ (fun hc => ih hc Z' hZ (by simpa [AV.clean] using hcl)) hu
  | any Z ι v => intro Z' _ _; exact .any _ _ _

/-- The callee's side of a call. -/
def cctx (C : Ctx) (s : St) (σ : Nat → Nat) (H : List (Nat × Blk)) (bw : Bool) (K : List Nat) (ι : Tags) (w : World) : Ctx :=
  ⟨C.P, C.r, C.N, C.dfr, w, fun b => zone C s.heap ι w false b, fun b => zone C s.heap ι w true b ∨ (bw = true ∧ ∃ t, has t (minusH ((dom H).map σ) s.heap) ∧ ι t = some b),
    ownedBy H (fun t => ι (σ t)), K, fun t => ι (σ t)⟩

/-- What an argument is to the callee. -/
def Cv (C : Ctx) (s : St) (σ : Nat → Nat) (H : List (Nat × Blk)) (bw : Bool) (v v' : AV) : Prop :=
  ∀ (K : List Nat) ι a w u, Rel C s ι a w → (∀ t, has t H → has (σ t) s.heap) → VR w (zone C s.heap ι w) ι v u → VR w (zone (cctx C s σ H bw K ι w) H (fun t => ι (σ t)) w) (fun t => ι (σ t)) v' u

theorem zone_cctx {C : Ctx} {s : St} {σ : Nat → Nat} {H : List (Nat × Blk)} {bw : Bool} {K : List Nat} {ι : Tags} {w : World} (hH : ∀ t, has t H → has (σ t) s.heap) {β : Bool} {b : Nat} (h : zone C s.heap ι w β b) :
    zone (cctx C s σ H bw K ι w) H (fun t => ι (σ t)) w β b := by
  refine ⟨h.1, fun t ht => h.2.1 (σ t) (hH t ht), ?_⟩
  cases β with
  | true => exact .inl ⟨rfl, .inl h⟩
  | false => exact .inr (.inl h)

theorem Cv.ren {C : Ctx} {s : St} {σ : Nat → Nat} {H : List (Nat × Blk)} {bw : Bool} {v v' : AV} (h : v = v'.ren σ) : Cv C s σ H bw v v' := by
  subst h
  intro K ι a w u r hH hv
  exact hv.unren.mono (fun _ _ h => h) _ _ (fun _ _ h => zone_cctx hH h) (fun _ _ _ _ _ h => h) (fun _ _ _ h => h)
theorem Cv.nil {C : Ctx} {s : St} {σ : Nat → Nat} {H : List (Nat × Blk)} {bw β : Bool} : Cv C s σ H bw (.sc (.slice none 0 0)) (.rd β 0 []) := by
  intro K ι a w u r hH hv
  rw [sc_inv hv]; exact .rdnil _ _ _ _
theorem Cv.ofrdx {C : Ctx} {s : St} {σ : Nat → Nat} {H : List (Nat × Blk)} {bw β : Bool} {n : Nat} {cs : List AV} : Cv C s σ H bw (.rdx β n cs) (.rd β n cs) := by
  intro K ι a w u r hH hv
  have key : VR w (zone C s.heap ι w) ι (.rd β n cs) u := by
    cases hv with
    | rdx _ _ _ _ _ b off vs hz hc hv h => exact .rd _ _ _ _ _ _ _ _ _ hz (Nat.le_refl _) hc hv h
    | rdxnil => exact .rdnil _ _ _ _
  exact key.mono (fun _ _ h => h) _ _ (fun _ _ h => zone_cctx hH h) (fun _ _ _ _ _ h => h) (fun t b hf => by simp [AV.free] at hf)
/-- lent for the call, as what is read under the flag true -/
theorem Cv.lend {C : Ctx} {s : St} {σ : Nat → Nat} {H : List (Nat × Blk)} {t sz off n : Nat} {k : Blk} {sub : List AV} (hk : look t s.heap = some k) (hlst : k.lst = true) (ht : t ∉ (dom H).map σ)
    (hs : sub = (k.cells.drop off).take (n * sz)) (hl : sub.length = n * sz) : Cv C s σ H true (.own t sz off n) (.rd true n sub) := by
  intro K ι a w u r hH hv
  rcases own_inv hv with ⟨rfl, hu⟩ | ⟨b, cap, q, hu, hb, hn, hc, _⟩
  · have : sub = [] := List.eq_nil_of_length_eq_zero (by simpa using hl)
    subst this
    rcases hu with hu | ⟨b, o, hu⟩
    · rw [hu]; exact .rdnil _ _ _ _
    · rw [hu]; exact .rd _ _ _ _ _ _ _ _ (fun _ => undef) (fun h => absurd rfl h) (Nat.le_refl _) (by simp [maxLen]) (fun i hi => absurd hi (by simp)) (fun i hi => absurd hi (by simp))
  · obtain ⟨cur, hcur, hlen, h⟩ := blk_inv r.core hk hb
    simp only [hlst, cond_true] at h
    have hz : zone (cctx C s σ H true K ι w) H (fun t => ι (σ t)) w true b := by
      refine ⟨(Array.getElem?_eq_some_iff.1 hcur).1, fun t' ht' e => ht ?_, .inl ⟨rfl, .inr ⟨rfl, t, ⟨k, by rw [look_minusH, if_neg ht]; exact hk⟩, hb⟩⟩⟩
      have := r.core.inj _ _ b (hH t' ht') ⟨k, hk⟩ e hb
      rw [← this]
      exact List.mem_map.2 ⟨t', has_dom.1 ht', rfl⟩
    rw [hu]
    have key : ∀ i, i < sub.length → ∃ h' : off + i < k.cells.length, sub[i]? = some k.cells[off + i] := fun i hi => by
      have h1 : (k.cells.drop off).length ≥ n * sz ∨ n * sz = 0 := by
        rw [hs] at hl; simp at hl ⊢; omega
      have h' : off + i < k.cells.length := by simp at h1; omega
      exact ⟨h', by rw [hs, List.getElem?_take, if_pos (by omega), List.getElem?_drop, List.getElem?_eq_getElem h']⟩
    refine .rd _ _ _ _ _ b off cap (fun i => cur.getD (off + i) undef) (fun _ => hz) hn hc (fun i hi => ?_) (fun i hi => ?_)
    · obtain ⟨h', _⟩ := key i hi
      rw [cell_of_row w b (off + i) cur k.ty (0, 0) hcur]
      have : off + i < cur.size := by omega
      simp [Array.getD_eq_getD_getElem?, this]
    · obtain ⟨h', e⟩ := key i hi
      obtain ⟨y, hy, hvr⟩ := h _ h'
      rw [List.getElem?_eq_getElem hi] at e
      rw [Option.some.inj e]
      have : cur.getD (off + i) undef = y := by simp [Array.getD_eq_getD_getElem?, hy]
      rw [this]
      refine hvr.mono (fun _ _ h => h) _ _ (fun _ b' hb' => ?_) (fun _ _ _ _ _ h => h) (fun _ _ _ h => h)
      have := zone_cctx (bw := true) (K := K) hH hb'
      exact ⟨this.1, this.2.1, .inr (.inl hb')⟩

/-- Arguments, one by one. -/
inductive ArgL (C : Ctx) (s : St) (σ : Nat → Nat) (H : List (Nat × Blk)) (bw : Bool) : List Operand → List AV → Prop
  | nil : ArgL C s σ H bw [] []
  | cons {x : Operand} {v v' : AV} {xs : List Operand} {vs : List AV} (h : Ev C s x v) (hc : Cv C s σ H bw v v') (t : ArgL C s σ H bw xs vs) : ArgL C s σ H bw (x :: xs) (v' :: vs)

theorem ArgL.vrs {C : Ctx} {s : St} {σ : Nat → Nat} {H : List (Nat × Blk)} {bw : Bool} {xs : List Operand} {avs : List AV} (h : ArgL C s σ H bw xs avs) (hH : ∀ t, has t H → has (σ t) s.heap) {ι : Tags} {a : Act} {w : World}
    (r : Rel C s ι a w) (K : List Nat) : VRs w (zone (cctx C s σ H bw K ι w) H (fun t => ι (σ t)) w) (fun t => ι (σ t)) avs (xs.map a.eval) := by
  induction h with
  | nil => exact ⟨rfl, fun i hi => absurd hi (by simp)⟩
  | cons h hc t ih =>
    obtain ⟨h1, h2⟩ := ih
    refine ⟨by simpa using h1, fun i hi => ?_⟩
    cases i with
    | zero => exact ⟨_, rfl, hc K ι a w _ r hH (h ι a w r)⟩
    | succ i =>
      obtain ⟨u, hu, hv⟩ := h2 i (by simpa using hi)
      exact ⟨u, by simpa using hu, by simpa using hv⟩
end Go.AB

/-
  AB, part 12: one state for another; what a function's end hands back.
-/
import Derived.Test.YtpccmcepgllccaaAb11
namespace Go.AB
open Go

/-- every entry of the first is one of the second -/
inductive SubE : List (Nat × AV) → List (Nat × AV) → Prop
  | n (e : List (Nat × AV)) : SubE [] e
  | c {d : Nat} {v : AV} {l e : List (Nat × AV)} (h : look d e = some v) (t : SubE l e) : SubE ((d, v) :: l) e
inductive SubH : List (Nat × Blk) → List (Nat × Blk) → Prop
  | n (e : List (Nat × Blk)) : SubH [] e
  | c {d : Nat} {v : Blk} {l e : List (Nat × Blk)} (h : look d e = some v) (t : SubH l e) : SubH ((d, v) :: l) e
theorem SubE.look {d : Nat} {v : AV} {l e : List (Nat × AV)} (hs : SubE l e) (h : look d l = some v) : look d e = some v := by
  induction hs with
  | n => cases h
  | c h' t ih =>
    rename_i d' v' l e
    by_cases hd : d = d'
    · subst hd; rw [look_cons_self] at h; cases h; exact h'
    · rw [look_cons_ne hd] at h; exact ih h
theorem SubH.look {d : Nat} {v : Blk} {l e : List (Nat × Blk)} (hs : SubH l e) (h : look d l = some v) : look d e = some v := by
  induction hs with
  | n => cases h
  | c h' t ih =>
    rename_i d' v' l e
    by_cases hd : d = d'
    · subst hd; rw [look_cons_self] at h; cases h; exact h'
    · rw [look_cons_ne hd] at h; exact ih h

theorem VC.sub {C : Ctx} {s s' : St} (hE : SubE s'.env s.env) (hH : SubH s'.heap s.heap) : VC C s s' := by
  intro ι a w r
  have hhas : ∀ t, has t s'.heap → has t s.heap := fun t ⟨k, hk⟩ => ⟨k, hH.look hk⟩
  have hZ : ∀ β b, zone C s.heap ι w β b → zone C s'.heap ι w β b := fun β b h => ⟨h.1, fun t ht => h.2.1 t (hhas t ht), h.2.2⟩
  refine ⟨ι, r.size, r.dfr, fun d v hl => ?_, ⟨fun t k hl => ?_, fun t t' b h1 h2 => r.core.inj t t' b (hhas t h1) (hhas t' h2), fun t b h => r.core.own t b (hhas t h), r.core.tr⟩, r.stab⟩
  · exact (r.env d v (hE.look hl)).mono (fun _ _ h => h) _ _ hZ (fun _ _ _ _ _ h => h) (fun _ _ _ h => h)
  · have h0 := r.core.blk t k (hH.look hl)
    unfold BlkR at h0 ⊢
    cases hx : ι t with
    | none => simp only [hx] at h0 ⊢; exact h0
    | some b =>
      simp only [hx] at h0 ⊢
      obtain ⟨cur, q1, q2, q3⟩ := h0
      refine ⟨cur, q1, q2, fun i hi => ?_⟩
      obtain ⟨u, hu, hv⟩ := q3 i hi
      refine ⟨u, hu, hv.mono (fun _ _ h => h) _ _ ?_ (fun _ _ _ _ _ h => h) (fun _ _ _ h => h)⟩
      cases k.lst with
      | true => exact fun _ b hb => hZ _ _ hb
      | false => exact hZ

/-- a nil slice as an owned row that is empty -/
theorem VC.nilOwn {C : Ctx} {s : St} {d t sz : Nat} {E : TypeId} (hd : look d s.env = some (.sc (.slice none 0 0))) (hK : t ∉ C.K) :
    VC C s ⟨(d, .own t sz 0 0) :: purgeE t s.env, (t, ⟨E, true, []⟩) :: purgeH t s.heap⟩ := by
  intro ι a w r
  let ι' : Tags := fun x => if x = t then none else ι x
  have hZ : ∀ β b, zone C s.heap ι w β b → zone C ((t, ⟨E, true, []⟩) :: purgeH t s.heap) ι' w β b := by
    rintro β b ⟨h1, h2, h3⟩
    refine ⟨h1, fun t' ht' => ?_, h3⟩
    by_cases e : t' = t
    · simp [ι', e]
    · simp only [ι', if_neg e]
      obtain ⟨q, hq⟩ := ht'
      rw [look_cons_ne e] at hq
      exact h2 t' (has_purgeH.1 ⟨q, hq⟩).2
  have hι : ∀ t' b, t' ≠ t → ι t' = some b → ι' t' = some b := fun t' b hne h => by simp only [ι', if_neg hne]; exact h
  have hkey : ∀ t', has t' ((t, (⟨E, true, []⟩ : Blk)) :: purgeH t s.heap) → t' ≠ t → has t' s.heap := by
    rintro t' ⟨q, hq⟩ hne
    rw [look_cons_ne hne] at hq
    exact (has_purgeH.1 ⟨q, hq⟩).2
  refine ⟨ι', r.size, r.dfr, fun d' v hl => ?_, ⟨fun t' k hl => ?_, fun t1 t2 b h1 h2 e1 e2 => ?_, fun t' b h e => ?_, r.core.tr⟩, fun t' ht' => ?_⟩
  · by_cases e : d' = d
    · subst e
      rw [look_cons_self] at hl
      cases hl
      rw [sc_inv (r.env d' _ hd)]
      exact .ownnil _ _ _ _ _
    · rw [look_cons_ne e, look_purgeE] at hl
      cases hq : look d' s.env with
      | none => rw [hq] at hl; cases hl
      | some q =>
        rw [hq] at hl
        simp only [Option.map_some, Option.some.injEq] at hl
        subst hl
        exact purgeA_VR (fun _ _ h => h) hZ (fun _ _ _ _ _ h => h) hι (r.env d' q hq)
  · by_cases e : t' = t
    · subst e
      rw [look_cons_self] at hl
      cases hl
      simp [BlkR, ι']
    · rw [look_cons_ne e, look_purgeH_ne e] at hl
      cases hq : look t' s.heap with
      | none => rw [hq] at hl; cases hl
      | some q =>
        rw [hq] at hl
        simp only [Option.map_some, Option.some.injEq] at hl
        subst hl
        have h0 := r.core.blk t' q hq
        have ht' : ι' t' = ι t' := by simp [ι', e]
        unfold BlkR at h0 ⊢
        rw [ht']
        obtain ⟨qt, ql, qc⟩ := q
        cases hx : ι t' with
        | none =>
          simp only [hx] at h0 ⊢
          obtain ⟨h1, h2⟩ := h0
          subst h2
          exact ⟨h1, rfl⟩
        | some x =>
          simp only [hx] at h0 ⊢
          obtain ⟨cur, h1, h2, h3⟩ := h0
          cases ql with
          | true =>
            refine ⟨cur, h1, h2, fun i hi => ?_⟩
            obtain ⟨y, hy, hv⟩ := h3 i hi
            exact ⟨y, hy, hv.mono (fun _ _ h => h) _ _ (fun _ b hb => hZ _ _ hb) (fun _ _ _ _ _ h => h) (fun _ _ _ h => h)⟩
          | false =>
            have hlen : (purgeB t ⟨qt, false, qc⟩).cells.length = qc.length := by simp [purgeB]
            refine ⟨cur, h1, by rw [hlen]; exact h2, fun i hi => ?_⟩
            have hi' : i < qc.length := by rw [hlen] at hi; exact hi
            obtain ⟨y, hy, hv⟩ := h3 i hi'
            refine ⟨y, hy, ?_⟩
            have e1 : (purgeB t ⟨qt, false, qc⟩).cells[i]'hi = purgeA t (qc[i]'hi') := by simp [purgeB]
            rw [e1]
            exact purgeA_VR (fun _ _ h => h) hZ (fun _ _ _ _ _ h => h) hι hv
  · by_cases q1 : t1 = t
    · simp [ι', q1] at e1
    · by_cases q2 : t2 = t
      · simp [ι', q2] at e2
      · simp only [ι', if_neg q1, if_neg q2] at e1 e2
        exact r.core.inj t1 t2 b (hkey t1 h1 q1) (hkey t2 h2 q2) e1 e2
  · by_cases q1 : t' = t
    · simp [ι', q1] at e
    · simp only [ι', if_neg q1] at e
      exact r.core.own t' b (hkey t' h q1) e
  · have hne : t' ≠ t := fun h => hK (h ▸ ht')
    simp only [ι', if_neg hne]; exact r.stab t' ht'

/-- a new tag for an empty row -/
theorem VC.newTag {C : Ctx} {s : St} {t : Nat} {E : TypeId} (hK : t ∉ C.K) :
    VC C s ⟨purgeE t s.env, (t, ⟨E, true, []⟩) :: purgeH t s.heap⟩ := by
  intro ι a w r
  let ι' : Tags := fun x => if x = t then none else ι x
  have hZ : ∀ β b, zone C s.heap ι w β b → zone C ((t, ⟨E, true, []⟩) :: purgeH t s.heap) ι' w β b := by
    rintro β b ⟨h1, h2, h3⟩
    refine ⟨h1, fun t' ht' => ?_, h3⟩
    by_cases e : t' = t
    · simp [ι', e]
    · simp only [ι', if_neg e]
      obtain ⟨q, hq⟩ := ht'
      rw [look_cons_ne e] at hq
      exact h2 t' (has_purgeH.1 ⟨q, hq⟩).2
  have hι : ∀ t' b, t' ≠ t → ι t' = some b → ι' t' = some b := fun t' b hne h => by simp only [ι', if_neg hne]; exact h
  have hkey : ∀ t', has t' ((t, (⟨E, true, []⟩ : Blk)) :: purgeH t s.heap) → t' ≠ t → has t' s.heap := by
    rintro t' ⟨q, hq⟩ hne
    rw [look_cons_ne hne] at hq
    exact (has_purgeH.1 ⟨q, hq⟩).2
  refine ⟨ι', r.size, r.dfr, fun d' v hl => ?_, ⟨fun t' k hl => ?_, fun t1 t2 b h1 h2 e1 e2 => ?_, fun t' b h e => ?_, r.core.tr⟩, fun t' ht' => ?_⟩
  · rw [look_purgeE] at hl
    cases hq : look d' s.env with
    | none => rw [hq] at hl; cases hl
    | some q =>
      rw [hq] at hl
      simp only [Option.map_some, Option.some.injEq] at hl
      subst hl
      exact purgeA_VR (fun _ _ h => h) hZ (fun _ _ _ _ _ h => h) hι (r.env d' q hq)
  · by_cases e : t' = t
    · subst e
      rw [look_cons_self] at hl
      cases hl
      simp [BlkR, ι']
    · rw [look_cons_ne e, look_purgeH_ne e] at hl
      cases hq : look t' s.heap with
      | none => rw [hq] at hl; cases hl
      | some q =>
        rw [hq] at hl
        simp only [Option.map_some, Option.some.injEq] at hl
        subst hl
        have h0 := r.core.blk t' q hq
        have ht' : ι' t' = ι t' := by simp [ι', e]
        unfold BlkR at h0 ⊢
        rw [ht']
        obtain ⟨qt, ql, qc⟩ := q
        cases hx : ι t' with
        | none =>
          simp only [hx] at h0 ⊢
          obtain ⟨h1, h2⟩ := h0
          subst h2
          exact ⟨h1, rfl⟩
        | some x =>
          simp only [hx] at h0 ⊢
          obtain ⟨cur, h1, h2, h3⟩ := h0
          cases ql with
          | true =>
            refine ⟨cur, h1, h2, fun i hi => ?_⟩
            obtain ⟨y, hy, hv⟩ := h3 i hi
            exact ⟨y, hy, hv.mono (fun _ _ h => h) _ _ (fun _ b hb => hZ _ _ hb) (fun _ _ _ _ _ h => h) (fun _ _ _ h => h)⟩
          | false =>
            have hlen : (purgeB t ⟨qt, false, qc⟩).cells.length = qc.length := by simp [purgeB]
            refine ⟨cur, h1, by rw [hlen]; exact h2, fun i hi => ?_⟩
            have hi' : i < qc.length := by rw [hlen] at hi; exact hi
            obtain ⟨y, hy, hv⟩ := h3 i hi'
            refine ⟨y, hy, ?_⟩
            have e1 : (purgeB t ⟨qt, false, qc⟩).cells[i]'hi = purgeA t (qc[i]'hi') := by simp [purgeB]
            rw [e1]
            exact purgeA_VR (fun _ _ h => h) hZ (fun _ _ _ _ _ h => h) hι hv
  · by_cases q1 : t1 = t
    · simp [ι', q1] at e1
    · by_cases q2 : t2 = t
      · simp [ι', q2] at e2
      · simp only [ι', if_neg q1, if_neg q2] at e1 e2
        exact r.core.inj t1 t2 b (hkey t1 h1 q1) (hkey t2 h2 q2) e1 e2
  · by_cases q1 : t' = t
    · simp [ι', q1] at e
    · simp only [ι', if_neg q1] at e
      exact r.core.own t' b (hkey t' h q1) e
  · have hne : t' ≠ t := fun h => hK (h ▸ ht')
    simp only [ι', if_neg hne]; exact r.stab t' ht'

mutual
/-- what spoke of the row t, as what is only read -/
def frzA (t : Nat) (cells : List AV) : AV → AV
  | .own t' sz off n => bif Nat.beq t' t then .rd false n ((cells.drop off).take (n * sz)) else .own t' sz off n
  | .ptr t' off => bif Nat.beq t' t then .rptr false (cells.drop off) else .ptr t' off
  | .agg cs => .agg (frzL t cells cs)
  | .tup cs => .tup (frzL t cells cs)
  | .clo f a b => .clo f (frzL t cells a) (frzL t cells b)
  | .gd c v => .gd c (frzA t cells v)
  | a => a
def frzL (t : Nat) (cells : List AV) : List AV → List AV
  | [] => []
  | a :: l => frzA t cells a :: frzL t cells l
end
theorem frzL_eq (t : Nat) (cells : List AV) (l : List AV) : frzL t cells l = l.map (frzA t cells) := by
  induction l with
  | nil => simp [frzL]
  | cons a l ih => simp [frzL, ih]
def frzE (t : Nat) (cells : List AV) : List (Nat × AV) → List (Nat × AV)
  | [] => []
  | (d, v) :: l => (d, frzA t cells v) :: frzE t cells l
def frzB (t : Nat) (cells : List AV) (k : Blk) : Blk := bif k.lst then k else { k with cells := frzL t cells k.cells }
def frzH (t : Nat) (cells : List AV) : List (Nat × Blk) → List (Nat × Blk)
  | [] => []
  | (t', k) :: l => bif Nat.beq t' t then frzH t cells l else (t', frzB t cells k) :: frzH t cells l
theorem look_frzE (t : Nat) (cells : List AV) (d : Nat) : ∀ l, look d (frzE t cells l) = (look d l).map (frzA t cells)
  | [] => rfl
  | (d', v) :: l => by
    by_cases h : d = d'
    · subst h; simp [frzE, look]
    · simp only [frzE, look, beq_ne h, cond_false]; exact look_frzE t cells d l
theorem look_frzH (t : Nat) (cells : List AV) (x : Nat) : ∀ l : List (Nat × Blk), look x (frzH t cells l) = if x = t then none else (look x l).map (frzB t cells)
  | [] => by simp [frzH, look]
  | (t', k) :: l => by
    have ih := look_frzH t cells x l
    by_cases h1 : t' = t
    · subst h1
      simp only [frzH, Nat.beq_refl, cond_true, ih]
      by_cases h : x = t'
      · rw [if_pos h, if_pos h]
      · rw [if_neg h, if_neg h, look_cons_ne h]
    · simp only [frzH, beq_ne h1, cond_false]
      by_cases h : x = t'
      · subst h; rw [if_neg h1]; simp [look]
      · rw [look_cons_ne h, look_cons_ne h, ih]

theorem frzA_VR {w : World} {Z Z' : Zone} {ι : Tags} {t : Nat} {cells : List AV} (hZ : ∀ β b, Z β b → Z' β b)
    (hc : ∀ b, ι t = some b → Z' false b ∧ ∃ vs : Nat → Value, (∀ i, i < cells.length → w.cell? ⟨b, i, none⟩ = some (vs i)) ∧ ∀ i (hi : i < cells.length), VR w (fun _ => Z' false) (fun _ => none) (cells[i]'hi) (vs i)) {v : AV} :
    ∀ {u : Value}, VR w Z ι v u → VR w Z' ι (frzA t cells v) u := by
  induction v using AV.rec (motive_2 := fun l => ∀ (us : List Value), (∀ i (hi : i < l.length), ∃ u, us[i]? = some u ∧ VR w Z ι (l[i]'hi) u) →
      ∀ i (hi : i < l.length), ∃ u, us[i]? = some u ∧ VR w Z' ι (frzA t cells (l[i]'hi)) u) with
  | sc => intro u h; exact h.mono (fun _ _ h => h) _ _ hZ (fun _ _ _ _ _ h => h) (fun _ _ _ h => h)
  | rd => intro u h; exact h.mono (fun _ _ h => h) _ _ hZ (fun _ _ _ _ _ h => h) (fun _ _ _ h => h)
  | rdx => intro u h; exact h.mono (fun _ _ h => h) _ _ hZ (fun _ _ _ _ _ h => h) (fun _ _ _ h => h)
  | rptr => intro u h; exact h.mono (fun _ _ h => h) _ _ hZ (fun _ _ _ _ _ h => h) (fun _ _ _ h => h)
  | any => intro u _; exact .any _ _ _
  | own t' sz off n =>
    intro u h
    by_cases e : t' = t
    · subst e
      simp only [frzA, Nat.beq_refl, cond_true]
      rcases own_inv h with ⟨rfl, hu⟩ | ⟨b, cap, q, hu, hb, hn, hcp, _⟩
      · simp only [Nat.zero_mul, List.take_zero]
        rcases hu with rfl | ⟨b, o, rfl⟩
        · exact .rdnil _ _ _ _
        · exact .rd _ _ _ _ _ _ _ _ (fun _ => undef) (fun h => absurd rfl h) (Nat.le_refl _) (by simp [maxLen]) (fun i hi => absurd hi (by simp)) (fun i hi => absurd hi (by simp))
      · obtain ⟨hz, vs, h1, h2⟩ := hc b hb
        rw [hu]
        have key : ∀ i, i < ((cells.drop off).take (n * sz)).length → ∃ h' : off + i < cells.length, ((cells.drop off).take (n * sz))[i]? = some cells[off + i] := fun i hi => by
          have h' : off + i < cells.length := by simp at hi; omega
          exact ⟨h', by rw [List.getElem?_take, if_pos (by simp at hi; omega), List.getElem?_drop, List.getElem?_eq_getElem h']⟩
        refine .rd _ _ _ _ _ b off cap (fun i => vs (off + i)) (fun _ => hz) hn hcp (fun i hi => ?_) (fun i hi => ?_)
        · obtain ⟨h', _⟩ := key i hi; exact h1 _ h'
        · obtain ⟨h', e⟩ := key i hi
          rw [List.getElem?_eq_getElem hi] at e
          rw [Option.some.inj e]; exact h2 _ h'
    · simp only [frzA, beq_ne e, cond_false]; exact h.mono (fun _ _ h => h) _ _ hZ (fun _ _ _ _ _ h => h) (fun _ _ _ h => h)
  | ptr t' off =>
    intro u h
    by_cases e : t' = t
    · subst e
      simp only [frzA, Nat.beq_refl, cond_true]
      obtain ⟨b, hu, hb⟩ := ptr_inv h
      obtain ⟨hz, vs, h1, h2⟩ := hc b hb
      rw [hu]
      refine .rptr _ _ _ _ b off (fun i => vs (off + i)) (fun _ => hz) (fun i hi => h1 _ (by simp at hi; omega)) (fun i hi => ?_)
      have := h2 (off + i) (by simp at hi; omega)
      simpa using this
    · simp only [frzA, beq_ne e, cond_false]; exact h.mono (fun _ _ h => h) _ _ hZ (fun _ _ _ _ _ h => h) (fun _ _ _ h => h)
  | agg cs ih =>
    intro u h
    cases h with
    | agg _ _ _ vs hl h =>
      have hl' : vs.length = (frzL t cells cs).length := by rw [hl, frzL_eq]; simp
      simp only [frzA]
      refine .agg _ _ _ _ hl' fun i hi => ?_
      have hi' : i < cs.length := by rw [frzL_eq] at hi; simpa using hi
      obtain ⟨y, hy, hv⟩ := ih vs (fun i hi => ⟨_, List.getElem?_eq_getElem (hl ▸ hi), h i hi⟩) i hi'
      rw [List.getElem?_eq_getElem (hl' ▸ hi)] at hy
      have e : (frzL t cells cs)[i]'hi = frzA t cells (cs[i]'hi') := by simp [frzL_eq]
      rw [e, Option.some.inj hy]; exact hv
  | tup cs ih =>
    intro u h
    cases h with
    | tup _ _ _ vs hl h =>
      have hl' : vs.length = (frzL t cells cs).length := by rw [hl, frzL_eq]; simp
      simp only [frzA]
      refine .tup _ _ _ _ hl' fun i hi => ?_
      have hi' : i < cs.length := by rw [frzL_eq] at hi; simpa using hi
      obtain ⟨y, hy, hv⟩ := ih vs (fun i hi => ⟨_, List.getElem?_eq_getElem (hl ▸ hi), h i hi⟩) i hi'
      rw [List.getElem?_eq_getElem (hl' ▸ hi)] at hy
      have e : (frzL t cells cs)[i]'hi = frzA t cells (cs[i]'hi') := by simp [frzL_eq]
      rw [e, Option.some.inj hy]; exact hv
  | clo f a b iha ihb =>
    intro u h
    cases h with
    | clo _ _ _ _ _ us vs hu hl h1 h2 =>
      have hu' : us.length = (frzL t cells a).length := by rw [hu, frzL_eq]; simp
      have hl' : vs.length = (frzL t cells b).length := by rw [hl, frzL_eq]; simp
      simp only [frzA]
      refine .clo _ _ _ _ _ _ _ hu' hl' (fun i hi => ?_) (fun i hi => ?_)
      · have hi' : i < a.length := by rw [frzL_eq] at hi; simpa using hi
        obtain ⟨y, hy, hv⟩ := iha us (fun i hi => ⟨_, List.getElem?_eq_getElem (hu ▸ hi), h1 i hi⟩) i hi'
        rw [List.getElem?_eq_getElem (hu' ▸ hi)] at hy
        have e : (frzL t cells a)[i]'hi = frzA t cells (a[i]'hi') := by simp [frzL_eq]
        rw [e, Option.some.inj hy]; exact hv
      · have hi' : i < b.length := by rw [frzL_eq] at hi; simpa using hi
        obtain ⟨y, hy, hv⟩ := ihb vs (fun i hi => ⟨_, List.getElem?_eq_getElem (hl ▸ hi), h2 i hi⟩) i hi'
        rw [List.getElem?_eq_getElem (hl' ▸ hi)] at hy
        have e : (frzL t cells b)[i]'hi = frzA t cells (b[i]'hi') := by simp [frzL_eq]
        rw [e, Option.some.inj hy]; exact hv
  | gd c v ih => intro u h; cases h with | gd _ _ _ _ _ h hu => exact .gd _ _ _ _ _ (fun hc => ih (h hc)) hu
  | nil => rename_i us h i hi; exact absurd hi (by simp)
  | cons a l iha ihl =>
    rename_i us h i hi
    cases i with
    | zero =>
      obtain ⟨u, hu, hv⟩ := h 0 (by simp)
      exact ⟨u, hu, iha hv⟩
    | succ i =>
      cases us with
      | nil => obtain ⟨u, hu, _⟩ := h 0 (by simp); simp at hu
      | cons u0 us =>
        obtain ⟨u, hu, hv⟩ := ihl us (fun j hj => by
          obtain ⟨u, hu, hv⟩ := h (j + 1) (by simp; omega)
          exact ⟨u, by simpa using hu, by simpa using hv⟩) i (by simp at hi; omega)
        exact ⟨u, by simpa using hu, by simpa using hv⟩

/-- a row is read alone from here on -/
theorem VC.freeze {C : Ctx} {s : St} {t : Nat} {E : TypeId} {cells : List AV} (hk : look t s.heap = some ⟨E, true, cells⟩) : VC C s ⟨frzE t cells s.env, frzH t cells s.heap⟩ := by
  intro ι a w r
  have hhas : ∀ x, has x (frzH t cells s.heap) → x ≠ t ∧ has x s.heap := by
    rintro x ⟨k, hk'⟩
    rw [look_frzH] at hk'
    split at hk'
    · cases hk'
    · rename_i hne
      cases hq : look x s.heap with
      | none => rw [hq] at hk'; cases hk'
      | some q => exact ⟨hne, q, hq⟩
  have hZ : ∀ β b, zone C s.heap ι w β b → zone C (frzH t cells s.heap) ι w β b := fun β b h => ⟨h.1, fun x hx => h.2.1 x (hhas x hx).2, h.2.2⟩
  have hc : ∀ b, ι t = some b → zone C (frzH t cells s.heap) ι w false b ∧ ∃ vs : Nat → Value, (∀ i, i < cells.length → w.cell? ⟨b, i, none⟩ = some (vs i)) ∧
      ∀ i (hi : i < cells.length), VR w (fun _ => zone C (frzH t cells s.heap) ι w false) (fun _ => none) (cells[i]'hi) (vs i) := by
    intro b hb
    obtain ⟨cur, h1, h2, h3⟩ := blk_inv r.core hk hb
    simp only [cond_true] at h1 h2 h3
    refine ⟨⟨(Array.getElem?_eq_some_iff.1 h1).1, fun x hx e => ?_, ?_⟩, fun i => cur.getD i undef, fun i hi => ?_, fun i hi => ?_⟩
    · exact (hhas x hx).1 (r.core.inj x t b (hhas x hx).2 ⟨_, hk⟩ e hb)
    · rcases r.core.own t b ⟨_, hk⟩ hb with h | h
      · exact .inr (.inr (.inl h))
      · exact .inr (.inr (.inr h))
    · rw [cell_of_row w b i cur E (0, 0) h1]
      have : i < cur.size := by omega
      simp [Array.getD_eq_getD_getElem?, this]
    · obtain ⟨u, hu, hv⟩ := h3 i hi
      have : cur.getD i undef = u := by simp [Array.getD_eq_getD_getElem?, hu]
      show VR w _ _ cells[i] (cur.getD i undef)
      rw [this]
      exact hv.mono (fun _ _ h => h) _ _ (fun _ b hb => hZ _ _ hb) (fun _ _ _ _ _ h => h) (fun _ _ _ h => h)
  refine ⟨ι, r.size, r.dfr, fun d v hl => ?_, ⟨fun x k hl => ?_, fun x y b h1 h2 => r.core.inj x y b (hhas x h1).2 (hhas y h2).2, fun x b h => r.core.own x b (hhas x h).2, r.core.tr⟩, r.stab⟩
  · rw [look_frzE] at hl
    cases hq : look d s.env with
    | none => rw [hq] at hl; cases hl
    | some q =>
      rw [hq] at hl
      simp only [Option.map_some, Option.some.injEq] at hl
      subst hl
      exact frzA_VR hZ hc (r.env d q hq)
  · rw [look_frzH] at hl
    split at hl
    · cases hl
    · rename_i hne
      cases hq : look x s.heap with
      | none => rw [hq] at hl; cases hl
      | some q =>
        rw [hq] at hl
        simp only [Option.map_some, Option.some.injEq] at hl
        subst hl
        have h0 := r.core.blk x q hq
        unfold BlkR at h0 ⊢
        obtain ⟨qt, ql, qc⟩ := q
        cases hx : ι x with
        | none =>
          simp only [hx] at h0 ⊢
          obtain ⟨h1, h2⟩ := h0
          subst h2
          exact ⟨h1, rfl⟩
        | some b =>
          simp only [hx] at h0 ⊢
          obtain ⟨cur, h1, h2, h3⟩ := h0
          cases ql with
          | true =>
            refine ⟨cur, h1, h2, fun i hi => ?_⟩
            obtain ⟨y, hy, hv⟩ := h3 i hi
            exact ⟨y, hy, hv.mono (fun _ _ h => h) _ _ (fun _ b hb => hZ _ _ hb) (fun _ _ _ _ _ h => h) (fun _ _ _ h => h)⟩
          | false =>
            have hlen : (frzB t cells ⟨qt, false, qc⟩).cells.length = qc.length := by simp [frzB, frzL_eq]
            refine ⟨cur, h1, by rw [hlen]; exact h2, fun i hi => ?_⟩
            have hi' : i < qc.length := by rw [hlen] at hi; exact hi
            obtain ⟨y, hy, hv⟩ := h3 i hi'
            refine ⟨y, hy, ?_⟩
            have e1 : (frzB t cells ⟨qt, false, qc⟩).cells[i]'hi = frzA t cells (qc[i]'hi') := by simp [frzB, frzL_eq]
            rw [e1]
            exact frzA_VR hZ hc hv

/-- one slot for another form of the same value -/
theorem VC.slot {C : Ctx} {s : St} {d : Nat} {v v' : AV} (hd : look d s.env = some v) (h : ∀ w Z ι u, VR w Z ι v u → VR w Z ι v' u) : VC C s ⟨(d, v') :: s.env, s.heap⟩ := by
  intro ι a w r
  refine ⟨ι, r.size, r.dfr, fun d' x hl => ?_, r.core, r.stab⟩
  by_cases e : d' = d
  · subst e; rw [look_cons_self] at hl; cases hl; exact h _ _ _ _ (r.env d' v hd)
  · rw [look_cons_ne e] at hl; exact r.env d' x hl
theorem nil_own {w : World} {Z : Zone} {ι : Tags} {t sz : Nat} {u : Value} (h : VR w Z ι (.sc (.slice none 0 0)) u) : VR w Z ι (.own t sz 0 0) u := by
  rw [sc_inv h]; exact .ownnil _ _ _ _ _
theorem rdx_rd {w : World} {Z : Zone} {ι : Tags} {β : Bool} {n : Nat} {cs : List AV} {u : Value} (h : VR w Z ι (.rdx β n cs) u) : VR w Z ι (.rd β n cs) u := by
  cases h with
  | rdx _ _ _ _ _ b off vs hz hc hv h => exact .rd _ _ _ _ _ _ _ _ _ hz (Nat.le_refl _) hc hv h
  | rdxnil => exact .rdnil _ _ _ _
theorem nil_rd {w : World} {Z : Zone} {ι : Tags} {β : Bool} {u : Value} (h : VR w Z ι (.sc (.slice none 0 0)) u) : VR w Z ι (.rd β 0 []) u := by
  rw [sc_inv h]; exact .rdnil _ _ _ _

/-- A result's place. -/
def resVar (a : Act) : ResultVar → Sem Value
  | .tmp t => pure (a.tmps.getD t undef)
  | .cell b t => do loadVar t (← asAddr (a.tmps.getD b undef))
theorem results_eq (fn : Func) (a : Act) : results fn a.tmps = (do
    let vs ← fn.results.mapM (resVar a)
    pure (if h : vs.size = 1 then vs[0] else .tuple vs)) := by
  unfold results
  congr 1
def RV (C : Ctx) (s : St) (x : ResultVar) (v : AV) : Prop := ∀ ι a w, Rel C s ι a w → ∃ u, (resVar a x).run C.P w = .ok u w ∧ VR w (zone C s.heap ι w) ι v u
theorem RV.tmp {C : Ctx} {s : St} {t : Nat} {v : AV} (h : look t s.env = some v) : RV C s (.tmp t) v := fun _ _ _ r => ⟨_, rfl, r.env t v h⟩
theorem RV.cell {C : Ctx} {s : St} {x T t off n : Nat} {k : Blk} {cells out : List AV} (hx : look x s.env = some (.ptr t off)) (hT : aggT C.P T n) (hk : look t s.heap = some k)
    (hc : (k.cells.drop off).take n = cells) (hn : cells.length = n) (ho : out = cells.map k.out) : RV C s (.cell x T) (.agg out) := fun ι a w r => by
  subst ho
  obtain ⟨b, hu, ht⟩ := ptr_inv (r.env x _ hx)
  obtain ⟨cur, hb, hl, h⟩ := blk_inv r.core hk ht
  have hlen : off + n ≤ k.cells.length ∨ n = 0 := by
    rw [← hc] at hn
    simp at hn
    omega
  have hcell : ∀ j, j < n → w.cell? ((⟨b, off, none⟩ : Addr).add j) = some ((cur.toList.drop off).getD j undef) := by
    intro j hj
    rw [Addr.add_plain, cell_of_row w b (off + j) cur k.ty (0, 0) hb]
    have : off + j < cur.size := by omega
    rw [Array.getElem?_eq_getElem this]
    simp [List.getD_eq_getElem?_getD, this]
  have hrun := run_loadCells (P := C.P) w ⟨b, off, none⟩ n _ hcell
  refine ⟨.agg ((List.range n).map fun j => (cur.toList.drop off).getD j undef).toArray, ?_, .agg _ _ _ _ (by simp [hn]) fun i hi => ?_⟩
  · simp [resVar, hu, asAddr, loadVar, hT.run, hT.1.run, hrun]
  · have hi' : i < cells.length := by simpa using hi
    have hi2 : off + i < k.cells.length := by omega
    obtain ⟨u, hu', hvr⟩ := h (off + i) hi2
    have e : cells[i] = k.cells[off + i] := by
      have : cells[i]? = k.cells[off + i]? := by rw [← hc, List.getElem?_take, if_pos (by omega), List.getElem?_drop]
      rw [List.getElem?_eq_getElem hi', List.getElem?_eq_getElem hi2] at this
      exact Option.some.inj this
    have hlt : off + i < cur.size := by omega
    have e2 : (cur.toList.drop off).getD i undef = u := by
      rw [Array.getElem?_eq_getElem hlt] at hu'
      simp [List.getD_eq_getElem?_getD, hlt]
      exact Option.some.inj hu'
    simp only [List.getElem_map, List.getElem_range, e2, e]
    exact out_VR hvr

inductive RVL (C : Ctx) (s : St) : List ResultVar → List AV → Prop
  | nil : RVL C s [] []
  | cons {x : ResultVar} {v : AV} {xs : List ResultVar} {vs : List AV} (h : RV C s x v) (t : RVL C s xs vs) : RVL C s (x :: xs) (v :: vs)

theorem RVL.run {C : Ctx} {s : St} {ι : Tags} {a : Act} {w : World} (r : Rel C s ι a w) {xs : List ResultVar} {vs : List AV} (h : RVL C s xs vs) :
    ∃ us : List Value, (xs.mapM (resVar a)).run C.P w = .ok us w ∧ us.length = vs.length ∧
      ∀ i (hi : i < vs.length), ∃ u, us[i]? = some u ∧ VR w (zone C s.heap ι w) ι (vs[i]'hi) u := by
  induction h with
  | nil => exact ⟨[], by simp, rfl, fun i hi => absurd hi (by simp)⟩
  | cons h t ih =>
    obtain ⟨us, h1, h2, h3⟩ := ih
    obtain ⟨u, hu, hv⟩ := h ι a w r
    refine ⟨u :: us, ?_, by simp [h2], fun i hi => ?_⟩
    · rw [List.mapM_cons]
      simp only [Sem.run_bind, hu, Result.andThen_ok, h1, Sem.run_pure]
    · cases i with
      | zero => exact ⟨u, rfl, hv⟩
      | succ i =>
        obtain ⟨y, hy, hvr⟩ := h3 i (by simpa using hi)
        exact ⟨y, by simpa using hy, by simpa using hvr⟩

/-- one result, or several -/
def tupR : List AV → AV
  | [v] => v
  | vs => .tup vs
theorem Res.of {C : Ctx} {fn : Func} {s : St} {vs : List AV} {r : AV} {xs : List ResultVar} (hfn : fn.results = xs.toArray) (h : RVL C s xs vs) (hd : C.dfr = [])
    (hr : r = tupR vs) : Res C fn s r s.heap := fun ι a w rel => by
  obtain ⟨us, h1, h2, h3⟩ := h.run rel
  have hmap : (fn.results.mapM (resVar a)).run C.P w = .ok us.toArray w := by
    rw [hfn, List.mapM_toArray]
    simp only [Sem.run_map, h1, Result.andThen_ok]
  have hres : (results fn a.tmps).run C.P w = .ok (if h : us.toArray.size = 1 then us.toArray[0] else .tuple us.toArray) w := by
    rw [results_eq]
    simp only [Sem.run_bind, hmap, Result.andThen_ok, Sem.run_pure]
  refine ⟨_, ι, hres, by rw [rel.dfr, hd], rel.core, ?_, rel.stab⟩
  subst hr
  clear h hmap hres h1
  match vs, us, h2, h3 with
  | [], [], _, _ => exact .tup _ _ [] [] rfl (fun i hi => absurd hi (by simp))
  | [v], [u], _, h3 =>
    obtain ⟨y, hy, hv⟩ := h3 0 (by simp)
    simp at hy
    subst hy
    simpa [tupR] using hv
  | v1 :: v2 :: vs, u1 :: u2 :: us, h2, h3 =>
    have : ¬ ((u1 :: u2 :: us).toArray.size = 1) := by simp
    rw [dif_neg this]
    refine .tup _ _ _ (u1 :: u2 :: us) h2 fun i hi => ?_
    obtain ⟨y, hy, hv⟩ := h3 i hi
    rw [List.getElem?_eq_getElem (h2 ▸ hi)] at hy
    rw [Option.some.inj hy]; exact hv
theorem Res.vc {C : Ctx} {fn : Func} {s s' : St} {r : AV} {H : List (Nat × Blk)} (h : VC C s s') (k : Res C fn s' r H) : Res C fn s r H := fun ι a w rel =>
  let ⟨ι', rel'⟩ := h ι a w rel; k ι' a w rel'
end Go.AB

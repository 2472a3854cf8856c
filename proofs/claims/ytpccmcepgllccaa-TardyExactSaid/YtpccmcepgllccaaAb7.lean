/-
  AB, part 7: append, make, a slice written out; one state for another.
-/
import Derived.Test.YtpccmcepgllccaaAb6
namespace Go.AB
open Go

/-- A weaker state: entries kept or forgotten, the tags the same. -/
theorem Rel.weak {C : Ctx} {s s' : St} {ι : Tags} {a : Act} {w : World} (r : Rel C s ι a w) (hhas : ∀ t, has t s'.heap ↔ has t s.heap)
    (henv : ∀ d v, look d s'.env = some v → v = .any ∨ look d s.env = some v)
    (hheap : ∀ t k', look t s'.heap = some k' → ∃ k, look t s.heap = some k ∧ k'.ty = k.ty ∧ k'.lst = k.lst ∧ (k'.cells = k.cells ∨ (k.lst = false ∧ k'.cells.length = k.cells.length ∧ ∀ i (h : i < k'.cells.length), k'.cells[i] = .any ∨ k.cells[i]? = some k'.cells[i]))) :
    Rel C s' ι a w := by
  have hZ : zone C s'.heap ι w = zone C s.heap ι w := by
    funext β b
    simp only [zone, hhas]
  refine ⟨r.size, r.dfr, ?_, ⟨?_, ?_, ?_, r.core.tr⟩, r.stab⟩
  · intro d v hl
    rcases henv d v hl with rfl | h
    · exact .any _ _ _
    · rw [hZ]; exact r.env d v h
  · intro t k' hl
    obtain ⟨k, hk, h1, h2, h3⟩ := hheap t k' hl
    have h0 := r.core.blk t k hk
    unfold BlkR at h0 ⊢
    rw [hZ]
    cases hx : ι t with
    | none =>
      simp only [hx] at h0 ⊢
      refine ⟨?_, by rw [h2]; exact h0.2⟩
      rcases h3 with h3 | ⟨h3, _⟩
      · rw [h3]; exact h0.1
      · rw [h0.2] at h3; cases h3
    | some b =>
      simp only [hx] at h0 ⊢
      obtain ⟨cur, g1, g2, g3⟩ := h0
      refine ⟨cur, by rw [h1]; exact g1, ?_, ?_⟩
      · rcases h3 with h3 | ⟨_, h3, _⟩ <;> rw [h3] <;> exact g2
      · intro i hi
        rw [h2]
        rcases h3 with h3 | ⟨q0, q1, q2⟩
        · have hi' : i < k.cells.length := by rw [← h3]; exact hi
          obtain ⟨u, hu, hv⟩ := g3 i hi'
          refine ⟨u, hu, ?_⟩
          have : k'.cells[i] = k.cells[i] := by simp [h3]
          rw [this]; exact hv
        · have hi' : i < k.cells.length := by rw [← q1]; exact hi
          obtain ⟨u, hu, hv⟩ := g3 i hi'
          refine ⟨u, hu, ?_⟩
          rcases q2 i hi with h | h
          · rw [h]; exact .any _ _ _
          · rw [List.getElem?_eq_getElem hi'] at h
            rw [← Option.some.inj h]; exact hv
  · intro t t' b h1 h2
    exact r.core.inj t t' b ((hhas t).1 h1) ((hhas t').1 h2)
  · intro t b h1
    exact r.core.own t b ((hhas t).1 h1)

/-- What spoke of t is forgotten, t's block itself kept (in front). -/
theorem Rel.purge {C : Ctx} {s : St} {ι : Tags} {a : Act} {w : World} (r : Rel C s ι a w) {t : Nat} {k : Blk} (hk : look t s.heap = some k) {E : List (Nat × AV)}
    (hE : ∀ d v, look d E = some v → v = .any ∨ look d s.env = some v) : Rel C ⟨E, (t, k) :: purgeH t s.heap⟩ ι a w := by
  refine r.weak ?_ hE ?_
  · intro t'
    by_cases e : t' = t
    · subst e; exact ⟨fun _ => ⟨k, hk⟩, fun _ => ⟨k, look_cons_self _ _ _⟩⟩
    · have : has t' ((t, k) :: purgeH t s.heap) ↔ has t' (purgeH t s.heap) := by unfold has; rw [look_cons_ne e]
      rw [this, has_purgeH]; exact ⟨fun h => h.2, fun h => ⟨e, h⟩⟩
  · intro t' k' hl
    by_cases e : t' = t
    · subst e; rw [look_cons_self] at hl; cases hl; exact ⟨k, hk, rfl, rfl, .inl rfl⟩
    · rw [look_cons_ne e, look_purgeH_ne e] at hl
      cases hq : look t' s.heap with
      | none => rw [hq] at hl; cases hl
      | some q =>
        rw [hq] at hl
        simp only [Option.map_some, Option.some.injEq] at hl
        subst hl
        refine ⟨q, rfl, ?_, ?_, ?_⟩
        · unfold purgeB; cases q.lst <;> rfl
        · unfold purgeB; cases h : q.lst <;> simp [h]
        · obtain ⟨qt, ql, qc⟩ := q
          cases ql with
          | true => exact .inl rfl
          | false =>
            refine .inr ⟨rfl, by simp [purgeB], fun i hi => ?_⟩
            have hi' : i < qc.length := by simpa [purgeB] using hi
            have e1 : (purgeB t ⟨qt, false, qc⟩).cells[i]'hi = purgeA t (qc[i]'hi') := by simp [purgeB]
            rw [e1]
            unfold purgeA
            cases AV.free t qc[i] with
            | true => exact .inr (by simp [hi'])
            | false => exact .inl rfl

theorem purgeE_weak {s : St} {t : Nat} : ∀ d v, look d (purgeE t s.env) = some v → v = .any ∨ look d s.env = some v := by
  intro d v h
  rw [look_purgeE] at h
  cases hq : look d s.env with
  | none => rw [hq] at h; cases h
  | some q =>
    rw [hq] at h
    simp only [Option.map_some, Option.some.injEq] at h
    unfold purgeA at h
    cases hf : AV.free t q with
    | true => rw [hf] at h; right; simpa using h
    | false => rw [hf] at h; left; simpa using h.symm
theorem Rel.env' {C : Ctx} {s : St} {ι : Tags} {a : Act} {w : World} (r : Rel C s ι a w) {d : Nat} {v : AV} {u : Value} {E : List (Nat × AV)} (hd : d < C.N)
    (h : VR w (zone C s.heap ι w) ι v u) (hE : ∀ d' v', look d' E = some v' → v' = .any ∨ look d' s.env = some v') : Rel C ⟨(d, v) :: E, s.heap⟩ ι (a.put (some d) u) w := by
  refine (r.put hd h).weak (fun t => Iff.rfl) ?_ (fun t k hk => ⟨k, hk, rfl, rfl, .inl rfl⟩)
  intro d' v' hl
  by_cases e : d' = d
  · subst e; rw [look_cons_self] at hl; right; simp [St.put, look_cons_self, hl]
  · rw [look_cons_ne e] at hl
    rcases hE d' v' hl with h | h
    · exact .inl h
    · right; simp [St.put, look_cons_ne e, h]

/-- An element's type: its zero, its cells, its bytes. -/
def elT (P : Program) (E : TypeId) (sz by_ : Nat) : Prop := ∃ i z, P.info? E = some i ∧ i.zero = some z ∧ i.size = sz ∧ i.bytes = by_ ∧ z.cells.size = sz
theorem elT.mk {P : Program} {E : TypeId} {sz by_ : Nat} (h : (P.info? E).map (fun i => (i.zero.map (·.cells.size), i.size, i.bytes)) = some (some sz, sz, by_)) : elT P E sz by_ := by
  cases hi : P.info? E with
  | none => rw [hi] at h; cases h
  | some i =>
    rw [hi] at h
    simp only [Option.map_some, Option.some.injEq, Prod.mk.injEq] at h
    cases hz : i.zero with
    | none => rw [hz] at h; cases h.1
    | some v => rw [hz] at h; exact ⟨i, v, hi, hz, h.2.1, h.2.2, by simpa using h.1⟩

section
variable {C : Ctx} {d : Nat} {ty : TypeId} {p : String} {e : Array Edge} {g : Option (Nat × Bool)} {s : St}

/-- A row of values that stand for a row of cells. -/
theorem row_of {w : World} {Z : Zone} {ι : Tags} {xs ys : List AV} {us vs : List Value} (hl : xs.length = us.length)
    (hx : ∀ i (hi : i < xs.length), ∃ u, us[i]? = some u ∧ VR w Z ι (xs[i]'hi) u) (hy : ∀ i (hi : i < ys.length), ∃ u, vs[i]? = some u ∧ VR w Z ι (ys[i]'hi) u) :
    ∀ i (hi : i < (xs ++ ys).length), ∃ u, (us ++ vs)[i]? = some u ∧ VR w Z ι ((xs ++ ys)[i]'hi) u := by
  intro i hi
  by_cases h : i < xs.length
  · obtain ⟨u, hu, hv⟩ := hx i h
    refine ⟨u, by rw [List.getElem?_append_left (by omega)]; exact hu, ?_⟩
    rw [List.getElem_append_left h]; exact hv
  · have h' : i - xs.length < ys.length := by rw [List.length_append] at hi; omega
    obtain ⟨u, hu, hv⟩ := hy (i - xs.length) h'
    refine ⟨u, by rw [List.getElem?_append_right (by omega), ← hl]; exact hu, ?_⟩
    rw [List.getElem_append_right (by omega)]; exact hv


/-- A new row of still values: what is known of them in the world ahead serves. -/
theorem Rel.newL {ι : Tags} {a : Act} {w w' : World} (r : Rel C s ι a w) {t : Nat} {E : TypeId} {cur : Array Value} {cells : List AV} {v : AV} {u : Value} (hd : d < C.N) (hK : t ∉ C.K)
    (hheap : w'.heap = w.heap.push (.cells cur E (0, 0))) (hos : w'.os = w.os) (htape : w'.tape = w.tape) (hout : w'.output = w.output) (hlen : cells.length ≤ cur.size)
    (hc : ∀ i (hi : i < cells.length), ∃ u, cur[i]? = some u ∧ VR w (fun _ => zone C s.heap ι w false) (fun _ => none) (cells[i]'hi) u)
    (hv : bsz w' w.heap.size = some cur.size → VR w' (fun _ _ => False) (setT ι t w.heap.size) v u) : Rel C (s.newP d t ⟨E, true, cells⟩ v) (setT ι t w.heap.size) (a.put (some d) u) w' := by
  have hold : ∀ b, b < w.heap.size → w'.heap[b]? = w.heap[b]? := fun b hb => by rw [hheap, Array.getElem?_push, if_neg (by omega)]
  have hnew : w'.heap[w.heap.size]? = some (.cells cur E (0, 0)) := by rw [hheap]; simp
  have hsz : ∀ b q, bsz w b = some q → bsz w' b = some q := by
    intro b q hb
    have hb1 : b < w.heap.size := by
      rcases Nat.lt_or_ge b w.heap.size with h | h
      · exact h
      · simp [bsz, Array.getElem?_eq_none h] at hb
    simp only [bsz, hold b hb1]; exact hb
  refine r.new hd hK hos htape hout (by rw [hheap]; simp) hold (Nat.le_refl _) (fun Z' hZ' => ?_) (fun Z' hZ' => ?_)
  · simp only [BlkR, setT, if_true]
    refine ⟨cur, hnew, hlen, fun i hi => ?_⟩
    obtain ⟨u, hu, hvr⟩ := hc i hi
    refine ⟨u, hu, ?_⟩
    simp only [cond_true]
    refine hvr.mono hsz _ _ (fun _ b hb => hZ' false b hb) (fun _ b o y hb hy => ?_) (fun _ _ _ h => h)
    rw [World.cell?_of_block (a := ⟨b, o, none⟩) (hold b hb.1)]; exact hy
  · exact (hv (by simp [bsz, hnew])).mono (fun _ _ h => h) _ _ (fun _ _ h => h.elim) (fun _ _ _ _ h => h.elim) (fun _ _ _ h => h)

theorem AStep.append {x y : Operand} {T U E : TypeId} {t sz by_ n m : Nat} {cells ys : List AV} (hd : d < C.N) (hK : t ∉ C.K) (hx : Ev C s x (.own t sz 0 n)) (hy : Src C s y sz m ys)
    (hT : C.P.underlying T = some (.slice E)) (hU : ∃ D, C.P.underlying U = some D ∧ ∀ k, D ≠ .int k) (hE : elT C.P E sz by_) (hk : look t s.heap = some ⟨E, true, cells⟩)
    (hl : cells.length = n * sz) (h63 : n + m ≤ maxLen) (hbytes : (n + m) * by_ ≤ 140737488355328) :
    AStep C ⟨some d, .call { callee := .builtin .append, args := #[x, y], argTypes := #[T, U] }, ty, p, e, g⟩ s (s.newP d t ⟨E, true, cells ++ ys⟩ (.own t sz 0 (n + m))) :=
  .run (fun _ h => by cases h) fun ι a w r => by
    obtain ⟨i, z, hi, hz, hsz, hby, hzs⟩ := hE
    subst hsz hby
    obtain ⟨news, n1, n2, n3, n4, n5, n6⟩ := hy ι a w r
    have hexec : ∀ base c, a.eval x = .slice base n c → (execOp a.eval ⟨some d, .call { callee := .builtin .append, args := #[x, y], argTypes := #[T, U] }, ty, p, e, g⟩).run C.P w =
        ((Builtin.append_ #[T, U] ty #[.slice base n c, a.eval y]).run C.P w).andThen fun v w' => .ok (.value v) w' := by
      intro base c hu
      simp [execOp, resolve, invoke, builtin, hu]
    have hany := fun base c olds => run_append_any (ty := ty) hT hi hz hU base n c (a.eval y) m news olds n1 n2
    -- a new block: what was there, then what comes
    have grow : ∀ (base : Option Addr) (c : Nat) (olds : List Value), a.eval x = .slice base n c → c < n + m →
        (∀ w', w'.heap = w.heap → (Builtin.firstCells i.size n (.slice base n c)).run C.P w' = .ok olds.toArray w') → olds.length = n * i.size →
        (∀ j (hj : j < cells.length), ∃ u, olds[j]? = some u ∧ VR w (fun _ => zone C s.heap ι w false) (fun _ => none) (cells[j]'hj) u) →
        ∃ u w' ι', (execOp a.eval ⟨some d, .call { callee := .builtin .append, args := #[x, y], argTypes := #[T, U] }, ty, p, e, g⟩).run C.P w = .ok (.value u) w' ∧
          Rel C (s.newP d t ⟨E, true, cells ++ ys⟩ (.own t i.size 0 (n + m))) ι' (a.put (some d) u) w' := by
      intro base c olds hu hg hof hol hvr
      obtain ⟨c', hc1, hc2, hrun⟩ := (hany base c olds hof h63 hbytes).2 hg
      have hcs : (olds.toArray ++ news.toArray ++ Builtin.zeroCells z.cells (c' - (n + m))).size = c' * i.size := by
        have e1 : n * i.size + m * i.size + (c' - (n + m)) * i.size = c' * i.size := by rw [← Nat.add_mul, ← Nat.add_mul]; congr 1; omega
        simp [size_zeroCells, hzs, hol, n3, e1]
      refine ⟨_, _, setT ι t w.heap.size, by rw [hexec base c hu, hrun]; rfl, ?_⟩
      refine r.newL hd hK rfl rfl rfl rfl ?_ ?_ ?_
      · rw [hcs]
        have : (n + m) * i.size ≤ c' * i.size := Nat.mul_le_mul_right _ hc1
        rw [Nat.add_mul] at this
        simp [hl, n4]; omega
      · intro j hj
        obtain ⟨u, hu1, hu2⟩ := row_of (us := olds) (vs := news) (by rw [hl, hol]) hvr n6 j hj
        refine ⟨u, ?_, hu2⟩
        rw [← Array.getElem?_toList]
        simp only [Array.toList_append]
        rw [List.getElem?_append_left (by rw [List.length_append] at hj ⊢; simp [hol, n3]; omega)]
        exact hu1
      · intro hb
        exact .own _ _ _ _ _ _ w.heap.size c' _ (by simp [setT]) hc1 hc2 hb (by rw [hcs]; omega)
    rcases own_inv (hx ι a w r) with ⟨rfl, hu⟩ | ⟨b, cap, q, hu, ht, hn, hc, hs, ho⟩
    · have hcl : cells = [] := List.eq_nil_of_length_eq_zero (by simpa using hl)
      subst hcl
      by_cases hm : m = 0
      · subst hm
        have hyl : ys = [] := List.eq_nil_of_length_eq_zero (by simpa using n4)
        have hnl : news = [] := List.eq_nil_of_length_eq_zero (by simpa using n3)
        subst hyl hnl
        have fin : ∀ u, VR w (zone C s.heap ι w) ι (.own t i.size 0 0) u → Rel C (s.newP d t ⟨E, true, []⟩ (.own t i.size 0 0)) ι (a.put (some d) u) w := by
          intro u hvr
          have r1 := r.purge hk (purgeE_weak (s := s) (t := t))
          refine (r1.put hd ?_)
          refine hvr.mono (fun _ _ h => h) _ _ (fun β b hb => ⟨hb.1, fun t' ht' => hb.2.1 t' ?_, hb.2.2⟩) (fun _ _ _ _ _ h => h) (fun _ _ _ h => h)
          by_cases e : t' = t
          · subst e; exact ⟨_, hk⟩
          · obtain ⟨q, hq⟩ := ht'
            rw [look_cons_ne e] at hq
            exact (has_purgeH.1 ⟨q, hq⟩).2
        rcases hu with hu | ⟨b, o, hu⟩
        · have h := (hany none 0 [] (fun w' _ => by simp [Builtin.firstCells]) h63 hbytes).1 (by omega)
          exact ⟨_, w, ι, by rw [hexec none 0 hu, h]; rfl, fin _ (.ownnil _ _ _ _ _)⟩
        · have h := (hany (some ⟨b, o, none⟩) 0 [] (fun w' _ => firstCells_some (by simp) fun j hj => absurd hj (by simp)) h63 hbytes).1 (by omega)
          exact ⟨.slice (some ⟨b, o, none⟩) 0 0, w, ι, by rw [hexec _ 0 hu, h]; simp [storeCells], fin _ (.ownz _ _ _ _ _ _ _)⟩
      · rcases hu with hu | ⟨b, o, hu⟩
        · exact grow none 0 [] hu (by omega) (fun w' _ => by simp [Builtin.firstCells]) (by simp) (fun j hj => absurd hj (by simp))
        · exact grow _ 0 [] hu (by omega) (fun w' _ => firstCells_some (by simp) fun j hj => absurd hj (by simp)) (by simp) (fun j hj => absurd hj (by simp))
    · obtain ⟨cur, hb, hlc, hcv⟩ := blk_inv r.core hk ht
      simp only [cond_true] at hcv hlc hb
      have hq : q = cur.size := by simp only [bsz, hb] at hs; exact (Option.some.inj hs).symm
      subst hq
      by_cases hroom : n + m ≤ cap
      · have hfit : 0 + n * i.size + news.length ≤ cur.size := by
          have : (n + m) * i.size ≤ cap * i.size := Nat.mul_le_mul_right _ hroom
          rw [Nat.add_mul] at this
          omega
        have hstc := run_storeCells_at C.P b (n * i.size) E news 0 cur w hb (by omega) n5
        have h := (hany (some ⟨b, 0, none⟩) cap ((cur.toList.take (n * i.size))) (fun w' hw' => firstCells_some (by simp; omega) fun j hj => by
          rw [cell?_heap hw', cell_of_row w b (0 + j) cur E (0, 0) hb, List.getElem?_take, if_pos hj]; simp) h63 hbytes).1 hroom
        refine ⟨.slice (some ⟨b, 0, none⟩) (n + m) cap, w.setRow b (cur.toList.take (n * i.size + 0) ++ news ++ cur.toList.drop (n * i.size + 0 + news.length)).toArray, ι, ?_, ?_⟩
        · rw [hexec _ cap hu, h]
          simp only [Addr.add_plain, Nat.zero_add]
          rw [hstc]
          rfl
        · have hcs' : (cur.toList.take (n * i.size + 0) ++ news ++ cur.toList.drop (n * i.size + 0 + news.length)).toArray.size = cur.size := by
            simp; omega
          have hbig : (w.setRow b (cur.toList.take (n * i.size + 0) ++ news ++ cur.toList.drop (n * i.size + 0 + news.length)).toArray).heap[b]? = some (.cells (cur.toList.take (n * i.size + 0) ++ news ++ cur.toList.drop (n * i.size + 0 + news.length)).toArray E (0, 0)) :=
            setRow_heap w b cur _ E _ hb
          have hoth : ∀ j, j ≠ b → (w.setRow b (cur.toList.take (n * i.size + 0) ++ news ++ cur.toList.drop (n * i.size + 0 + news.length)).toArray).heap[j]? = w.heap[j]? := fun j hj => setRow_other w b j _ hj
          generalize hW : w.setRow b (cur.toList.take (n * i.size + 0) ++ news ++ cur.toList.drop (n * i.size + 0 + news.length)).toArray = W at hbig hoth ⊢
          have hsz : ∀ x q, bsz w x = some q → bsz W x = some q := by
            intro x q hx
            by_cases e : x = b
            · subst e
              simp only [bsz, hb] at hx
              simp only [bsz, hbig, hcs']
              exact hx
            · simp only [bsz, hoth x e]; exact hx
          have r1 := r.write (w' := W) hk ht (by rw [← hW]; rfl) (by rw [← hW]; rfl) (by rw [← hW]; rfl) (by rw [← hW]; simp) hoth (k' := ⟨E, true, cells ++ ys⟩) hb hbig hcs' (by rw [hcs']; simp [hl, n4]; omega) ?_
          · have hk' : look t (updH t ⟨E, true, cells ++ ys⟩ s.heap) = some ⟨E, true, cells ++ ys⟩ := look_updH_self _ _ ⟨_, hk⟩
            have r2 := r1.purge hk' (E := purgeE t s.env) purgeE_weak
            have r3 := r2.put hd (v := .own t i.size 0 (n + m)) (u := .slice (some ⟨b, 0, none⟩) (n + m) cap) (.own _ _ _ _ _ _ b cap cur.size ht hroom hc (hsz _ _ hs) ho)
            refine r3.weak (fun t' => ?_) (fun d' v' h => .inr h) (fun t' k' h => ?_)
            · simp only [St.newP, St.put]
              by_cases e : t' = t
              · subst e; exact ⟨fun _ => ⟨_, look_cons_self _ _ _⟩, fun _ => ⟨_, look_cons_self _ _ _⟩⟩
              · unfold has; rw [look_cons_ne e, look_cons_ne e, look_purgeH_ne e, look_purgeH_ne e, look_updH_ne e]
            · simp only [St.newP, St.put] at h ⊢
              refine ⟨k', ?_, rfl, rfl, .inl rfl⟩
              by_cases e : t' = t
              · subst e; rw [look_cons_self] at h ⊢; exact h
              · rw [look_cons_ne e, look_purgeH_ne e] at h ⊢; rw [look_updH_ne e]; exact h
          · simp only [cond_true]
            intro j hj
            obtain ⟨u, hu1, hu2⟩ := row_of (us := cur.toList.take (n * i.size)) (vs := news) (by simp [hl]; omega) (fun j hj => by
              obtain ⟨u, hu1, hu2⟩ := hcv j hj
              exact ⟨u, by rw [List.getElem?_take, if_pos (by omega)]; simpa using hu1, hu2⟩) n6 j hj
            refine ⟨u, ?_, ?_⟩
            · rw [← Array.getElem?_toList]
              simp only [Nat.add_zero]
              rw [List.getElem?_append_left (by simp at hj ⊢; omega)]
              exact hu1
            · refine hu2.mono hsz _ _ (fun _ _ h => h) (fun _ x o y hx hy => ?_) (fun _ _ _ h => h)
              have hne : x ≠ b := fun e => hx.2.1 t ⟨_, hk⟩ (by rw [ht, e])
              rw [World.cell?_of_block (a := ⟨x, o, none⟩) (hoth x hne)]; exact hy
      · refine grow (some ⟨b, 0, none⟩) cap (cur.toList.take (n * i.size)) hu (by omega) (fun w' hw' => firstCells_some (by simp; omega) fun j hj => by
          rw [cell?_heap hw', cell_of_row w b (0 + j) cur E (0, 0) hb, List.getElem?_take, if_pos hj]; simp) (by simp; omega) (fun j hj => ?_)
        obtain ⟨u, hu1, hu2⟩ := hcv j hj
        exact ⟨u, by rw [List.getElem?_take, if_pos (by omega)]; simpa using hu1, hu2⟩
end
end Go.AB

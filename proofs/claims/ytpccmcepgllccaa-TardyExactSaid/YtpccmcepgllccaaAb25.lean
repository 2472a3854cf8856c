/-
  AB, part 25: rows of which some cells ahead are forgotten (x = x[1:], and then an append): how many, the model does not say.
-/
import Derived.Test.YtpccmcepgllccaaAb24
namespace Go.AB
open Go

/-- a row of which less is known -/
theorem Rel.weakB {C : Ctx} {s : St} {ι : Tags} {a : Act} {w : World} (r : Rel C s ι a w) {t : Nat} {k : Blk} {cells : List AV} (hk : look t s.heap = some k) (hl : cells.length ≤ k.cells.length)
    (h : ∀ i (hi : i < cells.length), cells[i] = .any ∨ k.cells[i]? = some cells[i]) : Rel C ⟨s.env, updH t { k with cells := cells } s.heap⟩ ι a w := by
  have hhas : ∀ t', has t' (updH t { k with cells := cells } s.heap) ↔ has t' s.heap := fun t' => has_updH ⟨_, hk⟩
  have hZ : ∀ β b, zone C s.heap ι w β b → zone C (updH t { k with cells := cells } s.heap) ι w β b := fun β b h => ⟨h.1, fun t ht => h.2.1 t ((hhas t).1 ht), h.2.2⟩
  refine ⟨r.size, r.dfr, fun d v hl => ?_, ⟨fun t' k' hl' => ?_, fun t t' b h1 h2 => r.core.inj t t' b ((hhas t).1 h1) ((hhas t').1 h2), fun t b h => r.core.own t b ((hhas t).1 h), r.core.tr⟩, r.stab⟩
  · exact (r.env d v hl).mono (fun _ _ h => h) _ _ hZ (fun _ _ _ _ _ h => h) (fun _ _ _ h => h)
  · by_cases e : t' = t
    · subst e
      rw [look_updH_self _ _ ⟨_, hk⟩] at hl'
      cases hl'
      have h0 := r.core.blk t' k hk
      unfold BlkR at h0 ⊢
      cases hx : ι t' with
      | none =>
        simp only [hx] at h0 ⊢
        refine ⟨?_, h0.2⟩
        rw [h0.1] at hl
        exact List.eq_nil_of_length_eq_zero (by simpa using hl)
      | some b =>
        simp only [hx] at h0 ⊢
        obtain ⟨cur, q1, q2, q3⟩ := h0
        refine ⟨cur, q1, Nat.le_trans hl q2, fun i hi => ?_⟩
        obtain ⟨u, hu, hv⟩ := q3 i (by omega)
        refine ⟨u, hu, ?_⟩
        rcases h i hi with h1 | h1
        · rw [h1]; exact .any _ _ _
        · rw [List.getElem?_eq_getElem (by omega)] at h1
          rw [← Option.some.inj h1]
          refine hv.mono (fun _ _ h => h) _ _ ?_ (fun _ _ _ _ _ h => h) (fun _ _ _ h => h)
          obtain ⟨kt, kl, kc⟩ := k
          cases kl with
          | true => exact fun _ b hb => hZ false b hb
          | false => exact hZ
    · rw [look_updH_ne e] at hl'
      have h0 := r.core.blk t' k' hl'
      unfold BlkR at h0 ⊢
      cases hx : ι t' with
      | none => simp only [hx] at h0 ⊢; exact h0
      | some b =>
        simp only [hx] at h0 ⊢
        obtain ⟨cur, q1, q2, q3⟩ := h0
        refine ⟨cur, q1, q2, fun i hi => ?_⟩
        obtain ⟨u, hu, hv⟩ := q3 i hi
        refine ⟨u, hu, hv.mono (fun _ _ h => h) _ _ ?_ (fun _ _ _ _ _ h => h) (fun _ _ _ h => h)⟩
        cases k'.lst with
        | true => exact fun _ b hb => hZ _ _ hb
        | false => exact hZ
theorem VC.weakB {C : Ctx} {s : St} {t : Nat} {k : Blk} {cells : List AV} (hk : look t s.heap = some k) (hl : cells.length ≤ k.cells.length)
    (h : ∀ i (hi : i < cells.length), cells[i] = .any ∨ k.cells[i]? = some cells[i]) : VC C s ⟨s.env, updH t { k with cells := cells } s.heap⟩ := fun ι a w r => ⟨ι, r.weakB hk hl h⟩

/-- ONE OPERATION behind which a number is not known. -/
def AStepE (C : Ctx) (o : Oper) (s : St) (S : Nat → St) : Prop :=
  ∀ ι a w (K : Act → World → Prop) (Q : Exit → Act → World → Prop), Rel C s ι a w → (∀ q ι' a' w', Rel C (S q) ι' a' w' → K a' w') → o.wpIn (Fc C.r) 0 C.P a w K Q
def ARunE (C : Ctx) (A : Array Oper) (l : List Oper) (s : St) (S : Nat → St) : Prop :=
  ∀ ι a w (Q : Exit → Act → World → Prop), Rel C s ι a w → (∀ q ι' a' w', Rel C (S q) ι' a' w' → Q .normal a' w') → wpListIn (Fc C.r) 0 C.P A Q l a w
theorem ARunE.nil (C : Ctx) (A : Array Oper) (S : Nat → St) (q : Nat) : ARunE C A [] (S q) S := fun ι a w _ r h => h q ι a w r
theorem ARunE.nilV {C : Ctx} {A : Array Oper} {S : Nat → St} {s : St} (q : Nat) (v : VC C s (S q)) : ARunE C A [] s S := fun ι a w _ r h => let ⟨ι', r'⟩ := v ι a w r; h q ι' a w r'
theorem ARunE.vc {C : Ctx} {A : Array Oper} {l : List Oper} {s s1 : St} {S : Nat → St} (h : VC C s s1) (t : ARunE C A l s1 S) : ARunE C A l s S := fun ι a w Q r hq =>
  let ⟨ι', r'⟩ := h ι a w r; t ι' a w Q r' hq
theorem ARunE.cons {C : Ctx} {A : Array Oper} {d : Option Nat} {op : Op} {ty : TypeId} {p : String} {e : Array Edge} {l : List Oper} {s s1 : St} {S : Nat → St}
    (h : AStep C ⟨d, op, ty, p, e, none⟩ s s1) (t : ARunE C A l s1 S) : ARunE C A (⟨d, op, ty, p, e, none⟩ :: l) s S := fun ι a w Q r hq => by
  refine wpListIn_plain rfl fun K hK => h ι a w K Q r fun ι' a' w' r' => hK _ _ (t ι' a' w' Q r' hq)
theorem ARunE.consE {C : Ctx} {A : Array Oper} {d : Option Nat} {op : Op} {ty : TypeId} {p : String} {e : Array Edge} {l : List Oper} {s : St} {S1 S : Nat → St}
    (h : AStepE C ⟨d, op, ty, p, e, none⟩ s S1) (t : ∀ q, ARunE C A l (S1 q) S) : ARunE C A (⟨d, op, ty, p, e, none⟩ :: l) s S := fun ι a w Q r hq => by
  refine wpListIn_plain rfl fun K hK => h ι a w K Q r fun q ι' a' w' r' => hK _ _ (t q ι' a' w' Q r' hq)
theorem AWP.regionE {C : Ctx} {Q : Exit → St → Prop} {s : St} {S : Nat → St} {id : Nat} {l : List Oper} (h : ARunE C l.toArray l s S) (hq : ∀ q, Q .normal (S q)) : AWP C (.region id l.toArray false) Q s :=
  fun ι a w r => wpIn_region_lit (h ι a w _ r fun q ι' _ _ r' => ⟨S q, ι', r', hq q⟩)

theorem AStepE.run {C : Ctx} {o : Oper} {s : St} {S : Nat → St} (ho : ∀ c, o.op ≠ .defer c)
    (h : ∀ ι a w, Rel C s ι a w → ∃ q u w' ι', (execOp a.eval o).run C.P w = .ok (.value u) w' ∧ Rel C (S q) ι' (a.put o.dst u) w') : AStepE C o s S := by
  intro ι a w K Q r hk
  obtain ⟨q, u, w', ι', hr, r'⟩ := h ι a w r
  refine ⟨fun _ _ => trivial, ?_⟩
  rw [semAt_plain _ _ _ ho, hr]
  exact hk _ _ _ _ r'

section
variable {C : Ctx} {s : St} {d : Nat} {ty : TypeId} {p : String} {e : Array Edge} {g : Option (Nat × Bool)}

theorem AStepE.append {x y : Operand} {T U E : TypeId} {t sz by_ n m gh : Nat} {cells ys : List AV} (hd : d < C.N) (hK : t ∉ C.K) (hx : Ev C s x (.own t sz gh n)) (hy : Src C s y sz m ys)
    (hT : C.P.underlying T = some (.slice E)) (hU : ∃ D, C.P.underlying U = some D ∧ ∀ k, D ≠ .int k) (hE : elT C.P E sz by_) (hk : look t s.heap = some ⟨E, true, List.replicate gh .any ++ cells⟩)
    (hl : cells.length = n * sz) (h63 : n + m ≤ maxLen) (hbytes : (n + m) * by_ ≤ 140737488355328) :
    AStepE C ⟨some d, .call { callee := .builtin .append, args := #[x, y], argTypes := #[T, U] }, ty, p, e, g⟩ s (fun q => s.newP d t ⟨E, true, List.replicate q .any ++ (cells ++ ys)⟩ (.own t sz q (n + m))) :=
  .run (fun _ h => by cases h) fun ι a w r => by
    obtain ⟨i, z, hi, hz, hsz, hby, hzs⟩ := hE
    subst hsz hby
    obtain ⟨news, n1, n2, n3, n4, n5, n6⟩ := hy ι a w r
    have hexec : ∀ base c, a.eval x = .slice base n c → (execOp a.eval ⟨some d, .call { callee := .builtin .append, args := #[x, y], argTypes := #[T, U] }, ty, p, e, g⟩).run C.P w =
        ((Builtin.append_ #[T, U] ty #[.slice base n c, a.eval y]).run C.P w).andThen fun v w' => .ok (.value v) w' := by
      intro base c hu
      simp [execOp, resolve, invoke, builtin, hu]
    have hany := fun base c olds => run_append_any (ty := ty) hT hi hz hU base n c (a.eval y) m news olds n1 n2
    have grow : ∀ (base : Option Addr) (c : Nat) (olds : List Value), a.eval x = .slice base n c → c < n + m →
        (∀ w', w'.heap = w.heap → (Builtin.firstCells i.size n (.slice base n c)).run C.P w' = .ok olds.toArray w') → olds.length = n * i.size →
        (∀ j (hj : j < cells.length), ∃ u, olds[j]? = some u ∧ VR w (fun _ => zone C s.heap ι w false) (fun _ => none) (cells[j]'hj) u) →
        ∃ q u w' ι', (execOp a.eval ⟨some d, .call { callee := .builtin .append, args := #[x, y], argTypes := #[T, U] }, ty, p, e, g⟩).run C.P w = .ok (.value u) w' ∧
          Rel C (s.newP d t ⟨E, true, List.replicate q .any ++ (cells ++ ys)⟩ (.own t i.size q (n + m))) ι' (a.put (some d) u) w' := by
      intro base c olds hu hg hof hol hvr
      obtain ⟨c', hc1, hc2, hrun⟩ := (hany base c olds hof h63 hbytes).2 hg
      have hcs : (olds.toArray ++ news.toArray ++ Builtin.zeroCells z.cells (c' - (n + m))).size = c' * i.size := by
        have e1 : n * i.size + m * i.size + (c' - (n + m)) * i.size = c' * i.size := by rw [← Nat.add_mul, ← Nat.add_mul]; congr 1; omega
        simp [size_zeroCells, hzs, hol, n3, e1]
      refine ⟨0, _, _, setT ι t w.heap.size, by rw [hexec base c hu, hrun]; rfl, ?_⟩
      simp only [List.replicate_zero, List.nil_append]
      refine r.newL hd hK rfl rfl rfl rfl ?_ ?_ ?_
      · rw [hcs]
        have : (n + m) * i.size ≤ c' * i.size := Nat.mul_le_mul_right _ hc1
        rw [Nat.add_mul] at this
        simp [hl, n4]; omega
      · intro j hj
        obtain ⟨u, hu1, hu2⟩ := row_of (us := olds) (vs := news) (by rw [hl, hol]) hvr n6 j hj
        refine ⟨u, ?_, hu2⟩
        rw [← Array.getElem?_toList]
        simp only [Array.toList_append]
        rw [List.getElem?_append_left (by rw [List.length_append] at hj ⊢; simp [hol, n3]; omega)]
        exact hu1
      · intro hb
        exact .own _ _ _ _ _ _ w.heap.size c' _ (by simp [setT]) hc1 hc2 hb (by rw [hcs]; omega)
    rcases own_inv (hx ι a w r) with ⟨rfl, hu⟩ | ⟨b, cap, q, hu, ht, hn, hc, hs, ho⟩
    · have hcl : cells = [] := List.eq_nil_of_length_eq_zero (by simpa using hl)
      subst hcl
      by_cases hm : m = 0
      · subst hm
        have hyl : ys = [] := List.eq_nil_of_length_eq_zero (by simpa using n4)
        have hnl : news = [] := List.eq_nil_of_length_eq_zero (by simpa using n3)
        subst hyl hnl
        have fin : ∀ u, VR w (zone C s.heap ι w) ι (.own t i.size gh 0) u → Rel C (s.newP d t ⟨E, true, List.replicate gh .any ++ ([] ++ [])⟩ (.own t i.size gh (0 + 0))) ι (a.put (some d) u) w := by
          intro u hvr
          have r1 := r.purge hk (purgeE_weak (s := s) (t := t))
          refine (r1.put hd ?_)
          refine hvr.mono (fun _ _ h => h) _ _ (fun β b hb => ⟨hb.1, fun t' ht' => hb.2.1 t' ?_, hb.2.2⟩) (fun _ _ _ _ _ h => h) (fun _ _ _ h => h)
          by_cases e : t' = t
          · subst e; exact ⟨_, hk⟩
          · obtain ⟨q, hq⟩ := ht'
            rw [look_cons_ne e] at hq
            exact (has_purgeH.1 ⟨q, hq⟩).2
        rcases hu with hu | ⟨b, o, hu⟩
        · have h := (hany none 0 [] (fun w' _ => by simp [Builtin.firstCells]) h63 hbytes).1 (by omega)
          exact ⟨gh, _, w, ι, by rw [hexec none 0 hu, h]; rfl, fin _ (.ownnil _ _ _ _ _)⟩
        · have h := (hany (some ⟨b, o, none⟩) 0 [] (fun w' _ => firstCells_some (by simp) fun j hj => absurd hj (by simp)) h63 hbytes).1 (by omega)
          exact ⟨gh, .slice (some ⟨b, o, none⟩) 0 0, w, ι, by rw [hexec _ 0 hu, h]; simp [storeCells], fin _ (.ownz _ _ _ _ _ _ _)⟩
      · rcases hu with hu | ⟨b, o, hu⟩
        · exact grow none 0 [] hu (by omega) (fun w' _ => by simp [Builtin.firstCells]) (by simp) (fun j hj => absurd hj (by simp))
        · exact grow _ 0 [] hu (by omega) (fun w' _ => firstCells_some (by simp) fun j hj => absurd hj (by simp)) (by simp) (fun j hj => absurd hj (by simp))
    · obtain ⟨cur, hb, hlc, hcv⟩ := blk_inv r.core hk ht
      simp only [cond_true] at hcv hlc hb
      have hlc' : gh + n * i.size ≤ cur.size := by simpa [hl] using hlc
      have hcv' : ∀ j (hj : j < cells.length), ∃ u, cur[gh + j]? = some u ∧ VR w (fun _ => zone C s.heap ι w false) (fun _ => none) (cells[j]'hj) u := by
        intro j hj
        obtain ⟨u, hu1, hu2⟩ := hcv (gh + j) (by simp; omega)
        refine ⟨u, hu1, ?_⟩
        have : (List.replicate gh AV.any ++ cells)[gh + j]'(by simp; omega) = cells[j] := by
          rw [List.getElem_append_right (by simp)]
          simp
        rwa [this] at hu2
      have hq : q = cur.size := by simp only [bsz, hb] at hs; exact (Option.some.inj hs).symm
      subst hq
      have hld : ((cur.toList.drop gh).take (n * i.size)).length = n * i.size := by simp; omega
      have hof : ∀ w', w'.heap = w.heap → (Builtin.firstCells i.size n (.slice (some ⟨b, gh, none⟩) n cap)).run C.P w' = .ok ((cur.toList.drop gh).take (n * i.size)).toArray w' := fun w' hw' =>
        firstCells_some hld fun j hj => by
          rw [cell?_heap hw', cell_of_row w b (gh + j) cur E (0, 0) hb, List.getElem?_take, if_pos hj]; simp
      by_cases hroom : n + m ≤ cap
      · have hfit : gh + n * i.size + news.length ≤ cur.size := by
          have : (n + m) * i.size ≤ cap * i.size := Nat.mul_le_mul_right _ hroom
          rw [Nat.add_mul] at this
          omega
        have hstc := run_storeCells_at C.P b (gh + n * i.size) E news 0 cur w hb (by omega) n5
        have h := (hany (some ⟨b, gh, none⟩) cap _ hof h63 hbytes).1 hroom
        refine ⟨gh, .slice (some ⟨b, gh, none⟩) (n + m) cap, w.setRow b (cur.toList.take (gh + n * i.size + 0) ++ news ++ cur.toList.drop (gh + n * i.size + 0 + news.length)).toArray, ι, ?_, ?_⟩
        · rw [hexec _ cap hu, h]
          simp only [Addr.add_plain]
          rw [hstc]
          rfl
        · have hcs' : (cur.toList.take (gh + n * i.size + 0) ++ news ++ cur.toList.drop (gh + n * i.size + 0 + news.length)).toArray.size = cur.size := by
            simp; omega
          have hbig : (w.setRow b (cur.toList.take (gh + n * i.size + 0) ++ news ++ cur.toList.drop (gh + n * i.size + 0 + news.length)).toArray).heap[b]? = some (.cells (cur.toList.take (gh + n * i.size + 0) ++ news ++ cur.toList.drop (gh + n * i.size + 0 + news.length)).toArray E (0, 0)) :=
            setRow_heap w b cur _ E _ hb
          have hoth : ∀ j, j ≠ b → (w.setRow b (cur.toList.take (gh + n * i.size + 0) ++ news ++ cur.toList.drop (gh + n * i.size + 0 + news.length)).toArray).heap[j]? = w.heap[j]? := fun j hj => setRow_other w b j _ hj
          generalize hW : w.setRow b (cur.toList.take (gh + n * i.size + 0) ++ news ++ cur.toList.drop (gh + n * i.size + 0 + news.length)).toArray = W at hbig hoth ⊢
          have hsz : ∀ x q, bsz w x = some q → bsz W x = some q := by
            intro x q hx
            by_cases e : x = b
            · subst e
              simp only [bsz, hb] at hx
              simp only [bsz, hbig, hcs']
              exact hx
            · simp only [bsz, hoth x e]; exact hx
          have r1 := r.write (w' := W) hk ht (by rw [← hW]; rfl) (by rw [← hW]; rfl) (by rw [← hW]; rfl) (by rw [← hW]; simp) hoth (k' := ⟨E, true, List.replicate gh .any ++ (cells ++ ys)⟩) hb hbig hcs' (by rw [hcs']; simp [hl, n4]; omega) ?_
          · have hk' : look t (updH t ⟨E, true, List.replicate gh .any ++ (cells ++ ys)⟩ s.heap) = some ⟨E, true, List.replicate gh .any ++ (cells ++ ys)⟩ := look_updH_self _ _ ⟨_, hk⟩
            have r2 := r1.purge hk' (E := purgeE t s.env) purgeE_weak
            have r3 := r2.put hd (v := .own t i.size gh (n + m)) (u := .slice (some ⟨b, gh, none⟩) (n + m) cap) (.own _ _ _ _ _ _ b cap cur.size ht hroom hc (hsz _ _ hs) ho)
            refine r3.weak (fun t' => ?_) (fun d' v' h => .inr h) (fun t' k' h => ?_)
            · simp only [St.newP, St.put]
              by_cases e : t' = t
              · subst e; exact ⟨fun _ => ⟨_, look_cons_self _ _ _⟩, fun _ => ⟨_, look_cons_self _ _ _⟩⟩
              · unfold has; rw [look_cons_ne e, look_cons_ne e, look_purgeH_ne e, look_purgeH_ne e, look_updH_ne e]
            · simp only [St.newP, St.put] at h ⊢
              refine ⟨k', ?_, rfl, rfl, .inl rfl⟩
              by_cases e : t' = t
              · subst e; rw [look_cons_self] at h ⊢; exact h
              · rw [look_cons_ne e, look_purgeH_ne e] at h ⊢; rw [look_updH_ne e]; exact h
          · simp only [cond_true]
            intro j hj
            by_cases hjg : j < gh
            · have hsize : j < (cur.toList.take (gh + n * i.size + 0) ++ news ++ cur.toList.drop (gh + n * i.size + 0 + news.length)).toArray.size := by rw [hcs']; omega
              refine ⟨_, Array.getElem?_eq_getElem hsize, ?_⟩
              have : (List.replicate gh AV.any ++ (cells ++ ys))[j]'hj = .any := by rw [List.getElem_append_left (by simpa using hjg)]; simp
              rw [this]
              exact .any _ _ _
            · have hj2 : j - gh < (cells ++ ys).length := by simp at hj ⊢; omega
              obtain ⟨u, hu1, hu2⟩ := row_of (us := (cur.toList.drop gh).take (n * i.size)) (vs := news) (by rw [hl, hld]) (fun j hj => by
                obtain ⟨u, hu1, hu2⟩ := hcv' j hj
                exact ⟨u, by rw [List.getElem?_take, if_pos (by omega), List.getElem?_drop]; simpa using hu1, hu2⟩) n6 (j - gh) hj2
              refine ⟨u, ?_, ?_⟩
              · rw [← Array.getElem?_toList]
                simp only [Nat.add_zero]
                rw [List.getElem?_append_left (by simp at hj ⊢; omega)]
                have e1 : cur.toList.take (gh + n * i.size) ++ news = cur.toList.take gh ++ ((cur.toList.drop gh).take (n * i.size) ++ news) := by
                  rw [← List.append_assoc, List.take_add]
                rw [e1, List.getElem?_append_right (by simp; omega)]
                have e2 : (cur.toList.take gh).length = gh := by simp; omega
                rw [e2]
                exact hu1
              · have e3 : (List.replicate gh AV.any ++ (cells ++ ys))[j]'hj = (cells ++ ys)[j - gh]'hj2 := by
                  rw [List.getElem_append_right (by simp; omega)]
                  simp
                rw [e3]
                refine hu2.mono hsz _ _ (fun _ _ h => h) (fun _ x o y hx hy => ?_) (fun _ _ _ h => h)
                have hne : x ≠ b := fun e => hx.2.1 t ⟨_, hk⟩ (by rw [ht, e])
                rw [World.cell?_of_block (a := ⟨x, o, none⟩) (hoth x hne)]; exact hy
      · refine grow (some ⟨b, gh, none⟩) cap _ hu (by omega) hof hld (fun j hj => ?_)
        obtain ⟨u, hu1, hu2⟩ := hcv' j hj
        exact ⟨u, by rw [List.getElem?_take, if_pos (by omega), List.getElem?_drop]; simpa using hu1, hu2⟩

/-- append to a row of which cells ahead are forgotten -/
theorem AStepE.app {α : Type} {enc : α → List AV} {x y : Operand} {T U E : TypeId} {t sz by_ n m gh : Nat} {xs ys zs : List α} (hd : d < C.N) (hK : t ∉ C.K) (hx : Ev C s x (.own t sz gh n)) (hy : Src C s y sz m (ys.flatMap enc))
    (hT : C.P.underlying T = some (.slice E)) (hU : ∃ D, C.P.underlying U = some D ∧ ∀ k, D ≠ .int k) (hE : elT C.P E sz by_) (hk : look t s.heap = some ⟨E, true, List.replicate gh .any ++ xs.flatMap enc⟩)
    (henc : ∀ y, (enc y).length = sz) (hn : n = xs.length) (hm : m = ys.length) (hb : by_ ≤ 128) (hz : apd xs ys = some zs) :
    AStepE C ⟨some d, .call { callee := .builtin .append, args := #[x, y], argTypes := #[T, U] }, ty, p, e, g⟩ s (fun q => s.newP d t ⟨E, true, List.replicate q .any ++ zs.flatMap enc⟩ (.own t sz q zs.length)) := by
  obtain ⟨h1, rfl, h3⟩ := apdS hz
  subst hn hm
  have hbytes : (xs.length + ys.length) * by_ ≤ 140737488355328 := by
    have : (xs.length + ys.length) * by_ ≤ 1099511627776 * 128 := Nat.mul_le_mul h1 hb
    omega
  have := AStepE.append (ty := ty) (p := p) (e := e) (g := g) hd hK hx hy hT hU hE hk (flatMap_length henc xs) (by simp only [maxLen]; omega) hbytes
  rw [h3, List.flatMap_append]
  exact this

/-- a part of an owned row: what else there was is forgotten -/
theorem AStep.slOwn {α : Type} {enc : α → List AV} {sz gh n : Nat} {x : Operand} {lo hi : Option Operand} {T E U : TypeId} {t : Nat} {xs ys : List α} {l h : Int} (hd : d < C.N) (hx : Ev C s x (.own t sz gh n))
    (hk : look t s.heap = some ⟨U, true, List.replicate gh .any ++ xs.flatMap enc⟩) (hT : C.P.underlying T = some (.slice E)) (hE : szOf C.P E sz) (henc : ∀ y, (enc y).length = sz) (hn : n = xs.length)
    (hl : BdI C s lo 0 l) (hh : BdI C s hi xs.length h) (hy : slc xs l h = some ys) {gh' : Nat} (hg : gh' = gh + l.toNat * sz) :
    AStep C ⟨some d, .slice T x lo hi none, ty, p, e, g⟩ s ⟨(d, .own t sz gh' ys.length) :: s.env, updH t ⟨U, true, List.replicate gh' .any ++ ys.flatMap enc⟩ s.heap⟩ := by
  obtain ⟨h0, h1, h2, h3, h4⟩ := slcS hy
  subst hn hg
  have h5 := AStep.sliceOwn (ty := ty) (p := p) (e := e) (g := g) (h := h.toNat) hd hx hT hE (hl.nat (d := 0) h0) (hh.nat (by omega)) (by omega) (by omega)
  rw [h4]
  refine h5.vc ?_
  have hk' : look t (s.put d (.own t sz (gh + l.toNat * sz) (h.toNat - l.toNat))).heap = some ⟨U, true, List.replicate gh .any ++ xs.flatMap enc⟩ := hk
  have hyl : (ys.flatMap enc).length = (h.toNat - l.toNat) * sz := by rw [flatMap_length henc, h4]
  have hxl := flatMap_length henc xs
  have hmul : l.toNat * sz + (h.toNat - l.toNat) * sz = h.toNat * sz := by rw [← Nat.add_mul]; congr 1; omega
  have hle : h.toNat * sz ≤ xs.length * sz := Nat.mul_le_mul_right _ (by omega)
  refine VC.weakB hk' ?_ fun i hi => ?_
  · simp only [List.length_append, List.length_replicate, hyl, hxl]
    omega
  · by_cases hig : i < gh + l.toNat * sz
    · left
      rw [List.getElem_append_left (by simpa using hig)]
      simp
    · right
      have hi2 : i - (gh + l.toNat * sz) < (ys.flatMap enc).length := by simp only [List.length_append, List.length_replicate] at hi; omega
      rw [List.getElem_append_right (by simp; omega)]
      simp only [List.length_replicate]
      rw [List.getElem?_append_right (by simp; omega)]
      simp only [List.length_replicate]
      have e1 : ys.flatMap enc = ((xs.flatMap enc).drop (l.toNat * sz)).take ((h.toNat - l.toNat) * sz) := by
        rw [h3, flatMap_drop henc, flatMap_take henc]
      have e2 : (ys.flatMap enc)[i - (gh + l.toNat * sz)]? = (xs.flatMap enc)[i - gh]? := by
        rw [e1, List.getElem?_take, if_pos (by rw [hyl] at hi2; omega), List.getElem?_drop]
        congr 1
        omega
      rw [← e2, List.getElem?_eq_getElem hi2]

theorem AStep.idxOwnG {α : Type} {x i : Operand} {T E : TypeId} {t sz n gh : Nat} {k : IntKind} {j : Int} {xs : List α} {y : α} (hd : d < C.N)
    (hx : Ev C s x (.own t sz gh n)) (hi : Ev C s i (.sc (.int k j))) (hT : C.P.underlying T = some (.slice E)) (hE : szOf C.P E sz) (hn : n = xs.length)
    (hy : getIdx xs j = some y) : AStep C ⟨some d, .indexAddr T x i, ty, p, e, g⟩ s (s.put d (.ptr t (gh + j.toNat * sz))) := by
  obtain ⟨h0, h1, _⟩ := getIdx_some hy
  exact AStep.indexOwn hd hx hi hT hE ⟨h0, by omega⟩
end
theorem cell_atG {α : Type} {enc : α → List AV} (henc : ∀ y, (enc y).length = 1) {xs : List α} {j : Int} {y : α} {gh : Nat} (hy : getIdx xs j = some y) : (List.replicate gh AV.any ++ xs.flatMap enc)[gh + j.toNat * 1]? = (enc y)[0]? := by
  rw [List.getElem?_append_right (by simp)]
  have := cell_at1 henc hy
  simpa using this

/-- loops and joins beside which a number is not known -/
theorem AWP.loopMG {C : Ctx} {Q : Exit → St → Prop} {c : Code} {σ R : Type} {body : (σ → Option R) → σ → Option R} {r : R} (S : σ → Nat → St)
    (step : ∀ (nx : σ → Option R) (x : σ) (q : Nat), body nx x = some r → AWP C c (thn (fun s' => ∃ x' q', nx x' = some r ∧ VC C s' (S x' q')) Q) (S x q)) {n : Nat} {x : σ} {q : Nat} (hx : Go.AB.loopM body n x = some r) : AWP C (.loop c) Q (S x q) := by
  refine AWP.loop (σ := σ × Nat) (fun x => S x.1 x.2) (fun n x => Go.AB.loopM body n x.1 = some r) (fun x h => by cases h) (fun n x h => ?_) n (x, q) hx
  rw [loopM_succ] at h
  refine (step _ x.1 x.2 h).mono fun e s' he => ?_
  cases e with
  | normal =>
    obtain ⟨x', q', h1, h2⟩ := he
    exact ⟨(x', q'), h1, h2⟩
  | _ => exact he
theorem AWP.joinG' {C : Ctx} {c : Code} {Q : Exit → St → Prop} {s : St} {σ R : Type} {f : σ → Option R} {g : (σ → Option R) → Option R} {r : R} (S : σ → Nat → St) (h : jn f g = some r)
    (rest : ∀ p q, f p = some r → Q .normal (S p q)) (main : ∀ k : σ → Option R, g k = some r → AWP C c (thn (fun s' => ∃ p q, k p = some r ∧ VC C s' (S p q)) Q) s) : AWP C c Q s := by
  intro ι a w rel
  refine wpIn_mono (main f h ι a w rel) fun e a' w' ⟨s', ι', r', q⟩ => ?_
  cases e with
  | normal =>
    obtain ⟨p, gq, h1, h2⟩ := q
    obtain ⟨ι2, r2⟩ := h2 ι' a' w' r'
    exact ⟨S p gq, ι2, r2, rest p gq h1⟩
  | _ => exact ⟨s', ι', r', q⟩
theorem AWP.joinBG' {C : Ctx} {id : Nat} {c : Code} {Q : Exit → St → Prop} {s : St} {σ R : Type} {f : σ → Option R} {g : (σ → Option R) → Option R} {r : R} (S : σ → Nat → St) (h : jn f g = some r)
    (rest : ∀ p q, f p = some r → Q .normal (S p q)) (main : ∀ k : σ → Option R, g k = some r → AWP C c (inbJ id (fun s' => ∃ p q, k p = some r ∧ VC C s' (S p q)) Q) s) : AWP C (.block id c) Q s := by
  intro ι a w rel
  refine wpIn_block (wpIn_mono (main f h ι a w rel) fun e a' w' ⟨s', ι', r', q⟩ => ?_)
  have fin : (∃ p gq, f p = some r ∧ VC C s' (S p gq)) → ∃ s' ι', Rel C s' ι' a' w' ∧ Q .normal s' := by
    rintro ⟨p, gq, h1, h2⟩
    obtain ⟨ι2, r2⟩ := h2 ι' a' w' r'
    exact ⟨S p gq, ι2, r2, rest p gq h1⟩
  cases e with
  | exit i =>
    by_cases hi : i = id
    · subst hi
      simp only [inbJ, Nat.beq_refl, cond_true] at q
      simp only [Exit.inBlock, if_true]
      exact fin q
    · have hb : Nat.beq i id = false := by rw [← Bool.not_eq_true, Nat.beq_eq]; exact hi
      simp only [inbJ, hb, cond_false] at q
      simp only [Exit.inBlock, if_neg hi]
      exact ⟨s', ι', r', q⟩
  | normal => exact fin q
  | goto l => exact ⟨s', ι', r', q⟩
  | ret => exact ⟨s', ι', r', q⟩
  | panic ch => exact ⟨s', ι', r', q⟩
  | outgrown => exact ⟨s', ι', r', q⟩
theorem endJG {C : Ctx} {σ R : Type} {f : σ → Option R} {r : R} {S : σ → Nat → St} {s : St} (p : σ) (q : Nat) (h : f p = some r) (v : VC C s (S p q)) : ∃ p q, f p = some r ∧ VC C s (S p q) := ⟨p, q, h, v⟩
end Go.AB

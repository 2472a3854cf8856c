/-
  AB, part 26: rows of rows: made, and one of their rows written in place.
-/
import Derived.Test.YtpccmcepgllccaaAb25
namespace Go.AB
open Go

/-- a block, some cells of it in another form of the same -/
theorem VC.cellsW {C : Ctx} {s : St} {t : Nat} {k k' : Blk} (hk : look t s.heap = some k) (hty : k'.ty = k.ty) (hl : k'.cells.length = k.cells.length) (hnil : k.lst = true ∨ k.cells ≠ []) (hls : k.cells = [] → k'.lst = true)
    (h : ∀ i (hi : i < k.cells.length) (hi' : i < k'.cells.length) w Z ι u, (∀ b, Z false b → Z true b) → VR w (bif k.lst then fun _ => Z false else Z) (bif k.lst then fun _ => none else ι) k.cells[i] u →
      VR w (bif k'.lst then fun _ => Z false else Z) (bif k'.lst then fun _ => none else ι) k'.cells[i] u) : VC C s ⟨s.env, updH t k' s.heap⟩ := fun ι a w r => by
  have hhas : ∀ t', has t' (updH t k' s.heap) ↔ has t' s.heap := fun t' => has_updH ⟨_, hk⟩
  have hZ : ∀ β b, zone C s.heap ι w β b → zone C (updH t k' s.heap) ι w β b := fun β b h => ⟨h.1, fun t ht => h.2.1 t ((hhas t).1 ht), h.2.2⟩
  refine ⟨ι, r.size, r.dfr, fun d v hl => ?_, ⟨fun t' k1 hl' => ?_, fun t t' b h1 h2 => r.core.inj t t' b ((hhas t).1 h1) ((hhas t').1 h2), fun t b h => r.core.own t b ((hhas t).1 h), r.core.tr⟩, r.stab⟩
  · exact (r.env d v hl).mono (fun _ _ h => h) _ _ hZ (fun _ _ _ _ _ h => h) (fun _ _ _ h => h)
  · by_cases e : t' = t
    · subst e
      rw [look_updH_self _ _ ⟨_, hk⟩] at hl'
      cases hl'
      have h0 := r.core.blk t' k hk
      unfold BlkR at h0 ⊢
      cases hx : ι t' with
      | none =>
        simp only [hx] at h0 ⊢
        refine ⟨?_, hls h0.1⟩
        rw [h0.1] at hl
        exact List.eq_nil_of_length_eq_zero (by simpa using hl)
      | some b =>
        simp only [hx] at h0 ⊢
        obtain ⟨cur, q1, q2, q3⟩ := h0
        refine ⟨cur, by rw [hty]; exact q1, by omega, fun i hi => ?_⟩
        obtain ⟨u, hu, hv⟩ := q3 i (by omega)
        refine ⟨u, hu, h i (by omega) hi w (zone C (updH t' k' s.heap) ι w) ι u (fun b hb => ⟨hb.1, hb.2.1, ?_⟩) ?_⟩
        · rcases hb.2.2 with ⟨h, _⟩ | h | h | h
          · cases h
          · exact .inr (.inl h)
          · exact .inr (.inr (.inl h))
          · exact .inr (.inr (.inr h))
        · refine hv.mono (fun _ _ h => h) _ _ ?_ (fun _ _ _ _ _ h => h) (fun _ _ _ h => h)
          obtain ⟨kt, kl, kc⟩ := k
          cases kl with
          | true => exact fun _ b hb => hZ false b hb
          | false => exact hZ
    · rw [look_updH_ne e] at hl'
      have h0 := r.core.blk t' k1 hl'
      unfold BlkR at h0 ⊢
      cases hx : ι t' with
      | none => simp only [hx] at h0 ⊢; exact h0
      | some b =>
        simp only [hx] at h0 ⊢
        obtain ⟨cur, q1, q2, q3⟩ := h0
        refine ⟨cur, q1, q2, fun i hi => ?_⟩
        obtain ⟨u, hu, hv⟩ := q3 i hi
        refine ⟨u, hu, hv.mono (fun _ _ h => h) _ _ ?_ (fun _ _ _ _ _ h => h) (fun _ _ _ h => h)⟩
        cases k1.lst with
        | true => exact fun _ b hb => hZ _ _ hb
        | false => exact hZ

section
variable {C : Ctx} {s : St} {d : Nat} {ty : TypeId} {p : String} {e : Array Edge} {g : Option (Nat × Bool)}
/-- make of a row of rows: all of them nil -/
theorem AStep.mkR {α : Type} {enc : List α → List AV} {enc1 : α → List AV} {x y : Operand} {T E : TypeId} {t by_ : Nat} {k k' : IntKind} {l c : Int} {zs : List (List α)} (hd : d < C.N) (hK : t ∉ C.K)
    (hx : Ev C s x (.sc (.int k l))) (hy : Ev C s y (.sc (.int k' c))) (hT : C.P.underlying T = some (.slice E)) (hz : zeroT C.P E [.slice none 0 0]) (hE : elT C.P E 1 by_)
    (henc : ∀ y, enc y = [.rd false y.length (y.flatMap enc1)]) (hb : by_ ≤ 128) (hm : mk ([] : List α) l c = some zs) :
    AStep C ⟨some d, .makeSlice T x y, ty, p, e, g⟩ s (s.newP d t ⟨E, true, zs.flatMap enc⟩ (.own t 1 0 zs.length)) := by
  obtain ⟨h1, h2, h3, hzs, h5⟩ := mkS' hm
  have h := AStep.mkS (ty := ty) (p := p) (e := e) (g := g) (enc := fun _ : List α => [.sc (.slice none 0 0)]) (y0 := ([] : List α)) (zs := zs) hd hK hx hy hT hz hE rfl (fun _ => rfl) hb hm
  refine h.vc ?_
  have hk : look t (s.newP d t ⟨E, true, zs.flatMap fun _ => [.sc (.slice none 0 0)]⟩ (.own t 1 0 zs.length)).heap = some ⟨E, true, zs.flatMap fun _ => [.sc (.slice none 0 0)]⟩ := look_cons_self _ _ _
  have hlen1 : (zs.flatMap fun _ : List α => [AV.sc (.slice none 0 0)]).length = zs.length := by
    have := flatMap_length (enc := fun _ : List α => [AV.sc (.slice none 0 0)]) (sz := 1) (fun _ => rfl) zs
    simpa using this
  have hlen2 : (zs.flatMap enc).length = zs.length := by
    have := flatMap_length (enc := enc) (sz := 1) (fun y => by rw [henc]; rfl) zs
    simpa using this
  have v := VC.cellsW (C := C) (k' := ⟨E, true, zs.flatMap enc⟩) hk rfl (by simp only; omega) (.inl rfl) (fun _ => rfl) fun i hi hi' w Z ι u _ hv => by
    have e1 : (zs.flatMap fun _ : List α => [AV.sc (.slice none 0 0)])[i]'hi = .sc (.slice none 0 0) := by
      have : ∀ c ∈ (zs.flatMap fun _ : List α => [AV.sc (.slice none 0 0)]), c = .sc (.slice none 0 0) := by simp
      exact this _ (List.getElem_mem hi)
    have hlt : i < zs.length := by simp only at hi'; omega
    have e2 : (zs.flatMap enc)[i]'hi' = .rd false 0 [] := by
      have h6 := flatMap_at (enc := enc) (sz := 1) (fun y => by rw [henc]; rfl) zs i (List.getElem?_eq_getElem hlt) 0 (by decide)
      rw [Nat.mul_one, Nat.add_zero, henc] at h6
      have h7 : zs[i] = [] := by
        have hall : ∀ y ∈ zs, y = [] := by
          rw [hzs]
          exact fun y hy => (List.mem_replicate.1 hy).2
        exact hall _ (List.getElem_mem hlt)
      rw [h7] at h6
      rw [List.getElem?_eq_getElem hi'] at h6
      simpa using h6
    have hv' : VR w (fun _ => Z false) (fun _ => none) ((zs.flatMap fun _ : List α => [AV.sc (.slice none 0 0)])[i]'hi) u := hv
    show VR w (fun _ => Z false) (fun _ => none) ((zs.flatMap enc)[i]'hi') u
    rw [e1] at hv'
    rw [e2, sc_inv hv']
    exact .rdnil _ _ _ _
  refine v.trans ?_
  have : (⟨(s.newP d t ⟨E, true, zs.flatMap fun _ => [.sc (.slice none 0 0)]⟩ (.own t 1 0 zs.length)).env, updH t ⟨E, true, zs.flatMap enc⟩ (s.newP d t ⟨E, true, zs.flatMap fun _ => [.sc (.slice none 0 0)]⟩ (.own t 1 0 zs.length)).heap⟩ : St) =
      s.newP d t ⟨E, true, zs.flatMap enc⟩ (.own t 1 0 zs.length) := by
    simp [St.newP, updH]
  rw [this]
  exact VC.refl _ _

/-- a row's cells may be of any form from here on -/
theorem VC.unlst {t : Nat} {E : TypeId} {cells : List AV} (hk : look t s.heap = some ⟨E, true, cells⟩) (hne : cells ≠ []) : VC C s ⟨s.env, updH t ⟨E, false, cells⟩ s.heap⟩ :=
  VC.cellsW hk rfl rfl (.inl rfl) (fun h => absurd h hne) fun i hi hi' w Z ι u hZ hv => by
    have hv' : VR w (fun _ => Z false) (fun _ => none) (cells[i]'hi) u := hv
    show VR w Z ι (cells[i]'hi) u
    refine hv'.mono (fun _ _ h => h) _ _ (fun β b hb => ?_) (fun _ _ _ _ _ h => h) (fun _ _ h1 h2 => by cases h2)
    cases β with
    | true => exact hZ b hb
    | false => exact hb
/-- and back -/
theorem VC.relst {t : Nat} {E : TypeId} {cells : List AV} (hk : look t s.heap = some ⟨E, false, cells⟩) (hne : cells ≠ []) (hs : ∀ c, c ∈ cells → c.still = true) : VC C s ⟨s.env, updH t ⟨E, true, cells⟩ s.heap⟩ :=
  VC.cellsW hk rfl rfl (.inr hne) (fun h => absurd h hne) fun i hi hi' w Z ι u hZ hv => by
    have hv' : VR w Z ι (cells[i]'hi) u := hv
    show VR w (fun _ => Z false) (fun _ => none) (cells[i]'hi) u
    exact hv'.still (hs _ (List.getElem_mem hi))
end

theorem ne_of_idx {α : Type} {enc : α → List AV} {sz : Nat} (henc : ∀ y, (enc y).length = sz) (hpos : 0 < sz) {xs : List α} {j : Int} {y : α} (hy : getIdx xs j = some y) : xs.flatMap enc ≠ [] := by
  obtain ⟨h0, h1, _⟩ := getIdx_some hy
  intro h
  have := flatMap_length henc xs
  rw [h] at this
  have h2 : 0 < xs.length * sz := Nat.mul_pos (by omega) hpos
  simp at this
  omega
theorem cell_hole {α : Type} {enc : α → List AV} (henc : ∀ y, (enc y).length = 1) {xs : List α} {j : Int} {y : α} {v : AV} (hy : getIdx xs j = some y) : ((xs.flatMap enc).set (0 + j.toNat * 1) v)[0 + j.toNat * 1]? = some v := by
  have := lt_at1 henc hy
  rw [List.getElem?_set_self this]
theorem cell_off {α : Type} {enc : α → List AV} (henc : ∀ y, (enc y).length = 1) {xs : List α} {i j : Int} {y : α} {v : AV} (hy : getIdx xs j = some y) (hi : 0 ≤ i) (hne : j ≠ i) : ((xs.flatMap enc).set (0 + i.toNat * 1) v)[0 + j.toNat * 1]? = (enc y)[0]? := by
  obtain ⟨h0, _, _⟩ := getIdx_some hy
  rw [List.getElem?_set_ne (by omega)]
  exact cell_at1 henc hy
theorem lt_hole {α : Type} {enc : α → List AV} (henc : ∀ y, (enc y).length = 1) {xs : List α} {j : Int} {y : α} (hy : getIdx xs j = some y) : 0 + j.toNat * 1 < (xs.flatMap enc).length := lt_at1 henc hy

/-- The row that was written in place is laid among the others. -/
theorem VC.fill {C : Ctx} {s : St} {α : Type} {enc : List α → List AV} {enc1 : α → List AV} {t t2 n : Nat} {U E : TypeId} {rows rows' : List (List α)} {xs : List α} {i : Int} (hk : look t s.heap = some ⟨U, false, (rows.flatMap enc).set (0 + i.toNat * 1) (.own t2 1 0 n)⟩)
    (hk2 : look t2 s.heap = some ⟨E, true, xs.flatMap enc1⟩) (htt : Nat.beq t2 t = false) (henc : ∀ y, enc y = [.rd false y.length (y.flatMap enc1)]) (henc1 : ∀ y, (enc1 y).length = 1) (hn : n = xs.length) (hi : setIdx rows i xs = some rows') :
    VC C s ⟨frzE t2 (xs.flatMap enc1) s.env, updH t ⟨U, true, rows'.flatMap enc⟩ (frzH t2 (xs.flatMap enc1) s.heap)⟩ := by
  subst hn
  have hne : t ≠ t2 := fun h => by subst h; simp at htt
  have hlen : ∀ y, (enc y).length = 1 := fun y => by rw [henc]; rfl
  obtain ⟨h0, h1, h2, h3⟩ := setIdxS hi
  have v1 := VC.freeze (C := C) hk2
  have hcells : frzL t2 (xs.flatMap enc1) ((rows.flatMap enc).set (0 + i.toNat * 1) (.own t2 1 0 xs.length)) = rows'.flatMap enc := by
    rw [frzL_eq]
    have e1 : (rows'.flatMap enc) = (rows.flatMap enc).set (0 + i.toNat * 1) (.rd false xs.length (xs.flatMap enc1)) := set_at1 hlen hi (henc xs)
    rw [e1, List.map_set]
    have e2 : frzA t2 (xs.flatMap enc1) (.own t2 1 0 xs.length) = .rd false xs.length (xs.flatMap enc1) := by
      have := frz_rd henc1 xs false
      simp only [frzA, Nat.beq_refl, cond_true]
      exact this
    have e3 : (rows.flatMap enc).map (frzA t2 (xs.flatMap enc1)) = rows.flatMap enc := by
      rw [List.map_flatMap]
      congr 1
      funext y
      rw [henc]
      rfl
    rw [e2, e3]
  have hk3 : look t (⟨frzE t2 (xs.flatMap enc1) s.env, frzH t2 (xs.flatMap enc1) s.heap⟩ : St).heap = some ⟨U, false, rows'.flatMap enc⟩ := by
    show look t (frzH t2 (xs.flatMap enc1) s.heap) = _
    rw [look_frzH, if_neg hne, hk]
    simp only [Option.map_some, frzB, cond_false]
    rw [hcells]
  have hy : ∃ y, getIdx rows' i = some y := ⟨xs, by rw [h2, getIdx, if_pos h0, List.getElem?_set_self (by omega)]⟩
  obtain ⟨y, hy⟩ := hy
  exact v1.trans (VC.relst hk3 (ne_of_idx hlen (by decide) hy) (still_all (fun y c hc => by rw [henc] at hc; simp at hc; rw [hc]; rfl) rows'))
section
variable {C : Ctx} {s : St} {d : Nat} {ty : TypeId} {p : String} {e : Array Edge} {g : Option (Nat × Bool)}
theorem AStep.bi3 {b : Builtin} {x y z : Operand} {T U V : TypeId} {m n l u : Value} (hd : d < C.N) (hx : Ev C s x (.sc m)) (hy : Ev C s y (.sc n)) (hz : Ev C s z (.sc l))
    (h : ∀ w cs, (builtin b #[T, U, V] ty cs #[m, n, l]).run C.P w = .ok (.value u) w) :
    AStep C ⟨some d, .call { callee := .builtin b, args := #[x, y, z], argTypes := #[T, U, V] }, ty, p, e, g⟩ s (s.put d (.sc u)) :=
  .val hd (fun _ h => by cases h) fun ι a w r => by
    refine ⟨u, ?_, .sc _ _ _⟩
    have := h w (#[x, y, z].map fun | .const _ => true | _ => false)
    simp only [execOp, resolve, Sem.run_bind, Sem.run_pure, Result.andThen_ok, invoke, List.map_toArray, List.map_cons, List.map_nil, hx.sc r, hy.sc r, hz.sc r] at this ⊢
    exact this
theorem AStep.max3 {x y z : Operand} {T U V : TypeId} {k : IntKind} {m n l : Int} (hd : d < C.N) (hx : Ev C s x (.sc (.int k m))) (hy : Ev C s y (.sc (.int k n))) (hz : Ev C s z (.sc (.int k l))) :
    AStep C ⟨some d, .call { callee := .builtin .max, args := #[x, y, z], argTypes := #[T, U, V] }, ty, p, e, g⟩ s (s.put d (.sc (.int k (if l > (if n > m then n else m) then l else (if n > m then n else m))))) :=
  .bi3 hd hx hy hz fun w cs => by simp [builtin, Builtin.max_, Builtin.max2]
theorem AStep.min3 {x y z : Operand} {T U V : TypeId} {k : IntKind} {m n l : Int} (hd : d < C.N) (hx : Ev C s x (.sc (.int k m))) (hy : Ev C s y (.sc (.int k n))) (hz : Ev C s z (.sc (.int k l))) :
    AStep C ⟨some d, .call { callee := .builtin .min, args := #[x, y, z], argTypes := #[T, U, V] }, ty, p, e, g⟩ s (s.put d (.sc (.int k (if l < (if n < m then n else m) then l else (if n < m then n else m))))) :=
  .bi3 hd hx hy hz fun w cs => by simp [builtin, Builtin.min_, Builtin.min2]
end
end Go.AB

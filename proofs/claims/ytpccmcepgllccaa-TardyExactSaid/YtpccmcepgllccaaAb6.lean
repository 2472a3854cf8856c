/-
  AB, part 6: operations that make or write memory.
-/
import Derived.Test.YtpccmcepgllccaaAb5
namespace Go.AB
open Go

section
variable {C : Ctx} {d : Nat} {ty : TypeId} {p : String} {e : Array Edge} {g : Option (Nat × Bool)} {s : St}

/-- A type's zero, cell by cell. -/
def zeroT (P : Program) (T : TypeId) (z : List Value) : Prop := ∃ i v, P.info? T = some i ∧ i.zero = some v ∧ v.cells.toList = z ∧ i.size = z.length
theorem zeroT.mk {P : Program} {T : TypeId} {z : List Value} (h : (P.info? T).map (fun i => (i.zero.map (·.cells.toList), i.size)) = some (some z, z.length)) : zeroT P T z := by
  cases hi : P.info? T with
  | none => rw [hi] at h; cases h
  | some i =>
    rw [hi] at h
    simp only [Option.map_some, Option.some.injEq, Prod.mk.injEq] at h
    cases hz : i.zero with
    | none => rw [hz] at h; cases h.1
    | some v => rw [hz] at h; exact ⟨i, v, hi, hz, by simpa using h.1, h.2⟩

/-- The state behind a new block t, whose address is in slot d. -/
def St.newP (s : St) (d t : Nat) (k : Blk) (v : AV) : St := ⟨(d, v) :: purgeE t s.env, (t, k) :: purgeH t s.heap⟩

/-- values that are their own reading -/
theorem sc_list {w : World} {Z : Zone} {ι : Tags} {cells : List AV} {z : List Value} (h : cells = z.map .sc) : ∀ i (hi : i < cells.length), ∃ u, z[i]? = some u ∧ VR w Z ι (cells[i]'hi) u := by
  subst h
  intro i hi
  have hi' : i < z.length := by simpa using hi
  exact ⟨z[i], List.getElem?_eq_getElem hi', by simpa using VR.sc _ _ _⟩

theorem AStep.alloc {T : TypeId} {z : List Value} {t : Nat} {k : Blk} (hd : d < C.N) (hK : t ∉ C.K) (hz : zeroT C.P T z) (hk : k.cells = z.map .sc) (hty : k.ty = T) :
    AStep C ⟨some d, .alloc T, ty, p, e, g⟩ s (s.newP d t k (.ptr t 0)) :=
  .run (fun _ h => by cases h) fun ι a w r => by
    obtain ⟨i, v, hi, hv, hvz, hsz⟩ := hz
    refine ⟨.pointer (some ⟨w.heap.size, 0, none⟩), w.alloc (.cells v.cells T), setT ι t w.heap.size, ?_, ?_⟩
    · simp [execOp, Instr.alloc, zeroValue, typeInfo, hi, hv, newVar, newRow]
    · refine r.new hd hK rfl rfl rfl (by simp) (fun j hj => heap_alloc_old w _ hj) (Nat.le_refl _) (fun Z' hZ' => ?_) (fun Z' hZ' => ?_)
      · simp only [BlkR, setT, if_true]
        refine ⟨v.cells, by rw [hty]; exact heap_alloc_new w _, by rw [hk, ← hvz]; simp, fun i hi => ?_⟩
        obtain ⟨u, hu, hvr⟩ := sc_list (w := w.alloc (.cells v.cells T)) (Z := bif k.lst then fun _ => Z' false else Z') (ι := bif k.lst then fun _ => none else setT ι t w.heap.size) hk i hi
        exact ⟨u, by rw [← hvz] at hu; simpa using hu, hvr⟩
      · exact .ptr _ _ _ _ _ (by simp [setT])

/-- A value that may be kept in a row: nothing borrowed, nothing owned. -/
def AV.still : AV → Bool
  | .sc _ => true
  | .rd β _ _ => !β
  | .rdx β _ _ => !β
  | _ => false
theorem VR.still {w : World} {Z : Zone} {ι : Tags} {v : AV} {u : Value} (h : VR w Z ι v u) (hs : v.still = true) : VR w (fun _ => Z false) (fun _ => none) v u := by
  cases h <;> simp_all [AV.still]
  · exact .sc _ _ _
  · exact .rdnil _ _ _ _
  · exact .rd _ _ _ _ _ _ _ _ _ ‹_› ‹_› ‹_› ‹_› ‹_›
  · exact .rdx _ _ _ _ _ _ _ _ ‹_› ‹_› ‹_› ‹_›
  · exact .rdxnil _ _ _ _
/-- A value of one cell. -/
def AV.one : AV → Bool
  | .sc (.agg _) => false
  | .sc (.tuple _) => false
  | .agg _ => false
  | .tup _ => false
  | .gd _ _ => false
  | .any => false
  | _ => true
theorem VR.one {w : World} {Z : Zone} {ι : Tags} {v : AV} {u : Value} (h : VR w Z ι v u) (hs : v.one = true) : u.oneCell' = true ∧ u.cells = #[u] := by
  cases h with
  | sc => cases u <;> simp_all [AV.one, Value.oneCell', Value.cells]
  | gd => simp [AV.one] at hs
  | any => simp [AV.one] at hs
  | agg => simp [AV.one] at hs
  | tup => simp [AV.one] at hs
  | _ => exact ⟨rfl, rfl⟩

theorem setIfInBounds_toList (cur : Array Value) (i : Nat) (u : Value) : (cur.setIfInBounds i u).size = cur.size := by simp

/-- A store of one cell into an owned block. -/
theorem AStep.storeP {x y : Operand} {T : TypeId} {t off : Nat} {k : Blk} {v : AV} {cells : List AV} (hx : Ev C s x (.ptr t off)) (hy : Ev C s y v) (hT : szOf C.P T 1) (hk : look t s.heap = some k)
    (hlt : off < k.cells.length) (h1 : v.one = true) (hst : k.lst = true → v.still = true) (hc : cells = k.cells.set off v) :
    AStep C ⟨none, .store T x y, ty, p, e, g⟩ s ⟨s.env, updH t { k with cells := cells } s.heap⟩ :=
  .runSkip (fun _ h => by cases h) fun ι a w r => by
    subst hc
    obtain ⟨b, hu, ht⟩ := ptr_inv (hx ι a w r)
    obtain ⟨cur, hb, hl, h⟩ := blk_inv r.core hk ht
    have hvy := hy ι a w r
    obtain ⟨o1, o2⟩ := hvy.one h1
    have hoff : off < cur.size := by omega
    refine ⟨w.setCell ⟨b, off, none⟩ (a.eval y), ι, ?_, ?_⟩
    · have hcell : w.cell? ⟨b, off, none⟩ = some cur[off] := by
        rw [cell_of_row w b off cur k.ty (0, 0) hb]; exact Array.getElem?_eq_getElem hoff
      have hfr : w.frozen? ⟨b, off, none⟩ = false := frozen_of_row w b off cur k.ty hb
      have hst := run_store C.P w ⟨b, off, none⟩ (a.eval y) .plain o1
      have hst' : (store ⟨b, off, none⟩ (a.eval y)).run C.P w = .ok () (w.setCell ⟨b, off, none⟩ (a.eval y)) := by
        rw [hst]; simp [hcell, hfr]
      simp [execOp, hu, Instr.storeAt, Instr.sureAddr, storeVar, hT.run, o2, storeCells, Addr.add_plain, hst']
    · have hw := r.write (w' := w.setCell ⟨b, off, none⟩ (a.eval y)) hk ht rfl rfl rfl (by simp [World.setCell]) (fun i hi => heap_setCell_other w _ i _ hi)
        (k' := { k with cells := k.cells.set off v }) (cur := cur) (cur' := cur.setIfInBounds off (a.eval y)) hb (heap_setCell_same w b off cur k.ty _ hb) (by simp) (by simpa using hl) ?_
      · exact hw
      · intro i hi
        have hi' : i < k.cells.length := by simpa using hi
        have hsz : ∀ b' n, bsz w b' = some n → bsz (w.setCell ⟨b, off, none⟩ (a.eval y)) b' = some n := by
          intro b' n hn
          by_cases e : b' = b
          · subst e
            have hh := heap_setCell_same w b' off cur k.ty (a.eval y) hb
            simp only [bsz, hb] at hn
            simp only [bsz, hh, setIfInBounds_toList]
            exact hn
          · have hh := heap_setCell_other w ⟨b, off, none⟩ b' (a.eval y) e
            simp only [bsz, hh]
            exact hn
        have hcell : ∀ β x o y', zone C s.heap ι w β x → w.cell? ⟨x, o, none⟩ = some y' → (w.setCell ⟨b, off, none⟩ (a.eval y)).cell? ⟨x, o, none⟩ = some y' := by
          rintro β x o y' ⟨_, h2, _⟩ hy'
          have hne : x ≠ b := fun e => h2 t ⟨k, hk⟩ (by rw [ht, e])
          rw [World.cell?_of_block (a := ⟨x, o, none⟩) (heap_setCell_other w ⟨b, off, none⟩ x (a.eval y) hne)]; exact hy'
        by_cases e : i = off
        · subst e
          refine ⟨a.eval y, by simp [hoff], ?_⟩
          simp only [List.getElem_set_self]
          cases hl' : k.lst with
          | true => exact (hvy.still (hst hl')).mono hsz _ _ (fun _ _ h => h) (fun _ x o y' hz => hcell false x o y' hz) (fun _ _ _ h => h)
          | false => exact hvy.mono hsz _ _ (fun _ _ h => h) hcell (fun _ _ _ h => h)
        · obtain ⟨u, hu', hvr⟩ := h i hi'
          refine ⟨u, by simp [Ne.symm e, hu'], ?_⟩
          rw [List.getElem_set_ne (fun h => e h.symm)]
          refine hvr.mono hsz _ _ (fun _ _ h => h) ?_ (fun _ _ _ h => h)
          cases k.lst with
          | true => exact fun _ x o y' hz => hcell false x o y' hz
          | false => exact hcell

/-- What is appended: so many elements, cell by cell. -/
def Src (C : Ctx) (s : St) (x : Operand) (sz m : Nat) (ys : List AV) : Prop :=
  ∀ ι a w, Rel C s ι a w → ∃ news : List Value, (Builtin.lenOf (a.eval x)).run C.P w = .ok m w ∧
    (∀ w', w'.heap = w.heap → (Builtin.firstCells sz m (a.eval x)).run C.P w' = .ok news.toArray w') ∧ news.length = m * sz ∧ ys.length = m * sz ∧ (∀ u ∈ news, u.oneCell' = true) ∧
    ∀ i (hi : i < ys.length), ∃ u, news[i]? = some u ∧ VR w (fun _ => zone C s.heap ι w false) (fun _ => none) (ys[i]'hi) u

theorem cell?_heap {w w' : World} (h : w'.heap = w.heap) (a : Addr) : w'.cell? a = w.cell? a := by simp [World.cell?, h]
theorem firstCells_some {P : Program} {w' : World} {sz m b off c : Nat} {news : List Value} (hl : news.length = m * sz) (h : ∀ j, j < m * sz → w'.cell? ⟨b, off + j, none⟩ = news[j]?) :
    (Builtin.firstCells sz m (.slice (some ⟨b, off, none⟩) m c)).run P w' = .ok news.toArray w' :=
  run_firstCells_some (P := P) w' sz m ⟨b, off, none⟩ m c news hl fun j u hu => by
    rw [Addr.add_plain]
    have : j < news.length := (List.getElem?_eq_some_iff.1 hu).1
    rw [h j (by omega)]; exact hu

theorem Src.nil (C : Ctx) (s : St) (sz : Nat) : Src C s (.const (.slice none 0 0)) sz 0 [] := fun ι a w r =>
  ⟨[], by simp [Act.eval, Builtin.lenOf], fun w' _ => by simp [Act.eval, Builtin.firstCells], by simp, by simp, by simp, fun i hi => absurd hi (by simp)⟩
theorem Src.rd {x : Operand} {sz m : Nat} {β : Bool} {ys : List AV} (hx : Ev C s x (.rd β m ys)) (hl : ys.length = m * sz) (h1 : ∀ c ∈ ys, c.one = true) (hβ : β = false ∨ ∀ c ∈ ys, c.scal = true) : Src C s x sz m ys :=
  fun ι a w r => by
    rcases rd_inv (hx ι a w r) with ⟨⟨a0, hu⟩, rfl, rfl⟩ | ⟨b, off, cap, vs, hu, hn, hc, hz, hv, h⟩
    · exact ⟨[], by simp [hu, Builtin.lenOf], fun w' _ => by rw [hu]; cases a0 with | none => simp [Builtin.firstCells] | some a1 => simp [Builtin.firstCells, loadCells, loadCellsFrom], by simp, by simp, by simp, fun i hi => absurd hi (by simp)⟩
    · refine ⟨(List.range ys.length).map vs, by simp [hu, Builtin.lenOf], fun w' hw' => ?_, by simp [hl], hl, ?_, fun i hi => ?_⟩
      · rw [hu]
        refine firstCells_some (by simp [hl]) fun j hj => ?_
        rw [cell?_heap hw', hv j (by omega)]
        simp [show j < ys.length by omega]
      · intro u hu'
        simp only [List.mem_map, List.mem_range] at hu'
        obtain ⟨j, hj, rfl⟩ := hu'
        exact ((h j hj).one (h1 _ (List.getElem_mem hj))).1
      · refine ⟨vs i, by simp [hi], ?_⟩
        rcases hβ with rfl | hs
        · exact h i hi
        · have h2 := hs _ (List.getElem_mem hi)
          have h3 := h i hi
          generalize ys[i] = q at h2 h3
          cases q <;> simp [AV.scal] at h2
          rw [sc_inv h3]; exact .sc _ _ _
theorem Src.rdx {x : Operand} {sz m : Nat} {ys : List AV} (hx : Ev C s x (.rdx false m ys)) (hl : ys.length = m * sz) (h1 : ∀ c ∈ ys, c.one = true) : Src C s x sz m ys :=
  fun ι a w r => by
    have h := hx ι a w r
    generalize a.eval x = u at h
    cases h with
    | rdxnil _ _ _ a0 => exact ⟨[], by simp [Builtin.lenOf], fun w' _ => by cases a0 with | none => simp [Builtin.firstCells] | some a1 => simp [Builtin.firstCells, loadCells, loadCellsFrom], by simp, by simp, by simp, fun i hi => absurd hi (by simp)⟩
    | rdx _ _ _ _ _ b off vs hz hc hv h =>
      refine ⟨(List.range ys.length).map vs, by simp [Builtin.lenOf], fun w' hw' => ?_, by simp [hl], hl, ?_, fun i hi => ?_⟩
      · refine firstCells_some (by simp [hl]) fun j hj => ?_
        rw [cell?_heap hw', hv j (by omega)]
        simp [show j < ys.length by omega]
      · intro u hu'
        simp only [List.mem_map, List.mem_range] at hu'
        obtain ⟨j, hj, rfl⟩ := hu'
        exact ((h j hj).one (h1 _ (List.getElem_mem hj))).1
      · exact ⟨vs i, by simp [hi], h i hi⟩
theorem Src.own {x : Operand} {t sz off m : Nat} {k : Blk} {ys : List AV} (hx : Ev C s x (.own t sz off m)) (hk : look t s.heap = some k) (hy : ys = (k.cells.drop off).take (m * sz))
    (hl : ys.length = m * sz) (h1 : ∀ c ∈ ys, c.one = true) (hst : k.lst = true ∨ ∀ c ∈ ys, c.still = true) : Src C s x sz m ys :=
  fun ι a w r => by
    rcases own_inv (hx ι a w r) with ⟨rfl, hu⟩ | ⟨b, cap, q, hu, ht, hn, hc, hs, ho⟩
    · have hl' : ys = [] := List.eq_nil_of_length_eq_zero (by simpa using hl)
      subst hl'
      rcases hu with hu | ⟨b, o, hu⟩
      · exact ⟨[], by simp [hu, Builtin.lenOf], fun w' _ => by simp [hu, Builtin.firstCells], by simp, by simp, by simp, fun i hi => absurd hi (by simp)⟩
      · refine ⟨[], by simp [hu, Builtin.lenOf], fun w' _ => ?_, by simp, by simp, by simp, fun i hi => absurd hi (by simp)⟩
        rw [hu]; exact firstCells_some (by simp) fun j hj => absurd hj (by simp)
    · obtain ⟨cur, hb, hlc, h⟩ := blk_inv r.core hk ht
      have hlen : off + m * sz ≤ k.cells.length ∨ m * sz = 0 := by
        rw [hy] at hl; simp at hl; omega
      have hget : ∀ i (hi : i < ys.length), ∃ h' : off + i < k.cells.length, ys[i] = k.cells[off + i] := fun i hi => by
        have h' : off + i < k.cells.length := by omega
        refine ⟨h', ?_⟩
        have : ys[i]? = k.cells[off + i]? := by rw [hy, List.getElem?_take, if_pos (by omega), List.getElem?_drop]
        rw [List.getElem?_eq_getElem hi, List.getElem?_eq_getElem h'] at this
        exact Option.some.inj this
      have hnl : ((cur.toList.drop off).take (m * sz)).length = m * sz := by simp; omega
      refine ⟨(cur.toList.drop off).take (m * sz), by simp [hu, Builtin.lenOf], fun w' hw' => ?_, hnl, hl, ?_, fun i hi => ?_⟩
      · rw [hu]
        refine firstCells_some hnl fun j hj => ?_
        rw [cell?_heap hw', cell_of_row w b (off + j) cur k.ty (0, 0) hb]
        rw [List.getElem?_take, if_pos hj, List.getElem?_drop]
        simp
      · intro u hu'
        obtain ⟨j, hj, rfl⟩ := List.mem_iff_getElem.1 hu'
        have hj' : j < ys.length := by rw [hl]; omega
        obtain ⟨h', e⟩ := hget j hj'
        obtain ⟨u, hu2, hvr⟩ := h (off + j) h'
        have e2 : ((cur.toList.drop off).take (m * sz))[j] = u := by
          have h3 : off + j < cur.size := by omega
          rw [Array.getElem?_eq_getElem h3] at hu2
          simp
          exact Option.some.inj hu2
        rw [e2]
        rw [← e] at hvr
        exact (hvr.one (h1 _ (List.getElem_mem hj'))).1
      · obtain ⟨h', e⟩ := hget i hi
        obtain ⟨u, hu2, hvr⟩ := h (off + i) h'
        refine ⟨u, ?_, ?_⟩
        · rw [List.getElem?_take, if_pos (by omega), List.getElem?_drop]
          simpa using hu2
        · rw [← e] at hvr
          rcases hst with hl' | hs'
          · simpa [hl'] using hvr
          · have := hs' _ (List.getElem_mem hi)
            cases hlst : k.lst with
            | true => simpa [hlst] using hvr
            | false => simp only [hlst, cond_false] at hvr; exact hvr.still this
theorem Src.str {x : Operand} {l : List UInt8} (hx : Ev C s x (.sc (.string (mkS l)))) : Src C s x 1 l.length (l.flatMap fun c => [.sc (.int .u8 c.toNat)]) := fun ι a w r => by
  refine ⟨l.map fun c => .int .u8 c.toNat, by simp [hx.sc r, Builtin.lenOf, mkS_size], fun w' _ => ?_, by simp, ?_, ?_, fun i hi => ?_⟩
  · rw [hx.sc r]
    have e : (mkS l).extract 0 l.length = mkS l := by
      have : l.length = (mkS l).size := (mkS_size l).symm
      rw [this]; exact ByteArray.extract_zero_size
    rw [Builtin.firstCells, e]; simp [mkS]
  · rw [flatMap_length (sz := 1) (fun _ => rfl)]
  · intro u hu; simp only [List.mem_map] at hu; obtain ⟨c, _, rfl⟩ := hu; rfl
  · have hi' : i < l.length := by rw [flatMap_length (sz := 1) (fun _ => rfl)] at hi; omega
    refine ⟨.int .u8 (l[i]).toNat, by simp [hi'], ?_⟩
    have e := flatMap_at (enc := fun c : UInt8 => [AV.sc (.int .u8 c.toNat)]) (sz := 1) (fun _ => rfl) l i (List.getElem?_eq_getElem hi') 0 (by omega)
    simp only [Nat.mul_one, Nat.add_zero, List.getElem?_cons_zero] at e
    rw [List.getElem?_eq_getElem hi] at e
    rw [Option.some.inj e]
    exact .sc _ _ _

/-- append, whatever is appended: in its place, or in a new block. -/
theorem run_append_any {P : Program} {w : World} {T U ty E : TypeId} {i : TypeInfo} {z : Value} (hT : P.underlying T = some (.slice E)) (hi : P.info? E = some i) (hz : i.zero = some z)
    (hU : ∃ D, P.underlying U = some D ∧ ∀ k, D ≠ .int k) (base : Option Addr) (n c : Nat) (x : Value) (m : Nat) (news olds : List Value)
    (hlen : (Builtin.lenOf x).run P w = .ok m w) (hfc : ∀ w', w'.heap = w.heap → (Builtin.firstCells i.size m x).run P w' = .ok news.toArray w')
    (hof : ∀ w', w'.heap = w.heap → (Builtin.firstCells i.size n (.slice base n c)).run P w' = .ok olds.toArray w')
    (h63 : n + m ≤ maxLen) (hbytes : (n + m) * i.bytes ≤ 140737488355328) :
    (n + m ≤ c → (Builtin.append_ #[T, U] ty #[.slice base n c, x]).run P w = match base with
      | none => .ok (.slice none (n + m) c) w
      | some a => ((storeCells (a.add (n * i.size)) news).run P w).andThen fun _ w' => .ok (.slice (some a) (n + m) c) w') ∧
    (c < n + m → ∃ c', n + m ≤ c' ∧ c' ≤ maxLen ∧ (Builtin.append_ #[T, U] ty #[.slice base n c, x]).run P w =
      .ok (.slice (some ⟨w.heap.size, 0, none⟩) (n + m) c') (w.drew.alloc (.cells (olds.toArray ++ news.toArray ++ Builtin.zeroCells z.cells (c' - (n + m))) E))) := by
  obtain ⟨D, hU, hD⟩ := hU
  have h63' : ¬ (9223372036854775807 < ((n : Int) + (m : Int))) := by simp only [maxLen] at h63; omega
  have f1 := hfc w rfl
  have f2 := hfc w.drew rfl
  have f3 := hof w.drew rfl
  constructor
  · intro hroom
    cases base with
    | none => simp [Builtin.append_, run_underlying hT, run_underlying hU, sizeOf, typeInfo, hi, hlen, hroom, f1]
    | some a => simp [Builtin.append_, run_underlying hT, run_underlying hU, sizeOf, typeInfo, hi, hlen, hroom, f1]
  · intro hg
    have hn : ¬ (n + m ≤ c) := by omega
    have h48' : ¬ (281474976710656 < Builtin.nextslicecap (n + m) c * i.bytes) := by
      have := growslice_fits (need := n + m) (old := c) hg hbytes; omega
    refine ⟨grownCap w (n + m) c E, grownCap_ge _ _ _ _, grownCap_le_maxLen _ _ _ _ h63, ?_⟩
    simp [Builtin.append_, run_underlying hT, run_underlying hU, sizeOf, typeInfo, zeroValue, hi, hz, hlen, hn, h63', h48', Question.forced, f2, f3, newRow, grownCap]
    congr 2
    apply Array.ext'
    simp [List.append_assoc]
end
end Go.AB

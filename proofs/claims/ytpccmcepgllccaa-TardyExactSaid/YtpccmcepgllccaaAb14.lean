/-
  AB, part 14: more operations.
-/
import Derived.Test.YtpccmcepgllccaaAb13
namespace Go.AB
open Go

/-- a byte in a row of bytes -/
def enc8 (c : UInt8) : List AV := [.sc (.int .u8 c.toNat)]
def encI (k : IntKind) (n : Int) : List AV := [.sc (.int k n)]
def encB (b : Bool) : List AV := [.sc (.bool b)]
theorem enc8_len (c : UInt8) : (enc8 c).length = 1 := rfl
theorem encI_len (k : IntKind) (n : Int) : (encI k n).length = 1 := rfl
theorem encB_len (b : Bool) : (encB b).length = 1 := rfl

section
variable {C : Ctx} {d : Nat} {ty : TypeId} {p : String} {e : Array Edge} {g : Option (Nat × Bool)} {s : St}

theorem fold_push (bs : List UInt8) : ∀ acc : ByteArray, (bs.map fun c => ((c.toNat : Nat) : Int)).foldl (fun r n => r.push (UInt8.ofNat n.toNat)) acc = ⟨acc.data ++ bs.toArray⟩ := by
  induction bs with
  | nil => intro acc; simp
  | cons b bs ih =>
    intro acc
    simp only [List.map_cons, List.foldl_cons, ih]
    congr 1
    apply Array.ext'
    simp [ByteArray.push]

theorem bytesStr_run {P : Program} {w : World} {b off cap : Nat} {bs : List UInt8} (h : ∀ j, j < bs.length → w.cell? ⟨b, off + j, none⟩ = (bs[j]?).map fun c => .int .u8 c.toNat) :
    (Conv.bytesToString (.slice (some ⟨b, off, none⟩) bs.length cap)).run P w = .ok (.string (mkS bs)) w := by
  have hl := run_loadCells (P := P) w ⟨b, off, none⟩ bs.length (fun j => (bs.map fun c => Value.int .u8 c.toNat).getD j undef) (fun j hj => by
    rw [Addr.add_plain, h j hj]
    simp [List.getElem?_eq_getElem hj, List.getD_eq_getElem?_getD])
  have e : (Array.range bs.length).map (fun j => (bs.map fun c => Value.int .u8 c.toNat).getD j undef) = ((bs.map fun c => ((c.toNat : Nat) : Int)).map (Value.int .u8)).toArray := by
    apply Array.ext'
    apply List.ext_getElem
    · simp
    · intro i h1 h2
      simp at h1
      simp [List.getD_eq_getElem?_getD, List.getElem?_eq_getElem h1]
  have e2 : ((List.range bs.length).map fun j => (bs.map fun c => Value.int .u8 c.toNat).getD j undef).toArray = ((bs.map fun c => ((c.toNat : Nat) : Int)).map (Value.int .u8)).toArray := by
    rw [← e]; apply Array.ext'; simp
  have hr := run_bytesToString (P := P) w ⟨b, off, none⟩ bs.length cap (bs.map fun c => ((c.toNat : Nat) : Int)) (by first | (rw [hl, e2]) | (rw [hl, e]))
  rw [hr, fold_push]
  simp [mkS]

theorem enc8_get {bs : List UInt8} {j : Nat} (hj : j < bs.length) : (bs.flatMap enc8)[j]? = some (.sc (.int .u8 (bs[j]).toNat)) := by
  have := flatMap_at (enc := enc8) enc8_len bs j (List.getElem?_eq_getElem hj) 0 (by omega)
  simpa [enc8] using this

theorem AStep.bytesStr {S T E : TypeId} {x : Operand} {β : Bool} {n : Nat} {bs : List UInt8} (hd : d < C.N) (hx : Ev C s x (.rd β n (bs.flatMap enc8))) (hS : C.P.underlying S = some (.slice E))
    (hE : C.P.underlying E = some (.int .u8)) (hT : C.P.underlying T = some .string) (hn : n = bs.length) : AStep C ⟨some d, .convert S T x, ty, p, e, g⟩ s (s.put d (.sc (.string (mkS bs)))) :=
  .val hd (fun _ h => by cases h) fun ι a w r => by
    subst hn
    refine ⟨.string (mkS bs), ?_, .sc _ _ _⟩
    rcases rd_inv (hx ι a w r) with ⟨⟨a0, hu⟩, hn, _⟩ | ⟨b, off, cap, vs, hu, hn, hc, hz, hv, h⟩
    · have : bs = [] := List.eq_nil_of_length_eq_zero hn
      subst this
      simp only [execOp, hu, Sem.run_bind, run_convert_bytes_string w S T E _ _ _ hS hE hT]
      cases a0 with
      | none => rfl
      | some a1 => simp [Conv.bytesToString, loadCells, loadCellsFrom]; rfl
    · have hr := bytesStr_run (P := C.P) (w := w) (b := b) (off := off) (cap := cap) (bs := bs) (fun j hj => by
        have hj' : j < (bs.flatMap enc8).length := by rw [flatMap_length enc8_len]; omega
        rw [hv j hj']
        have h1 := h j hj'
        have e1 : (bs.flatMap enc8)[j]'hj' = .sc (.int .u8 (bs[j]).toNat) := by
          have := enc8_get hj
          rw [List.getElem?_eq_getElem hj'] at this
          exact Option.some.inj this
        rw [e1] at h1
        rw [sc_inv h1, List.getElem?_eq_getElem hj]; rfl)
      simp only [execOp, hu, Sem.run_bind, run_convert_bytes_string w S T E _ _ _ hS hE hT, hr]
      rfl
theorem AStep.bytesStrOwn {S T E : TypeId} {x : Operand} {t n : Nat} {k : Blk} {bs : List UInt8} (hd : d < C.N) (hx : Ev C s x (.own t 1 0 n)) (hk : look t s.heap = some k) (hc : k.cells = bs.flatMap enc8)
    (hlst : k.lst = true) (hS : C.P.underlying S = some (.slice E)) (hE : C.P.underlying E = some (.int .u8)) (hT : C.P.underlying T = some .string) (hn : n = bs.length) :
    AStep C ⟨some d, .convert S T x, ty, p, e, g⟩ s (s.put d (.sc (.string (mkS bs)))) :=
  .val hd (fun _ h => by cases h) fun ι a w r => by
    subst hn
    refine ⟨.string (mkS bs), ?_, .sc _ _ _⟩
    rcases own_inv (hx ι a w r) with ⟨h0, hu⟩ | ⟨b, cap, q, hu, ht, hn, hcp, hs, ho⟩
    · have : bs = [] := List.eq_nil_of_length_eq_zero h0
      subst this
      rcases hu with hu | ⟨b, o, hu⟩
      · simp only [execOp, hu, Sem.run_bind, run_convert_bytes_string w S T E _ _ _ hS hE hT]
        rfl
      · have hr := bytesStr_run (P := C.P) (w := w) (b := b) (off := o) (cap := 0) (bs := []) (fun j hj => absurd hj (by simp))
        simp only [List.length_nil] at hr
        simp only [execOp, hu, Sem.run_bind, run_convert_bytes_string w S T E _ _ _ hS hE hT, hr]
        rfl
    · obtain ⟨cur, hb, hl, h⟩ := blk_inv r.core hk ht
      simp only [hlst, cond_true] at h
      have hr := bytesStr_run (P := C.P) (w := w) (b := b) (off := 0) (cap := cap) (bs := bs) (fun j hj => by
        have hj' : j < (bs.flatMap enc8).length := by rw [flatMap_length enc8_len]; omega
        obtain ⟨u, hu, hv⟩ := h j (by rw [hc]; exact hj')
        have e1 : k.cells[j]'(by rw [hc]; exact hj') = .sc (.int .u8 (bs[j]).toNat) := by
          have := enc8_get hj
          rw [← hc, List.getElem?_eq_getElem (by rw [hc]; exact hj')] at this
          exact Option.some.inj this
        rw [e1] at hv
        rw [Nat.zero_add, cell_of_row w b j cur k.ty (0, 0) hb, hu, sc_inv hv, List.getElem?_eq_getElem hj]; rfl)
      simp only [execOp, hu, Sem.run_bind, run_convert_bytes_string w S T E _ _ _ hS hE hT, hr]
      rfl

/-- An array in an owned block, as a row: arr[:]. -/
theorem AStep.sliceArr {sz n : Nat} {x : Operand} {T E : TypeId} {t : Nat} {k : Blk} (hd : d < C.N) (hx : Ev C s x (.ptr t 0)) (hT : C.P.underlying T = some (.array n E)) (hE : szOf C.P E sz)
    (hk : look t s.heap = some k) (hl : k.cells.length = n * sz) (hm : n ≤ maxLen) : AStep C ⟨some d, .slice T x none none none, ty, p, e, g⟩ s (s.put d (.own t sz 0 n)) :=
  .val hd (fun _ h => by cases h) fun ι a w r => by
    obtain ⟨b, hu, ht⟩ := ptr_inv (hx ι a w r)
    obtain ⟨cur, hb, hlc, _⟩ := blk_inv r.core hk ht
    refine ⟨.slice (some ⟨b, 0, none⟩) n n, ?_, .own _ _ _ _ _ _ b n cur.size ht (Nat.le_refl _) hm (by simp [bsz, hb]) (by omega)⟩
    simp only [execOp, hu, Option.map_none, Instr.sliceAt, Sem.run_bind, run_underlying hT, Result.andThen_ok, Instr.sureAddr, Sem.run_pure, Instr.sliceBounds, hE.run]
    by_cases h0 : n = 0
    · simp [h0]
    · simp [h0, Addr.add_plain]

/-- A slice as an array: [n]T(x), read alone. -/
theorem AStep.slToArrRd {x : Operand} {T E : TypeId} {β : Bool} {m n : Nat} {cells : List AV} (hd : d < C.N) (hx : Ev C s x (.rd β m cells)) (hT : C.P.underlying T = some (.array n E)) (h0 : 0 < n) (hm : n ≤ m) :
    AStep C ⟨some d, .sliceToArrayPointer T x, ty, p, e, g⟩ s (s.put d (.rptr β cells)) :=
  .val hd (fun _ h => by cases h) fun ι a w r => by
    rcases rd_inv (hx ι a w r) with ⟨hu, hn, _⟩ | ⟨b, off, cap, vs, hu, hn, hc, hz, hv, h⟩
    · omega
    · refine ⟨.pointer (some ⟨b, off, none⟩), ?_, .rptr _ _ _ _ _ _ _ hz hv h⟩
      simp only [execOp, hu, Instr.arrayAt, Sem.run_bind, run_underlying hT, Result.andThen_ok]
      rw [if_neg (by omega)]
      rfl

/-- A store of several cells into an owned block. -/
theorem AStep.storePA {x y : Operand} {T : TypeId} {t off n : Nat} {k : Blk} {vs cells : List AV} (hx : Ev C s x (.ptr t off)) (hy : Ev C s y (.agg vs)) (hT : szOf C.P T n) (hn : vs.length = n) (hk : look t s.heap = some k)
    (hlt : off + n ≤ k.cells.length) (h1 : ∀ v, v ∈ vs → v.one = true) (hst : k.lst = true → ∀ v, v ∈ vs → v.still = true) (hc : cells = splL k.cells off vs) :
    AStep C ⟨none, .store T x y, ty, p, e, g⟩ s ⟨s.env, updH t { k with cells := cells } s.heap⟩ :=
  .runSkip (fun _ h => by cases h) fun ι a w r => by
    subst hc
    obtain ⟨b, hu, ht⟩ := ptr_inv (hx ι a w r)
    obtain ⟨cur, hb, hl, h⟩ := blk_inv r.core hk ht
    have hvy := hy ι a w r
    generalize hyv : a.eval y = yv at hvy
    cases hvy with
    | agg _ _ _ us hul huv =>
    have hone : ∀ u, u ∈ us → u.oneCell' = true := by
      intro u hu'
      obtain ⟨i, hi, rfl⟩ := List.mem_iff_getElem.1 hu'
      exact ((huv i (hul ▸ hi)).one (h1 _ (List.getElem_mem (hul ▸ hi)))).1
    have hst' := run_storeCells_at C.P b off k.ty us 0 cur w hb (by omega) hone
    have hcs' : (cur.toList.take (off + 0) ++ us ++ cur.toList.drop (off + 0 + us.length)).toArray.size = cur.size := by simp; omega
    have hbig := setRow_heap w b cur (cur.toList.take (off + 0) ++ us ++ cur.toList.drop (off + 0 + us.length)).toArray k.ty (0, 0) hb
    have hoth : ∀ j, j ≠ b → (w.setRow b (cur.toList.take (off + 0) ++ us ++ cur.toList.drop (off + 0 + us.length)).toArray).heap[j]? = w.heap[j]? := fun j hj => setRow_other w b j _ hj
    refine ⟨w.setRow b (cur.toList.take (off + 0) ++ us ++ cur.toList.drop (off + 0 + us.length)).toArray, ι, ?_, ?_⟩
    · simp only [execOp, hu, hyv, Sem.run_bind, Instr.storeAt, Instr.sureAddr, Sem.run_pure, Result.andThen_ok, storeVar, hT.run, Value.cells]
      rw [if_neg (by simp [hul, hn])]
      simp only [hst', Result.andThen_ok]
    · generalize hW : w.setRow b (cur.toList.take (off + 0) ++ us ++ cur.toList.drop (off + 0 + us.length)).toArray = W at hbig hoth ⊢
      have hsz : ∀ x q, bsz w x = some q → bsz W x = some q := by
        intro x q hx
        by_cases e : x = b
        · subst e
          simp only [bsz, hb] at hx
          simp only [bsz, hbig, hcs']
          exact hx
        · simp only [bsz, hoth x e]; exact hx
      have hcell : ∀ β x o y', zone C s.heap ι w β x → w.cell? ⟨x, o, none⟩ = some y' → W.cell? ⟨x, o, none⟩ = some y' := by
        rintro β x o y' ⟨_, h2, _⟩ hy'
        have hne : x ≠ b := fun e => h2 t ⟨k, hk⟩ (by rw [ht, e])
        rw [World.cell?_of_block (a := ⟨x, o, none⟩) (hoth x hne)]; exact hy'
      refine r.write (w' := W) hk ht (by rw [← hW]; rfl) (by rw [← hW]; rfl) (by rw [← hW]; rfl) (by rw [← hW]; simp) hoth (k' := { k with cells := splL k.cells off vs }) hb hbig hcs' (by rw [hcs']; simp [splL]; omega) ?_
      intro i hi
      have base := splL_row (w := w) (Z := bif k.lst then fun _ => zone C s.heap ι w false else zone C s.heap ι w) (ι := bif k.lst then fun _ => none else ι) (xs := k.cells) (ys := vs) (us := cur.toList.take k.cells.length) (vs := us) (off := off)
        (by simp; omega) hul.symm (by omega) (fun j hj => by
          obtain ⟨u, hu', hvr⟩ := h j hj
          exact ⟨u, by rw [List.getElem?_take, if_pos hj]; simpa using hu', hvr⟩) (fun j hj => by
          refine ⟨us[j]'(hul ▸ hj), List.getElem?_eq_getElem (hul ▸ hj), ?_⟩
          have := huv j hj
          cases hlst : k.lst with
          | true => exact this.still (hst hlst _ (List.getElem_mem hj))
          | false => exact this)
      obtain ⟨u, hu', hvr⟩ := base.2 i hi
      refine ⟨u, ?_, hvr.mono hsz _ _ (fun _ _ h => h) ?_ (fun _ _ _ h => h)⟩
      · rw [← Array.getElem?_toList]
        simp only [splL] at hu' hi ⊢
        simp only [List.length_append, List.length_take, List.length_drop] at hi
        have hul' : us.length = n := by omega
        simp only [List.append_assoc] at hu' ⊢
        rw [List.take_take, show min off k.cells.length = off from by omega] at hu'
        rcases Nat.lt_or_ge i (off + us.length) with hlt' | hge
        · rw [← List.append_assoc, List.getElem?_append_left (by simp; omega)] at hu' ⊢
          exact hu'
        · rw [← List.append_assoc, List.getElem?_append_right (by simp; omega)] at hu' ⊢
          rw [List.getElem?_drop] at hu' ⊢
          rw [List.getElem?_take] at hu'
          split at hu'
          · simpa using hu'
          · cases hu'
      · cases k.lst with
        | true => exact fun _ x o y' hz => hcell false x o y' hz
        | false => exact hcell

theorem AStep.fieldA {x : Operand} {T : TypeId} {k o : Nat} {cells : List AV} {v : AV} (hd : d < C.N) (hx : Ev C s x (.agg cells))
    (hf : ∃ fs f, C.P.underlying T = some (.struct fs) ∧ fs[k]? = some f ∧ f.offset = o ∧ oneT C.P f.type) (hv : cells[o]? = some v) : AStep C ⟨some d, .field T x k, ty, p, e, g⟩ s (s.put d v) :=
  .val hd (fun _ h => by cases h) fun ι a w r => by
    obtain ⟨fs, f, h1, h2, rfl, h3⟩ := hf
    have h := hx ι a w r
    generalize hu : a.eval x = u at h
    cases h with
    | agg _ _ _ us hl huv =>
    have hlt := (List.getElem?_eq_some_iff.1 hv).1
    have hv' : cells[f.offset] = v := by rw [List.getElem?_eq_getElem hlt] at hv; exact Option.some.inj hv
    refine ⟨us[f.offset]'(hl ▸ hlt), ?_, hv' ▸ huv _ hlt⟩
    simp [execOp, hu, Instr.field, run_underlying h1, h2, asAgg, part, h3.run, List.getElem?_eq_getElem (hl ▸ hlt : f.offset < us.length)]
theorem AStep.indexA {x i : Operand} {T E : TypeId} {n : Nat} {k : IntKind} {j : Int} {cells : List AV} {v : AV} (hd : d < C.N) (hx : Ev C s x (.agg cells)) (hi : Ev C s i (.sc (.int k j)))
    (hT : C.P.underlying T = some (.array n E)) (hE : oneT C.P E) (hz : szOf C.P E 1) (h0 : 0 ≤ j) (h1 : j < n) (hv : cells[j.toNat]? = some v) : AStep C ⟨some d, .index T x i, ty, p, e, g⟩ s (s.put d v) :=
  .val hd (fun _ h => by cases h) fun ι a w r => by
    have h := hx ι a w r
    generalize hu : a.eval x = u at h
    cases h with
    | agg _ _ _ us hl huv =>
    have hlt := (List.getElem?_eq_some_iff.1 hv).1
    have hv' : cells[j.toNat] = v := by rw [List.getElem?_eq_getElem hlt] at hv; exact Option.some.inj hv
    refine ⟨us[j.toNat]'(hl ▸ hlt), ?_, hv' ▸ huv _ hlt⟩
    simp [execOp, hu, hi.sc r, Instr.index, asIntOf, run_underlying hT, h0, h1, hz.run, part, hE.run, List.getElem?_eq_getElem (hl ▸ hlt : j.toNat < us.length)]

theorem AStep.nilCheck {x : Operand} {v : AV} (hd : d < C.N) (hx : Ev C s x v) (hv : match v with | .ptr _ _ => True | .rptr _ _ => True | .clo (.func _) _ _ => True | _ => False) :
    AStep C ⟨some d, .nilCheck x, ty, p, e, g⟩ s (s.put d v) :=
  .val hd (fun _ h => by cases h) fun ι a w r => by
    have h := hx ι a w r
    refine ⟨a.eval x, ?_, h⟩
    generalize hu : a.eval x = u at h
    cases h with
    | ptr => simp [execOp, hu]
    | rptr => simp [execOp, hu]
    | clo _ _ f a c us vs _ _ _ _ =>
      cases f with
      | func f => simp [execOp, hu]
      | _ => simp at hv
    | _ => simp at hv

/-- operands in a row -/
inductive EvR (C : Ctx) (s : St) : List Operand → List AV → Prop
  | nil : EvR C s [] []
  | cons {x : Operand} {v : AV} {xs : List Operand} {vs : List AV} (h : Ev C s x v) (t : EvR C s xs vs) : EvR C s (x :: xs) (v :: vs)
theorem EvR.vrs {xs : List Operand} {vs : List AV} (h : EvR C s xs vs) {ι : Tags} {a : Act} {w : World} (r : Rel C s ι a w) :
    ∃ hl : (xs.map a.eval).length = vs.length, ∀ i (hi : i < vs.length), VR w (zone C s.heap ι w) ι (vs[i]'hi) ((xs.map a.eval)[i]'(hl ▸ hi)) := by
  induction h with
  | nil => exact ⟨rfl, fun i hi => absurd hi (by simp)⟩
  | cons h t ih =>
    obtain ⟨hl, hv⟩ := ih
    refine ⟨by simpa using hl, fun i hi => ?_⟩
    cases i with
    | zero => exact h ι a w r
    | succ i => simpa using hv i (by simpa using hi)
theorem AStep.makeFunc {fn : Go.Fn} {first captured : Array Operand} {us vs : List AV} (hd : d < C.N) (h1 : EvR C s first.toList us) (h2 : EvR C s captured.toList vs) :
    AStep C ⟨some d, .makeFunc fn first captured, ty, p, e, g⟩ s (s.put d (.clo fn us vs)) :=
  .val hd (fun _ h => by cases h) fun ι a w r => by
    obtain ⟨l1, v1⟩ := h1.vrs r
    obtain ⟨l2, v2⟩ := h2.vrs r
    refine ⟨_, rfl, ?_⟩
    have e1 : first.map a.eval = (first.toList.map a.eval).toArray := by rw [← List.map_toArray]
    have e2 : captured.map a.eval = (captured.toList.map a.eval).toArray := by rw [← List.map_toArray]
    rw [e1, e2]
    exact .clo _ _ _ _ _ _ _ l1 l2 v1 v2
end
end Go.AB

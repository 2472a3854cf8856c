/-
  AB, part 36: pointers compared with nil; guards that are known within an open order.
-/
import Derived.Test.YtpccmcepgllccaaAb35
import Derived.Laws.IdiomStrings
namespace Go.AB
open Go

section
variable {C : Ctx} {s : St} {d : Nat} {ty : TypeId} {p : String} {e : Array Edge} {g : Option (Nat × Bool)}
theorem eqPtr_run {P : Program} {w : World} {T E : TypeId} {x : Operand} {o : Option Addr} (hT : P.underlying T = some (.pointer E)) (neg : Bool) :
    (do eqGuard (bif neg then .neq else .eql) T x (.const (.pointer none)) (.pointer o) (.pointer none); binOp (bif neg then .neq else .eql) T (.pointer o) (.pointer none) : Sem Value).run P w = .ok (.bool (bif neg then !o.isNone else o.isNone)) w := by
  have key : (Op.equal T (.pointer o) (.pointer none)).run P w = .ok o.isNone w := by
    have hm : Op.equal T (.pointer o) (.pointer none) = Op.equalIn (Op.maxDepth - 1 + 1) T (.pointer o) (.pointer none) := rfl
    rw [hm]
    cases o <;> simp [Op.equalIn, run_underlying hT]
  cases neg <;> simp [eqGuard, binOp, key]
theorem AStep.ptrNil {x : Operand} {T E U : TypeId} {t off : Nat} (hd : d < C.N) (hx : Ev C s x (.ptr t off)) (hT : C.P.underlying T = some (.pointer E)) (neg : Bool) :
    AStep C ⟨some d, .binOp (bif neg then .neq else .eql) T x (.const (.pointer none)) U, ty, p, e, g⟩ s (s.put d (.sc (.bool neg))) :=
  .val hd (fun _ h => by cases h) fun ι a w r => by
    obtain ⟨b, hu, _⟩ := ptr_inv (hx ι a w r)
    refine ⟨.bool neg, ?_, .sc _ _ _⟩
    have := eqPtr_run (w := w) (x := x) (o := some ⟨b, off, none⟩) hT neg
    have hn : a.eval (.const (.pointer none)) = .pointer none := rfl
    simp only [execOp, hu, hn]
    simp only [Sem.run_bind] at this ⊢
    rw [this]
    cases neg <;> simp
theorem AStep.nilNil {x : Operand} {T E U : TypeId} (hd : d < C.N) (hx : Ev C s x (.sc (.pointer none))) (hT : C.P.underlying T = some (.pointer E)) (neg : Bool) :
    AStep C ⟨some d, .binOp (bif neg then .neq else .eql) T x (.const (.pointer none)) U, ty, p, e, g⟩ s (s.put d (.sc (.bool (!neg)))) :=
  .val hd (fun _ h => by cases h) fun ι a w r => by
    refine ⟨.bool (!neg), ?_, .sc _ _ _⟩
    have := eqPtr_run (w := w) (x := x) (o := none) hT neg
    have hn : a.eval (.const (.pointer none)) = .pointer none := rfl
    simp only [execOp, hx.sc r, hn]
    simp only [Sem.run_bind] at this ⊢
    rw [this]
    cases neg <;> simp
end

section
variable {C : Ctx} {A : Array Oper} {op : Op} {ty : TypeId} {p : String} {e : Array Edge} {need : List (Nat × AV)} {H H' : List (Nat × Blk)} {j dj : Nat} {b want a0 : Bool} {dv : Option (Nat × AV)} {T : List Nat}
theorem OStep.known {d : Option Nat} {c : Bool} {s s' : St} (hw : ∀ ι a w, Rel C s ι a w → (yielded A a.tmps j == some want) = c) (hc : c = true) (h : OStep C A ⟨d, op, ty, p, e, none⟩ s s') :
    OStep C A ⟨d, op, ty, p, e, some (j, want)⟩ s s' := fun ι a w K Q r hk => by
  have hw : Region.wanted ⟨d, op, ty, p, e, some (j, want)⟩ (yielded A a.tmps) = c := hw ι a w r
  rw [hw, if_pos hc]
  have := h ι a w K Q r hk
  simp only [Region.wanted, if_true] at this
  exact this
theorem DStep.known1 {d : Option Nat} (hj : (A[j]?).bind (·.dst) = some dj) (hdj : dj < C.N) (hb : ∀ E, Need need E → look dj E = some (.sc (.bool b))) (hc : (bif want then b else !b) = true)
    (h : DStep C A ⟨d, op, ty, p, e, none⟩ need H dv T H') : DStep C A ⟨d, op, ty, p, e, some (j, want)⟩ need H dv T H' := fun E hE =>
  let ⟨E', hos, q⟩ := h E hE
  ⟨E', hos.known (fun _ _ _ r => wanted1 r hj hdj (hb E hE)) hc, q⟩
theorem DStep.known2 {d : Option Nat} (hj : (A[j]?).bind (·.dst) = some dj) (hdj : dj < C.N) (hb : ∀ E, Need need E → look dj E = some (.gd a0 (.sc (.bool b)))) (hc : (a0 && (bif want then b else !b)) = true)
    (h : DStep C A ⟨d, op, ty, p, e, none⟩ need H dv T H') : DStep C A ⟨d, op, ty, p, e, some (j, want)⟩ need H dv T H' := fun E hE =>
  let ⟨E', hos, q⟩ := h E hE
  ⟨E', hos.known (fun _ _ _ r => wanted2 r hj hdj (hb E hE)) hc, q⟩
theorem OStep.off {d : Nat} {c : Bool} {s : St} (hw : ∀ ι a w, Rel C s ι a w → (yielded A a.tmps j == some want) = c) (hc : c = false) (hd : d < C.N) :
    OStep C A ⟨some d, op, ty, p, e, some (j, want)⟩ s (s.put d .any) := fun ι a w K Q r hk => by
  have hw : Region.wanted ⟨some d, op, ty, p, e, some (j, want)⟩ (yielded A a.tmps) = c := hw ι a w r
  rw [hw, if_neg (by simp [hc])]
  exact ⟨fun _ _ => trivial, hk ι _ w (r.putAny hd)⟩
theorem DStep.off1 {d : Nat} (hj : (A[j]?).bind (·.dst) = some dj) (hdj : dj < C.N) (hd : d < C.N) (hb : ∀ E, Need need E → look dj E = some (.sc (.bool b))) (hc : (bif want then b else !b) = false) :
    DStep C A ⟨some d, op, ty, p, e, some (j, want)⟩ need H (some (d, .any)) [] H := fun E hE =>
  ⟨_, OStep.off (fun _ _ _ r => wanted1 r hj hdj (hb E hE)) hc hd, fun d' v' hd => by cases hd; simp [look_cons_self], fun x v' hx hl _ => by simp [look_cons_ne (hx d _ rfl), hl]⟩
theorem DStep.off2 {d : Nat} (hj : (A[j]?).bind (·.dst) = some dj) (hdj : dj < C.N) (hd : d < C.N) (hb : ∀ E, Need need E → look dj E = some (.gd a0 (.sc (.bool b)))) (hc : (a0 && (bif want then b else !b)) = false) :
    DStep C A ⟨some d, op, ty, p, e, some (j, want)⟩ need H (some (d, .any)) [] H := fun E hE =>
  ⟨_, OStep.off (fun _ _ _ r => wanted2 r hj hdj (hb E hE)) hc hd, fun d' v' hd => by cases hd; simp [look_cons_self], fun x v' hx hl _ => by simp [look_cons_ne (hx d _ rfl), hl]⟩
end
end Go.AB
namespace Go.AB
open Go
/-- a block more -/
theorem Rel.grow {C : Ctx} {s : St} {ι : Tags} {a : Act} {w w' : World} (r : Rel C s ι a w) {o : Obj} (hos : w'.os = w.os) (htape : w'.tape = w.tape) (hout : w'.output = w.output) (hh : w'.heap = w.heap.push o) : Rel C s ι a w' := by
  have hold : ∀ b, b < w.heap.size → w'.heap[b]? = w.heap[b]? := fun b hb => by rw [hh, Array.getElem?_push, if_neg (by omega)]
  have hsz : ∀ b n, bsz w b = some n → bsz w' b = some n := by
    intro b n hb
    have hb1 : b < w.heap.size := by
      rcases Nat.lt_or_ge b w.heap.size with h | h
      · exact h
      · simp [bsz, Array.getElem?_eq_none h] at hb
    simp only [bsz, hold b hb1]; exact hb
  have hZ : ∀ β b, zone C s.heap ι w β b → zone C s.heap ι w' β b := fun β b h => ⟨by rw [hh]; simp; exact Nat.lt_succ_of_lt h.1, h.2⟩
  have hcell : ∀ β b o u, zone C s.heap ι w β b → w.cell? ⟨b, o, none⟩ = some u → w'.cell? ⟨b, o, none⟩ = some u := by
    intro β b o u hz hu
    rw [World.cell?_of_block (a := ⟨b, o, none⟩) (hold b hz.1)]; exact hu
  refine ⟨r.size, r.dfr, fun d v hl => (r.env d v hl).mono hsz _ _ hZ hcell (fun _ _ _ h => h), ⟨fun t k hk => ?_, r.core.inj, r.core.own, ?_⟩, r.stab⟩
  · have h0 := r.core.blk t k hk
    unfold BlkR at h0 ⊢
    cases hx : ι t with
    | none => simp only [hx] at h0 ⊢; exact h0
    | some b =>
      simp only [hx] at h0 ⊢
      obtain ⟨cur, q1, q2, q3⟩ := h0
      refine ⟨cur, by rw [hold b (Array.getElem?_eq_some_iff.1 q1).1]; exact q1, q2, fun i hi => ?_⟩
      obtain ⟨u, hu, hv⟩ := q3 i hi
      refine ⟨u, hu, hv.mono hsz _ _ ?_ ?_ (fun _ _ _ h => h)⟩
      · cases k.lst with
        | true => exact fun _ b hb => hZ _ _ hb
        | false => exact hZ
      · cases k.lst with
        | true => exact fun _ b o u hb => hcell _ b o u hb
        | false => exact hcell
  · have tr := r.core.tr
    exact ⟨hos.trans tr.os, htape.trans tr.tape, hout.trans tr.output, by rw [hh]; simp; exact Nat.le_succ_of_le tr.size, fun k hk hT => by rw [hold k (Nat.lt_of_lt_of_le hk tr.size)]; exact tr.block k hk hT, fun b n e => hsz _ _ (tr.bsz _ _ e)⟩
/-- []byte(s): a new row, only read -/
theorem AStep.strBytes {C : Ctx} {d : Nat} {ty : TypeId} {p : String} {e : Array Edge} {g : Option (Nat × Bool)} {s : St} {S T E : TypeId} {x : Operand} {l : List UInt8} (hd : d < C.N) (hx : Ev C s x (.sc (.string (Go.AB.mkS l))))
    (hS : C.P.underlying S = some .string) (hT : C.P.underlying T = some (.slice E)) (hE : C.P.underlying E = some (.int .u8)) (hl : l.length ≤ 1099511627776) :
    AStep C ⟨some d, .convert S T x, ty, p, e, g⟩ s (s.put d (.rd false l.length (l.flatMap enc8))) :=
  .run (fun _ h => by cases h) fun ι a w r => by
    have hrun := run_bytes_of_string w S T E (Go.AB.mkS l) hS hT hE
    have hsize := mkS_size l
    rw [hsize] at hrun
    generalize hc : grownCap w l.length 0 E = cap at hrun
    have hc1 : l.length ≤ cap := by rw [← hc]; exact grownCap_ge _ _ _ _
    have hc2 : cap ≤ maxLen := by rw [← hc]; exact grownCap_le_maxLen _ _ _ _ (by simp only [maxLen]; omega)
    refine ⟨_, _, ι, by simp only [execOp, hx.sc r, Sem.run_bind, hrun]; rfl, ?_⟩
    have r2 := r.grow (w' := w.drew.alloc (.cells (bytesRow (Go.AB.mkS l) cap) E ((bytesRow (Go.AB.mkS l) cap).size, (bytesRow (Go.AB.mkS l) cap).size + 1))) (o := .cells (bytesRow (Go.AB.mkS l) cap) E ((bytesRow (Go.AB.mkS l) cap).size, (bytesRow (Go.AB.mkS l) cap).size + 1)) rfl rfl rfl rfl
    refine r2.put hd ?_
    have hheap : (w.drew.alloc (.cells (bytesRow (Go.AB.mkS l) cap) E ((bytesRow (Go.AB.mkS l) cap).size, (bytesRow (Go.AB.mkS l) cap).size + 1))).heap = w.heap.push (.cells (bytesRow (Go.AB.mkS l) cap) E ((bytesRow (Go.AB.mkS l) cap).size, (bytesRow (Go.AB.mkS l) cap).size + 1)) := rfl
    generalize hW : w.drew.alloc (.cells (bytesRow (Go.AB.mkS l) cap) E ((bytesRow (Go.AB.mkS l) cap).size, (bytesRow (Go.AB.mkS l) cap).size + 1)) = W at r2 hheap
    have hlen : (l.flatMap enc8).length = l.length := by rw [flatMap_length enc8_len]; omega
    refine .rd _ _ false _ _ w.heap.size 0 cap (fun i => (l[i]?).elim undef fun c => .int .u8 (c.toNat : Int)) (fun _ => ⟨by rw [hheap]; simp, fun t ht hb => ?_, ?_⟩) hc1 hc2 (fun i hi => ?_) (fun i hi => ?_)
    · obtain ⟨k, hk⟩ := ht
      have h0 := r.core.blk t k hk
      unfold BlkR at h0
      rw [hb] at h0
      obtain ⟨cur, q1, _⟩ := h0
      have := (Array.getElem?_eq_some_iff.1 q1).1
      omega
    · exact .inr (.inr (.inl r.core.tr.size))
    · rw [hlen] at hi
      have hb : W.heap[w.heap.size]? = some (.cells (bytesRow (Go.AB.mkS l) cap) E ((bytesRow (Go.AB.mkS l) cap).size, (bytesRow (Go.AB.mkS l) cap).size + 1)) := by rw [hheap]; simp
      rw [cell_of_row W w.heap.size (0 + i) _ E _ hb]
      unfold bytesRow Go.AB.mkS
      rw [List.getElem?_eq_getElem hi]
      simp [hi]
      rw [Array.getElem?_append_left (by simp; exact hi)]
      simp [hi]
    · rw [hlen] at hi
      have e1 := enc8_get hi
      rw [List.getElem?_eq_getElem (by rw [hlen]; exact hi)] at e1
      rw [Option.some.inj e1, List.getElem?_eq_getElem hi]
      exact .sc _ _ _
end Go.AB
namespace Go.AB
open Go
section
variable {C : Ctx} {s : St} {d : Nat} {ty : TypeId} {p : String} {e : Array Edge} {g : Option (Nat × Bool)} {x : Operand} {T E U : TypeId}
theorem AStepE.eqNil0 {β : Bool} {n : Nat} {cells : List AV} (hd : d < C.N) (hx : Ev C s x (.rd β n cells)) (hT : C.P.underlying T = some (.slice E)) :
    AStepE C ⟨some d, .binOp .eql T x (.const (.slice none 0 0)) U, ty, p, e, g⟩ s (fun q => s.put d (.sc (.bool (decide (n = 0 ∧ q = 0))))) := AStepE.eqNil hd hx hT false
theorem AStepE.eqNil1 {β : Bool} {n : Nat} {cells : List AV} (hd : d < C.N) (hx : Ev C s x (.rd β n cells)) (hT : C.P.underlying T = some (.slice E)) :
    AStepE C ⟨some d, .binOp .neq T x (.const (.slice none 0 0)) U, ty, p, e, g⟩ s (fun q => s.put d (.sc (.bool (!decide (n = 0 ∧ q = 0))))) := AStepE.eqNil hd hx hT true
theorem AStep.ptrNil0 {t off : Nat} (hd : d < C.N) (hx : Ev C s x (.ptr t off)) (hT : C.P.underlying T = some (.pointer E)) :
    AStep C ⟨some d, .binOp .eql T x (.const (.pointer none)) U, ty, p, e, g⟩ s (s.put d (.sc (.bool false))) := AStep.ptrNil hd hx hT false
theorem AStep.ptrNil1 {t off : Nat} (hd : d < C.N) (hx : Ev C s x (.ptr t off)) (hT : C.P.underlying T = some (.pointer E)) :
    AStep C ⟨some d, .binOp .neq T x (.const (.pointer none)) U, ty, p, e, g⟩ s (s.put d (.sc (.bool true))) := AStep.ptrNil hd hx hT true
theorem AStep.nilNil0 (hd : d < C.N) (hx : Ev C s x (.sc (.pointer none))) (hT : C.P.underlying T = some (.pointer E)) :
    AStep C ⟨some d, .binOp .eql T x (.const (.pointer none)) U, ty, p, e, g⟩ s (s.put d (.sc (.bool true))) := AStep.nilNil hd hx hT false
theorem AStep.nilNil1 (hd : d < C.N) (hx : Ev C s x (.sc (.pointer none))) (hT : C.P.underlying T = some (.pointer E)) :
    AStep C ⟨some d, .binOp .neq T x (.const (.pointer none)) U, ty, p, e, g⟩ s (s.put d (.sc (.bool false))) := AStep.nilNil hd hx hT true
end
end Go.AB
namespace Go.AB
open Go
section
variable {C : Ctx} {s : St} {d : Nat} {ty : TypeId} {p : String} {e : Array Edge} {g : Option (Nat × Bool)}
section
variable {T U : TypeId} {x y : Operand} {us vs : List Int} {fs : Array Field} (hd : d < C.N) (hx : Ev C s x (.agg (us.map fun v => .sc (.int .i64 v)))) (hy : Ev C s y (.agg (vs.map fun v => .sc (.int .i64 v))))
  (hT : C.P.underlying T = some (.struct fs)) (hf : FsI C.P 0 fs.toList) (hs : C.P.stoodInHeld T = false) (hG : C.P.eqGuardType C.P.depth T = false) (h1 : us.length = fs.size) (h2 : vs.length = fs.size)
include hd hx hy hT hf hs hG h1 h2
theorem AStep.strCmp0 : AStep C ⟨some d, .binOp .eql T x y U, ty, p, e, g⟩ s (s.put d (.sc (.bool (us == vs)))) := AStep.strCmp hd hx hy hT hf hs hG h1 h2 false
theorem AStep.strCmp1 : AStep C ⟨some d, .binOp .neq T x y U, ty, p, e, g⟩ s (s.put d (.sc (.bool (!(us == vs))))) := AStep.strCmp hd hx hy hT hf hs hG h1 h2 true
end
section
variable {α : Type} [DecidableEq α] {enc : α → List AV} {k : IntKind} {f : α → Int} {T E U : TypeId} {x y : Operand} {xs ys : List α} {n : Nat} (hd : d < C.N) (hx : Ev C s x (.agg (xs.flatMap enc))) (hy : Ev C s y (.agg (ys.flatMap enc)))
    (henc : ∀ y, enc y = [.sc (.int k (f y))]) (hf : ∀ a b, f a = f b → a = b) (hT : C.P.underlying T = some (.array n E)) (hE : C.P.underlying E = some (.int k)) (hz : szOf C.P E 1) (hG : C.P.eqGuardType C.P.depth T = false)
    (h1 : xs.length = n) (h2 : ys.length = n)
include hd hx hy henc hf hT hE hz hG h1 h2
theorem AStep.arrCmp0 : AStep C ⟨some d, .binOp .eql T x y U, ty, p, e, g⟩ s (s.put d (.sc (.bool (xs == ys)))) := AStep.arrCmp hd hx hy henc hf hT hE hz hG h1 h2 false
theorem AStep.arrCmp1 : AStep C ⟨some d, .binOp .neq T x y U, ty, p, e, g⟩ s (s.put d (.sc (.bool (!(xs == ys))))) := AStep.arrCmp hd hx hy henc hf hT hE hz hG h1 h2 true
end
end
end Go.AB
namespace Go.AB
open Go
/-- some of the blocks, as what is handed back -/
theorem Res.sub {C : Ctx} {fn : Func} {s : St} {r : AV} {H H2 : List (Nat × Blk)} (hs : SubH H2 H) (h : Res C fn s r H) : Res C fn s r H2 := fun ι a w rel => by
  obtain ⟨v, ι', q1, q2, q3, q4, q5⟩ := h ι a w rel
  have hhas : ∀ t, has t H2 → has t H := fun t ⟨k, hk⟩ => ⟨k, hs.look hk⟩
  have hZ : ∀ β b, zone C H ι' w β b → zone C H2 ι' w β b := fun β b hz => ⟨hz.1, fun t ht => hz.2.1 t (hhas t ht), hz.2.2⟩
  refine ⟨v, ι', q1, q2, ⟨fun t k hk => ?_, fun t t' b h1 h2 => q3.inj t t' b (hhas t h1) (hhas t' h2), fun t b ht => q3.own t b (hhas t ht), q3.tr⟩, q4.mono (fun _ _ h => h) _ _ hZ (fun _ _ _ _ _ h => h) (fun _ _ _ h => h), q5⟩
  have h0 := q3.blk t k (hs.look hk)
  unfold BlkR at h0 ⊢
  cases hx : ι' t with
  | none => simp only [hx] at h0 ⊢; exact h0
  | some b =>
    simp only [hx] at h0 ⊢
    obtain ⟨cur, p1, p2, p3⟩ := h0
    refine ⟨cur, p1, p2, fun i hi => ?_⟩
    obtain ⟨u, hu, hv⟩ := p3 i hi
    refine ⟨u, hu, hv.mono (fun _ _ h => h) _ _ ?_ (fun _ _ _ _ _ h => h) (fun _ _ _ h => h)⟩
    cases k.lst with
    | true => exact fun _ b hb => hZ _ _ hb
    | false => exact hZ
end Go.AB

/-
  AB, part 34: slices with three bounds (nothing behind their end), and what is appended to them.
-/
import Derived.Test.YtpccmcepgllccaaAb33
namespace Go.AB
open Go

theorem sliceAt_slice3 {P : Program} {w : World} {T E : TypeId} (hT : P.underlying T = some (.slice E)) {sz : Nat} (hE : szOf P E sz) (a : Option Addr) (n c : Nat) (lo : Option Value) (l h : Nat) (k1 k2 : IntKind)
    (hlo : (lo = none ∧ l = 0) ∨ ∃ k, lo = some (.int k l)) (h1 : l ≤ h) (h2 : h ≤ c) :
    (Instr.sliceAt T (.slice a n c) lo (some (.int k1 h)) (some (.int k2 h))).run P w = .ok (.slice (if h = l then a else a.map (·.add (l * sz))) (h - l) (h - l)) w := by
  have e1 : ∀ k code y, l ≤ y → (Instr.sliceBound (.int k l) y code).run P w = .ok l w := fun k code y hy => by
    have := run_sliceBound (P := P) w k (l : Int) y code (by omega) (by omega); simpa using this
  have e2 : ∀ k code y, h ≤ y → (Instr.sliceBound (.int k h) y code).run P w = .ok h w := fun k code y hy => by
    have := run_sliceBound (P := P) w k (h : Int) y code (by omega) (by omega); simpa using this
  rcases hlo with ⟨rfl, rfl⟩ | ⟨k3, rfl⟩ <;>
    simp [Instr.sliceAt, Instr.slice, run_underlying hT, Instr.sliceBounds, hE.run, e1, e2, h1, h2]

section
variable {C : Ctx} {d : Nat} {ty : TypeId} {p : String} {e : Array Edge} {g : Option (Nat × Bool)} {s : St}
theorem AStep.slX {α : Type} {enc : α → List AV} {sz : Nat} {x y z : Operand} {lo : Option Operand} {T E : TypeId} {β : Bool} {xs ys : List α} {n : Nat} {l h : Int} {k1 k2 : IntKind} (hd : d < C.N)
    (hx : Ev C s x (.rd β n (xs.flatMap enc))) (hT : C.P.underlying T = some (.slice E)) (hE : szOf C.P E sz) (henc : ∀ y, (enc y).length = sz) (hn : n = xs.length)
    (hl : BdI C s lo 0 l) (hy : Ev C s y (.sc (.int k1 h))) (hz : Ev C s z (.sc (.int k2 h))) (hs : slc xs l h = some ys) :
    AStep C ⟨some d, .slice T x lo (some y) (some z), ty, p, e, g⟩ s (s.put d (.rdx β ys.length (ys.flatMap enc))) := by
  obtain ⟨h1, h2, h3, rfl, h5⟩ := slcS hs
  subst hn
  refine .val hd (fun _ h => by cases h) fun ι a w r => ?_
  have hlv := (BdI.nat (d := 0) hl h1).val r
  have hyv : a.eval y = .int k1 (h.toNat : Nat) := by rw [hy.sc r, Int.toNat_of_nonneg (by omega)]
  have hzv : a.eval z = .int k2 (h.toNat : Nat) := by rw [hz.sc r, Int.toNat_of_nonneg (by omega)]
  rw [h5]
  have hlh : l.toNat ≤ h.toNat := by omega
  have hle : h.toNat ≤ xs.length := by omega
  generalize l.toNat = L at *
  generalize h.toNat = H at *
  rcases rd_inv (hx ι a w r) with ⟨⟨a0, hu⟩, hn, hcs⟩ | ⟨b, off, cap, vs, hu, hn, hc, hz', hv, hvr⟩
  · have hrun := sliceAt_slice3 (P := C.P) (w := w) hT hE a0 0 0 (lo.map a.eval) L H k1 k2 hlv hlh (by omega)
    have : xs = [] := List.eq_nil_of_length_eq_zero hn
    subst this
    have hl0 : H = 0 := by simpa using hle
    subst hl0
    have hl0 : L = 0 := by omega
    subst hl0
    refine ⟨.slice a0 0 0, ?_, ?_⟩
    · have hrun' : (Instr.sliceAt T (.slice a0 0 0) (lo.map a.eval) (some (.int k1 0)) (some (.int k2 0))).run C.P w = .ok (.slice a0 0 0) w := by simpa using hrun
      simp [execOp, hu, hyv, hzv]
      rw [hrun']
      rfl
    · simp
      exact .rdxnil _ _ _ _
  · have hrun := sliceAt_slice3 (P := C.P) (w := w) hT hE (Option.some ⟨b, off, Option.none⟩) xs.length cap (lo.map a.eval) L H k1 k2 hlv hlh (by omega)
    have hsub : ∀ i, i < (((xs.drop L).take (H - L)).flatMap enc).length → (((xs.drop L).take (H - L)).flatMap enc)[i]? = (xs.flatMap enc)[L * sz + i]? := fun i hi => by
      rw [← flatMap_take henc, ← flatMap_drop henc] at hi ⊢
      rw [List.length_take] at hi
      rw [List.getElem?_take, if_pos (by omega), List.getElem?_drop]
    obtain ⟨q1, q2⟩ := VR.part (Z := fun _ => zone C s.heap ι w β) hv hvr hsub
    by_cases hcl : H = L
    · subst hcl
      refine ⟨.slice (Option.some ⟨b, off, Option.none⟩) (H - H) (H - H), ?_, ?_⟩
      · simp [execOp, hu, hyv, hzv]
        rw [hrun]
        simp
      · rw [Nat.sub_self]
        simp
        exact .rdxnil _ _ _ _
    · refine ⟨.slice (Option.some ⟨b, off + L * sz, Option.none⟩) (H - L) (H - L), ?_, ?_⟩
      · simp [execOp, hu, hyv, hzv]
        rw [hrun]
        simp [hcl, Addr.add_plain]
      · refine .rdx _ _ _ _ _ _ _ _ (fun hne => hz' fun hnil => hne ?_) (by omega) q1 q2
        have hlen := flatMap_length henc ((xs.drop L).take (H - L))
        have hlen2 := flatMap_length henc xs
        rw [hnil] at hlen2
        rw [List.length_take, List.length_drop] at hlen
        apply List.eq_nil_of_length_eq_zero
        rw [hlen]
        rcases Nat.eq_zero_or_pos sz with h | hpos
        · simp [h]
        · have : xs.length = 0 := by
            rcases Nat.eq_zero_or_pos xs.length with h | h
            · exact h
            · have := Nat.mul_pos h hpos
              rw [← hlen2] at this
              exact absurd this (by simp)
          simp [this]

/-- append to a slice with nothing behind its end: a new block -/
theorem AStep.appX {α : Type} {enc : α → List AV} {x y : Operand} {T U E : TypeId} {t sz by_ n m : Nat} {β : Bool} {xs ys zs : List α} (hd : d < C.N) (hK : t ∉ C.K) (hx : Ev C s x (.rdx β n (xs.flatMap enc))) (hβ : β = false ∨ ∀ c ∈ xs.flatMap enc, c.scal = true)
    (hy : Src C s y sz m (ys.flatMap enc)) (hT : C.P.underlying T = some (.slice E)) (hU : ∃ D, C.P.underlying U = some D ∧ ∀ k, D ≠ .int k) (hE : elT C.P E sz by_)
    (henc : ∀ y, (enc y).length = sz) (hn : n = xs.length) (hm : m = ys.length) (hb : by_ ≤ 128) (hne : ys.length ≠ 0) (hz : apd xs ys = some zs) :
    AStep C ⟨some d, .call { callee := .builtin .append, args := #[x, y], argTypes := #[T, U] }, ty, p, e, g⟩ s (s.newP d t ⟨E, true, zs.flatMap enc⟩ (.own t sz 0 zs.length)) := by
  obtain ⟨h1, rfl, h3⟩ := apdS hz
  subst hn hm
  have hbytes : (xs.length + ys.length) * by_ ≤ 140737488355328 := by
    have : (xs.length + ys.length) * by_ ≤ 1099511627776 * 128 := Nat.mul_le_mul h1 hb
    omega
  have h63 : xs.length + ys.length ≤ maxLen := by simp only [maxLen]; omega
  have hl := flatMap_length henc xs
  have hlxy := flatMap_length henc (xs ++ ys)
  rw [h3]
  refine .run (fun _ h => by cases h) fun ι a w r => ?_
  obtain ⟨i, z, hi, hz, hsz, hby, hzs⟩ := hE
  subst hsz hby
  obtain ⟨news, n1, n2, n3, n4, n5, n6⟩ := hy ι a w r
  have hexec : ∀ base n c, a.eval x = .slice base n c → (execOp a.eval ⟨some d, .call { callee := .builtin .append, args := #[x, y], argTypes := #[T, U] }, ty, p, e, g⟩).run C.P w =
      ((Builtin.append_ #[T, U] ty #[.slice base n c, a.eval y]).run C.P w).andThen fun v w' => .ok (.value v) w' := by
    intro base n c hu
    simp [execOp, resolve, invoke, builtin, hu]
  have hany := fun base c olds => run_append_any (ty := ty) hT hi hz hU base xs.length c (a.eval y) ys.length news olds n1 n2
  have grow : ∀ (base : Option Addr) (c : Nat) (olds : List Value), a.eval x = .slice base xs.length c → c < xs.length + ys.length →
      (∀ w', w'.heap = w.heap → (Builtin.firstCells i.size xs.length (.slice base xs.length c)).run C.P w' = .ok olds.toArray w') → olds.length = xs.length * i.size →
      (∀ j (hj : j < (xs.flatMap enc).length), ∃ u, olds[j]? = some u ∧ VR w (fun _ => zone C s.heap ι w false) (fun _ => none) ((xs.flatMap enc)[j]'hj) u) →
      ∃ u w' ι', (execOp a.eval ⟨some d, .call { callee := .builtin .append, args := #[x, y], argTypes := #[T, U] }, ty, p, e, g⟩).run C.P w = .ok (.value u) w' ∧
        Rel C (s.newP d t ⟨E, true, (xs ++ ys).flatMap enc⟩ (.own t i.size 0 (xs.length + ys.length))) ι' (a.put (some d) u) w' := by
    intro base c olds hu hg hof hol hvr
    obtain ⟨c', hc1, hc2, hrun⟩ := (hany base c olds hof h63 hbytes).2 hg
    have hcs : (olds.toArray ++ news.toArray ++ Builtin.zeroCells z.cells (c' - (xs.length + ys.length))).size = c' * i.size := by
      have e1 : xs.length * i.size + ys.length * i.size + (c' - (xs.length + ys.length)) * i.size = c' * i.size := by rw [← Nat.add_mul, ← Nat.add_mul]; congr 1; omega
      simp [size_zeroCells, hzs, hol, n3, e1]
    refine ⟨_, _, setT ι t w.heap.size, by rw [hexec base _ c hu, hrun]; rfl, ?_⟩
    refine r.newL hd hK rfl rfl rfl rfl ?_ ?_ ?_
    · rw [hcs]
      have : (xs.length + ys.length) * i.size ≤ c' * i.size := Nat.mul_le_mul_right _ hc1
      rw [hlxy, List.length_append]; exact this
    · rw [List.flatMap_append]
      intro j hj
      obtain ⟨u, hu1, hu2⟩ := row_of (us := olds) (vs := news) (by rw [hl, hol]) hvr n6 j hj
      refine ⟨u, ?_, hu2⟩
      rw [← Array.getElem?_toList]
      simp only [Array.toList_append]
      rw [List.getElem?_append_left (by rw [List.length_append] at hj ⊢; simp [hol, n3]; omega)]
      exact hu1
    · intro hb
      exact .own _ _ _ _ _ _ w.heap.size c' _ (by simp [setT]) hc1 hc2 hb (by rw [hcs]; omega)
  have hv := hx ι a w r
  generalize hu : a.eval x = u at hv
  generalize hcs : xs.flatMap enc = cs at hv hβ hl grow
  generalize hxl : xs.length = nx at hv
  cases hv with
  | rdxnil _ _ _ a0 =>
    have hx0 : xs = [] := List.eq_nil_of_length_eq_zero hxl
    subst hx0
    exact grow a0 0 [] (by simpa using hu) (by simp; omega) (fun w' _ => by cases a0 with | none => simp [Builtin.firstCells] | some a1 => simp [Builtin.firstCells, loadCells, loadCellsFrom]) (by simp) (fun j hj => absurd hj (by simp))
  | rdx _ _ _ _ _ b off vs hz' hc hv h =>
    subst hxl
    refine grow (some ⟨b, off, none⟩) xs.length ((List.range cs.length).map vs) hu (by omega) (fun w' hw' => firstCells_some (by simp [hl]) fun j hj => by
      rw [cell?_heap hw', hv j (by omega)]
      simp [show j < cs.length by omega]) (by simp [hl]) (fun j hj => ⟨vs j, by simp [hj], ?_⟩)
    rcases hβ with rfl | hs
    · exact h j hj
    · have h2 := hs _ (List.getElem_mem hj)
      have h3 := h j hj
      generalize cs[j] = q at h2 h3
      cases q <;> simp [AV.scal] at h2
      rw [sc_inv h3]; exact .sc _ _ _
end
end Go.AB

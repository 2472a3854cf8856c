/-
  AB, part 18: what the printed proofs use, second part.
-/
import Derived.Test.YtpccmcepgllccaaAb17
namespace Go.AB
open Go

theorem AWP.join' {C : Ctx} {c : Code} {Q : Exit → St → Prop} {s : St} {σ R : Type} {f : σ → Option R} {g : (σ → Option R) → Option R} {r : R} (S : σ → St) (h : jn f g = some r)
    (rest : ∀ p, f p = some r → Q .normal (S p)) (main : ∀ k : σ → Option R, g k = some r → AWP C c (thn (fun s' => ∃ p, k p = some r ∧ VC C s' (S p)) Q) s) : AWP C c Q s :=
  AWP.join S h rest (main f)
theorem AWP.joinB' {C : Ctx} {id : Nat} {c : Code} {Q : Exit → St → Prop} {s : St} {σ R : Type} {f : σ → Option R} {g : (σ → Option R) → Option R} {r : R} (S : σ → St) (h : jn f g = some r)
    (rest : ∀ p, f p = some r → Q .normal (S p)) (main : ∀ k : σ → Option R, g k = some r → AWP C c (inbJ id (fun s' => ∃ p, k p = some r ∧ VC C s' (S p)) Q) s) : AWP C (.block id c) Q s :=
  AWP.joinB S h rest (main f)

theorem Ev.nilOwn (C : Ctx) (s : St) (t sz : Nat) : Ev C s (.const (.slice none 0 0)) (.own t sz 0 0) := fun _ _ _ _ => .ownnil _ _ _ _ _
theorem Ev.nilRd {C : Ctx} {s : St} {x : Operand} {β : Bool} (h : Ev C s x (.sc (.slice none 0 0))) : Ev C s x (.rd β 0 []) := fun ι a w r => nil_rd (h ι a w r)

theorem Res.drop {C : Ctx} {fn : Func} {s : St} {r : AV} {H : List (Nat × Blk)} (ht : r.tags = []) (h : Res C fn s r H) : Res C fn s r [] := fun ι a w rel => by
  obtain ⟨v, ι', h1, h2, h3, h4, h5⟩ := h ι a w rel
  have hno : ∀ t, ¬ has t ([] : List (Nat × Blk)) := fun t ⟨k, hk⟩ => by cases hk
  refine ⟨v, ι', h1, h2, ⟨fun t k hk => (by cases hk), fun t t' b ht => absurd ht (hno t), fun t b ht => absurd ht (hno t), h3.tr⟩, ?_, h5⟩
  refine h4.mono (fun _ _ h => h) _ _ (fun β b hz => ⟨hz.1, fun t ht => absurd ht (hno t), hz.2.2⟩) (fun _ _ _ _ _ h => h) (fun t b hf => ?_)
  have := AV.tags_of_free hf
  rw [ht] at this
  cases this

theorem le1 {a b : Nat} (h : Nat.ble a b = true) : a ≤ b := Nat.le_of_ble_eq_true h

def encS (s : List UInt8) : List AV := [.sc (.string (mkS s))]
theorem encS_len (y : List UInt8) : (encS y).length = 1 := rfl
theorem encS_one (y : List UInt8) : ∀ c, c ∈ encS y → c.one = true := by simp [encS, AV.one]
theorem encS_scal (y : List UInt8) : ∀ c, c ∈ encS y → c.scal = true := by simp [encS, AV.scal]
theorem encS_still (y : List UInt8) : ∀ c, c ∈ encS y → c.still = true := by simp [encS, AV.still]
theorem enc8_still (y : UInt8) : ∀ c, c ∈ enc8 y → c.still = true := by simp [enc8, AV.still]
theorem encI_still (k : IntKind) (y : Int) : ∀ c, c ∈ encI k y → c.still = true := by simp [encI, AV.still]
theorem encB_still (y : Bool) : ∀ c, c ∈ encB y → c.still = true := by simp [encB, AV.still]

section
variable {α : Type} {enc : α → List AV} {sz : Nat}
theorem still_all (h : ∀ y, ∀ c, c ∈ enc y → c.still = true) (xs : List α) : ∀ c, c ∈ xs.flatMap enc → c.still = true := by
  intro c hc
  obtain ⟨y, _, hy⟩ := List.mem_flatMap.1 hc
  exact h y c hy
theorem len_all (henc : ∀ y, (enc y).length = sz) {xs : List α} {n : Nat} (h : xs.length = n) : (xs.flatMap enc).length = n * sz := by rw [flatMap_length henc, h]
theorem take_all (henc : ∀ y, (enc y).length = sz) {xs : List α} {n : Nat} (h : xs.length = n) : ((xs.flatMap enc).drop 0).take (n * sz) = xs.flatMap enc := by
  rw [List.drop_zero]
  exact List.take_of_length_le (Nat.le_of_eq (len_all henc h))
theorem out_all (hs : ∀ y, ∀ c, c ∈ enc y → c.still = true) (xs : List α) {T : TypeId} {b : Bool} {cs : List AV} : xs.flatMap enc = (xs.flatMap enc).map (Blk.out ⟨T, b, cs⟩) := by
  have h := still_all hs xs
  generalize xs.flatMap enc = l at h
  induction l with
  | nil => rfl
  | cons a l ih =>
    rw [List.map_cons, ← ih (fun c hc => h c (List.mem_cons_of_mem _ hc))]
    have ha := h a (by simp)
    congr 1
    cases b with
    | false => rfl
    | true =>
      cases a <;> simp_all [Blk.out, AV.still, AV.flag]
theorem cells_at (henc : ∀ y, (enc y).length = sz) {xs : List α} {j : Int} {y : α} (hy : getIdx xs j = some y) : ((xs.flatMap enc).drop (0 + j.toNat * sz)).take sz = enc y := by
  obtain ⟨h0, h1, h2⟩ := getIdx_some hy
  rw [Nat.zero_add, flatMap_drop henc]
  have : xs.drop j.toNat = y :: xs.drop (j.toNat + 1) := by
    obtain ⟨hlt, he⟩ := List.getElem?_eq_some_iff.1 h2
    rw [List.drop_eq_getElem_cons hlt, he]
  rw [this, List.flatMap_cons, List.take_append_of_le_length (by rw [henc]; exact Nat.le_refl _), List.take_of_length_le (by rw [henc]; exact Nat.le_refl _)]
theorem le_at (henc : ∀ y, (enc y).length = sz) {xs : List α} {j : Int} {y : α} (hy : getIdx xs j = some y) : 0 + j.toNat * sz + sz ≤ (xs.flatMap enc).length := by
  obtain ⟨h0, h1, h2⟩ := getIdx_some hy
  rw [flatMap_length henc]
  have : j.toNat + 1 ≤ xs.length := by omega
  calc 0 + j.toNat * sz + sz = (j.toNat + 1) * sz := by rw [Nat.zero_add, Nat.add_mul, Nat.one_mul]
    _ ≤ xs.length * sz := Nat.mul_le_mul_right _ this
theorem splL_at (henc : ∀ y, (enc y).length = sz) {xs ys : List α} {j : Int} {y y' : α} (hy : getIdx xs j = some y) (hs : setIdx xs j y' = some ys) : ys.flatMap enc = splL (xs.flatMap enc) (0 + j.toNat * sz) (enc y') := by
  obtain ⟨h0, h1, h2⟩ := getIdx_some hy
  obtain ⟨_, _, rfl, _⟩ := setIdxS hs
  unfold splL
  rw [Nat.zero_add, henc, show j.toNat * sz + sz = (j.toNat + 1) * sz from by rw [Nat.add_mul, Nat.one_mul], flatMap_take henc, flatMap_drop henc]
  obtain ⟨hlt, he⟩ := List.getElem?_eq_some_iff.1 h2
  rw [List.set_eq_take_append_cons_drop, if_pos hlt, List.flatMap_append, List.flatMap_cons, List.append_assoc]
theorem splL_all (henc : ∀ y, (enc y).length = sz) {xs ys : List α} {n : Nat} (hx : xs.length = n) (hy : ys.length = n) : ys.flatMap enc = splL (xs.flatMap enc) 0 (ys.flatMap enc) := by
  unfold splL
  rw [List.take_zero, List.nil_append, Nat.zero_add, List.drop_of_length_le, List.append_nil]
  rw [len_all henc hx, len_all henc hy]
  exact Nat.le_refl _
theorem len_le (henc : ∀ y, (enc y).length = sz) {xs : List α} {n : Nat} (hx : xs.length = n) : 0 + n * sz ≤ (xs.flatMap enc).length := by rw [len_all henc hx, Nat.zero_add]; exact Nat.le_refl _
end

section
variable {C : Ctx} {d : Nat} {ty : TypeId} {p : String} {e : Array Edge} {g : Option (Nat × Bool)} {s : St}
theorem AStep.slArr {α : Type} {enc : α → List AV} {sz n : Nat} {x : Operand} {T E U : TypeId} {t : Nat} {xs : List α} (hd : d < C.N) (hx : Ev C s x (.ptr t 0)) (hT : C.P.underlying T = some (.array n E)) (hE : szOf C.P E sz)
    (hk : look t s.heap = some ⟨U, true, xs.flatMap enc⟩) (henc : ∀ y, (enc y).length = sz) (hl : xs.length = n) (hm : n ≤ maxLen) :
    AStep C ⟨some d, .slice T x none none none, ty, p, e, g⟩ s (s.put d (.own t sz 0 xs.length)) := by
  rw [hl]
  exact AStep.sliceArr hd hx hT hE hk (len_all henc hl) hm

/-- no slot and no block of a state speaks of a tag -/
def freshB (t : Nat) (s : St) : Bool := s.env.all (fun q => AV.free t q.2) && s.heap.all (fun q => !(Nat.beq q.1 t) && (q.2.lst || AV.freeL t q.2.cells))

theorem purgeA_of_free {t : Nat} {v : AV} (h : AV.free t v = true) : purgeA t v = v := by unfold purgeA; rw [h]; rfl

theorem frzA_of_free {t : Nat} {cells : List AV} (v : AV) (h : AV.free t v = true) : frzA t cells v = v := by
  induction v using AV.rec (motive_2 := fun l => AV.freeL t l = true → frzL t cells l = l) <;> simp_all [AV.free, AV.freeL, frzA, frzL, beq_ne]

theorem AStep.frzNew {α : Type} {enc : α → List AV} {o : Oper} {t sz : Nat} {E : TypeId} {xs : List α} {n : Nat} (h : AStep C o s (s.newP d t ⟨E, true, xs.flatMap enc⟩ (.own t sz 0 n))) (hf : freshB t s = true) (hn : n = xs.length)
    (henc : ∀ y, (enc y).length = sz) : AStep C o s (s.put d (.rd false xs.length (xs.flatMap enc))) := by
  subst hn
  have h1 : ∀ q ∈ s.env, AV.free t q.2 = true := List.all_eq_true.1 (andL hf)
  have h2 := List.all_eq_true.1 (andR hf)
  refine AStep.vc h ((VC.frz (d := d) (t := t) (E := E) (xs := xs) (enc := enc) (sz := sz) ?_ ?_ henc).trans ?_)
  · simp [St.newP, look_cons_self]
  · simp [St.newP, look_cons_self]
  · intro ι a w r
    have he : frzE t (xs.flatMap enc) ((d, AV.own t sz 0 xs.length) :: purgeE t s.env) = (d, frzA t (xs.flatMap enc) (AV.own t sz 0 xs.length)) :: s.env := by
      show (d, _) :: frzE t _ (purgeE t s.env) = _
      congr 1
      generalize s.env = E at h1
      induction E with
      | nil => rfl
      | cons a l ih =>
        obtain ⟨x, v⟩ := a
        have hv := h1 (x, v) (by simp)
        simp only [purgeE, frzE]
        rw [ih fun q hq => h1 q (List.mem_cons_of_mem _ hq), purgeA_of_free hv, frzA_of_free v hv]
    have hh : frzH t (xs.flatMap enc) ((t, ⟨E, true, xs.flatMap enc⟩) :: purgeH t s.heap) = s.heap := by
      show (bif Nat.beq t t then frzH t _ (purgeH t s.heap) else _) = _
      rw [Nat.beq_refl, cond_true]
      generalize s.heap = H at h2
      induction H with
      | nil => rfl
      | cons a l ih =>
        obtain ⟨x, k⟩ := a
        have hv := h2 (x, k) (by simp)
        have hx : Nat.beq x t = false := by have := andL hv; simpa using this
        have hx' : Nat.beq t x = false := by rw [← Bool.not_eq_true, Nat.beq_eq] at hx ⊢; exact fun e => hx e.symm
        simp only [purgeH, hx', cond_false, frzH, hx]
        rw [ih fun q hq => h2 q (List.mem_cons_of_mem _ hq)]
        congr 2
        obtain ⟨kt, kl, kc⟩ := k
        cases kl with
        | true => rfl
        | false =>
          have hc : AV.freeL t kc = true := by simpa using andR hv
          rw [AV.freeL_eq, List.all_eq_true] at hc
          simp only [purgeB, frzB, cond_false, frzL_eq, List.map_map]
          congr 1
          conv => rhs; rw [← List.map_id kc]
          refine List.map_congr_left fun c hc' => ?_
          simp only [Function.comp, id, purgeA_of_free (hc c hc'), frzA_of_free c (hc c hc')]
    refine ⟨ι, r.size, r.dfr, ?_, ?_, r.stab⟩
    · intro d' v' hl
      have r2 := r.env d' v'
      have hz : zone C (St.put s d (.rd false xs.length (xs.flatMap enc))).heap ι w = zone C (frzH t (xs.flatMap enc) (s.newP d t ⟨E, true, xs.flatMap enc⟩ (.own t sz 0 xs.length)).heap) ι w := by
        show zone C s.heap ι w = zone C (frzH t (xs.flatMap enc) ((t, ⟨E, true, xs.flatMap enc⟩) :: purgeH t s.heap)) ι w
        rw [hh]
      rw [hz]
      refine r2 ?_
      by_cases ed : d' = d
      · subst ed
        simp only [St.put, look_cons_self] at hl ⊢
        exact hl
      · simp only [St.put, look_cons_ne ed] at hl ⊢
        show look d' (frzE t (xs.flatMap enc) ((d, AV.own t sz 0 xs.length) :: purgeE t s.env)) = some v'
        rw [he, look_cons_ne ed]
        exact hl
    · have := r.core
      have e2 : (frzH t (xs.flatMap enc) (s.newP d t ⟨E, true, xs.flatMap enc⟩ (.own t sz 0 xs.length)).heap) = s.heap := hh
      rw [e2] at this
      exact this
end

theorem setLen {α : Type} {xs ys : List α} {i : Int} {y : α} (h : setIdx xs i y = some ys) : ys.length = xs.length := (setIdxS h).2.2.2
theorem Ev.ownN {C : Ctx} {s : St} {x : Operand} {t sz o n m : Nat} (h : n = m) (hx : Ev C s x (.own t sz o n)) : Ev C s x (.own t sz o m) := h ▸ hx
theorem lenC {l : Option AV} {t sz o n m : Nat} (h : n = m) (hl : l = some (.own t sz o n)) : l = some (.own t sz o m) := h ▸ hl

theorem tags_still {c : AV} (h : c.still = true) : c.tags = [] ∧ c.clean = true := by
  cases c <;> simp_all [AV.still, AV.tags, AV.clean]
theorem tagsL_still {l : List AV} (h : ∀ c, c ∈ l → c.still = true) : AV.tagsL l = [] ∧ AV.cleanL l = true := by
  induction l with
  | nil => exact ⟨rfl, rfl⟩
  | cons a l ih =>
    obtain ⟨h1, h2⟩ := ih fun c hc => h c (List.mem_cons_of_mem _ hc)
    obtain ⟨h3, h4⟩ := tags_still (h a (by simp))
    simp [AV.tagsL, AV.cleanL, h1, h2, h3, h4]
theorem tag_all {α : Type} {enc : α → List AV} (h : ∀ y, ∀ c, c ∈ enc y → c.still = true) (xs : List α) : (AV.agg (xs.flatMap enc)).tags = [] := (tagsL_still (still_all h xs)).1
theorem tagc_all {α : Type} {enc : α → List AV} (h : ∀ y, ∀ c, c ∈ enc y → c.still = true) (xs : List α) (bw : Bool) : ((AV.agg (xs.flatMap enc)).tags.isEmpty && (!bw || (AV.agg (xs.flatMap enc)).clean)) = true := by
  have h2 : (AV.agg (xs.flatMap enc)).clean = true := (tagsL_still (still_all h xs)).2
  rw [tag_all h, h2]
  cases bw <;> rfl

theorem AStep.box {C : Ctx} {d : Nat} {ty : TypeId} {p : String} {e : Array Edge} {g : Option (Nat × Bool)} {s : St} {T : TypeId} {x : Operand} {v : AV} {t n : Nat} (hd : d < C.N) (hK : t ∉ C.K) (hx : Ev C s x v)
    (hw : v.wide n) (hfr : AV.free t v = true) : AStep C ⟨some d, .box T x, ty, p, e, g⟩ s (s.newP d t ⟨T, false, v.cellsOf⟩ (.ptr t 0)) :=
  .run (fun _ h => by cases h) fun ι a w r => by
    have hv := hx ι a w r
    obtain ⟨h1, h2, h3⟩ := hv.wide hw
    refine ⟨.pointer (some ⟨w.heap.size, 0, none⟩), w.alloc (.cells (a.eval x).cells T), setT ι t w.heap.size, ?_, ?_⟩
    · simp [execOp, Instr.box, newVar, newRow]
    · refine r.new hd hK rfl rfl rfl (by simp) (fun j hj => heap_alloc_old w _ hj) (Nat.le_refl _) (fun Z' hZ' => ?_) (fun Z' hZ' => ?_)
      · simp only [BlkR, setT, if_true]
        refine ⟨(a.eval x).cells, heap_alloc_new w _, by rw [h2, h1]; exact Nat.le_refl _, fun i hi => ?_⟩
        obtain ⟨y, hy, hvr⟩ := h3 i hi
        refine ⟨y, hy, ?_⟩
        simp only [cond_false]
        have hfree : AV.free t (v.cellsOf[i]'hi) = true := by
          cases v <;> simp_all [AV.cellsOf, AV.free, AV.freeL_eq]
        refine hvr.mono (fun b n hb => ?_) _ _ hZ' (fun β b o u hz hc => ?_) (fun t' b hf ht => ?_)
        · unfold bsz at hb ⊢
          by_cases hlt : b < w.heap.size
          · rw [heap_alloc_old w _ hlt]; exact hb
          · rw [Array.getElem?_eq_none (by omega)] at hb; cases hb
        · rw [← hc]
          unfold World.cell?
          simp only [heap_alloc_old w _ hz.1]
        · have : t' ≠ t := fun e => by subst e; rw [hfree] at hf; cases hf
          simp [setT, this, ht]
      · exact .ptr _ _ _ _ _ (by simp [setT])
end Go.AB

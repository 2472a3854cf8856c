/-
  AB, part 19: arrays compared; what a region in open order asks; rows built and given away at once.
-/
import Derived.Test.YtpccmcepgllccaaAb18
namespace Go.AB
open Go

theorem equalIn_int {P : Program} {w : World} {d : Nat} {E : TypeId} {k : IntKind} (hE : P.underlying E = some (.int k)) (a b : Int) : (Op.equalIn (d + 1) E (.int k a) (.int k b)).run P w = .ok (a == b) w := by
  rw [Op.equalIn]
  simp [run_underlying hE]

theorem part_int {P : Program} {w : World} {E : TypeId} {k : IntKind} (h1 : oneT P E) (us : List Int) (i : Nat) (v : Int) (hv : us[i]? = some v) :
    (part E ((us.map (Value.int k)).toArray) i).run P w = .ok (.int k v) w := by
  unfold part
  simp [h1.run, hv]

theorem equalArr_loop {P : Program} {w : World} {d n : Nat} {E : TypeId} {k : IntKind} (hE : P.underlying E = some (.int k)) (us vs : List Int) (hu : us.length = n) (hv : vs.length = n) :
    ∀ (m i : Nat), i + m = n → (forIn (List.range' i m) ((none, ()) : Option Bool × Unit) fun i __s => (do
            let x ← part E (List.map (Value.int k) us).toArray (i * 1)
            let y ← part E (List.map (Value.int k) vs).toArray (i * 1)
            let q ← Op.equalIn (d + 1) E x y
            if (!q) = true then pure (ForInStep.done (some false, ())) else pure (ForInStep.yield (none, ())) : Sem (ForInStep (Option Bool × Unit)))).run P w =
      .ok (if us.drop i = vs.drop i then (none, ()) else (some false, ())) w
  | 0, i, h => by
    have h1 : us.drop i = [] := List.drop_of_length_le (by omega)
    have h2 : vs.drop i = [] := List.drop_of_length_le (by omega)
    simp [h1, h2]
  | m + 1, i, h => by
    have hiu : i < us.length := by omega
    have hiv : i < vs.length := by omega
    have h1 : oneT P E := ⟨_, hE, trivial⟩
    have ih := equalArr_loop (d := d) (w := w) hE us vs hu hv m (i + 1) (by omega)
    rw [List.range'_succ, List.forIn_cons]
    simp only [Sem.run_bind, Nat.mul_one, part_int h1 us i us[i] (by simp [hiu]), part_int h1 vs i vs[i] (by simp [hiv]), Result.andThen_ok, equalIn_int hE]
    rw [List.drop_eq_getElem_cons hiu, List.drop_eq_getElem_cons hiv]
    by_cases he : us[i] = vs[i]
    · simp only [he, beq_self_eq_true, Bool.not_true, Bool.false_eq_true, if_false, Sem.run_pure, Result.andThen_ok, List.cons.injEq, true_and]
      simp only [Nat.mul_one] at ih
      exact ih
    · have hb : (us[i] == vs[i]) = false := by simpa using he
      have hne : ¬ (us[i] :: us.drop (i + 1) = vs[i] :: vs.drop (i + 1)) := fun hc => he (List.cons.inj hc).1
      rw [if_neg hne]
      simp [hb]

theorem equalArr {P : Program} {w : World} {d n : Nat} {T E : TypeId} {k : IntKind} (hT : P.underlying T = some (.array n E)) (hE : P.underlying E = some (.int k)) (hz : szOf P E 1) (us vs : List Int) (hu : us.length = n) (hv : vs.length = n) :
    (Op.equalIn (d + 2) T (.agg (us.map (Value.int k)).toArray) (.agg (vs.map (Value.int k)).toArray)).run P w = .ok (us == vs) w := by
  rw [Op.equalIn]
  simp only [Sem.run_bind, run_underlying hT, Result.andThen_ok, hz.run, Std.Legacy.Range.forIn_eq_forIn_range', Std.Legacy.Range.size, Nat.sub_zero, Nat.add_sub_cancel, Nat.div_one]
  rw [equalArr_loop hE us vs hu hv n 0 (by omega)]
  simp only [List.drop_zero, Result.andThen_ok]
  by_cases h : us = vs
  · simp [h]
  · have hb : (us == vs) = false := by simpa using h
    rw [if_neg h, hb]; rfl

theorem agg_ints {α : Type} {enc : α → List AV} {k : IntKind} {f : α → Int} (henc : ∀ y, enc y = [.sc (.int k (f y))]) {w : World} {Z : Zone} {ι : Tags} {xs : List α} {u : Value} (h : VR w Z ι (.agg (xs.flatMap enc)) u) :
    u = .agg ((xs.map f).map (Value.int k)).toArray := by
  have he : xs.flatMap enc = xs.map fun y => .sc (.int k (f y)) := by
    rw [show enc = fun y => [.sc (.int k (f y))] from funext henc]
    clear h
    induction xs with
    | nil => rfl
    | cons a l ih => simp_all
  rw [he] at h
  cases h with
  | agg _ _ _ vs hl hv =>
    congr 2
    refine List.ext_getElem (by simpa using hl) fun i h1 h2 => ?_
    have := hv i (hl ▸ h1)
    simp only [List.getElem_map] at this
    have := sc_inv this
    simpa using this

theorem map_inj_eq {α : Type} [DecidableEq α] {f : α → Int} (hf : ∀ a b, f a = f b → a = b) : ∀ xs ys : List α, (xs.map f == ys.map f) = (xs == ys)
  | [], [] => rfl
  | [], _ :: _ => rfl
  | _ :: _, [] => rfl
  | a :: xs, b :: ys => by
    have ih := map_inj_eq hf xs ys
    rw [List.map_cons, List.map_cons, List.cons_beq_cons, List.cons_beq_cons, ih]
    congr 1
    by_cases h : a = b
    · simp [h]
    · have h' : f a ≠ f b := fun e => h (hf _ _ e)
      rw [beq_eq_false_iff_ne.2 h, beq_eq_false_iff_ne.2 h']

section
variable {C : Ctx} {d : Nat} {ty : TypeId} {p : String} {e : Array Edge} {g : Option (Nat × Bool)} {s : St}
theorem AStep.arrCmp {α : Type} [DecidableEq α] {enc : α → List AV} {k : IntKind} {f : α → Int} {T E U : TypeId} {x y : Operand} {xs ys : List α} {n : Nat} (hd : d < C.N) (hx : Ev C s x (.agg (xs.flatMap enc))) (hy : Ev C s y (.agg (ys.flatMap enc)))
    (henc : ∀ y, enc y = [.sc (.int k (f y))]) (hf : ∀ a b, f a = f b → a = b) (hT : C.P.underlying T = some (.array n E)) (hE : C.P.underlying E = some (.int k)) (hz : szOf C.P E 1) (hG : C.P.eqGuardType C.P.depth T = false)
    (h1 : xs.length = n) (h2 : ys.length = n) (neg : Bool) :
    AStep C ⟨some d, .binOp (bif neg then .neq else .eql) T x y U, ty, p, e, g⟩ s (s.put d (.sc (.bool (bif neg then !(xs == ys) else (xs == ys))))) :=
  .val hd (fun _ h => by cases h) fun ι a w r => by
    refine ⟨.bool (bif neg then !(xs == ys) else (xs == ys)), ?_, .sc _ _ _⟩
    have e1 := agg_ints henc (hx ι a w r)
    have e2 := agg_ints henc (hy ι a w r)
    have key := equalArr (P := C.P) (w := w) (d := Op.maxDepth - 2) hT hE hz (xs.map f) (ys.map f) (by simpa using h1) (by simpa using h2)
    rw [map_inj_eq hf] at key
    simp only [List.map_map] at key
    have hm : Op.maxDepth - 2 + 2 = Op.maxDepth := rfl
    rw [hm] at key
    cases neg with
    | false => simp [execOp, e1, e2, eqGuard, hG, binOp, Op.equal, key]
    | true => simp [execOp, e1, e2, eqGuard, hG, binOp, Op.equal, key]
end

/-- what a step needs, by its number -/
theorem Need.at {l : List (Nat × AV)} {E : List (Nat × AV)} (h : Need l E) : ∀ {k d : Nat} {v : AV}, l[k]? = some (d, v) → look d E = some v := by
  induction l with
  | nil => intro k d v hk; simp at hk
  | cons a l ih =>
    intro k d v hk
    obtain ⟨d0, v0⟩ := a
    cases k with
    | zero => simp at hk; obtain ⟨rfl, rfl⟩ := hk; exact h.1
    | succ k => simp at hk; exact ih h.2 hk
theorem DInv.at {F : List DFact} {L : Nat → Bool} {E : List (Nat × AV)} (h : DInv F L E) {k : Nat} {f : DFact} (hf : F[k]? = some f) (hb : (match f.born with | none => true | some j => L j) = true) (hd : f.dies = []) : look f.slot E = some f.v := by
  refine h f (List.mem_of_getElem? hf) (fun j hj => ?_) (fun k hk => by rw [hd] at hk; cases hk)
  rw [hj] at hb
  exact hb
theorem allLt {c : List Nat} {n : Nat} (h : c.all (fun x => Nat.blt x n) = true) : ∀ x, x ∈ c → x < n := fun x hx => by
  have := List.all_eq_true.1 h x hx
  exact lt1 this

theorem bigger (l : List Nat) : ∃ t, t ∉ l := by
  refine ⟨l.foldr max 0 + 1, fun h => ?_⟩
  have : ∀ (l : List Nat) (x : Nat), x ∈ l → x ≤ l.foldr max 0 := by
    intro l
    induction l with
    | nil => intro x hx; cases hx
    | cons a l ih =>
      intro x hx
      rw [List.foldr_cons]
      rcases List.mem_cons.1 hx with rfl | hx
      · exact Nat.le_max_left _ _
      · exact Nat.le_trans (ih x hx) (Nat.le_max_right _ _)
  have := this l _ h
  omega
theorem AV.free_of_not_tag {t : Nat} {v : AV} (h : t ∉ v.tags) : AV.free t v = true := by
  cases hf : AV.free t v with
  | true => rfl
  | false => exact absurd (AV.tags_of_free hf) h
/-- A row that is built and only read from then on, whatever the heap is like. -/
theorem AStep.frzAny {C : Ctx} {d : Nat} {s : St} {α : Type} {enc : α → List AV} {o : Oper} {sz n : Nat} {E : TypeId} {xs : List α} (h : ∀ t, t ∉ C.K → AStep C o s (s.newP d t ⟨E, true, xs.flatMap enc⟩ (.own t sz 0 n))) (hn : n = xs.length)
    (henc : ∀ y, (enc y).length = sz) : AStep C o s (s.put d (.rd false xs.length (xs.flatMap enc))) := by
  obtain ⟨t, ht⟩ := bigger (C.K ++ s.env.flatMap (fun q => q.2.tags) ++ s.heap.flatMap (fun q => q.1 :: AV.tagsL q.2.cells))
  simp only [List.mem_append, List.mem_flatMap, not_or, not_exists, not_and] at ht
  refine AStep.frzNew (h t ht.1.1) ?_ hn henc
  unfold freshB
  rw [Bool.and_eq_true, List.all_eq_true, List.all_eq_true]
  refine ⟨fun q hq => AV.free_of_not_tag (ht.1.2 q hq), fun q hq => ?_⟩
  have hq' := ht.2 q hq
  simp only [List.mem_cons, not_or] at hq'
  have h1 : Nat.beq q.1 t = false := beq_ne fun e => hq'.1 e.symm
  rw [h1]
  have h2 : AV.freeL t q.2.cells = true := by
    rw [AV.freeL_eq, List.all_eq_true]
    exact fun c hc => AV.free_of_not_tag fun hm => hq'.2 (AV.mem_tagsL.2 ⟨c, hc, hm⟩)
  rw [h2]
  simp
end Go.AB
namespace Go.AB
open Go
theorem len_ge {α : Type} {enc : α → List AV} {sz n : Nat} (henc : ∀ y, (enc y).length = sz) {xs : List α} (hx : xs.length = n) : n * sz ≤ (xs.flatMap enc).length := by rw [len_all henc hx]; exact Nat.le_refl _
theorem flag_all {α : Type} {enc : α → List AV} {sz n : Nat} {β : Bool} (hs : ∀ y, ∀ c, c ∈ enc y → c.scal = true) (henc : ∀ y, (enc y).length = sz) {xs : List α} (hx : xs.length = n) :
    xs.flatMap enc = AV.flagL β ((xs.flatMap enc).take (n * sz)) := by
  rw [List.take_of_length_le (Nat.le_of_eq (len_all henc hx)), AV.flagL_eq]
  have h := scal_all hs xs
  generalize xs.flatMap enc = l at h
  induction l with
  | nil => rfl
  | cons a l ih =>
    rw [List.map_cons, ← ih fun c hc => h c (List.mem_cons_of_mem _ hc)]
    have ha := h a (by simp)
    cases a with
    | sc v => rfl
    | _ => simp [AV.scal] at ha
end Go.AB
namespace Go.AB
open Go
theorem lkNew {α : Type} {enc : α → List AV} {s : St} {x d t : Nat} {k : Blk} {v : AV} {ys : List α} (hx : Nat.beq x d = false) (hs : ∀ y, ∀ c, c ∈ enc y → c.still = true) (h : look x s.env = some (.agg (ys.flatMap enc))) :
    look x (s.newP d t k v).env = some (.agg (ys.flatMap enc)) := by
  show look x ((d, v) :: purgeE t s.env) = _
  rw [look, hx, cond_false, look_purgeE, h, Option.map_some, purgeA_of_free]
  exact AV.free_of_not_tag (by rw [tag_all hs]; simp)
end Go.AB

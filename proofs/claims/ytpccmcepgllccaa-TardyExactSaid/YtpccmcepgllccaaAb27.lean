/-
  AB, part 27: a row compared with nil: what comes out for an empty row, the model does not say.
-/
import Derived.Test.YtpccmcepgllccaaAb26
namespace Go.AB
open Go

section
variable {C : Ctx} {s : St} {d : Nat} {ty : TypeId} {p : String} {e : Array Edge} {g : Option (Nat × Bool)}
theorem eqNil_run {P : Program} {w : World} {T E : TypeId} {x : Operand} {o : Option Addr} {n c : Nat} (hT : P.underlying T = some (.slice E)) (neg : Bool) :
    (do eqGuard (bif neg then .neq else .eql) T x (.const (.slice none 0 0)) (.slice o n c) (.slice none 0 0); binOp (bif neg then .neq else .eql) T (.slice o n c) (.slice none 0 0) : Sem Value).run P w = .ok (.bool (bif neg then !o.isNone else o.isNone)) w := by
  have key : (Op.equal T (.slice o n c) (.slice none 0 0)).run P w = .ok o.isNone w := by
    have hm : Op.equal T (.slice o n c) (.slice none 0 0) = Op.equalIn (Op.maxDepth - 1 + 1) T (.slice o n c) (.slice none 0 0) := rfl
    rw [hm]
    cases o <;> simp [Op.equalIn, run_underlying hT]
  cases neg <;> simp [eqGuard, binOp, key]

theorem AStepE.eqNil {x : Operand} {T E U : TypeId} {β : Bool} {n : Nat} {cells : List AV} (hd : d < C.N) (hx : Ev C s x (.rd β n cells)) (hT : C.P.underlying T = some (.slice E)) (neg : Bool) :
    AStepE C ⟨some d, .binOp (bif neg then .neq else .eql) T x (.const (.slice none 0 0)) U, ty, p, e, g⟩ s (fun q => s.put d (.sc (.bool (bif neg then !decide (n = 0 ∧ q = 0) else decide (n = 0 ∧ q = 0))))) :=
  .run (fun _ h => by cases h) fun ι a w r => by
    have key : ∀ o k c, a.eval x = .slice o k c → (execOp a.eval ⟨some d, .binOp (bif neg then .neq else .eql) T x (.const (.slice none 0 0)) U, ty, p, e, g⟩).run C.P w = .ok (.value (.bool (bif neg then !o.isNone else o.isNone))) w := by
      intro o k c hu
      have := eqNil_run (w := w) (x := x) (o := o) (n := k) (c := c) hT neg
      have hn : a.eval (.const (.slice none 0 0)) = .slice none 0 0 := rfl
      simp only [execOp, hu, hn]
      simp only [Sem.run_bind] at this ⊢
      rw [this]
      simp
    have h := hx ι a w r
    generalize hu : a.eval x = u at h
    cases h with
    | rdnil _ _ _ o =>
      cases o with
      | none => exact ⟨0, _, w, ι, key _ _ _ hu, by simpa using r.put hd (.sc _ _ _)⟩
      | some o => exact ⟨1, _, w, ι, key _ _ _ hu, by simpa using r.put hd (.sc _ _ _)⟩
    | rd _ _ _ _ _ b off cap vs hz hn hc hv h =>
      exact ⟨1, _, w, ι, key _ _ _ hu, by simpa using r.put hd (.sc _ _ _)⟩
end
/-! structs of ints, compared -/
inductive FsI (P : Program) : Nat → List Field → Prop
  | nil (i : Nat) : FsI P i []
  | cons (i : Nat) (f : Field) (l : List Field) (hn : (f.name == "_") = false) (ho : f.offset = i) (hE : P.underlying f.type = some (.int .i64)) (h : FsI P (i + 1) l) : FsI P i (f :: l)

theorem equalStr_loop {P : Program} {w : World} {d : Nat} (us vs : List Int) : ∀ (fs : List Field) (i : Nat), FsI P i fs → us.length = i + fs.length → vs.length = i + fs.length →
    (forIn fs ((none, ()) : Option Bool × Unit) fun f __s => (if f.name ≠ "_" then (do
            let x ← part f.type (us.map (Value.int .i64)).toArray f.offset
            let y ← part f.type (vs.map (Value.int .i64)).toArray f.offset
            let q ← Op.equalIn (d + 1) f.type x y
            if (!q) = true then pure (ForInStep.done (some false, ())) else pure (ForInStep.yield (none, ()))) else pure (ForInStep.yield (none, ())) : Sem (ForInStep (Option Bool × Unit)))).run P w =
      .ok (if us.drop i = vs.drop i then (none, ()) else (some false, ())) w
  | [], i, _, hu, hv => by
    have h1 : us.drop i = [] := List.drop_of_length_le (by simp at hu; omega)
    have h2 : vs.drop i = [] := List.drop_of_length_le (by simp at hv; omega)
    simp [h1, h2]
  | f :: fs, i, .cons _ _ _ hn ho hE h, hu, hv => by
    have hiu : i < us.length := by simp at hu; omega
    have hiv : i < vs.length := by simp at hv; omega
    have h1 : oneT P f.type := ⟨_, hE, trivial⟩
    have ih := equalStr_loop (d := d) (w := w) us vs fs (i + 1) h (by simp at hu; omega) (by simp at hv; omega)
    have hn' : f.name ≠ "_" := by simpa using hn
    rw [List.forIn_cons]
    simp only [hn', ne_eq, not_false_eq_true, if_true, Sem.run_bind, ho, part_int h1 us i us[i] (by simp [hiu]), part_int h1 vs i vs[i] (by simp [hiv]), Result.andThen_ok, equalIn_int hE]
    rw [List.drop_eq_getElem_cons hiu, List.drop_eq_getElem_cons hiv]
    by_cases he : us[i] = vs[i]
    · simp only [he, beq_self_eq_true, Bool.not_true, Bool.false_eq_true, if_false, Sem.run_pure, Result.andThen_ok, List.cons.injEq, true_and]
      exact ih
    · have hb : (us[i] == vs[i]) = false := by simpa using he
      have hne : ¬ (us[i] :: us.drop (i + 1) = vs[i] :: vs.drop (i + 1)) := fun hc => he (List.cons.inj hc).1
      rw [if_neg hne]
      simp [hb]

theorem equalStr {P : Program} {w : World} {d : Nat} {T : TypeId} {fs : Array Field} (hT : P.underlying T = some (.struct fs)) (hf : FsI P 0 fs.toList) (hs : P.stoodInHeld T = false) (us vs : List Int) (hu : us.length = fs.size) (hv : vs.length = fs.size) :
    (Op.equalIn (d + 2) T (.agg (us.map (Value.int .i64)).toArray) (.agg (vs.map (Value.int .i64)).toArray)).run P w = .ok (us == vs) w := by
  have key := equalStr_loop (w := w) (d := d) us vs fs.toList 0 hf (by simpa using hu) (by simpa using hv)
  rw [Op.equalIn]
  simp only [Sem.run_bind, run_underlying hT, Result.andThen_ok, run_program, hs, Bool.false_eq_true, if_false]
  rw [← Array.forIn_toList, key]
  simp only [List.drop_zero, Result.andThen_ok]
  by_cases h : us = vs
  · simp [h]
  · have hb : (us == vs) = false := by simpa using h
    rw [if_neg h, hb]; rfl

theorem agg_ints' {us : List Int} {w : World} {Z : Zone} {ι : Tags} {u : Value} (h : VR w Z ι (.agg (us.map fun v => .sc (.int .i64 v))) u) : u = .agg (us.map (Value.int .i64)).toArray := by
  cases h with
  | agg _ _ _ vs hl hv =>
    congr 2
    refine List.ext_getElem (by simpa using hl) fun i h1 h2 => ?_
    have := hv i (hl ▸ h1)
    simp only [List.getElem_map] at this
    have := sc_inv this
    simpa using this

section
variable {C : Ctx} {s : St} {d : Nat} {ty : TypeId} {p : String} {e : Array Edge} {g : Option (Nat × Bool)}
theorem AStep.strCmp {T U : TypeId} {x y : Operand} {us vs : List Int} {fs : Array Field} (hd : d < C.N) (hx : Ev C s x (.agg (us.map fun v => .sc (.int .i64 v)))) (hy : Ev C s y (.agg (vs.map fun v => .sc (.int .i64 v))))
    (hT : C.P.underlying T = some (.struct fs)) (hf : FsI C.P 0 fs.toList) (hs : C.P.stoodInHeld T = false) (hG : C.P.eqGuardType C.P.depth T = false) (h1 : us.length = fs.size) (h2 : vs.length = fs.size) (neg : Bool) :
    AStep C ⟨some d, .binOp (bif neg then .neq else .eql) T x y U, ty, p, e, g⟩ s (s.put d (.sc (.bool (bif neg then !(us == vs) else (us == vs))))) :=
  .val hd (fun _ h => by cases h) fun ι a w r => by
    refine ⟨.bool (bif neg then !(us == vs) else (us == vs)), ?_, .sc _ _ _⟩
    have e1 := agg_ints' (hx ι a w r)
    have e2 := agg_ints' (hy ι a w r)
    have key := equalStr (w := w) (d := Op.maxDepth - 2) hT hf hs us vs h1 h2
    have hm : Op.maxDepth - 2 + 2 = Op.maxDepth := rfl
    rw [hm] at key
    cases neg with
    | false => simp [execOp, e1, e2, eqGuard, hG, binOp, Op.equal, key]
    | true => simp [execOp, e1, e2, eqGuard, hG, binOp, Op.equal, key]
end
theorem eqNilT {q : Nat} {α : Type} {xs : List α} (h : decide (xs.length = 0 ∧ q = 0) = true) : xs = [] := List.eq_nil_of_length_eq_zero (of_decide_eq_true h).1
theorem cloneNil {α : Type} {xs r : List α} {q : Nat} (hc : decide (xs.length = 0 ∧ q = 0) = true) (h : ((apd ([] : List α) xs).bind fun z => some z) = some r) : some ([] : List α) = some r := by
  have : xs = [] := List.eq_nil_of_length_eq_zero (of_decide_eq_true hc).1
  subst this
  simp [apd] at h
  rw [← h]
end Go.AB

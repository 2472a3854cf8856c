/-
  AB, part 37: functions compared with nil.
-/
import Derived.Test.YtpccmcepgllccaaAb36
namespace Go.AB
open Go

section
variable {C : Ctx} {s : St} {d : Nat} {ty : TypeId} {p : String} {e : Array Edge} {g : Option (Nat × Bool)}
theorem eqFun_run {P : Program} {w : World} {T : TypeId} {A B : Array TypeId} {b : Bool} {x : Operand} {v : Value} {c : Bool} (hT : P.underlying T = some (.func A B b)) (hv : v = .nilFunc ∧ c = true ∨ (∃ f us vs, v = .func f us vs) ∧ c = false) (neg : Bool) :
    (do eqGuard (bif neg then .neq else .eql) T x (.const .nilFunc) v .nilFunc; binOp (bif neg then .neq else .eql) T v .nilFunc : Sem Value).run P w = .ok (.bool (bif neg then !c else c)) w := by
  have key : (Op.equal T v .nilFunc).run P w = .ok c w := by
    have hm : Op.equal T v .nilFunc = Op.equalIn (Op.maxDepth - 1 + 1) T v .nilFunc := rfl
    rw [hm]
    rcases hv with ⟨rfl, rfl⟩ | ⟨⟨f, us, vs, rfl⟩, rfl⟩ <;> simp [Op.equalIn, run_underlying hT]
  rcases hv with ⟨rfl, rfl⟩ | ⟨⟨f, us, vs, rfl⟩, rfl⟩ <;> cases neg <;> simp [eqGuard, binOp, key]
theorem AStep.funNil {x : Operand} {T U : TypeId} {A B : Array TypeId} {b : Bool} {fn : Go.Fn} {a0 c0 : List AV} (hd : d < C.N) (hx : Ev C s x (.clo fn a0 c0)) (hT : C.P.underlying T = some (.func A B b)) (neg : Bool) :
    AStep C ⟨some d, .binOp (bif neg then .neq else .eql) T x (.const .nilFunc) U, ty, p, e, g⟩ s (s.put d (.sc (.bool neg))) :=
  .val hd (fun _ h => by cases h) fun ι a w r => by
    have hh := hx ι a w r
    refine ⟨.bool neg, ?_, .sc _ _ _⟩
    obtain ⟨us, vs, hu⟩ : ∃ us vs, a.eval x = .func fn us vs := by
      generalize a.eval x = u at hh
      cases hh
      exact ⟨_, _, rfl⟩
    have := eqFun_run (w := w) (x := x) (v := .func fn us vs) (c := false) hT (.inr ⟨⟨_, _, _, rfl⟩, rfl⟩) neg
    have hn : a.eval (.const .nilFunc) = .nilFunc := rfl
    simp only [execOp, hu, hn]
    simp only [Sem.run_bind] at this ⊢
    rw [this]
    cases neg <;> simp
theorem AStep.noFun {x : Operand} {T U : TypeId} {A B : Array TypeId} {b : Bool} (hd : d < C.N) (hx : Ev C s x (.sc .nilFunc)) (hT : C.P.underlying T = some (.func A B b)) (neg : Bool) :
    AStep C ⟨some d, .binOp (bif neg then .neq else .eql) T x (.const .nilFunc) U, ty, p, e, g⟩ s (s.put d (.sc (.bool (!neg)))) :=
  .val hd (fun _ h => by cases h) fun ι a w r => by
    refine ⟨.bool (!neg), ?_, .sc _ _ _⟩
    have := eqFun_run (w := w) (x := x) (v := .nilFunc) (c := true) hT (.inl ⟨rfl, rfl⟩) neg
    have hn : a.eval (.const .nilFunc) = .nilFunc := rfl
    simp only [execOp, hx.sc r, hn]
    simp only [Sem.run_bind] at this ⊢
    rw [this]
    cases neg <;> simp
section
variable {x : Operand} {T U : TypeId} {A B : Array TypeId} {b : Bool}
theorem AStep.funNil0 {fn : Go.Fn} {a0 c0 : List AV} (hd : d < C.N) (hx : Ev C s x (.clo fn a0 c0)) (hT : C.P.underlying T = some (.func A B b)) :
    AStep C ⟨some d, .binOp .eql T x (.const .nilFunc) U, ty, p, e, g⟩ s (s.put d (.sc (.bool false))) := AStep.funNil hd hx hT false
theorem AStep.funNil1 {fn : Go.Fn} {a0 c0 : List AV} (hd : d < C.N) (hx : Ev C s x (.clo fn a0 c0)) (hT : C.P.underlying T = some (.func A B b)) :
    AStep C ⟨some d, .binOp .neq T x (.const .nilFunc) U, ty, p, e, g⟩ s (s.put d (.sc (.bool true))) := AStep.funNil hd hx hT true
theorem AStep.noFun0 (hd : d < C.N) (hx : Ev C s x (.sc .nilFunc)) (hT : C.P.underlying T = some (.func A B b)) :
    AStep C ⟨some d, .binOp .eql T x (.const .nilFunc) U, ty, p, e, g⟩ s (s.put d (.sc (.bool true))) := AStep.noFun hd hx hT false
theorem AStep.noFun1 (hd : d < C.N) (hx : Ev C s x (.sc .nilFunc)) (hT : C.P.underlying T = some (.func A B b)) :
    AStep C ⟨some d, .binOp .neq T x (.const .nilFunc) U, ty, p, e, g⟩ s (s.put d (.sc (.bool false))) := AStep.noFun hd hx hT true
end
end
end Go.AB
namespace Go.AB
open Go
/-- a part of an element of a row -/
theorem cells_part {α : Type} {enc : α → List AV} {sz : Nat} (henc : ∀ y, (enc y).length = sz) {xs : List α} {j : Int} {y : α} (hy : getIdx xs j = some y) (o n : Nat) (ho : o + n ≤ sz) :
    ((xs.flatMap enc).drop (0 + j.toNat * sz + o)).take n = ((enc y).drop o).take n := by
  have h := cells_at henc hy
  have e : ((((xs.flatMap enc).drop (0 + j.toNat * sz)).take sz).drop o).take n = ((enc y).drop o).take n := by rw [h]
  rw [List.drop_take, List.take_take, List.drop_drop, Nat.min_eq_left (by omega)] at e
  exact e
end Go.AB
namespace Go.AB
open Go
theorem nohas {t : Nat} {H : List (Nat × Blk)} (h : (look t H).isNone = true) : ¬ has t H := by
  rintro ⟨k, hk⟩
  rw [hk] at h
  cases h
end Go.AB

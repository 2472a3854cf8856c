/-
  TourShift returns true at every input: whatever the problem,the multipliers and the numbers by which it moves. No condition.
-/
import Derived.Test.YtiginjokbkemcaaRows
import Derived.Test.YtiginjokbkemcaaF5a
import Derived.Test.YtiginjokbkemcaaLn
import Derived.Test.YtiginjokbkemcaaBc
namespace Go.AB
open Go Go.Proofs
set_option linter.unusedVariables false
def wf46 : R45 → Prop := (fun y : R45 => (fun n => (Lit.int .i64 n).wf = true) y.X ∧ (fun n => (Lit.int .i64 n).wf = true) y.Y ∧ True)
theorem op46 : OpC Try.prog 46 encR45 wf46 := OpC.struct (σ := Int × Int × Unit) Try.underlying46 rfl (by kernel_rfl) (.cons (OpC.int Try.underlying3) (.cons (OpC.int Try.underlying3) (.nil))) (fun x => R45.mk x.1 x.2.1) (fun _ => rfl) (fun _ h => h)
def wf22 : List R45 → Prop := (fun ys : List R45 => ys.length ≤ maxLen ∧ ∀ y,y ∈ ys → (wf46) y)
theorem op22 : OpC Try.prog 22 (fun ys : List R45 => [.rd false ys.length (ys.flatMap encR45)]) wf22 := OpC.slice (sz := 2) Try.underlying22 (by kernel_rfl) (by decide) encR45_len op46
def wf93 : R93 → Prop := (fun y : R93 => (fun n => (Lit.int .i64 n).wf = true) y.f0 ∧ (fun n => (Lit.int .i64 n).wf = true) y.f1)
theorem op93 : OpC Try.prog 93 encR93 wf93 := OpC.conv (OpC.array (sz := 1) Try.underlying93 (by kernel_rfl) (by kernel_rfl) (by decide) (encI_len .i64) (OpC.int Try.underlying3)) (fun ys h => by
  match ys,h.1 with
  | [a0,a1],_ => exact ⟨⟨a0,a1⟩,⟨h.2 a0 (by simp),h.2 a1 (by simp)⟩,rfl⟩)
def wf23 : List R93 → Prop := (fun ys : List R93 => ys.length ≤ maxLen ∧ ∀ y,y ∈ ys → (wf93) y)
theorem op23 : OpC Try.prog 23 (fun ys : List R93 => [.rd false ys.length (ys.flatMap encR93)]) wf23 := OpC.slice (sz := 2) Try.underlying23 (by kernel_rfl) (by decide) encR93_len op93
def wf25 : R24 → Prop := (fun y : R24 => (wf22) y.Points ∧ (wf23) y.Before ∧ True)
theorem op25 : OpC Try.prog 25 encR24 wf25 := OpC.struct (σ := (List R45) × (List R93) × Unit) Try.underlying25 rfl (by kernel_rfl) (.cons op22 (.cons op23 (.nil))) (fun x => R24.mk x.1 x.2.1) (fun _ => rfl) (fun _ h => h)
def wf28 : List Int → Prop := (fun ys : List Int => ys.length ≤ maxLen ∧ ∀ y,y ∈ ys → (fun n => (Lit.int .i64 n).wf = true) y)
theorem op28 : OpC Try.prog 28 (fun ys : List Int => [.rd false ys.length (ys.flatMap (encI .i64))]) wf28 := OpC.slice (sz := 1) Try.underlying28 (by kernel_rfl) (by decide) (encI_len .i64) (OpC.int Try.underlying3)
def wf44 : R44 → Prop := (fun y : R44 => (fun n => (Lit.int .i8 n).wf = true) y.f0 ∧ (fun n => (Lit.int .i8 n).wf = true) y.f1 ∧ (fun n => (Lit.int .i8 n).wf = true) y.f2)
theorem op44 : OpC Try.prog 44 encR44 wf44 := OpC.conv (OpC.array (sz := 1) Try.underlying44 (by kernel_rfl) (by kernel_rfl) (by decide) (encI_len .i8) (OpC.int Try.underlying43)) (fun ys h => by
  match ys,h.1 with
  | [a0,a1,a2],_ => exact ⟨⟨a0,a1,a2⟩,⟨h.2 a0 (by simp),h.2 a1 (by simp),h.2 a2 (by simp)⟩,rfl⟩)
end Go.AB
namespace Go.Proofs.Ytiginjokbkemcaa.tourShift
open Go Go.AB Go.ChangeShapes Go.WideShapes Go.ChangeAt Go.RowKit
set_option linter.unusedVariables false

theorem own : ownKnob Try.prog.godebug = none := by kernel_rfl
theorem laid : laidOutB Try.prog = true := by kernel_rfl

theorem opens : OpensL Try.prog Try.f5.params.toList (fun x : R24 × (List Int) × R44 × Unit => [.agg (encR24 x.1),.rd false x.2.1.length (x.2.1.flatMap (encI .i64)),.agg (encR44 x.2.2.1)]) (fun x => (wf25) x.1 ∧ (wf28) x.2.1 ∧ (wf44) x.2.2.1 ∧ True) := by
  rw [show Try.f5.params.toList = [25,28,44] from by rw [Try.params5]]
  exact .cons (OpC.aggs ⟨_,Try.underlying25,trivial⟩ op25) (.cons (OpC.opens ⟨_,Try.underlying28,trivial⟩ op28) (.cons (OpC.aggs ⟨_,Try.underlying44,trivial⟩ op44) (.nil)))

set_option maxRecDepth 100000 in
theorem contract (H : Type) (enc : TypeId × Value → H) (W : World) (base : Nat) (args : Array Value) (ds gs : List (DataW H)) (before : List MemPlace)
    (hval : ∀ (j : Nat) t v,Try.f5.params[j]? = some t → args[j]? = some v → Value.okWide Try.prog W .any base t v)
    (hW : DataW.Whole enc Try.prog Try.f5.params.toList Rows.tourShiftSpec.vars false W args.toList ds gs before) :
    Calls Try.prog 5 args W fun e W' => ∃ v,e = .returned v ∧ Rows.tourShiftSpec.post enc Try.prog Try.f5 false true false false W args v W' :=
  law_contract (fn := Try.f5) (k := 5) laid (by kernel_rfl) (by kernel_rfl) Try.underlying4 rfl opens
    (fun H ds hl => by
      rw [show Try.f5.params.toList = [25,28,44] from by rw [Try.params5]] at hl
      match ds,hl with
      | [d1,d2,d3],_ => rfl)
    H enc W base args ds gs before (fun x hx => c5 200000 x.1 x.2.1 x.2.2.1 (m5_true x.1 x.2.1 x.2.2.1)) hval hW

set_option maxRecDepth 100000 in
theorem lifted (os : Os) (started : os.Started) (H : Type) (enc : TypeId × Value → H) :
    ReturnsInHanded {} Try.checked os 5 .any (Rows.tourShiftSpec.pre6 enc Try.prog Try.f5 Rows.tourShiftRow.domain false) (Rows.tourShiftSpec.post enc Try.prog Try.f5 false true false false) := by
  refine returnsInHanded_of_change (C := Try.checked) own started (by kernel_rfl) Try.func5
    (ChangeSpec.witness6 (enc := enc) (C := Try.checked) false ⟨#[],#[.agg #[.slice none 0 0,.slice none 0 0],.slice none 0 0,.agg #[.int .i8 0,.int .i8 0,.int .i8 0]],[]⟩ 8 (by kernel_rfl) (by kernel_rfl) (by kernel_rfl) (by kernel_rfl)) ?_
  intro W base args ds gs before hval hW _ _
  exact contract H enc W base args ds gs before hval hW

theorem over : Rows.tourShiftRow.holds Try.pinned (OpenSpec.ofChange Rows.tourShiftSpec) :=
  OpenClaim.holds_of_wide 5 Try.f5 rfl rfl rfl rfl rfl rfl rfl ⟨rfl,rfl,rfl,rfl,rfl⟩ rfl rfl rfl rfl rfl (by kernel_rfl) Try.func5 (by kernel_rfl)
    (of_decide_eq_true (by kernel_rfl)) (by unfold Func.isWrapper; first | (rw [if_pos (by decide +kernel)]; kernel_rfl) | (rw [if_neg (by decide +kernel)]; exact ⟨rfl,rfl⟩))
    (fun os started H enc _ => lifted os started H enc)

theorem proved : Rows.TourShiftSaid :=
  over
end Go.Proofs.Ytiginjokbkemcaa.tourShift


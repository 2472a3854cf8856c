/-
  KnapsackOrder returns true at every input: whatever the items, the capacity and the numbers. No condition.
-/
import Derived.Test.YtpdllokejgpnoaaRows
import Derived.Test.YtpdllokejgpnoaaLp
import Derived.Test.YtpdllokejgpnoaaAb22
namespace Go.AB
open Go Go.Proofs
set_option linter.unusedVariables false
def wf36 : R27 → Prop := (fun y : R27 => (fun n => (Lit.int .i64 n).wf = true) y.Size ∧ (fun n => (Lit.int .i64 n).wf = true) y.Value ∧ (fun n => (Lit.int .i64 n).wf = true) y.Most ∧ True)
theorem op36 : OpC Try.prog 36 encR27 wf36 := OpC.struct (σ := Int × Int × Int × Unit) Try.underlying36 rfl (by kernel_rfl) (.cons (OpC.int Try.underlying3) (.cons (OpC.int Try.underlying3) (.cons (OpC.int Try.underlying3) (.nil)))) (fun x => R27.mk x.1 x.2.1 x.2.2.1) (fun _ => rfl) (fun _ h => h)
def wf22 : List R27 → Prop := (fun ys : List R27 => ys.length ≤ maxLen ∧ ∀ y, y ∈ ys → (wf36) y)
theorem op22 : OpC Try.prog 22 (fun ys : List R27 => [.rd false ys.length (ys.flatMap encR27)]) wf22 := OpC.slice (sz := 3) Try.underlying22 (by kernel_rfl) (by decide) encR27_len op36
def wf48 : List UInt8 → Prop := (fun ys : List UInt8 => ys.length = 2 ∧ ∀ y, y ∈ ys → (fun _ => True) y)
theorem op48 : OpC Try.prog 48 (fun ys : List UInt8 => ys.flatMap enc8) wf48 := OpC.array (sz := 1) Try.underlying48 (by kernel_rfl) (by kernel_rfl) (by decide) enc8_len (OpC.u8 Try.underlying5)
end Go.AB
namespace Go.Proofs.Ytpdllokejgpnoaa.knapsackOrder
open Go Go.AB Go.ChangeShapes Go.WideShapes Go.ChangeAt Go.RowKit
set_option linter.unusedVariables false

theorem own : ownKnob Try.prog.godebug = none := by kernel_rfl
theorem laid : laidOutB Try.prog = true := by kernel_rfl

theorem opens : OpensL Try.prog Try.f9.params.toList (fun x : (List R27) × Int × (List UInt8) × Unit => [.rd false x.1.length (x.1.flatMap encR27), .sc (.int .i64 x.2.1), .agg (x.2.2.1.flatMap enc8)]) (fun x => (wf22) x.1 ∧ (fun n => (Lit.int .i64 n).wf = true) x.2.1 ∧ (wf48) x.2.2.1 ∧ True) := by
  rw [show Try.f9.params.toList = [22, 3, 48] from by rw [Try.params9]]
  exact .cons (OpC.opens ⟨_, Try.underlying22, trivial⟩ op22) (.cons (OpC.opens ⟨_, Try.underlying3, trivial⟩ (OpC.int Try.underlying3)) (.cons (OpC.aggs ⟨_, Try.underlying48, trivial⟩ op48) (.nil)))

theorem contract (H : Type) (enc : TypeId × Value → H) (W : World) (base : Nat) (args : Array Value) (ds gs : List (DataW H)) (before : List MemPlace)
    (hval : ∀ (j : Nat) t v, Try.f9.params[j]? = some t → args[j]? = some v → Value.okWide Try.prog W .any base t v)
    (hW : DataW.Whole enc Try.prog Try.f9.params.toList Rows.knapsackOrderSpec.vars false W args.toList ds gs before) :
    Calls Try.prog 9 args W fun e W' => ∃ v, e = .returned v ∧ Rows.knapsackOrderSpec.post enc Try.prog Try.f9 false true false false W args v W' :=
  law_contract laid (by kernel_rfl) (by kernel_rfl) Try.underlying4 rfl opens
    (fun H ds hl => by
      rw [show Try.f9.params.toList = [22, 3, 48] from by rw [Try.params9]] at hl
      match ds, hl with
      | [d1, d2, d3], _ => rfl)
    H enc W base args ds gs before (fun x hx => c9 5000 x.1 x.2.1 x.2.2.1 (m9_true x.1 x.2.1 x.2.2.1 hx.2.2.1.1)) hval hW

set_option maxRecDepth 100000 in
theorem lifted (os : Os) (started : os.Started) (H : Type) (enc : TypeId × Value → H) :
    ReturnsInHanded {} Try.checked os 9 .any (Rows.knapsackOrderSpec.pre6 enc Try.prog Try.f9 Rows.knapsackOrderRow.domain false) (Rows.knapsackOrderSpec.post enc Try.prog Try.f9 false true false false) := by
  refine returnsInHanded_of_change (C := Try.checked) own started (by kernel_rfl) Try.func9
    (ChangeSpec.witness6 (enc := enc) (C := Try.checked) false ⟨#[], #[.slice none 0 0, .int .i64 0, .agg #[.int .u8 0, .int .u8 0]], []⟩ 8 (by kernel_rfl) (by kernel_rfl) (by kernel_rfl) (by kernel_rfl)) ?_
  intro W base args ds gs before hval hW _ _
  exact contract H enc W base args ds gs before hval hW

theorem over : Rows.knapsackOrderRow.holds Try.pinned (OpenSpec.ofChange Rows.knapsackOrderSpec) :=
  OpenClaim.holds_of_wide 9 Try.f9 rfl rfl rfl rfl rfl rfl rfl ⟨rfl, rfl, rfl, rfl, rfl⟩ rfl rfl rfl rfl rfl (by kernel_rfl) Try.func9 (by kernel_rfl)
    (of_decide_eq_true (by kernel_rfl)) (by unfold Func.isWrapper; first | (rw [if_pos (by decide +kernel)]; kernel_rfl) | (rw [if_neg (by decide +kernel)]; exact ⟨rfl, rfl⟩))
    (fun os started H enc _ => lifted os started H enc)

theorem proved : Rows.KnapsackOrderSaid :=
  over
end Go.Proofs.Ytpdllokejgpnoaa.knapsackOrder

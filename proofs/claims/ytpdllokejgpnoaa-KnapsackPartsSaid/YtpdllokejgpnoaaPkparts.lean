/-
  KnapsackParts returns true at every input: whatever the items, the capacity and the numbers. No condition.
-/
import Derived.Test.YtpdllokejgpnoaaRows
import Derived.Test.YtpdllokejgpnoaaLt
import Derived.Test.YtpdllokejgpnoaaAb22
namespace Go.AB
open Go Go.Proofs
set_option linter.unusedVariables false
def wf36 : R27 → Prop := (fun y : R27 => (fun n => (Lit.int .i64 n).wf = true) y.Size ∧ (fun n => (Lit.int .i64 n).wf = true) y.Value ∧ (fun n => (Lit.int .i64 n).wf = true) y.Most ∧ True)
theorem op36 : OpC Try.prog 36 encR27 wf36 := OpC.struct (σ := Int × Int × Int × Unit) Try.underlying36 rfl (by kernel_rfl) (.cons (OpC.int Try.underlying3) (.cons (OpC.int Try.underlying3) (.cons (OpC.int Try.underlying3) (.nil)))) (fun x => R27.mk x.1 x.2.1 x.2.2.1) (fun _ => rfl) (fun _ h => h)
def wf22 : List R27 → Prop := (fun ys : List R27 => ys.length ≤ maxLen ∧ ∀ y, y ∈ ys → (wf36) y)
theorem op22 : OpC Try.prog 22 (fun ys : List R27 => [.rd false ys.length (ys.flatMap encR27)]) wf22 := OpC.slice (sz := 3) Try.underlying22 (by kernel_rfl) (by decide) encR27_len op36
def wf30 : List Int → Prop := (fun ys : List Int => ys.length ≤ maxLen ∧ ∀ y, y ∈ ys → (fun n => (Lit.int .i64 n).wf = true) y)
theorem op30 : OpC Try.prog 30 (fun ys : List Int => [.rd false ys.length (ys.flatMap (encI .i64))]) wf30 := OpC.slice (sz := 1) Try.underlying30 (by kernel_rfl) (by decide) (encI_len .i64) (OpC.int Try.underlying3)
end Go.AB
namespace Go.Proofs.Ytpdllokejgpnoaa.knapsackParts
open Go Go.AB Go.ChangeShapes Go.WideShapes Go.ChangeAt Go.RowKit
set_option linter.unusedVariables false

theorem own : ownKnob Try.prog.godebug = none := by kernel_rfl
theorem laid : laidOutB Try.prog = true := by kernel_rfl

theorem opens : OpensL Try.prog Try.f10.params.toList (fun x : (List R27) × Int × (List Int) × Unit => [.rd false x.1.length (x.1.flatMap encR27), .sc (.int .i64 x.2.1), .rd false x.2.2.1.length (x.2.2.1.flatMap (encI .i64))]) (fun x => (wf22) x.1 ∧ (fun n => (Lit.int .i64 n).wf = true) x.2.1 ∧ (wf30) x.2.2.1 ∧ True) := by
  rw [show Try.f10.params.toList = [22, 3, 30] from by rw [Try.params10]]
  exact .cons (OpC.opens ⟨_, Try.underlying22, trivial⟩ op22) (.cons (OpC.opens ⟨_, Try.underlying3, trivial⟩ (OpC.int Try.underlying3)) (.cons (OpC.opens ⟨_, Try.underlying30, trivial⟩ op30) (.nil)))

theorem contract (H : Type) (enc : TypeId × Value → H) (W : World) (base : Nat) (args : Array Value) (ds gs : List (DataW H)) (before : List MemPlace)
    (hval : ∀ (j : Nat) t v, Try.f10.params[j]? = some t → args[j]? = some v → Value.okWide Try.prog W .any base t v)
    (hW : DataW.Whole enc Try.prog Try.f10.params.toList Rows.knapsackPartsSpec.vars false W args.toList ds gs before) :
    Calls Try.prog 10 args W fun e W' => ∃ v, e = .returned v ∧ Rows.knapsackPartsSpec.post enc Try.prog Try.f10 false true false false W args v W' :=
  law_contract laid (by kernel_rfl) (by kernel_rfl) Try.underlying4 rfl opens
    (fun H ds hl => by
      rw [show Try.f10.params.toList = [22, 3, 30] from by rw [Try.params10]] at hl
      match ds, hl with
      | [d1, d2, d3], _ => rfl)
    H enc W base args ds gs before (fun x hx => c10 5000 x.1 x.2.1 x.2.2.1 (m10_true x.1 x.2.1 x.2.2.1)) hval hW

set_option maxRecDepth 100000 in
theorem lifted (os : Os) (started : os.Started) (H : Type) (enc : TypeId × Value → H) :
    ReturnsInHanded {} Try.checked os 10 .any (Rows.knapsackPartsSpec.pre6 enc Try.prog Try.f10 Rows.knapsackPartsRow.domain false) (Rows.knapsackPartsSpec.post enc Try.prog Try.f10 false true false false) := by
  refine returnsInHanded_of_change (C := Try.checked) own started (by kernel_rfl) Try.func10
    (ChangeSpec.witness6 (enc := enc) (C := Try.checked) false ⟨#[], #[.slice none 0 0, .int .i64 0, .slice none 0 0], []⟩ 8 (by kernel_rfl) (by kernel_rfl) (by kernel_rfl) (by kernel_rfl)) ?_
  intro W base args ds gs before hval hW _ _
  exact contract H enc W base args ds gs before hval hW

theorem over : Rows.knapsackPartsRow.holds Try.pinned (OpenSpec.ofChange Rows.knapsackPartsSpec) :=
  OpenClaim.holds_of_wide 10 Try.f10 rfl rfl rfl rfl rfl rfl rfl ⟨rfl, rfl, rfl, rfl, rfl⟩ rfl rfl rfl rfl rfl (by kernel_rfl) Try.func10 (by kernel_rfl)
    (of_decide_eq_true (by kernel_rfl)) (by unfold Func.isWrapper; first | (rw [if_pos (by decide +kernel)]; kernel_rfl) | (rw [if_neg (by decide +kernel)]; exact ⟨rfl, rfl⟩))
    (fun os started H enc _ => lifted os started H enc)

theorem proved : Rows.KnapsackPartsSaid :=
  over
end Go.Proofs.Ytpdllokejgpnoaa.knapsackParts

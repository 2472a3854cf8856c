/-
  HeapPlays returns true at every input: whatever the calls. No condition.
-/
import Derived.Test.YtpcjbgfgimboiaaRows
import Derived.Test.YtpcjbgfgimboiaaF8b
import Derived.Test.YtpcjbgfgimboiaaLk
import Derived.Test.YtpcjbgfgimboiaaAb22
namespace Go.AB
open Go Go.Proofs
set_option linter.unusedVariables false
def wf28 : R27 → Prop := (fun y : R27 => (fun n => (Lit.int .i64 n).wf = true) y.Key ∧ (fun n => (Lit.int .i64 n).wf = true) y.Tag ∧ True)
theorem op28 : OpC Try.prog 28 encR27 wf28 := OpC.struct (σ := Int × Int × Unit) Try.underlying28 rfl (by kernel_rfl) (.cons (OpC.int Try.underlying3) (.cons (OpC.int Try.underlying3) (.nil))) (fun x => R27.mk x.1 x.2.1) (fun _ => rfl) (fun _ h => h)
def wf60 : R59 → Prop := (fun y : R59 => (fun n => (Lit.int .u8 n).wf = true) y.Kind ∧ (wf28) y.Item ∧ True)
theorem op60 : OpC Try.prog 60 encR59 wf60 := OpC.struct (σ := Int × R27 × Unit) Try.underlying60 rfl (by kernel_rfl) (.cons (OpC.int Try.underlying5) (.cons op28 (.nil))) (fun x => R59.mk x.1 x.2.1) (fun _ => rfl) (fun _ h => h)
def wf58 : List R59 → Prop := (fun ys : List R59 => ys.length ≤ maxLen ∧ ∀ y, y ∈ ys → (wf60) y)
theorem op58 : OpC Try.prog 58 (fun ys : List R59 => [.rd false ys.length (ys.flatMap encR59)]) wf58 := OpC.slice (sz := 3) Try.underlying58 (by kernel_rfl) (by decide) encR59_len op60
end Go.AB
namespace Go.Proofs.Ytpcjbgfgimboiaa.heapPlays
open Go Go.AB Go.ChangeShapes Go.WideShapes Go.ChangeAt Go.RowKit
set_option linter.unusedVariables false

theorem own : ownKnob Try.prog.godebug = none := by kernel_rfl
theorem laid : laidOutB Try.prog = true := by kernel_rfl

theorem opens : OpensL Try.prog Try.f8.params.toList (fun x : (List R59) × Unit => [.rd false x.1.length (x.1.flatMap encR59)]) (fun x => (wf58) x.1 ∧ True) := by
  rw [show Try.f8.params.toList = [58] from by rw [Try.params8]]
  exact .cons (OpC.opens ⟨_, Try.underlying58, trivial⟩ op58) (.nil)

set_option maxRecDepth 100000 in
theorem contract (H : Type) (enc : TypeId × Value → H) (W : World) (base : Nat) (args : Array Value) (ds gs : List (DataW H)) (before : List MemPlace)
    (hval : ∀ (j : Nat) t v, Try.f8.params[j]? = some t → args[j]? = some v → Value.okWide Try.prog W .any base t v)
    (hW : DataW.Whole enc Try.prog Try.f8.params.toList Rows.heapPlaysSpec.vars false W args.toList ds gs before) :
    Calls Try.prog 8 args W fun e W' => ∃ v, e = .returned v ∧ Rows.heapPlaysSpec.post enc Try.prog Try.f8 false true false false W args v W' :=
  law_contract (fn := Try.f8) (k := 8) laid (by kernel_rfl) (by kernel_rfl) Try.underlying4 rfl opens
    (fun H ds hl => by
      rw [show Try.f8.params.toList = [58] from by rw [Try.params8]] at hl
      match ds, hl with
      | [d1], _ => rfl)
    H enc W base args ds gs before (fun x hx => c8 300000 x.1 (m8_true x.1)) hval hW

set_option maxRecDepth 100000 in
theorem lifted (os : Os) (started : os.Started) (H : Type) (enc : TypeId × Value → H) :
    ReturnsInHanded {} Try.checked os 8 .any (Rows.heapPlaysSpec.pre6 enc Try.prog Try.f8 Rows.heapPlaysRow.domain false) (Rows.heapPlaysSpec.post enc Try.prog Try.f8 false true false false) := by
  refine returnsInHanded_of_change (C := Try.checked) own started (by kernel_rfl) Try.func8
    (ChangeSpec.witness6 (enc := enc) (C := Try.checked) false ⟨#[], #[.slice none 0 0], []⟩ 8 (by kernel_rfl) (by kernel_rfl) (by kernel_rfl) (by kernel_rfl)) ?_
  intro W base args ds gs before hval hW _ _
  exact contract H enc W base args ds gs before hval hW

theorem over : Rows.heapPlaysRow.holds Try.pinned (OpenSpec.ofChange Rows.heapPlaysSpec) :=
  OpenClaim.holds_of_wide 8 Try.f8 rfl rfl rfl rfl rfl rfl rfl ⟨rfl, rfl, rfl, rfl, rfl⟩ rfl rfl rfl rfl rfl (by kernel_rfl) Try.func8 (by kernel_rfl)
    (of_decide_eq_true (by kernel_rfl)) (by unfold Func.isWrapper; first | (rw [if_pos (by decide +kernel)]; kernel_rfl) | (rw [if_neg (by decide +kernel)]; exact ⟨rfl, rfl⟩))
    (fun os started H enc _ => lifted os started H enc)

theorem proved : Rows.HeapPlaysSaid :=
  over
end Go.Proofs.Ytpcjbgfgimboiaa.heapPlays

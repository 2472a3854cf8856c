/-
  HeapStable returns true at every input: whatever the keys. No condition.
-/
import Derived.Test.YtpcjbgfgimboiaaRows
import Derived.Test.YtpcjbgfgimboiaaF4b
import Derived.Test.YtpcjbgfgimboiaaLm
import Derived.Test.YtpcjbgfgimboiaaAb22
namespace Go.AB
open Go Go.Proofs
set_option linter.unusedVariables false
def wf35 : List UInt8 → Prop := (fun ys : List UInt8 => ys.length ≤ maxLen ∧ ∀ y, y ∈ ys → (fun _ => True) y)
theorem op35 : OpC Try.prog 35 (fun ys : List UInt8 => [.rd false ys.length (ys.flatMap enc8)]) wf35 := OpC.slice (sz := 1) Try.underlying35 (by kernel_rfl) (by decide) enc8_len (OpC.u8 Try.underlying5)
end Go.AB
namespace Go.Proofs.Ytpcjbgfgimboiaa.heapStable
open Go Go.AB Go.ChangeShapes Go.WideShapes Go.ChangeAt Go.RowKit
set_option linter.unusedVariables false

theorem own : ownKnob Try.prog.godebug = none := by kernel_rfl
theorem laid : laidOutB Try.prog = true := by kernel_rfl

theorem opens : OpensL Try.prog Try.f4.params.toList (fun x : (List UInt8) × Unit => [.rd false x.1.length (x.1.flatMap enc8)]) (fun x => (wf35) x.1 ∧ True) := by
  rw [show Try.f4.params.toList = [35] from by rw [Try.params4]]
  exact .cons (OpC.opens ⟨_, Try.underlying35, trivial⟩ op35) (.nil)

set_option maxRecDepth 100000 in
theorem contract (H : Type) (enc : TypeId × Value → H) (W : World) (base : Nat) (args : Array Value) (ds gs : List (DataW H)) (before : List MemPlace)
    (hval : ∀ (j : Nat) t v, Try.f4.params[j]? = some t → args[j]? = some v → Value.okWide Try.prog W .any base t v)
    (hW : DataW.Whole enc Try.prog Try.f4.params.toList Rows.heapStableSpec.vars false W args.toList ds gs before) :
    Calls Try.prog 4 args W fun e W' => ∃ v, e = .returned v ∧ Rows.heapStableSpec.post enc Try.prog Try.f4 false true false false W args v W' :=
  law_contract (fn := Try.f4) (k := 4) laid (by kernel_rfl) (by kernel_rfl) Try.underlying4 rfl opens
    (fun H ds hl => by
      rw [show Try.f4.params.toList = [35] from by rw [Try.params4]] at hl
      match ds, hl with
      | [d1], _ => rfl)
    H enc W base args ds gs before (fun x hx => c4 300000 x.1 (m4_true x.1)) hval hW

set_option maxRecDepth 100000 in
theorem lifted (os : Os) (started : os.Started) (H : Type) (enc : TypeId × Value → H) :
    ReturnsInHanded {} Try.checked os 4 .any (Rows.heapStableSpec.pre6 enc Try.prog Try.f4 Rows.heapStableRow.domain false) (Rows.heapStableSpec.post enc Try.prog Try.f4 false true false false) := by
  refine returnsInHanded_of_change (C := Try.checked) own started (by kernel_rfl) Try.func4
    (ChangeSpec.witness6 (enc := enc) (C := Try.checked) false ⟨#[], #[.slice none 0 0], []⟩ 8 (by kernel_rfl) (by kernel_rfl) (by kernel_rfl) (by kernel_rfl)) ?_
  intro W base args ds gs before hval hW _ _
  exact contract H enc W base args ds gs before hval hW

theorem over : Rows.heapStableRow.holds Try.pinned (OpenSpec.ofChange Rows.heapStableSpec) :=
  OpenClaim.holds_of_wide 4 Try.f4 rfl rfl rfl rfl rfl rfl rfl ⟨rfl, rfl, rfl, rfl, rfl⟩ rfl rfl rfl rfl rfl (by kernel_rfl) Try.func4 (by kernel_rfl)
    (of_decide_eq_true (by kernel_rfl)) (by unfold Func.isWrapper; first | (rw [if_pos (by decide +kernel)]; kernel_rfl) | (rw [if_neg (by decide +kernel)]; exact ⟨rfl, rfl⟩))
    (fun os started H enc _ => lifted os started H enc)

theorem proved : Rows.HeapStableSaid :=
  over
end Go.Proofs.Ytpcjbgfgimboiaa.heapStable

/-
  HeapCost returns true at every input: whatever the keys. No condition.
-/
import Derived.Test.YtpcjbgfgimboiaaRows
import Derived.Test.YtpcjbgfgimboiaaF7a
import Derived.Test.YtpcjbgfgimboiaaLl
import Derived.Test.YtpcjbgfgimboiaaAb22
namespace Go.AB
open Go Go.Proofs
set_option linter.unusedVariables false
def wf49 : List Int → Prop := (fun ys : List Int => ys.length ≤ maxLen ∧ ∀ y, y ∈ ys → (fun n => (Lit.int .u16 n).wf = true) y)
theorem op49 : OpC Try.prog 49 (fun ys : List Int => [.rd false ys.length (ys.flatMap (encI .u16))]) wf49 := OpC.slice (sz := 1) Try.underlying49 (by kernel_rfl) (by decide) (encI_len .u16) (OpC.int Try.underlying52)
end Go.AB
namespace Go.Proofs.Ytpcjbgfgimboiaa.heapCost
open Go Go.AB Go.ChangeShapes Go.WideShapes Go.ChangeAt Go.RowKit
set_option linter.unusedVariables false

theorem own : ownKnob Try.prog.godebug = none := by kernel_rfl
theorem laid : laidOutB Try.prog = true := by kernel_rfl

theorem opens : OpensL Try.prog Try.f7.params.toList (fun x : (List Int) × Unit => [.rd false x.1.length (x.1.flatMap (encI .u16))]) (fun x => (wf49) x.1 ∧ True) := by
  rw [show Try.f7.params.toList = [49] from by rw [Try.params7]]
  exact .cons (OpC.opens ⟨_, Try.underlying49, trivial⟩ op49) (.nil)

set_option maxRecDepth 100000 in
theorem contract (H : Type) (enc : TypeId × Value → H) (W : World) (base : Nat) (args : Array Value) (ds gs : List (DataW H)) (before : List MemPlace)
    (hval : ∀ (j : Nat) t v, Try.f7.params[j]? = some t → args[j]? = some v → Value.okWide Try.prog W .any base t v)
    (hW : DataW.Whole enc Try.prog Try.f7.params.toList Rows.heapCostSpec.vars false W args.toList ds gs before) :
    Calls Try.prog 7 args W fun e W' => ∃ v, e = .returned v ∧ Rows.heapCostSpec.post enc Try.prog Try.f7 false true false false W args v W' :=
  law_contract (fn := Try.f7) (k := 7) laid (by kernel_rfl) (by kernel_rfl) Try.underlying4 rfl opens
    (fun H ds hl => by
      rw [show Try.f7.params.toList = [49] from by rw [Try.params7]] at hl
      match ds, hl with
      | [d1], _ => rfl)
    H enc W base args ds gs before (fun x hx => c7 300000 x.1 (m7_true x.1 fun y hy => u16_nonneg (hx.1.2 y hy))) hval hW

set_option maxRecDepth 100000 in
theorem lifted (os : Os) (started : os.Started) (H : Type) (enc : TypeId × Value → H) :
    ReturnsInHanded {} Try.checked os 7 .any (Rows.heapCostSpec.pre6 enc Try.prog Try.f7 Rows.heapCostRow.domain false) (Rows.heapCostSpec.post enc Try.prog Try.f7 false true false false) := by
  refine returnsInHanded_of_change (C := Try.checked) own started (by kernel_rfl) Try.func7
    (ChangeSpec.witness6 (enc := enc) (C := Try.checked) false ⟨#[], #[.slice none 0 0], []⟩ 8 (by kernel_rfl) (by kernel_rfl) (by kernel_rfl) (by kernel_rfl)) ?_
  intro W base args ds gs before hval hW _ _
  exact contract H enc W base args ds gs before hval hW

theorem over : Rows.heapCostRow.holds Try.pinned (OpenSpec.ofChange Rows.heapCostSpec) :=
  OpenClaim.holds_of_wide 7 Try.f7 rfl rfl rfl rfl rfl rfl rfl ⟨rfl, rfl, rfl, rfl, rfl⟩ rfl rfl rfl rfl rfl (by kernel_rfl) Try.func7 (by kernel_rfl)
    (of_decide_eq_true (by kernel_rfl)) (by unfold Func.isWrapper; first | (rw [if_pos (by decide +kernel)]; kernel_rfl) | (rw [if_neg (by decide +kernel)]; exact ⟨rfl, rfl⟩))
    (fun os started H enc _ => lifted os started H enc)

theorem proved : Rows.HeapCostSaid :=
  over
end Go.Proofs.Ytpcjbgfgimboiaa.heapCost

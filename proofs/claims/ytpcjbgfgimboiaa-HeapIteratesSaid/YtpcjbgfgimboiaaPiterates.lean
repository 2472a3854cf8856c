/-
  HeapIterates returns true at every input: whatever the list and the number. No condition.
-/
import Derived.Test.YtpcjbgfgimboiaaRows
import Derived.Test.YtpcjbgfgimboiaaF5b
import Derived.Test.YtpcjbgfgimboiaaLn
import Derived.Test.YtpcjbgfgimboiaaBc
namespace Go.AB
open Go Go.Proofs
set_option linter.unusedVariables false
def wf28 : R27 → Prop := (fun y : R27 => (fun n => (Lit.int .i64 n).wf = true) y.Key ∧ (fun n => (Lit.int .i64 n).wf = true) y.Tag ∧ True)
theorem op28 : OpC Try.prog 28 encR27 wf28 := OpC.struct (σ := Int × Int × Unit) Try.underlying28 rfl (by kernel_rfl) (.cons (OpC.int Try.underlying3) (.cons (OpC.int Try.underlying3) (.nil))) (fun x => R27.mk x.1 x.2.1) (fun _ => rfl) (fun _ h => h)
def wf22 : List R27 → Prop := (fun ys : List R27 => ys.length ≤ maxLen ∧ ∀ y,y ∈ ys → (wf28) y)
theorem op22 : OpC Try.prog 22 (fun ys : List R27 => [.rd false ys.length (ys.flatMap encR27)]) wf22 := OpC.slice (sz := 2) Try.underlying22 (by kernel_rfl) (by decide) encR27_len op28
end Go.AB
namespace Go.Proofs.Ytpcjbgfgimboiaa.heapIterates
open Go Go.AB Go.ChangeShapes Go.WideShapes Go.ChangeAt Go.RowKit
set_option linter.unusedVariables false

theorem own : ownKnob Try.prog.godebug = none := by kernel_rfl
theorem laid : laidOutB Try.prog = true := by kernel_rfl

theorem opens : OpensL Try.prog Try.f5.params.toList (fun x : (List R27) × Int × Unit => [.rd false x.1.length (x.1.flatMap encR27),.sc (.int .u8 x.2.1)]) (fun x => (wf22) x.1 ∧ (fun n => (Lit.int .u8 n).wf = true) x.2.1 ∧ True) := by
  rw [show Try.f5.params.toList = [22,5] from by rw [Try.params5]]
  exact .cons (OpC.opens ⟨_,Try.underlying22,trivial⟩ op22) (.cons (OpC.opens ⟨_,Try.underlying5,trivial⟩ (OpC.int Try.underlying5)) (.nil))

set_option maxRecDepth 100000 in
theorem contract (H : Type) (enc : TypeId × Value → H) (W : World) (base : Nat) (args : Array Value) (ds gs : List (DataW H)) (before : List MemPlace)
    (hval : ∀ (j : Nat) t v,Try.f5.params[j]? = some t → args[j]? = some v → Value.okWide Try.prog W .any base t v)
    (hW : DataW.Whole enc Try.prog Try.f5.params.toList Rows.heapIteratesSpec.vars false W args.toList ds gs before) :
    Calls Try.prog 5 args W fun e W' => ∃ v,e = .returned v ∧ Rows.heapIteratesSpec.post enc Try.prog Try.f5 false true false false W args v W' :=
  law_contract (fn := Try.f5) (k := 5) laid (by kernel_rfl) (by kernel_rfl) Try.underlying4 rfl opens
    (fun H ds hl => by
      rw [show Try.f5.params.toList = [22,5] from by rw [Try.params5]] at hl
      match ds,hl with
      | [d1,d2],_ => rfl)
    H enc W base args ds gs before (fun x hx => c5 300000 x.1 x.2.1 (m5_true x.1 x.2.1 hx.2.1)) hval hW

set_option maxRecDepth 100000 in
theorem lifted (os : Os) (started : os.Started) (H : Type) (enc : TypeId × Value → H) :
    ReturnsInHanded {} Try.checked os 5 .any (Rows.heapIteratesSpec.pre6 enc Try.prog Try.f5 Rows.heapIteratesRow.domain false) (Rows.heapIteratesSpec.post enc Try.prog Try.f5 false true false false) := by
  refine returnsInHanded_of_change (C := Try.checked) own started (by kernel_rfl) Try.func5
    (ChangeSpec.witness6 (enc := enc) (C := Try.checked) false ⟨#[],#[.slice none 0 0,.int .u8 0],[]⟩ 8 (by kernel_rfl) (by kernel_rfl) (by kernel_rfl) (by kernel_rfl)) ?_
  intro W base args ds gs before hval hW _ _
  exact contract H enc W base args ds gs before hval hW

theorem over : Rows.heapIteratesRow.holds Try.pinned (OpenSpec.ofChange Rows.heapIteratesSpec) :=
  OpenClaim.holds_of_wide 5 Try.f5 rfl rfl rfl rfl rfl rfl rfl ⟨rfl,rfl,rfl,rfl,rfl⟩ rfl rfl rfl rfl rfl (by kernel_rfl) Try.func5 (by kernel_rfl)
    (of_decide_eq_true (by kernel_rfl)) (by unfold Func.isWrapper; first | (rw [if_pos (by decide +kernel)]; kernel_rfl) | (rw [if_neg (by decide +kernel)]; exact ⟨rfl,rfl⟩))
    (fun os started H enc _ => lifted os started H enc)

theorem proved : Rows.HeapIteratesSaid :=
  over
end Go.Proofs.Ytpcjbgfgimboiaa.heapIterates


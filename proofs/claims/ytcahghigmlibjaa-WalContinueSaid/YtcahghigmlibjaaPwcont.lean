/-
  WalContinue returns true at every input: whatever the records and the number. No condition.
-/
import Derived.Test.YtcahghigmlibjaaRows
import Derived.Test.YtcahghigmlibjaaLj
import Derived.Test.YtcahghigmlibjaaAb22
namespace Go.AB
open Go Go.Proofs
set_option linter.unusedVariables false
def wf22 : List UInt8 → Prop := (fun ys : List UInt8 => ys.length ≤ maxLen ∧ ∀ y, y ∈ ys → (fun _ => True) y)
theorem op22 : OpC Try.prog 22 (fun ys : List UInt8 => [.rd false ys.length (ys.flatMap enc8)]) wf22 := OpC.slice (sz := 1) Try.underlying22 (by kernel_rfl) (by decide) enc8_len (OpC.u8 Try.underlying5)
def wf42 : List (List UInt8) → Prop := (fun ys : List (List UInt8) => ys.length ≤ maxLen ∧ ∀ y, y ∈ ys → (wf22) y)
theorem op42 : OpC Try.prog 42 (fun ys : List (List UInt8) => [.rd false ys.length (ys.flatMap encL5)]) wf42 := OpC.slice (sz := 1) Try.underlying42 (by kernel_rfl) (by decide) encL5_len op22
end Go.AB
namespace Go.Proofs.Ytcahghigmlibjaa.walContinue
open Go Go.AB Go.ChangeShapes Go.WideShapes Go.ChangeAt Go.RowKit
set_option linter.unusedVariables false

theorem own : ownKnob Try.prog.godebug = none := by kernel_rfl
theorem laid : laidOutB Try.prog = true := by kernel_rfl

theorem opens : OpensL Try.prog Try.f9.params.toList (fun x : (List (List UInt8)) × (List (List UInt8)) × Int × Unit => [.rd false x.1.length (x.1.flatMap encL5), .rd false x.2.1.length (x.2.1.flatMap encL5), .sc (.int .u16 x.2.2.1)]) (fun x => (wf42) x.1 ∧ (wf42) x.2.1 ∧ (fun n => (Lit.int .u16 n).wf = true) x.2.2.1 ∧ True) := by
  rw [show Try.f9.params.toList = [42, 42, 50] from by rw [Try.params9]]
  exact .cons (OpC.opens ⟨_, Try.underlying42, trivial⟩ op42) (.cons (OpC.opens ⟨_, Try.underlying42, trivial⟩ op42) (.cons (OpC.opens ⟨_, Try.underlying50, trivial⟩ (OpC.int Try.underlying50)) (.nil)))

theorem contract (H : Type) (enc : TypeId × Value → H) (W : World) (base : Nat) (args : Array Value) (ds gs : List (DataW H)) (before : List MemPlace)
    (hval : ∀ (j : Nat) t v, Try.f9.params[j]? = some t → args[j]? = some v → Value.okWide Try.prog W .any base t v)
    (hW : DataW.Whole enc Try.prog Try.f9.params.toList Rows.walContinueSpec.vars false W args.toList ds gs before) :
    Calls Try.prog 9 args W fun e W' => ∃ v, e = .returned v ∧ Rows.walContinueSpec.post enc Try.prog Try.f9 false true false false W args v W' :=
  law_contract laid (by kernel_rfl) (by kernel_rfl) Try.underlying4 rfl opens
    (fun H ds hl => by
      rw [show Try.f9.params.toList = [42, 42, 50] from by rw [Try.params9]] at hl
      match ds, hl with
      | [d1, d2, d3], _ => rfl)
    H enc W base args ds gs before (fun x hx => c9 (x.1.length + x.2.1.length + 5000) x.1 x.2.1 x.2.2.1 (m9_true x.1 x.2.1 x.2.2.1 (Nat.le_trans hx.1.1 (by decide)) (Nat.le_trans hx.2.1.1 (by decide)) (by omega) (by omega) (by omega))) hval hW

set_option maxRecDepth 100000 in
theorem lifted (os : Os) (started : os.Started) (H : Type) (enc : TypeId × Value → H) :
    ReturnsInHanded {} Try.checked os 9 .any (Rows.walContinueSpec.pre6 enc Try.prog Try.f9 Rows.walContinueRow.domain false) (Rows.walContinueSpec.post enc Try.prog Try.f9 false true false false) := by
  refine returnsInHanded_of_change (C := Try.checked) own started (by kernel_rfl) Try.func9
    (ChangeSpec.witness6 (enc := enc) (C := Try.checked) false ⟨#[], #[.slice none 0 0, .slice none 0 0, .int .u16 0], []⟩ 8 (by kernel_rfl) (by kernel_rfl) (by kernel_rfl) (by kernel_rfl)) ?_
  intro W base args ds gs before hval hW _ _
  exact contract H enc W base args ds gs before hval hW

theorem over : Rows.walContinueRow.holds Try.pinned (OpenSpec.ofChange Rows.walContinueSpec) :=
  OpenClaim.holds_of_wide 9 Try.f9 rfl rfl rfl rfl rfl rfl rfl ⟨rfl, rfl, rfl, rfl, rfl⟩ rfl rfl rfl rfl rfl (by kernel_rfl) Try.func9 (by kernel_rfl)
    (of_decide_eq_true (by kernel_rfl)) (by unfold Func.isWrapper; first | (rw [if_pos (by decide +kernel)]; kernel_rfl) | (rw [if_neg (by decide +kernel)]; exact ⟨rfl, rfl⟩))
    (fun os started H enc _ => lifted os started H enc)

theorem proved : Rows.WalContinueSaid :=
  over
end Go.Proofs.Ytcahghigmlibjaa.walContinue

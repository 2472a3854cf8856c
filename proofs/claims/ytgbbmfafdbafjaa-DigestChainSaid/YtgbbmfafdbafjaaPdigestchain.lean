/-
  DigestChain returns true at every input: whatever the seed and the two byte strings. No condition.
-/
import Derived.Test.YtgbbmfafdbafjaaRows
import Derived.Test.YtgbbmfafdbafjaaLb
import Derived.Test.YtgbbmfafdbafjaaAb20
namespace Go.Proofs.Ytgbbmfafdbafjaa.digestChain
open Go Go.AB Go.ChangeShapes Go.WideShapes Go.ChangeAt Go.RowKit
set_option linter.unusedVariables false

theorem own : ownKnob Try.prog.godebug = none := by kernel_rfl
theorem laid : laidOutB Try.prog = true := by kernel_rfl

theorem opens : OpensL Try.prog Try.f4.params.toList (fun x : Int × List UInt8 × List UInt8 × Unit => [.sc (.int .u64 x.1), .rd false x.2.1.length (x.2.1.flatMap enc8), .rd false x.2.2.1.length (x.2.2.1.flatMap enc8)]) (fun x => (Lit.int .u64 x.1).wf = true ∧ x.2.1.length ≤ maxLen ∧ x.2.2.1.length ≤ maxLen ∧ True) := by
  rw [show Try.f4.params.toList = [23, 22, 22] from by rw [Try.params4]]
  exact .cons (Opens.int Try.underlying23) (.cons (Opens.bytes Try.underlying22 Try.underlying5 (by kernel_rfl)) (.cons (Opens.bytes Try.underlying22 Try.underlying5 (by kernel_rfl)) .nil))

theorem contract (H : Type) (enc : TypeId × Value → H) (W : World) (base : Nat) (args : Array Value) (ds gs : List (DataW H)) (before : List MemPlace)
    (hval : ∀ (j : Nat) t v, Try.f4.params[j]? = some t → args[j]? = some v → Value.okWide Try.prog W .any base t v)
    (hW : DataW.Whole enc Try.prog Try.f4.params.toList Rows.digestChainSpec.vars false W args.toList ds gs before) :
    Calls Try.prog 4 args W fun e W' => ∃ v, e = .returned v ∧ Rows.digestChainSpec.post enc Try.prog Try.f4 false true false false W args v W' :=
  law_contract laid (by kernel_rfl) (by kernel_rfl) Try.underlying4 rfl opens
    (fun H ds hl => by
      rw [show Try.f4.params.toList = [23, 22, 22] from by rw [Try.params4]] at hl
      match ds, hl with
      | [d1, d2, d3], _ => rfl)
    H enc W base args ds gs before (fun x hx => c4 2000 x.1 x.2.1 x.2.2.1 (m4_true x.1 x.2.1 x.2.2.1)) hval hW

set_option maxRecDepth 100000 in
theorem lifted (os : Os) (started : os.Started) (H : Type) (enc : TypeId × Value → H) :
    ReturnsInHanded {} Try.checked os 4 .any (Rows.digestChainSpec.pre6 enc Try.prog Try.f4 Rows.digestChainRow.domain false) (Rows.digestChainSpec.post enc Try.prog Try.f4 false true false false) := by
  refine returnsInHanded_of_change (C := Try.checked) own started (by kernel_rfl) Try.func4
    (ChangeSpec.witness6 (enc := enc) (C := Try.checked) false ⟨#[], #[.int .u64 0, .slice none 0 0, .slice none 0 0], []⟩ 8 (by kernel_rfl) (by kernel_rfl) (by kernel_rfl) (by kernel_rfl)) ?_
  intro W base args ds gs before hval hW _ _
  exact contract H enc W base args ds gs before hval hW

theorem over : Rows.digestChainRow.holds Try.pinned (OpenSpec.ofChange Rows.digestChainSpec) :=
  OpenClaim.holds_of_wide 4 Try.f4 rfl rfl rfl rfl rfl rfl rfl ⟨rfl, rfl, rfl, rfl, rfl⟩ rfl rfl rfl rfl rfl (by kernel_rfl) Try.func4 (by kernel_rfl)
    (of_decide_eq_true (by kernel_rfl)) (by unfold Func.isWrapper; first | (rw [if_pos (by decide +kernel)]; kernel_rfl) | (rw [if_neg (by decide +kernel)]; exact ⟨rfl, rfl⟩))
    (fun os started H enc _ => lifted os started H enc)

theorem proved : Rows.DigestChainSaid :=
  over
end Go.Proofs.Ytgbbmfafdbafjaa.digestChain

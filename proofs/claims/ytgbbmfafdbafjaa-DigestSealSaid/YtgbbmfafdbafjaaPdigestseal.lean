/-
  DigestSeal returns true at every input: whatever the byte string. No condition.
-/
import Derived.Test.YtgbbmfafdbafjaaRows
import Derived.Test.YtgbbmfafdbafjaaLc
import Derived.Test.YtgbbmfafdbafjaaAb20
namespace Go.Proofs.Ytgbbmfafdbafjaa.digestSeal
open Go Go.AB Go.ChangeShapes Go.WideShapes Go.ChangeAt Go.RowKit
set_option linter.unusedVariables false

theorem own : ownKnob Try.prog.godebug = none := by kernel_rfl
theorem laid : laidOutB Try.prog = true := by kernel_rfl

theorem opens : OpensL Try.prog Try.f6.params.toList (fun x : List UInt8 × Unit => [.rd false x.1.length (x.1.flatMap enc8)]) (fun x => x.1.length ≤ maxLen ∧ True) := by
  rw [show Try.f6.params.toList = [22] from by rw [Try.params6]]
  exact .cons (Opens.bytes Try.underlying22 Try.underlying5 (by kernel_rfl)) .nil

theorem contract (H : Type) (enc : TypeId × Value → H) (W : World) (base : Nat) (args : Array Value) (ds gs : List (DataW H)) (before : List MemPlace)
    (hval : ∀ (j : Nat) t v, Try.f6.params[j]? = some t → args[j]? = some v → Value.okWide Try.prog W .any base t v)
    (hW : DataW.Whole enc Try.prog Try.f6.params.toList Rows.digestSealSpec.vars false W args.toList ds gs before) :
    Calls Try.prog 6 args W fun e W' => ∃ v, e = .returned v ∧ Rows.digestSealSpec.post enc Try.prog Try.f6 false true false false W args v W' :=
  law_contract laid (by kernel_rfl) (by kernel_rfl) Try.underlying4 rfl opens
    (fun H ds hl => by
      rw [show Try.f6.params.toList = [22] from by rw [Try.params6]] at hl
      match ds, hl with
      | [d1], _ => rfl)
    H enc W base args ds gs before (fun x hx => c6 2000 x.1 (m6_true x.1)) hval hW

set_option maxRecDepth 100000 in
theorem lifted (os : Os) (started : os.Started) (H : Type) (enc : TypeId × Value → H) :
    ReturnsInHanded {} Try.checked os 6 .any (Rows.digestSealSpec.pre6 enc Try.prog Try.f6 Rows.digestSealRow.domain false) (Rows.digestSealSpec.post enc Try.prog Try.f6 false true false false) := by
  refine returnsInHanded_of_change (C := Try.checked) own started (by kernel_rfl) Try.func6
    (ChangeSpec.witness6 (enc := enc) (C := Try.checked) false ⟨#[], #[.slice none 0 0], []⟩ 8 (by kernel_rfl) (by kernel_rfl) (by kernel_rfl) (by kernel_rfl)) ?_
  intro W base args ds gs before hval hW _ _
  exact contract H enc W base args ds gs before hval hW

theorem over : Rows.digestSealRow.holds Try.pinned (OpenSpec.ofChange Rows.digestSealSpec) :=
  OpenClaim.holds_of_wide 6 Try.f6 rfl rfl rfl rfl rfl rfl rfl ⟨rfl, rfl, rfl, rfl, rfl⟩ rfl rfl rfl rfl rfl (by kernel_rfl) Try.func6 (by kernel_rfl)
    (of_decide_eq_true (by kernel_rfl)) (by unfold Func.isWrapper; first | (rw [if_pos (by decide +kernel)]; kernel_rfl) | (rw [if_neg (by decide +kernel)]; exact ⟨rfl, rfl⟩))
    (fun os started H enc _ => lifted os started H enc)

theorem proved : Rows.DigestSealSaid :=
  over
end Go.Proofs.Ytgbbmfafdbafjaa.digestSeal

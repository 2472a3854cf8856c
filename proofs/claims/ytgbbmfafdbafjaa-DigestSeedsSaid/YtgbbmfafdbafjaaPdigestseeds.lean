/-
  DigestSeeds returns true at every input: whatever the bytes and the two seeds. No condition.
-/
import Derived.Test.YtgbbmfafdbafjaaRows
import Derived.Test.YtgbbmfafdbafjaaLb
import Derived.Test.YtgbbmfafdbafjaaAb20
namespace Go.Proofs.Ytgbbmfafdbafjaa.digestSeeds
open Go Go.AB Go.ChangeShapes Go.WideShapes Go.ChangeAt Go.RowKit
set_option linter.unusedVariables false

theorem own : ownKnob Try.prog.godebug = none := by kernel_rfl
theorem laid : laidOutB Try.prog = true := by kernel_rfl

theorem opens : OpensL Try.prog Try.f5.params.toList (fun x : List UInt8 × Int × Int × Unit => [.rd false x.1.length (x.1.flatMap enc8), .sc (.int .u64 x.2.1), .sc (.int .u64 x.2.2.1)]) (fun x => x.1.length ≤ maxLen ∧ (Lit.int .u64 x.2.1).wf = true ∧ (Lit.int .u64 x.2.2.1).wf = true ∧ True) := by
  rw [show Try.f5.params.toList = [22, 23, 23] from by rw [Try.params5]]
  exact .cons (Opens.bytes Try.underlying22 Try.underlying5 (by kernel_rfl)) (.cons (Opens.int Try.underlying23) (.cons (Opens.int Try.underlying23) .nil))

theorem contract (H : Type) (enc : TypeId × Value → H) (W : World) (base : Nat) (args : Array Value) (ds gs : List (DataW H)) (before : List MemPlace)
    (hval : ∀ (j : Nat) t v, Try.f5.params[j]? = some t → args[j]? = some v → Value.okWide Try.prog W .any base t v)
    (hW : DataW.Whole enc Try.prog Try.f5.params.toList Rows.digestSeedsSpec.vars false W args.toList ds gs before) :
    Calls Try.prog 5 args W fun e W' => ∃ v, e = .returned v ∧ Rows.digestSeedsSpec.post enc Try.prog Try.f5 false true false false W args v W' :=
  law_contract laid (by kernel_rfl) (by kernel_rfl) Try.underlying4 rfl opens
    (fun H ds hl => by
      rw [show Try.f5.params.toList = [22, 23, 23] from by rw [Try.params5]] at hl
      match ds, hl with
      | [d1, d2, d3], _ => rfl)
    H enc W base args ds gs before (fun x hx => c5 2000 x.1 x.2.1 x.2.2.1 (m5_true x.1 hx.2.1 hx.2.2.1)) hval hW

set_option maxRecDepth 100000 in
theorem lifted (os : Os) (started : os.Started) (H : Type) (enc : TypeId × Value → H) :
    ReturnsInHanded {} Try.checked os 5 .any (Rows.digestSeedsSpec.pre6 enc Try.prog Try.f5 Rows.digestSeedsRow.domain false) (Rows.digestSeedsSpec.post enc Try.prog Try.f5 false true false false) := by
  refine returnsInHanded_of_change (C := Try.checked) own started (by kernel_rfl) Try.func5
    (ChangeSpec.witness6 (enc := enc) (C := Try.checked) false ⟨#[], #[.slice none 0 0, .int .u64 0, .int .u64 0], []⟩ 8 (by kernel_rfl) (by kernel_rfl) (by kernel_rfl) (by kernel_rfl)) ?_
  intro W base args ds gs before hval hW _ _
  exact contract H enc W base args ds gs before hval hW

theorem over : Rows.digestSeedsRow.holds Try.pinned (OpenSpec.ofChange Rows.digestSeedsSpec) :=
  OpenClaim.holds_of_wide 5 Try.f5 rfl rfl rfl rfl rfl rfl rfl ⟨rfl, rfl, rfl, rfl, rfl⟩ rfl rfl rfl rfl rfl (by kernel_rfl) Try.func5 (by kernel_rfl)
    (of_decide_eq_true (by kernel_rfl)) (by unfold Func.isWrapper; first | (rw [if_pos (by decide +kernel)]; kernel_rfl) | (rw [if_neg (by decide +kernel)]; exact ⟨rfl, rfl⟩))
    (fun os started H enc _ => lifted os started H enc)

theorem proved : Rows.DigestSeedsSaid :=
  over
end Go.Proofs.Ytgbbmfafdbafjaa.digestSeeds

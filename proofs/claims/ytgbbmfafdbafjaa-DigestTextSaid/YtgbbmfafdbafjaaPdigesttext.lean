/-
  DigestText returns true at every input: whatever the number and the text. No condition.
-/
import Derived.Test.YtgbbmfafdbafjaaRows
import Derived.Test.YtgbbmfafdbafjaaLf
import Derived.Test.YtgbbmfafdbafjaaAb22
namespace Go.AB
open Go Go.Proofs
set_option linter.unusedVariables false

end Go.AB
namespace Go.Proofs.Ytgbbmfafdbafjaa.digestText
open Go Go.AB Go.ChangeShapes Go.WideShapes Go.ChangeAt Go.RowKit
set_option linter.unusedVariables false

theorem own : ownKnob Try.prog.godebug = none := by kernel_rfl
theorem laid : laidOutB Try.prog = true := by kernel_rfl

theorem opens : OpensL Try.prog Try.f8.params.toList (fun x : Int × (List UInt8) × Unit => [.sc (.int .u64 x.1), .sc (.string (mkS x.2.1))]) (fun x => (fun n => (Lit.int .u64 n).wf = true) x.1 ∧ (fun s => s.length ≤ maxLen) x.2.1 ∧ True) := by
  rw [show Try.f8.params.toList = [23, 9] from by rw [Try.params8]]
  exact .cons (OpC.opens ⟨_, Try.underlying23, trivial⟩ (OpC.int Try.underlying23)) (.cons (OpC.opens ⟨_, Try.underlying9, trivial⟩ (OpC.str Try.underlying9)) (.nil))

theorem contract (H : Type) (enc : TypeId × Value → H) (W : World) (base : Nat) (args : Array Value) (ds gs : List (DataW H)) (before : List MemPlace)
    (hval : ∀ (j : Nat) t v, Try.f8.params[j]? = some t → args[j]? = some v → Value.okWide Try.prog W .any base t v)
    (hW : DataW.Whole enc Try.prog Try.f8.params.toList Rows.digestTextSpec.vars false W args.toList ds gs before) :
    Calls Try.prog 8 args W fun e W' => ∃ v, e = .returned v ∧ Rows.digestTextSpec.post enc Try.prog Try.f8 false true false false W args v W' :=
  law_contract laid (by kernel_rfl) (by kernel_rfl) Try.underlying4 rfl opens
    (fun H ds hl => by
      rw [show Try.f8.params.toList = [23, 9] from by rw [Try.params8]] at hl
      match ds, hl with
      | [d1, d2], _ => rfl)
    H enc W base args ds gs before (fun x hx => c8 2000 x.1 x.2.1 (m8_true hx.1 x.2.1)) hval hW

set_option maxRecDepth 100000 in
theorem lifted (os : Os) (started : os.Started) (H : Type) (enc : TypeId × Value → H) :
    ReturnsInHanded {} Try.checked os 8 .any (Rows.digestTextSpec.pre6 enc Try.prog Try.f8 Rows.digestTextRow.domain false) (Rows.digestTextSpec.post enc Try.prog Try.f8 false true false false) := by
  refine returnsInHanded_of_change (C := Try.checked) own started (by kernel_rfl) Try.func8
    (ChangeSpec.witness6 (enc := enc) (C := Try.checked) false ⟨#[], #[.int .u64 0, .string ⟨#[]⟩], []⟩ 8 (by kernel_rfl) (by kernel_rfl) (by kernel_rfl) (by kernel_rfl)) ?_
  intro W base args ds gs before hval hW _ _
  exact contract H enc W base args ds gs before hval hW

theorem over : Rows.digestTextRow.holds Try.pinned (OpenSpec.ofChange Rows.digestTextSpec) :=
  OpenClaim.holds_of_wide 8 Try.f8 rfl rfl rfl rfl rfl rfl rfl ⟨rfl, rfl, rfl, rfl, rfl⟩ rfl rfl rfl rfl rfl (by kernel_rfl) Try.func8 (by kernel_rfl)
    (of_decide_eq_true (by kernel_rfl)) (by unfold Func.isWrapper; first | (rw [if_pos (by decide +kernel)]; kernel_rfl) | (rw [if_neg (by decide +kernel)]; exact ⟨rfl, rfl⟩))
    (fun os started H enc _ => lifted os started H enc)

theorem proved : Rows.DigestTextSaid :=
  over
end Go.Proofs.Ytgbbmfafdbafjaa.digestText

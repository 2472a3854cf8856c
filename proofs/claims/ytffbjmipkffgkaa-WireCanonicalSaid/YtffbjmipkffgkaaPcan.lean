/-
  WireCanonical returns true at every input: whatever the bytes. No condition.
-/
import Derived.Test.YtffbjmipkffgkaaRows
import Derived.Test.YtffbjmipkffgkaaF7b
import Derived.Test.YtffbjmipkffgkaaLi
import Derived.Test.YtffbjmipkffgkaaAb22
namespace Go.AB
open Go Go.Proofs
set_option linter.unusedVariables false
def wf33 : List UInt8 → Prop := (fun ys : List UInt8 => ys.length ≤ maxLen ∧ ∀ y, y ∈ ys → (fun _ => True) y)
theorem op33 : OpC Try.prog 33 (fun ys : List UInt8 => [.rd false ys.length (ys.flatMap enc8)]) wf33 := OpC.slice (sz := 1) Try.underlying33 (by kernel_rfl) (by decide) enc8_len (OpC.u8 Try.underlying5)
end Go.AB
namespace Go.Proofs.Ytffbjmipkffgkaa.wireCanonical
open Go Go.AB Go.ChangeShapes Go.WideShapes Go.ChangeAt Go.RowKit
set_option linter.unusedVariables false

theorem own : ownKnob Try.prog.godebug = none := by kernel_rfl
theorem laid : laidOutB Try.prog = true := by kernel_rfl

theorem opens : OpensL Try.prog Try.f7.params.toList (fun x : (List UInt8) × Unit => [.rd false x.1.length (x.1.flatMap enc8)]) (fun x => (wf33) x.1 ∧ True) := by
  rw [show Try.f7.params.toList = [33] from by rw [Try.params7]]
  exact .cons (OpC.opens ⟨_, Try.underlying33, trivial⟩ op33) (.nil)

set_option maxRecDepth 100000 in
theorem contract (H : Type) (enc : TypeId × Value → H) (W : World) (base : Nat) (args : Array Value) (ds gs : List (DataW H)) (before : List MemPlace)
    (hval : ∀ (j : Nat) t v, Try.f7.params[j]? = some t → args[j]? = some v → Value.okWide Try.prog W .any base t v)
    (hW : DataW.Whole enc Try.prog Try.f7.params.toList Rows.wireCanonicalSpec.vars false W args.toList ds gs before) :
    Calls Try.prog 7 args W fun e W' => ∃ v, e = .returned v ∧ Rows.wireCanonicalSpec.post enc Try.prog Try.f7 false true false false W args v W' :=
  law_contract (fn := Try.f7) (k := 7) laid (by kernel_rfl) (by kernel_rfl) Try.underlying4 rfl opens
    (fun H ds hl => by
      rw [show Try.f7.params.toList = [33] from by rw [Try.params7]] at hl
      match ds, hl with
      | [d1], _ => rfl)
    H enc W base args ds gs before (fun x hx => c7 200000 x.1 (m7_all x.1)) hval hW

set_option maxRecDepth 100000 in
theorem lifted (os : Os) (started : os.Started) (H : Type) (enc : TypeId × Value → H) :
    ReturnsInHanded {} Try.checked os 7 .any (Rows.wireCanonicalSpec.pre6 enc Try.prog Try.f7 Rows.wireCanonicalRow.domain false) (Rows.wireCanonicalSpec.post enc Try.prog Try.f7 false true false false) := by
  refine returnsInHanded_of_change (C := Try.checked) own started (by kernel_rfl) Try.func7
    (ChangeSpec.witness6 (enc := enc) (C := Try.checked) false ⟨#[], #[.slice none 0 0], []⟩ 8 (by kernel_rfl) (by kernel_rfl) (by kernel_rfl) (by kernel_rfl)) ?_
  intro W base args ds gs before hval hW _ _
  exact contract H enc W base args ds gs before hval hW

theorem over : Rows.wireCanonicalRow.holds Try.pinned (OpenSpec.ofChange Rows.wireCanonicalSpec) :=
  OpenClaim.holds_of_wide 7 Try.f7 rfl rfl rfl rfl rfl rfl rfl ⟨rfl, rfl, rfl, rfl, rfl⟩ rfl rfl rfl rfl rfl (by kernel_rfl) Try.func7 (by kernel_rfl)
    (of_decide_eq_true (by kernel_rfl)) (by unfold Func.isWrapper; first | (rw [if_pos (by decide +kernel)]; kernel_rfl) | (rw [if_neg (by decide +kernel)]; exact ⟨rfl, rfl⟩))
    (fun os started H enc _ => lifted os started H enc)

theorem proved : Rows.WireCanonicalSaid :=
  over
end Go.Proofs.Ytffbjmipkffgkaa.wireCanonical

/-
  WireRoundTrip returns true at every input: whatever the integers, the texts and the bytes. No condition.
-/
import Derived.Test.YtffbjmipkffgkaaRows
import Derived.Test.YtffbjmipkffgkaaF8b
import Derived.Test.YtffbjmipkffgkaaLk
import Derived.Test.YtffbjmipkffgkaaAb22
namespace Go.AB
open Go Go.Proofs
set_option linter.unusedVariables false
def wf57 : List Int → Prop := (fun ys : List Int => ys.length ≤ maxLen ∧ ∀ y, y ∈ ys → (fun n => (Lit.int .i64 n).wf = true) y)
theorem op57 : OpC Try.prog 57 (fun ys : List Int => [.rd false ys.length (ys.flatMap (encI .i64))]) wf57 := OpC.slice (sz := 1) Try.underlying57 (by kernel_rfl) (by decide) (encI_len .i64) (OpC.int Try.underlying3)
def wf69 : List (List UInt8) → Prop := (fun ys : List (List UInt8) => ys.length ≤ maxLen ∧ ∀ y, y ∈ ys → (fun s => s.length ≤ maxLen) y)
theorem op69 : OpC Try.prog 69 (fun ys : List (List UInt8) => [.rd false ys.length (ys.flatMap encS)]) wf69 := OpC.slice (sz := 1) Try.underlying69 (by kernel_rfl) (by decide) encS_len (OpC.str Try.underlying9)
def wf33 : List UInt8 → Prop := (fun ys : List UInt8 => ys.length ≤ maxLen ∧ ∀ y, y ∈ ys → (fun _ => True) y)
theorem op33 : OpC Try.prog 33 (fun ys : List UInt8 => [.rd false ys.length (ys.flatMap enc8)]) wf33 := OpC.slice (sz := 1) Try.underlying33 (by kernel_rfl) (by decide) enc8_len (OpC.u8 Try.underlying5)
end Go.AB
namespace Go.Proofs.Ytffbjmipkffgkaa.wireRoundTrip
open Go Go.AB Go.ChangeShapes Go.WideShapes Go.ChangeAt Go.RowKit
set_option linter.unusedVariables false

theorem own : ownKnob Try.prog.godebug = none := by kernel_rfl
theorem laid : laidOutB Try.prog = true := by kernel_rfl

theorem opens : OpensL Try.prog Try.f8.params.toList (fun x : (List Int) × (List (List UInt8)) × (List UInt8) × Unit => [.rd false x.1.length (x.1.flatMap (encI .i64)), .rd false x.2.1.length (x.2.1.flatMap encS), .rd false x.2.2.1.length (x.2.2.1.flatMap enc8)]) (fun x => (wf57) x.1 ∧ (wf69) x.2.1 ∧ (wf33) x.2.2.1 ∧ True) := by
  rw [show Try.f8.params.toList = [57, 69, 33] from by rw [Try.params8]]
  exact .cons (OpC.opens ⟨_, Try.underlying57, trivial⟩ op57) (.cons (OpC.opens ⟨_, Try.underlying69, trivial⟩ op69) (.cons (OpC.opens ⟨_, Try.underlying33, trivial⟩ op33) (.nil)))

set_option maxRecDepth 100000 in
theorem contract (H : Type) (enc : TypeId × Value → H) (W : World) (base : Nat) (args : Array Value) (ds gs : List (DataW H)) (before : List MemPlace)
    (hval : ∀ (j : Nat) t v, Try.f8.params[j]? = some t → args[j]? = some v → Value.okWide Try.prog W .any base t v)
    (hW : DataW.Whole enc Try.prog Try.f8.params.toList Rows.wireRoundTripSpec.vars false W args.toList ds gs before) :
    Calls Try.prog 8 args W fun e W' => ∃ v, e = .returned v ∧ Rows.wireRoundTripSpec.post enc Try.prog Try.f8 false true false false W args v W' :=
  law_contract (fn := Try.f8) (k := 8) laid (by kernel_rfl) (by kernel_rfl) Try.underlying4 rfl opens
    (fun H ds hl => by
      rw [show Try.f8.params.toList = [57, 69, 33] from by rw [Try.params8]] at hl
      match ds, hl with
      | [d1, d2, d3], _ => rfl)
    H enc W base args ds gs before (fun x hx => c8 _ x.1 x.2.1 x.2.2.1 (m8_all hx.1.2 hx.2.1.1)) hval hW

set_option maxRecDepth 100000 in
theorem lifted (os : Os) (started : os.Started) (H : Type) (enc : TypeId × Value → H) :
    ReturnsInHanded {} Try.checked os 8 .any (Rows.wireRoundTripSpec.pre6 enc Try.prog Try.f8 Rows.wireRoundTripRow.domain false) (Rows.wireRoundTripSpec.post enc Try.prog Try.f8 false true false false) := by
  refine returnsInHanded_of_change (C := Try.checked) own started (by kernel_rfl) Try.func8
    (ChangeSpec.witness6 (enc := enc) (C := Try.checked) false ⟨#[], #[.slice none 0 0, .slice none 0 0, .slice none 0 0], []⟩ 8 (by kernel_rfl) (by kernel_rfl) (by kernel_rfl) (by kernel_rfl)) ?_
  intro W base args ds gs before hval hW _ _
  exact contract H enc W base args ds gs before hval hW

theorem over : Rows.wireRoundTripRow.holds Try.pinned (OpenSpec.ofChange Rows.wireRoundTripSpec) :=
  OpenClaim.holds_of_wide 8 Try.f8 rfl rfl rfl rfl rfl rfl rfl ⟨rfl, rfl, rfl, rfl, rfl⟩ rfl rfl rfl rfl rfl (by kernel_rfl) Try.func8 (by kernel_rfl)
    (of_decide_eq_true (by kernel_rfl)) (by unfold Func.isWrapper; first | (rw [if_pos (by decide +kernel)]; kernel_rfl) | (rw [if_neg (by decide +kernel)]; exact ⟨rfl, rfl⟩))
    (fun os started H enc _ => lifted os started H enc)

theorem proved : Rows.WireRoundTripSaid :=
  over
end Go.Proofs.Ytffbjmipkffgkaa.wireRoundTrip

/-
  WireRead returns true at every input: whatever the bytes and the calls. No condition.
-/
import Derived.Test.YtffbjmipkffgkaaRows
import Derived.Test.YtffbjmipkffgkaaF5c
import Derived.Test.YtffbjmipkffgkaaLq
import Derived.Test.YtffbjmipkffgkaaAb22
namespace Go.AB
open Go Go.Proofs
set_option linter.unusedVariables false
def wf33 : List UInt8 → Prop := (fun ys : List UInt8 => ys.length ≤ maxLen ∧ ∀ y, y ∈ ys → (fun _ => True) y)
theorem op33 : OpC Try.prog 33 (fun ys : List UInt8 => [.rd false ys.length (ys.flatMap enc8)]) wf33 := OpC.slice (sz := 1) Try.underlying33 (by kernel_rfl) (by decide) enc8_len (OpC.u8 Try.underlying5)
def wf53 : R52 → Prop := (fun y : R52 => (fun n => (Lit.int .i64 n).wf = true) y.Kind ∧ (fun n => (Lit.int .i64 n).wf = true) y.Lo ∧ (fun n => (Lit.int .i64 n).wf = true) y.Hi ∧ True)
theorem op53 : OpC Try.prog 53 encR52 wf53 := OpC.struct (σ := Int × Int × Int × Unit) Try.underlying53 rfl (by kernel_rfl) (.cons (OpC.int Try.underlying3) (.cons (OpC.int Try.underlying3) (.cons (OpC.int Try.underlying3) (.nil)))) (fun x => R52.mk x.1 x.2.1 x.2.2.1) (fun _ => rfl) (fun _ h => h)
def wf47 : List R52 → Prop := (fun ys : List R52 => ys.length ≤ maxLen ∧ ∀ y, y ∈ ys → (wf53) y)
theorem op47 : OpC Try.prog 47 (fun ys : List R52 => [.rd false ys.length (ys.flatMap encR52)]) wf47 := OpC.slice (sz := 3) Try.underlying47 (by kernel_rfl) (by decide) encR52_len op53
end Go.AB
namespace Go.Proofs.Ytffbjmipkffgkaa.wireRead
open Go Go.AB Go.ChangeShapes Go.WideShapes Go.ChangeAt Go.RowKit
set_option linter.unusedVariables false

theorem own : ownKnob Try.prog.godebug = none := by kernel_rfl
theorem laid : laidOutB Try.prog = true := by kernel_rfl

theorem opens : OpensL Try.prog Try.f5.params.toList (fun x : (List UInt8) × (List R52) × Unit => [.rd false x.1.length (x.1.flatMap enc8), .rd false x.2.1.length (x.2.1.flatMap encR52)]) (fun x => (wf33) x.1 ∧ (wf47) x.2.1 ∧ True) := by
  rw [show Try.f5.params.toList = [33, 47] from by rw [Try.params5]]
  exact .cons (OpC.opens ⟨_, Try.underlying33, trivial⟩ op33) (.cons (OpC.opens ⟨_, Try.underlying47, trivial⟩ op47) (.nil))

set_option maxRecDepth 100000 in
theorem contract (H : Type) (enc : TypeId × Value → H) (W : World) (base : Nat) (args : Array Value) (ds gs : List (DataW H)) (before : List MemPlace)
    (hval : ∀ (j : Nat) t v, Try.f5.params[j]? = some t → args[j]? = some v → Value.okWide Try.prog W .any base t v)
    (hW : DataW.Whole enc Try.prog Try.f5.params.toList Rows.wireReadSpec.vars false W args.toList ds gs before) :
    Calls Try.prog 5 args W fun e W' => ∃ v, e = .returned v ∧ Rows.wireReadSpec.post enc Try.prog Try.f5 false true false false W args v W' :=
  law_contract (fn := Try.f5) (k := 5) laid (by kernel_rfl) (by kernel_rfl) Try.underlying4 rfl opens
    (fun H ds hl => by
      rw [show Try.f5.params.toList = [33, 47] from by rw [Try.params5]] at hl
      match ds, hl with
      | [d1, d2], _ => rfl)
    H enc W base args ds gs before (fun x hx => c5 200000 x.1 x.2.1 (m5_all hx.2.1.2)) hval hW

set_option maxRecDepth 100000 in
theorem lifted (os : Os) (started : os.Started) (H : Type) (enc : TypeId × Value → H) :
    ReturnsInHanded {} Try.checked os 5 .any (Rows.wireReadSpec.pre6 enc Try.prog Try.f5 Rows.wireReadRow.domain false) (Rows.wireReadSpec.post enc Try.prog Try.f5 false true false false) := by
  refine returnsInHanded_of_change (C := Try.checked) own started (by kernel_rfl) Try.func5
    (ChangeSpec.witness6 (enc := enc) (C := Try.checked) false ⟨#[], #[.slice none 0 0, .slice none 0 0], []⟩ 8 (by kernel_rfl) (by kernel_rfl) (by kernel_rfl) (by kernel_rfl)) ?_
  intro W base args ds gs before hval hW _ _
  exact contract H enc W base args ds gs before hval hW

theorem over : Rows.wireReadRow.holds Try.pinned (OpenSpec.ofChange Rows.wireReadSpec) :=
  OpenClaim.holds_of_wide 5 Try.f5 rfl rfl rfl rfl rfl rfl rfl ⟨rfl, rfl, rfl, rfl, rfl⟩ rfl rfl rfl rfl rfl (by kernel_rfl) Try.func5 (by kernel_rfl)
    (of_decide_eq_true (by kernel_rfl)) (by unfold Func.isWrapper; first | (rw [if_pos (by decide +kernel)]; kernel_rfl) | (rw [if_neg (by decide +kernel)]; exact ⟨rfl, rfl⟩))
    (fun os started H enc _ => lifted os started H enc)

theorem proved : Rows.WireReadSaid :=
  over
end Go.Proofs.Ytffbjmipkffgkaa.wireRead

/-
  TardyShift returns true at every input: whatever the jobs, the number and the choices. No condition.
-/
import Derived.Test.YtpccmcepgllccaaRows
import Derived.Test.YtpccmcepgllccaaG6b
import Derived.Test.YtpccmcepgllccaaLv
import Derived.Test.YtpccmcepgllccaaBc
namespace Go.AB
open Go Go.Proofs
set_option linter.unusedVariables false
def wf39 : R38 → Prop := (fun y : R38 => (fun n => (Lit.int .i64 n).wf = true) y.Release ∧ (fun n => (Lit.int .i64 n).wf = true) y.Length ∧ (fun n => (Lit.int .i64 n).wf = true) y.Due ∧ True)
theorem op39 : OpC Try.prog 39 encR38 wf39 := OpC.struct (σ := Int × Int × Int × Unit) Try.underlying39 rfl (by kernel_rfl) (.cons (OpC.int Try.underlying3) (.cons (OpC.int Try.underlying3) (.cons (OpC.int Try.underlying3) (.nil)))) (fun x => R38.mk x.1 x.2.1 x.2.2.1) (fun _ => rfl) (fun _ h => h)
def wf22 : List R38 → Prop := (fun ys : List R38 => ys.length ≤ maxLen ∧ ∀ y, y ∈ ys → (wf39) y)
theorem op22 : OpC Try.prog 22 (fun ys : List R38 => [.rd false ys.length (ys.flatMap encR38)]) wf22 := OpC.slice (sz := 3) Try.underlying22 (by kernel_rfl) (by decide) encR38_len op39
def wf23 : List UInt8 → Prop := (fun ys : List UInt8 => ys.length ≤ maxLen ∧ ∀ y, y ∈ ys → (fun _ => True) y)
theorem op23 : OpC Try.prog 23 (fun ys : List UInt8 => [.rd false ys.length (ys.flatMap enc8)]) wf23 := OpC.slice (sz := 1) Try.underlying23 (by kernel_rfl) (by decide) enc8_len (OpC.u8 Try.underlying5)
end Go.AB
namespace Go.Proofs.Ytpccmcepgllccaa.tardyShift
open Go Go.AB Go.ChangeShapes Go.WideShapes Go.ChangeAt Go.RowKit
set_option linter.unusedVariables false

theorem own : ownKnob Try.prog.godebug = none := by kernel_rfl
theorem laid : laidOutB Try.prog = true := by kernel_rfl

theorem opens : OpensL Try.prog Try.f6.params.toList (fun x : (List R38) × Int × (List UInt8) × Unit => [.rd false x.1.length (x.1.flatMap encR38), .sc (.int .u16 x.2.1), .rd false x.2.2.1.length (x.2.2.1.flatMap enc8)]) (fun x => (wf22) x.1 ∧ (fun n => (Lit.int .u16 n).wf = true) x.2.1 ∧ (wf23) x.2.2.1 ∧ True) := by
  rw [show Try.f6.params.toList = [22, 51, 23] from by rw [Try.params6]]
  exact .cons (OpC.opens ⟨_, Try.underlying22, trivial⟩ op22) (.cons (OpC.opens ⟨_, Try.underlying51, trivial⟩ (OpC.int Try.underlying51)) (.cons (OpC.opens ⟨_, Try.underlying23, trivial⟩ op23) (.nil)))

set_option maxRecDepth 100000 in
theorem contract (H : Type) (enc : TypeId × Value → H) (W : World) (base : Nat) (args : Array Value) (ds gs : List (DataW H)) (before : List MemPlace)
    (hval : ∀ (j : Nat) t v, Try.f6.params[j]? = some t → args[j]? = some v → Value.okWide Try.prog W .any base t v)
    (hW : DataW.Whole enc Try.prog Try.f6.params.toList Rows.tardyShiftSpec.vars false W args.toList ds gs before) :
    Calls Try.prog 6 args W fun e W' => ∃ v, e = .returned v ∧ Rows.tardyShiftSpec.post enc Try.prog Try.f6 false true false false W args v W' :=
  law_contract (fn := Try.f6) (k := 6) laid (by kernel_rfl) (by kernel_rfl) Try.underlying4 rfl opens
    (fun H ds hl => by
      rw [show Try.f6.params.toList = [22, 51, 23] from by rw [Try.params6]] at hl
      match ds, hl with
      | [d1, d2, d3], _ => rfl)
    H enc W base args ds gs before (fun x hx => c6 7000 x.1 x.2.1 x.2.2.1 (m6_true x.1 x.2.1 x.2.2.1 hx.2.1)) hval hW

set_option maxRecDepth 100000 in
theorem lifted (os : Os) (started : os.Started) (H : Type) (enc : TypeId × Value → H) :
    ReturnsInHanded {} Try.checked os 6 .any (Rows.tardyShiftSpec.pre6 enc Try.prog Try.f6 Rows.tardyShiftRow.domain false) (Rows.tardyShiftSpec.post enc Try.prog Try.f6 false true false false) := by
  refine returnsInHanded_of_change (C := Try.checked) own started (by kernel_rfl) Try.func6
    (ChangeSpec.witness6 (enc := enc) (C := Try.checked) false ⟨#[], #[.slice none 0 0, .int .u16 0, .slice none 0 0], []⟩ 8 (by kernel_rfl) (by kernel_rfl) (by kernel_rfl) (by kernel_rfl)) ?_
  intro W base args ds gs before hval hW _ _
  exact contract H enc W base args ds gs before hval hW

theorem over : Rows.tardyShiftRow.holds Try.pinned (OpenSpec.ofChange Rows.tardyShiftSpec) :=
  OpenClaim.holds_of_wide 6 Try.f6 rfl rfl rfl rfl rfl rfl rfl ⟨rfl, rfl, rfl, rfl, rfl⟩ rfl rfl rfl rfl rfl (by kernel_rfl) Try.func6 (by kernel_rfl)
    (of_decide_eq_true (by kernel_rfl)) (by unfold Func.isWrapper; first | (rw [if_pos (by decide +kernel)]; kernel_rfl) | (rw [if_neg (by decide +kernel)]; exact ⟨rfl, rfl⟩))
    (fun os started H enc _ => lifted os started H enc)

theorem proved : Rows.TardyShiftSaid :=
  over
end Go.Proofs.Ytpccmcepgllccaa.tardyShift

/-
  TardyBounds returns true at every input: whatever the jobs and the number of machines. No condition.
-/
import Derived.Test.YtpccmcepgllccaaRows
import Derived.Test.YtpccmcepgllccaaG8b
import Derived.Test.YtpccmcepgllccaaLt
import Derived.Test.YtpccmcepgllccaaBc
namespace Go.AB
open Go Go.Proofs
set_option linter.unusedVariables false
def wf39 : R38 → Prop := (fun y : R38 => (fun n => (Lit.int .i64 n).wf = true) y.Release ∧ (fun n => (Lit.int .i64 n).wf = true) y.Length ∧ (fun n => (Lit.int .i64 n).wf = true) y.Due ∧ True)
theorem op39 : OpC Try.prog 39 encR38 wf39 := OpC.struct (σ := Int × Int × Int × Unit) Try.underlying39 rfl (by kernel_rfl) (.cons (OpC.int Try.underlying3) (.cons (OpC.int Try.underlying3) (.cons (OpC.int Try.underlying3) (.nil)))) (fun x => R38.mk x.1 x.2.1 x.2.2.1) (fun _ => rfl) (fun _ h => h)
def wf22 : List R38 → Prop := (fun ys : List R38 => ys.length ≤ maxLen ∧ ∀ y, y ∈ ys → (wf39) y)
theorem op22 : OpC Try.prog 22 (fun ys : List R38 => [.rd false ys.length (ys.flatMap encR38)]) wf22 := OpC.slice (sz := 3) Try.underlying22 (by kernel_rfl) (by decide) encR38_len op39
end Go.AB
namespace Go.Proofs.Ytpccmcepgllccaa.tardyBounds
open Go Go.AB Go.ChangeShapes Go.WideShapes Go.ChangeAt Go.RowKit
set_option linter.unusedVariables false

theorem own : ownKnob Try.prog.godebug = none := by kernel_rfl
theorem laid : laidOutB Try.prog = true := by kernel_rfl

theorem opens : OpensL Try.prog Try.f8.params.toList (fun x : (List R38) × Int × Unit => [.rd false x.1.length (x.1.flatMap encR38), .sc (.int .i64 x.2.1)]) (fun x => (wf22) x.1 ∧ (fun n => (Lit.int .i64 n).wf = true) x.2.1 ∧ True) := by
  rw [show Try.f8.params.toList = [22, 3] from by rw [Try.params8]]
  exact .cons (OpC.opens ⟨_, Try.underlying22, trivial⟩ op22) (.cons (OpC.opens ⟨_, Try.underlying3, trivial⟩ (OpC.int Try.underlying3)) (.nil))

set_option maxRecDepth 100000 in
theorem contract (H : Type) (enc : TypeId × Value → H) (W : World) (base : Nat) (args : Array Value) (ds gs : List (DataW H)) (before : List MemPlace)
    (hval : ∀ (j : Nat) t v, Try.f8.params[j]? = some t → args[j]? = some v → Value.okWide Try.prog W .any base t v)
    (hW : DataW.Whole enc Try.prog Try.f8.params.toList Rows.tardyBoundsSpec.vars false W args.toList ds gs before) :
    Calls Try.prog 8 args W fun e W' => ∃ v, e = .returned v ∧ Rows.tardyBoundsSpec.post enc Try.prog Try.f8 false true false false W args v W' :=
  law_contract (fn := Try.f8) (k := 8) laid (by kernel_rfl) (by kernel_rfl) Try.underlying4 rfl opens
    (fun H ds hl => by
      rw [show Try.f8.params.toList = [22, 3] from by rw [Try.params8]] at hl
      match ds, hl with
      | [d1, d2], _ => rfl)
    H enc W base args ds gs before (fun x hx => c8 7000 x.1 x.2.1 (m8_true x.1 x.2.1)) hval hW

set_option maxRecDepth 100000 in
theorem lifted (os : Os) (started : os.Started) (H : Type) (enc : TypeId × Value → H) :
    ReturnsInHanded {} Try.checked os 8 .any (Rows.tardyBoundsSpec.pre6 enc Try.prog Try.f8 Rows.tardyBoundsRow.domain false) (Rows.tardyBoundsSpec.post enc Try.prog Try.f8 false true false false) := by
  refine returnsInHanded_of_change (C := Try.checked) own started (by kernel_rfl) Try.func8
    (ChangeSpec.witness6 (enc := enc) (C := Try.checked) false ⟨#[], #[.slice none 0 0, .int .i64 0], []⟩ 8 (by kernel_rfl) (by kernel_rfl) (by kernel_rfl) (by kernel_rfl)) ?_
  intro W base args ds gs before hval hW _ _
  exact contract H enc W base args ds gs before hval hW

theorem over : Rows.tardyBoundsRow.holds Try.pinned (OpenSpec.ofChange Rows.tardyBoundsSpec) :=
  OpenClaim.holds_of_wide 8 Try.f8 rfl rfl rfl rfl rfl rfl rfl ⟨rfl, rfl, rfl, rfl, rfl⟩ rfl rfl rfl rfl rfl (by kernel_rfl) Try.func8 (by kernel_rfl)
    (of_decide_eq_true (by kernel_rfl)) (by unfold Func.isWrapper; first | (rw [if_pos (by decide +kernel)]; kernel_rfl) | (rw [if_neg (by decide +kernel)]; exact ⟨rfl, rfl⟩))
    (fun os started H enc _ => lifted os started H enc)

theorem proved : Rows.TardyBoundsSaid :=
  over
end Go.Proofs.Ytpccmcepgllccaa.tardyBounds

/-
  TardyLeast returns true at every input: whatever the jobs and the choices. No condition.
-/
import Derived.Test.YtpccmcepgllccaaRows
import Derived.Test.YtpccmcepgllccaaG7b
import Derived.Test.YtpccmcepgllccaaLu
import Derived.Test.YtpccmcepgllccaaBc
namespace Go.AB
open Go Go.Proofs
set_option linter.unusedVariables false
def wf39 : R38 → Prop := (fun y : R38 => (fun n => (Lit.int .i64 n).wf = true) y.Release ∧ (fun n => (Lit.int .i64 n).wf = true) y.Length ∧ (fun n => (Lit.int .i64 n).wf = true) y.Due ∧ True)
theorem op39 : OpC Try.prog 39 encR38 wf39 := OpC.struct (σ := Int × Int × Int × Unit) Try.underlying39 rfl (by kernel_rfl) (.cons (OpC.int Try.underlying3) (.cons (OpC.int Try.underlying3) (.cons (OpC.int Try.underlying3) (.nil)))) (fun x => R38.mk x.1 x.2.1 x.2.2.1) (fun _ => rfl) (fun _ h => h)
def wf22 : List R38 → Prop := (fun ys : List R38 => ys.length ≤ maxLen ∧ ∀ y, y ∈ ys → (wf39) y)
theorem op22 : OpC Try.prog 22 (fun ys : List R38 => [.rd false ys.length (ys.flatMap encR38)]) wf22 := OpC.slice (sz := 3) Try.underlying22 (by kernel_rfl) (by decide) encR38_len op39
def wf23 : List UInt8 → Prop := (fun ys : List UInt8 => ys.length ≤ maxLen ∧ ∀ y, y ∈ ys → (fun _ => True) y)
theorem op23 : OpC Try.prog 23 (fun ys : List UInt8 => [.rd false ys.length (ys.flatMap enc8)]) wf23 := OpC.slice (sz := 1) Try.underlying23 (by kernel_rfl) (by decide) enc8_len (OpC.u8 Try.underlying5)
end Go.AB
namespace Go.Proofs.Ytpccmcepgllccaa.tardyLeast
open Go Go.AB Go.ChangeShapes Go.WideShapes Go.ChangeAt Go.RowKit
set_option linter.unusedVariables false

theorem own : ownKnob Try.prog.godebug = none := by kernel_rfl
theorem laid : laidOutB Try.prog = true := by kernel_rfl

theorem opens : OpensL Try.prog Try.f7.params.toList (fun x : (List R38) × (List UInt8) × Unit => [.rd false x.1.length (x.1.flatMap encR38), .rd false x.2.1.length (x.2.1.flatMap enc8)]) (fun x => (wf22) x.1 ∧ (wf23) x.2.1 ∧ True) := by
  rw [show Try.f7.params.toList = [22, 23] from by rw [Try.params7]]
  exact .cons (OpC.opens ⟨_, Try.underlying22, trivial⟩ op22) (.cons (OpC.opens ⟨_, Try.underlying23, trivial⟩ op23) (.nil))

set_option maxRecDepth 100000 in
theorem contract (H : Type) (enc : TypeId × Value → H) (W : World) (base : Nat) (args : Array Value) (ds gs : List (DataW H)) (before : List MemPlace)
    (hval : ∀ (j : Nat) t v, Try.f7.params[j]? = some t → args[j]? = some v → Value.okWide Try.prog W .any base t v)
    (hW : DataW.Whole enc Try.prog Try.f7.params.toList Rows.tardyLeastSpec.vars false W args.toList ds gs before) :
    Calls Try.prog 7 args W fun e W' => ∃ v, e = .returned v ∧ Rows.tardyLeastSpec.post enc Try.prog Try.f7 false true false false W args v W' :=
  law_contract (fn := Try.f7) (k := 7) laid (by kernel_rfl) (by kernel_rfl) Try.underlying4 rfl opens
    (fun H ds hl => by
      rw [show Try.f7.params.toList = [22, 23] from by rw [Try.params7]] at hl
      match ds, hl with
      | [d1, d2], _ => rfl)
    H enc W base args ds gs before (fun x hx => c7 7000 x.1 x.2.1 (m7_true x.1 x.2.1)) hval hW

set_option maxRecDepth 100000 in
theorem lifted (os : Os) (started : os.Started) (H : Type) (enc : TypeId × Value → H) :
    ReturnsInHanded {} Try.checked os 7 .any (Rows.tardyLeastSpec.pre6 enc Try.prog Try.f7 Rows.tardyLeastRow.domain false) (Rows.tardyLeastSpec.post enc Try.prog Try.f7 false true false false) := by
  refine returnsInHanded_of_change (C := Try.checked) own started (by kernel_rfl) Try.func7
    (ChangeSpec.witness6 (enc := enc) (C := Try.checked) false ⟨#[], #[.slice none 0 0, .slice none 0 0], []⟩ 8 (by kernel_rfl) (by kernel_rfl) (by kernel_rfl) (by kernel_rfl)) ?_
  intro W base args ds gs before hval hW _ _
  exact contract H enc W base args ds gs before hval hW

theorem over : Rows.tardyLeastRow.holds Try.pinned (OpenSpec.ofChange Rows.tardyLeastSpec) :=
  OpenClaim.holds_of_wide 7 Try.f7 rfl rfl rfl rfl rfl rfl rfl ⟨rfl, rfl, rfl, rfl, rfl⟩ rfl rfl rfl rfl rfl (by kernel_rfl) Try.func7 (by kernel_rfl)
    (of_decide_eq_true (by kernel_rfl)) (by unfold Func.isWrapper; first | (rw [if_pos (by decide +kernel)]; kernel_rfl) | (rw [if_neg (by decide +kernel)]; exact ⟨rfl, rfl⟩))
    (fun os started H enc _ => lifted os started H enc)

theorem proved : Rows.TardyLeastSaid :=
  over
end Go.Proofs.Ytpccmcepgllccaa.tardyLeast

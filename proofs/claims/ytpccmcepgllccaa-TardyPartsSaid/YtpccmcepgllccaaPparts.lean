/-
  TardyParts returns true at every input: whatever the goal,the number and the numbers. No condition.
-/
import Derived.Test.YtpccmcepgllccaaRows
import Derived.Test.YtpccmcepgllccaaG9c
import Derived.Test.YtpccmcepgllccaaLz
import Derived.Test.YtpccmcepgllccaaBc
namespace Go.AB
open Go Go.Proofs
set_option linter.unusedVariables false
def wf39 : R38 → Prop := (fun y : R38 => (fun n => (Lit.int .i64 n).wf = true) y.Release ∧ (fun n => (Lit.int .i64 n).wf = true) y.Length ∧ (fun n => (Lit.int .i64 n).wf = true) y.Due ∧ True)
theorem op39 : OpC Try.prog 39 encR38 wf39 := OpC.struct (σ := Int × Int × Int × Unit) Try.underlying39 rfl (by kernel_rfl) (.cons (OpC.int Try.underlying3) (.cons (OpC.int Try.underlying3) (.cons (OpC.int Try.underlying3) (.nil)))) (fun x => R38.mk x.1 x.2.1 x.2.2.1) (fun _ => rfl) (fun _ h => h)
def wf22 : List R38 → Prop := (fun ys : List R38 => ys.length ≤ maxLen ∧ ∀ y,y ∈ ys → (wf39) y)
theorem op22 : OpC Try.prog 22 (fun ys : List R38 => [.rd false ys.length (ys.flatMap encR38)]) wf22 := OpC.slice (sz := 3) Try.underlying22 (by kernel_rfl) (by decide) encR38_len op39
def wf26 : List Int → Prop := (fun ys : List Int => ys.length ≤ maxLen ∧ ∀ y,y ∈ ys → (fun n => (Lit.int .i64 n).wf = true) y)
theorem op26 : OpC Try.prog 26 (fun ys : List Int => [.rd false ys.length (ys.flatMap (encI .i64))]) wf26 := OpC.slice (sz := 1) Try.underlying26 (by kernel_rfl) (by decide) (encI_len .i64) (OpC.int Try.underlying3)
def wf60 : R59 → Prop := (fun y : R59 => (wf22) y.Jobs ∧ (wf26) y.Done ∧ (fun _ => True) y.Most ∧ (fun n => (Lit.int .i64 n).wf = true) y.Bound ∧ True)
theorem op60 : OpC Try.prog 60 encR59 wf60 := OpC.struct (σ := (List R38) × (List Int) × Bool × Int × Unit) Try.underlying60 rfl (by kernel_rfl) (.cons op22 (.cons op26 (.cons (OpC.bool Try.underlying4) (.cons (OpC.int Try.underlying3) (.nil))))) (fun x => R59.mk x.1 x.2.1 x.2.2.1 x.2.2.2.1) (fun _ => rfl) (fun _ h => h)
end Go.AB
namespace Go.Proofs.Ytpccmcepgllccaa.tardyParts
open Go Go.AB Go.ChangeShapes Go.WideShapes Go.ChangeAt Go.RowKit
set_option linter.unusedVariables false

theorem own : ownKnob Try.prog.godebug = none := by kernel_rfl
theorem laid : laidOutB Try.prog = true := by kernel_rfl

theorem opens : OpensL Try.prog Try.f9.params.toList (fun x : R59 × Int × (List Int) × Unit => [.agg (encR59 x.1),.sc (.int .i64 x.2.1),.rd false x.2.2.1.length (x.2.2.1.flatMap (encI .i64))]) (fun x => (wf60) x.1 ∧ (fun n => (Lit.int .i64 n).wf = true) x.2.1 ∧ (wf26) x.2.2.1 ∧ True) := by
  rw [show Try.f9.params.toList = [60,3,26] from by rw [Try.params9]]
  exact .cons (OpC.aggs ⟨_,Try.underlying60,trivial⟩ op60) (.cons (OpC.opens ⟨_,Try.underlying3,trivial⟩ (OpC.int Try.underlying3)) (.cons (OpC.opens ⟨_,Try.underlying26,trivial⟩ op26) (.nil)))

set_option maxRecDepth 100000 in
theorem contract (H : Type) (enc : TypeId × Value → H) (W : World) (base : Nat) (args : Array Value) (ds gs : List (DataW H)) (before : List MemPlace)
    (hval : ∀ (j : Nat) t v,Try.f9.params[j]? = some t → args[j]? = some v → Value.okWide Try.prog W .any base t v)
    (hW : DataW.Whole enc Try.prog Try.f9.params.toList Rows.tardyPartsSpec.vars false W args.toList ds gs before) :
    Calls Try.prog 9 args W fun e W' => ∃ v,e = .returned v ∧ Rows.tardyPartsSpec.post enc Try.prog Try.f9 false true false false W args v W' :=
  law_contract (fn := Try.f9) (k := 9) laid (by kernel_rfl) (by kernel_rfl) Try.underlying4 rfl opens
    (fun H ds hl => by
      rw [show Try.f9.params.toList = [60,3,26] from by rw [Try.params9]] at hl
      match ds,hl with
      | [d1,d2,d3],_ => rfl)
    H enc W base args ds gs before (fun x hx => c9 7000 x.1 x.2.1 x.2.2.1 (m9_true x.1 x.2.1 x.2.2.1)) hval hW

set_option maxRecDepth 100000 in
theorem lifted (os : Os) (started : os.Started) (H : Type) (enc : TypeId × Value → H) :
    ReturnsInHanded {} Try.checked os 9 .any (Rows.tardyPartsSpec.pre6 enc Try.prog Try.f9 Rows.tardyPartsRow.domain false) (Rows.tardyPartsSpec.post enc Try.prog Try.f9 false true false false) := by
  refine returnsInHanded_of_change (C := Try.checked) own started (by kernel_rfl) Try.func9
    (ChangeSpec.witness6 (enc := enc) (C := Try.checked) false ⟨#[],#[.agg #[.slice none 0 0,.slice none 0 0,.bool false,.int .i64 0],.int .i64 0,.slice none 0 0],[]⟩ 8 (by kernel_rfl) (by kernel_rfl) (by kernel_rfl) (by kernel_rfl)) ?_
  intro W base args ds gs before hval hW _ _
  exact contract H enc W base args ds gs before hval hW

theorem over : Rows.tardyPartsRow.holds Try.pinned (OpenSpec.ofChange Rows.tardyPartsSpec) :=
  OpenClaim.holds_of_wide 9 Try.f9 rfl rfl rfl rfl rfl rfl rfl ⟨rfl,rfl,rfl,rfl,rfl⟩ rfl rfl rfl rfl rfl (by kernel_rfl) Try.func9 (by kernel_rfl)
    (of_decide_eq_true (by kernel_rfl)) (by unfold Func.isWrapper; first | (rw [if_pos (by decide +kernel)]; kernel_rfl) | (rw [if_neg (by decide +kernel)]; exact ⟨rfl,rfl⟩))
    (fun os started H enc _ => lifted os started H enc)

theorem proved : Rows.TardyPartsSaid :=
  over
end Go.Proofs.Ytpccmcepgllccaa.tardyParts


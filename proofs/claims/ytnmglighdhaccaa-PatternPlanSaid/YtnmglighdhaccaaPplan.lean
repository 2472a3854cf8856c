/-
  PatternPlan returns true at every input: whatever the problem and the plan. No condition.
-/
import Derived.Test.YtnmglighdhaccaaRows
import Derived.Test.YtnmglighdhaccaaF8c
import Derived.Test.YtnmglighdhaccaaNc
import Derived.Test.YtnmglighdhaccaaBc
namespace Go.AB
open Go Go.Proofs
set_option linter.unusedVariables false
def wf22 : List Int → Prop := (fun ys : List Int => ys.length ≤ maxLen ∧ ∀ y,y ∈ ys → (fun n => (Lit.int .i64 n).wf = true) y)
theorem op22 : OpC Try.prog 22 (fun ys : List Int => [.rd false ys.length (ys.flatMap (encI .i64))]) wf22 := OpC.slice (sz := 1) Try.underlying22 (by kernel_rfl) (by decide) (encI_len .i64) (OpC.int Try.underlying3)
def wf24 : R23 → Prop := (fun y : R23 => (wf22) y.Lq ∧ (wf22) y.Dq ∧ (fun n => (Lit.int .i64 n).wf = true) y.Sq ∧ (fun n => (Lit.int .i64 n).wf = true) y.Kq ∧ True)
theorem op24 : OpC Try.prog 24 e23 wf24 := OpC.struct (σ := (List Int) × (List Int) × Int × Int × Unit) Try.underlying24 rfl (by kernel_rfl) (.cons op22 (.cons op22 (.cons (OpC.int Try.underlying3) (.cons (OpC.int Try.underlying3) (.nil))))) (fun x => R23.mk x.1 x.2.1 x.2.2.1 x.2.2.2.1) (fun _ => rfl) (fun _ h => h)
def wf78 : R56 → Prop := (fun y : R56 => (wf22) y.Pq ∧ (fun n => (Lit.int .i64 n).wf = true) y.Cq ∧ True)
theorem op78 : OpC Try.prog 78 e56 wf78 := OpC.struct (σ := (List Int) × Int × Unit) Try.underlying78 rfl (by kernel_rfl) (.cons op22 (.cons (OpC.int Try.underlying3) (.nil))) (fun x => R56.mk x.1 x.2.1) (fun _ => rfl) (fun _ h => h)
def wf49 : List R56 → Prop := (fun ys : List R56 => ys.length ≤ maxLen ∧ ∀ y,y ∈ ys → (wf78) y)
theorem op49 : OpC Try.prog 49 (fun ys : List R56 => [.rd false ys.length (ys.flatMap e56)]) wf49 := OpC.slice (sz := 2) Try.underlying49 (by kernel_rfl) (by decide) encR56_len op78
end Go.AB
namespace Go.Proofs.Ytnmglighdhaccaa.patternPlan
open Go Go.AB Go.ChangeShapes Go.WideShapes Go.ChangeAt Go.RowKit
set_option linter.unusedVariables false

theorem own : ownKnob Try.prog.godebug = none := by kernel_rfl
theorem laid : laidOutB Try.prog = true := by kernel_rfl

theorem opens : OpensL Try.prog Try.f8.params.toList (fun x : R23 × (List R56) × Unit => [.agg (e23 x.1),.rd false x.2.1.length (x.2.1.flatMap e56)]) (fun x => (wf24) x.1 ∧ (wf49) x.2.1 ∧ True) := by
  rw [show Try.f8.params.toList = [24,49] from by rw [Try.params8]]
  exact .cons (OpC.aggs ⟨_,Try.underlying24,trivial⟩ op24) (.cons (OpC.opens ⟨_,Try.underlying49,trivial⟩ op49) (.nil))

set_option maxRecDepth 100000 in
theorem contract (H : Type) (enc : TypeId × Value → H) (W : World) (base : Nat) (args : Array Value) (ds gs : List (DataW H)) (before : List MemPlace)
    (hval : ∀ (j : Nat) t v,Try.f8.params[j]? = some t → args[j]? = some v → Value.okWide Try.prog W .any base t v)
    (hW : DataW.Whole enc Try.prog Try.f8.params.toList Rows.patternPlanSpec.vars false W args.toList ds gs before) :
    Calls Try.prog 8 args W fun e W' => ∃ v,e = .returned v ∧ Rows.patternPlanSpec.post enc Try.prog Try.f8 false true false false W args v W' :=
  law_contract (fn := Try.f8) (k := 8) laid (by kernel_rfl) (by kernel_rfl) Try.underlying4 rfl opens
    (fun H ds hl => by
      rw [show Try.f8.params.toList = [24,49] from by rw [Try.params8]] at hl
      match ds,hl with
      | [d1,d2],_ => rfl)
    H enc W base args ds gs before (fun x hx => c8 (x.2.1.length + 7000) x.1 x.2.1 (m8_true x.1 x.2.1 hx.2.1.1 fun u hu => i64U_wf (hx.2.1.2 u hu).2.1)) hval hW

set_option maxRecDepth 100000 in
theorem lifted (os : Os) (started : os.Started) (H : Type) (enc : TypeId × Value → H) :
    ReturnsInHanded {} Try.checked os 8 .any (Rows.patternPlanSpec.pre6 enc Try.prog Try.f8 Rows.patternPlanRow.domain false) (Rows.patternPlanSpec.post enc Try.prog Try.f8 false true false false) := by
  refine returnsInHanded_of_change (C := Try.checked) own started (by kernel_rfl) Try.func8
    (ChangeSpec.witness6 (enc := enc) (C := Try.checked) false ⟨#[],#[.agg #[.slice none 0 0,.slice none 0 0,.int .i64 0,.int .i64 0],.slice none 0 0],[]⟩ 8 (by kernel_rfl) (by kernel_rfl) (by kernel_rfl) (by kernel_rfl)) ?_
  intro W base args ds gs before hval hW _ _
  exact contract H enc W base args ds gs before hval hW

theorem over : Rows.patternPlanRow.holds Try.pinned (OpenSpec.ofChange Rows.patternPlanSpec) :=
  OpenClaim.holds_of_wide 8 Try.f8 rfl rfl rfl rfl rfl rfl rfl ⟨rfl,rfl,rfl,rfl,rfl⟩ rfl rfl rfl rfl rfl (by kernel_rfl) Try.func8 (by kernel_rfl)
    (of_decide_eq_true (by kernel_rfl)) (by unfold Func.isWrapper; first | (rw [if_pos (by decide +kernel)]; kernel_rfl) | (rw [if_neg (by decide +kernel)]; exact ⟨rfl,rfl⟩))
    (fun os started H enc _ => lifted os started H enc)

theorem proved : Rows.PatternPlanSaid :=
  over
end Go.Proofs.Ytnmglighdhaccaa.patternPlan


/-
  TourSolve returns true at every input: whatever the problem. No condition.
-/
import Derived.Test.YtiginjokbkemcaaGreatRows
import Derived.Test.YtiginjokbkemcaaGreatF3d
import Derived.Test.YtiginjokbkemcaaGreatMf
import Derived.Test.YtiginjokbkemcaaGreatBc
namespace Go.AB
open Go Go.Proofs
set_option linter.unusedVariables false
def wf51 : R50 → Prop := (fun y : R50 => (fun n => (Lit.int .i64 n).wf = true) y.X ∧ (fun n => (Lit.int .i64 n).wf = true) y.Y ∧ True)
theorem op51 : OpC Tryz.prog 51 e50 wf51 := OpC.struct (σ := Int × Int × Unit) Tryz.underlying51 rfl (by kernel_rfl) (.cons (OpC.int Tryz.underlying3) (.cons (OpC.int Tryz.underlying3) (.nil))) (fun x => R50.mk x.1 x.2.1) (fun _ => rfl) (fun _ h => h)
def wf22 : List R50 → Prop := (fun ys : List R50 => ys.length ≤ maxLen ∧ ∀ y,y ∈ ys → (wf51) y)
theorem op22 : OpC Tryz.prog 22 (fun ys : List R50 => [.rd false ys.length (ys.flatMap e50)]) wf22 := OpC.slice (sz := 2) Tryz.underlying22 (by kernel_rfl) (by decide) encR50_len op51
def wf71 : R71 → Prop := (fun y : R71 => (fun n => (Lit.int .i64 n).wf = true) y.f0 ∧ (fun n => (Lit.int .i64 n).wf = true) y.f1)
theorem op71 : OpC Tryz.prog 71 e71 wf71 := OpC.conv (OpC.array (sz := 1) Tryz.underlying71 (by kernel_rfl) (by kernel_rfl) (by decide) (encI_len .i64) (OpC.int Tryz.underlying3)) (fun ys h => by
  match ys,h.1 with
  | [a0,a1],_ => exact ⟨⟨a0,a1⟩,⟨h.2 a0 (by simp),h.2 a1 (by simp)⟩,rfl⟩)
def wf23 : List R71 → Prop := (fun ys : List R71 => ys.length ≤ maxLen ∧ ∀ y,y ∈ ys → (wf71) y)
theorem op23 : OpC Tryz.prog 23 (fun ys : List R71 => [.rd false ys.length (ys.flatMap e71)]) wf23 := OpC.slice (sz := 2) Tryz.underlying23 (by kernel_rfl) (by decide) encR71_len op71
def wf25 : R24 → Prop := (fun y : R24 => (wf22) y.Pq ∧ (wf23) y.Bq ∧ True)
theorem op25 : OpC Tryz.prog 25 encR24 wf25 := OpC.struct (σ := (List R50) × (List R71) × Unit) Tryz.underlying25 rfl (by kernel_rfl) (.cons op22 (.cons op23 (.nil))) (fun x => R24.mk x.1 x.2.1) (fun _ => rfl) (fun _ h => h)
end Go.AB
namespace Go.Proofs.YtiginjokbkemcaaGreat.tourSolve
open Go Go.AB Go.ChangeShapes Go.WideShapes Go.ChangeAt Go.RowKit
set_option linter.unusedVariables false

theorem own : ownKnob Tryz.prog.godebug = none := by kernel_rfl
theorem laid : laidOutB Tryz.prog = true := by kernel_rfl

theorem opens : OpensL Tryz.prog Tryz.f3.params.toList (fun x : R24 × Unit => [.agg (encR24 x.1)]) (fun x => (wf25) x.1 ∧ True) := by
  rw [show Tryz.f3.params.toList = [25] from by rw [Tryz.params3]]
  exact .cons (OpC.aggs ⟨_,Tryz.underlying25,trivial⟩ op25) (.nil)

set_option maxRecDepth 100000 in
theorem contract (H : Type) (enc : TypeId × Value → H) (W : World) (base : Nat) (args : Array Value) (ds gs : List (DataW H)) (before : List MemPlace)
    (hval : ∀ (j : Nat) t v,Tryz.f3.params[j]? = some t → args[j]? = some v → Value.okWide Tryz.prog W .any base t v)
    (hW : DataW.Whole enc Tryz.prog Tryz.f3.params.toList Rows.tourSolveSpec.vars false W args.toList ds gs before) :
    Calls Tryz.prog 3 args W fun e W' => ∃ v,e = .returned v ∧ Rows.tourSolveSpec.post enc Tryz.prog Tryz.f3 false true false false W args v W' :=
  law_contract (fn := Tryz.f3) (k := 3) laid (by kernel_rfl) (by kernel_rfl) Tryz.underlying4 rfl opens
    (fun H ds hl => by
      rw [show Tryz.f3.params.toList = [25] from by rw [Tryz.params3]] at hl
      match ds,hl with
      | [d1],_ => rfl)
    H enc W base args ds gs before (fun x hx => c3 200000 x.1 (m3_true x.1)) hval hW

set_option maxRecDepth 100000 in
theorem lifted (os : Os) (started : os.Started) (H : Type) (enc : TypeId × Value → H) :
    ReturnsInHanded {} Tryz.checked os 3 .any (Rows.tourSolveSpec.pre6 enc Tryz.prog Tryz.f3 Rows.tourSolveRow.domain false) (Rows.tourSolveSpec.post enc Tryz.prog Tryz.f3 false true false false) := by
  refine returnsInHanded_of_change (C := Tryz.checked) own started (by kernel_rfl) Tryz.func3
    (ChangeSpec.witness6 (enc := enc) (C := Tryz.checked) false ⟨#[],#[.agg #[.slice none 0 0,.slice none 0 0]],[]⟩ 8 (by kernel_rfl) (by kernel_rfl) (by kernel_rfl) (by kernel_rfl)) ?_
  intro W base args ds gs before hval hW _ _
  exact contract H enc W base args ds gs before hval hW

theorem over : Rows.tourSolveRow.holds Tryz.pinned (OpenSpec.ofChange Rows.tourSolveSpec) :=
  OpenClaim.holds_of_wide 3 Tryz.f3 rfl rfl rfl rfl rfl rfl rfl ⟨rfl,rfl,rfl,rfl,rfl⟩ rfl rfl rfl rfl rfl (by kernel_rfl) Tryz.func3 (by kernel_rfl)
    (of_decide_eq_true (by kernel_rfl)) (by unfold Func.isWrapper; first | (rw [if_pos (by decide +kernel)]; kernel_rfl) | (rw [if_neg (by decide +kernel)]; exact ⟨rfl,rfl⟩))
    (fun os started H enc _ => lifted os started H enc)

theorem proved : Rows.TourSolveSaid :=
  over
end Go.Proofs.YtiginjokbkemcaaGreat.tourSolve


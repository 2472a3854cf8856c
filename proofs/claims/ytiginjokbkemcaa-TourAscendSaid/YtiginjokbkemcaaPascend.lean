/-
  TourAscend returns true at every input: whatever the problem,the number of rounds and the choices. No condition.
-/
import Derived.Test.YtiginjokbkemcaaRows
import Derived.Test.YtiginjokbkemcaaF6a
import Derived.Test.YtiginjokbkemcaaLo
import Derived.Test.YtiginjokbkemcaaBc
namespace Go.AB
open Go Go.Proofs
set_option linter.unusedVariables false
def wf46 : R45 → Prop := (fun y : R45 => (fun n => (Lit.int .i64 n).wf = true) y.X ∧ (fun n => (Lit.int .i64 n).wf = true) y.Y ∧ True)
theorem op46 : OpC Try.prog 46 encR45 wf46 := OpC.struct (σ := Int × Int × Unit) Try.underlying46 rfl (by kernel_rfl) (.cons (OpC.int Try.underlying3) (.cons (OpC.int Try.underlying3) (.nil))) (fun x => R45.mk x.1 x.2.1) (fun _ => rfl) (fun _ h => h)
def wf22 : List R45 → Prop := (fun ys : List R45 => ys.length ≤ maxLen ∧ ∀ y,y ∈ ys → (wf46) y)
theorem op22 : OpC Try.prog 22 (fun ys : List R45 => [.rd false ys.length (ys.flatMap encR45)]) wf22 := OpC.slice (sz := 2) Try.underlying22 (by kernel_rfl) (by decide) encR45_len op46
def wf93 : R93 → Prop := (fun y : R93 => (fun n => (Lit.int .i64 n).wf = true) y.f0 ∧ (fun n => (Lit.int .i64 n).wf = true) y.f1)
theorem op93 : OpC Try.prog 93 encR93 wf93 := OpC.conv (OpC.array (sz := 1) Try.underlying93 (by kernel_rfl) (by kernel_rfl) (by decide) (encI_len .i64) (OpC.int Try.underlying3)) (fun ys h => by
  match ys,h.1 with
  | [a0,a1],_ => exact ⟨⟨a0,a1⟩,⟨h.2 a0 (by simp),h.2 a1 (by simp)⟩,rfl⟩)
def wf23 : List R93 → Prop := (fun ys : List R93 => ys.length ≤ maxLen ∧ ∀ y,y ∈ ys → (wf93) y)
theorem op23 : OpC Try.prog 23 (fun ys : List R93 => [.rd false ys.length (ys.flatMap encR93)]) wf23 := OpC.slice (sz := 2) Try.underlying23 (by kernel_rfl) (by decide) encR93_len op93
def wf25 : R24 → Prop := (fun y : R24 => (wf22) y.Points ∧ (wf23) y.Before ∧ True)
theorem op25 : OpC Try.prog 25 encR24 wf25 := OpC.struct (σ := (List R45) × (List R93) × Unit) Try.underlying25 rfl (by kernel_rfl) (.cons op22 (.cons op23 (.nil))) (fun x => R24.mk x.1 x.2.1) (fun _ => rfl) (fun _ h => h)
def wf36 : List UInt8 → Prop := (fun ys : List UInt8 => ys.length ≤ maxLen ∧ ∀ y,y ∈ ys → (fun _ => True) y)
theorem op36 : OpC Try.prog 36 (fun ys : List UInt8 => [.rd false ys.length (ys.flatMap enc8)]) wf36 := OpC.slice (sz := 1) Try.underlying36 (by kernel_rfl) (by decide) enc8_len (OpC.u8 Try.underlying5)
end Go.AB
namespace Go.Proofs.Ytiginjokbkemcaa.tourAscend
open Go Go.AB Go.ChangeShapes Go.WideShapes Go.ChangeAt Go.RowKit
set_option linter.unusedVariables false

theorem own : ownKnob Try.prog.godebug = none := by kernel_rfl
theorem laid : laidOutB Try.prog = true := by kernel_rfl

theorem opens : OpensL Try.prog Try.f6.params.toList (fun x : R24 × Int × (List UInt8) × Unit => [.agg (encR24 x.1),.sc (.int .i64 x.2.1),.rd false x.2.2.1.length (x.2.2.1.flatMap enc8)]) (fun x => (wf25) x.1 ∧ (fun n => (Lit.int .i64 n).wf = true) x.2.1 ∧ (wf36) x.2.2.1 ∧ True) := by
  rw [show Try.f6.params.toList = [25,3,36] from by rw [Try.params6]]
  exact .cons (OpC.aggs ⟨_,Try.underlying25,trivial⟩ op25) (.cons (OpC.opens ⟨_,Try.underlying3,trivial⟩ (OpC.int Try.underlying3)) (.cons (OpC.opens ⟨_,Try.underlying36,trivial⟩ op36) (.nil)))

set_option maxRecDepth 100000 in
theorem contract (H : Type) (enc : TypeId × Value → H) (W : World) (base : Nat) (args : Array Value) (ds gs : List (DataW H)) (before : List MemPlace)
    (hval : ∀ (j : Nat) t v,Try.f6.params[j]? = some t → args[j]? = some v → Value.okWide Try.prog W .any base t v)
    (hW : DataW.Whole enc Try.prog Try.f6.params.toList Rows.tourAscendSpec.vars false W args.toList ds gs before) :
    Calls Try.prog 6 args W fun e W' => ∃ v,e = .returned v ∧ Rows.tourAscendSpec.post enc Try.prog Try.f6 false true false false W args v W' :=
  law_contract (fn := Try.f6) (k := 6) laid (by kernel_rfl) (by kernel_rfl) Try.underlying4 rfl opens
    (fun H ds hl => by
      rw [show Try.f6.params.toList = [25,3,36] from by rw [Try.params6]] at hl
      match ds,hl with
      | [d1,d2,d3],_ => rfl)
    H enc W base args ds gs before (fun x hx => c6 200000 x.1 x.2.1 x.2.2.1 (m6_true x.1 x.2.1 x.2.2.1)) hval hW

set_option maxRecDepth 100000 in
theorem lifted (os : Os) (started : os.Started) (H : Type) (enc : TypeId × Value → H) :
    ReturnsInHanded {} Try.checked os 6 .any (Rows.tourAscendSpec.pre6 enc Try.prog Try.f6 Rows.tourAscendRow.domain false) (Rows.tourAscendSpec.post enc Try.prog Try.f6 false true false false) := by
  refine returnsInHanded_of_change (C := Try.checked) own started (by kernel_rfl) Try.func6
    (ChangeSpec.witness6 (enc := enc) (C := Try.checked) false ⟨#[],#[.agg #[.slice none 0 0,.slice none 0 0],.int .i64 0,.slice none 0 0],[]⟩ 8 (by kernel_rfl) (by kernel_rfl) (by kernel_rfl) (by kernel_rfl)) ?_
  intro W base args ds gs before hval hW _ _
  exact contract H enc W base args ds gs before hval hW

theorem over : Rows.tourAscendRow.holds Try.pinned (OpenSpec.ofChange Rows.tourAscendSpec) :=
  OpenClaim.holds_of_wide 6 Try.f6 rfl rfl rfl rfl rfl rfl rfl ⟨rfl,rfl,rfl,rfl,rfl⟩ rfl rfl rfl rfl rfl (by kernel_rfl) Try.func6 (by kernel_rfl)
    (of_decide_eq_true (by kernel_rfl)) (by unfold Func.isWrapper; first | (rw [if_pos (by decide +kernel)]; kernel_rfl) | (rw [if_neg (by decide +kernel)]; exact ⟨rfl,rfl⟩))
    (fun os started H enc _ => lifted os started H enc)

theorem proved : Rows.TourAscendSaid :=
  over
end Go.Proofs.Ytiginjokbkemcaa.tourAscend


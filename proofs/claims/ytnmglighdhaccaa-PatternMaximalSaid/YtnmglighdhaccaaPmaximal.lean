/-
  PatternMaximal returns true at every input: whatever the problem and the numbers. No condition.
-/
import Derived.Test.YtnmglighdhaccaaRows
import Derived.Test.YtnmglighdhaccaaF3a
import Derived.Test.YtnmglighdhaccaaLi
import Derived.Test.YtnmglighdhaccaaBc
namespace Go.AB
open Go Go.Proofs
set_option linter.unusedVariables false
def wf22 : List Int → Prop := (fun ys : List Int => ys.length ≤ maxLen ∧ ∀ y, y ∈ ys → (fun n => (Lit.int .i64 n).wf = true) y)
theorem op22 : OpC Try.prog 22 (fun ys : List Int => [.rd false ys.length (ys.flatMap (encI .i64))]) wf22 := OpC.slice (sz := 1) Try.underlying22 (by kernel_rfl) (by decide) (encI_len .i64) (OpC.int Try.underlying3)
def wf24 : R23 → Prop := (fun y : R23 => (wf22) y.Lengths ∧ (wf22) y.Demand ∧ (fun n => (Lit.int .i64 n).wf = true) y.Stock ∧ (fun n => (Lit.int .i64 n).wf = true) y.Kerf ∧ True)
theorem op24 : OpC Try.prog 24 encR23 wf24 := OpC.struct (σ := (List Int) × (List Int) × Int × Int × Unit) Try.underlying24 rfl (by kernel_rfl) (.cons op22 (.cons op22 (.cons (OpC.int Try.underlying3) (.cons (OpC.int Try.underlying3) (.nil))))) (fun x => R23.mk x.1 x.2.1 x.2.2.1 x.2.2.2.1) (fun _ => rfl) (fun _ h => h)
def wf25 : List UInt8 → Prop := (fun ys : List UInt8 => ys.length ≤ maxLen ∧ ∀ y, y ∈ ys → (fun _ => True) y)
theorem op25 : OpC Try.prog 25 (fun ys : List UInt8 => [.rd false ys.length (ys.flatMap enc8)]) wf25 := OpC.slice (sz := 1) Try.underlying25 (by kernel_rfl) (by decide) enc8_len (OpC.u8 Try.underlying5)
end Go.AB
namespace Go.Proofs.Ytnmglighdhaccaa.patternMaximal
open Go Go.AB Go.ChangeShapes Go.WideShapes Go.ChangeAt Go.RowKit
set_option linter.unusedVariables false

theorem own : ownKnob Try.prog.godebug = none := by kernel_rfl
theorem laid : laidOutB Try.prog = true := by kernel_rfl

theorem opens : OpensL Try.prog Try.f3.params.toList (fun x : R23 × (List UInt8) × Unit => [.agg (encR23 x.1), .rd false x.2.1.length (x.2.1.flatMap enc8)]) (fun x => (wf24) x.1 ∧ (wf25) x.2.1 ∧ True) := by
  rw [show Try.f3.params.toList = [24, 25] from by rw [Try.params3]]
  exact .cons (OpC.aggs ⟨_, Try.underlying24, trivial⟩ op24) (.cons (OpC.opens ⟨_, Try.underlying25, trivial⟩ op25) (.nil))

set_option maxRecDepth 100000 in
theorem contract (H : Type) (enc : TypeId × Value → H) (W : World) (base : Nat) (args : Array Value) (ds gs : List (DataW H)) (before : List MemPlace)
    (hval : ∀ (j : Nat) t v, Try.f3.params[j]? = some t → args[j]? = some v → Value.okWide Try.prog W .any base t v)
    (hW : DataW.Whole enc Try.prog Try.f3.params.toList Rows.patternMaximalSpec.vars false W args.toList ds gs before) :
    Calls Try.prog 3 args W fun e W' => ∃ v, e = .returned v ∧ Rows.patternMaximalSpec.post enc Try.prog Try.f3 false true false false W args v W' :=
  law_contract (fn := Try.f3) (k := 3) laid (by kernel_rfl) (by kernel_rfl) Try.underlying4 rfl opens
    (fun H ds hl => by
      rw [show Try.f3.params.toList = [24, 25] from by rw [Try.params3]] at hl
      match ds, hl with
      | [d1, d2], _ => rfl)
    H enc W base args ds gs before (fun x hx => c3 3000 x.1 x.2.1 (m3_true x.1 x.2.1)) hval hW

set_option maxRecDepth 100000 in
theorem lifted (os : Os) (started : os.Started) (H : Type) (enc : TypeId × Value → H) :
    ReturnsInHanded {} Try.checked os 3 .any (Rows.patternMaximalSpec.pre6 enc Try.prog Try.f3 Rows.patternMaximalRow.domain false) (Rows.patternMaximalSpec.post enc Try.prog Try.f3 false true false false) := by
  refine returnsInHanded_of_change (C := Try.checked) own started (by kernel_rfl) Try.func3
    (ChangeSpec.witness6 (enc := enc) (C := Try.checked) false ⟨#[], #[.agg #[.slice none 0 0, .slice none 0 0, .int .i64 0, .int .i64 0], .slice none 0 0], []⟩ 8 (by kernel_rfl) (by kernel_rfl) (by kernel_rfl) (by kernel_rfl)) ?_
  intro W base args ds gs before hval hW _ _
  exact contract H enc W base args ds gs before hval hW

theorem over : Rows.patternMaximalRow.holds Try.pinned (OpenSpec.ofChange Rows.patternMaximalSpec) :=
  OpenClaim.holds_of_wide 3 Try.f3 rfl rfl rfl rfl rfl rfl rfl ⟨rfl, rfl, rfl, rfl, rfl⟩ rfl rfl rfl rfl rfl (by kernel_rfl) Try.func3 (by kernel_rfl)
    (of_decide_eq_true (by kernel_rfl)) (by unfold Func.isWrapper; first | (rw [if_pos (by decide +kernel)]; kernel_rfl) | (rw [if_neg (by decide +kernel)]; exact ⟨rfl, rfl⟩))
    (fun os started H enc _ => lifted os started H enc)

theorem proved : Rows.PatternMaximalSaid :=
  over
end Go.Proofs.Ytnmglighdhaccaa.patternMaximal

/-
  WireDistinct returns true at every input: whatever the two integers, texts and shapes. No condition.
-/
import Derived.Test.YtffbjmipkffgkaaRows
import Derived.Test.YtffbjmipkffgkaaF3a
import Derived.Test.YtffbjmipkffgkaaLh
import Derived.Test.YtffbjmipkffgkaaAb22
namespace Go.AB
open Go Go.Proofs
set_option linter.unusedVariables false
def wf22 : List Int → Prop := (fun ys : List Int => ys.length = 2 ∧ ∀ y, y ∈ ys → (fun n => (Lit.int .i64 n).wf = true) y)
theorem op22 : OpC Try.prog 22 (fun ys : List Int => ys.flatMap (encI .i64)) wf22 := OpC.array (sz := 1) Try.underlying22 (by kernel_rfl) (by kernel_rfl) (by decide) (encI_len .i64) (OpC.int Try.underlying3)
def wf23 : List (List UInt8) → Prop := (fun ys : List (List UInt8) => ys.length = 2 ∧ ∀ y, y ∈ ys → (fun s => s.length ≤ maxLen) y)
theorem op23 : OpC Try.prog 23 (fun ys : List (List UInt8) => ys.flatMap encS) wf23 := OpC.array (sz := 1) Try.underlying23 (by kernel_rfl) (by kernel_rfl) (by decide) encS_len (OpC.str Try.underlying9)
def wf60 : R59 → Prop := (fun y : R59 => (fun n => (Lit.int .i64 n).wf = true) y.X ∧ (fun n => (Lit.int .i64 n).wf = true) y.Y ∧ True)
theorem op60 : OpC Try.prog 60 encR59 wf60 := OpC.struct (σ := Int × Int × Unit) Try.underlying60 rfl (by kernel_rfl) (.cons (OpC.int Try.underlying3) (.cons (OpC.int Try.underlying3) (.nil))) (fun x => R59.mk x.1 x.2.1) (fun _ => rfl) (fun _ h => h)
def wf25 : List R59 → Prop := (fun ys : List R59 => ys.length ≤ maxLen ∧ ∀ y, y ∈ ys → (wf60) y)
theorem op25 : OpC Try.prog 25 (fun ys : List R59 => [.rd false ys.length (ys.flatMap encR59)]) wf25 := OpC.slice (sz := 2) Try.underlying25 (by kernel_rfl) (by decide) encR59_len op60
def wf26 : List (List R59) → Prop := (fun ys : List (List R59) => ys.length ≤ maxLen ∧ ∀ y, y ∈ ys → (wf25) y)
theorem op26 : OpC Try.prog 26 (fun ys : List (List R59) => [.rd false ys.length (ys.flatMap encL59)]) wf26 := OpC.slice (sz := 1) Try.underlying26 (by kernel_rfl) (by decide) encL59_len op25
def wf28 : R27 → Prop := (fun y : R27 => (wf25) y.Outer ∧ (wf26) y.Holes ∧ True)
theorem op28 : OpC Try.prog 28 encR27 wf28 := OpC.struct (σ := (List R59) × (List (List R59)) × Unit) Try.underlying28 rfl (by kernel_rfl) (.cons op25 (.cons op26 (.nil))) (fun x => R27.mk x.1 x.2.1) (fun _ => rfl) (fun _ h => h)
def wf29 : List R27 → Prop := (fun ys : List R27 => ys.length = 2 ∧ ∀ y, y ∈ ys → (wf28) y)
theorem op29 : OpC Try.prog 29 (fun ys : List R27 => ys.flatMap encR27) wf29 := OpC.array (sz := 2) Try.underlying29 (by kernel_rfl) (by kernel_rfl) (by decide) encR27_len op28
end Go.AB
namespace Go.Proofs.Ytffbjmipkffgkaa.wireDistinct
open Go Go.AB Go.ChangeShapes Go.WideShapes Go.ChangeAt Go.RowKit
set_option linter.unusedVariables false

theorem own : ownKnob Try.prog.godebug = none := by kernel_rfl
theorem laid : laidOutB Try.prog = true := by kernel_rfl

theorem opens : OpensL Try.prog Try.f3.params.toList (fun x : (List Int) × (List (List UInt8)) × (List R27) × Unit => [.agg (x.1.flatMap (encI .i64)), .agg (x.2.1.flatMap encS), .agg (x.2.2.1.flatMap encR27)]) (fun x => (wf22) x.1 ∧ (wf23) x.2.1 ∧ (wf29) x.2.2.1 ∧ True) := by
  rw [show Try.f3.params.toList = [22, 23, 29] from by rw [Try.params3]]
  exact .cons (OpC.aggs ⟨_, Try.underlying22, trivial⟩ op22) (.cons (OpC.aggs ⟨_, Try.underlying23, trivial⟩ op23) (.cons (OpC.aggs ⟨_, Try.underlying29, trivial⟩ op29) (.nil)))

set_option maxRecDepth 100000 in
theorem contract (H : Type) (enc : TypeId × Value → H) (W : World) (base : Nat) (args : Array Value) (ds gs : List (DataW H)) (before : List MemPlace)
    (hval : ∀ (j : Nat) t v, Try.f3.params[j]? = some t → args[j]? = some v → Value.okWide Try.prog W .any base t v)
    (hW : DataW.Whole enc Try.prog Try.f3.params.toList Rows.wireDistinctSpec.vars false W args.toList ds gs before) :
    Calls Try.prog 3 args W fun e W' => ∃ v, e = .returned v ∧ Rows.wireDistinctSpec.post enc Try.prog Try.f3 false true false false W args v W' :=
  law_contract (fn := Try.f3) (k := 3) laid (by kernel_rfl) (by kernel_rfl) Try.underlying4 rfl opens
    (fun H ds hl => by
      rw [show Try.f3.params.toList = [22, 23, 29] from by rw [Try.params3]] at hl
      match ds, hl with
      | [d1, d2, d3], _ => rfl)
    H enc W base args ds gs before (fun x hx => c3 _ x.1 x.2.1 x.2.2.1 (m3_all hx.1 hx.2.1.1 hx.2.2.1)) hval hW

set_option maxRecDepth 100000 in
theorem lifted (os : Os) (started : os.Started) (H : Type) (enc : TypeId × Value → H) :
    ReturnsInHanded {} Try.checked os 3 .any (Rows.wireDistinctSpec.pre6 enc Try.prog Try.f3 Rows.wireDistinctRow.domain false) (Rows.wireDistinctSpec.post enc Try.prog Try.f3 false true false false) := by
  refine returnsInHanded_of_change (C := Try.checked) own started (by kernel_rfl) Try.func3
    (ChangeSpec.witness6 (enc := enc) (C := Try.checked) false ⟨#[], #[.agg #[.int .i64 0, .int .i64 0], .agg #[.string ⟨#[]⟩, .string ⟨#[]⟩], .agg #[.slice none 0 0, .slice none 0 0, .slice none 0 0, .slice none 0 0]], []⟩ 8 (by kernel_rfl) (by kernel_rfl) (by kernel_rfl) (by kernel_rfl)) ?_
  intro W base args ds gs before hval hW _ _
  exact contract H enc W base args ds gs before hval hW

theorem over : Rows.wireDistinctRow.holds Try.pinned (OpenSpec.ofChange Rows.wireDistinctSpec) :=
  OpenClaim.holds_of_wide 3 Try.f3 rfl rfl rfl rfl rfl rfl rfl ⟨rfl, rfl, rfl, rfl, rfl⟩ rfl rfl rfl rfl rfl (by kernel_rfl) Try.func3 (by kernel_rfl)
    (of_decide_eq_true (by kernel_rfl)) (by unfold Func.isWrapper; first | (rw [if_pos (by decide +kernel)]; kernel_rfl) | (rw [if_neg (by decide +kernel)]; exact ⟨rfl, rfl⟩))
    (fun os started H enc _ => lifted os started H enc)

theorem proved : Rows.WireDistinctSaid :=
  over
end Go.Proofs.Ytffbjmipkffgkaa.wireDistinct

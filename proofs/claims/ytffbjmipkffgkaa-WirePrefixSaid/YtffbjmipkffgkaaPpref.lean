/-
  WirePrefix returns true at every input: whatever the integer, the text and the shape. No condition.
-/
import Derived.Test.YtffbjmipkffgkaaRows
import Derived.Test.YtffbjmipkffgkaaF4b
import Derived.Test.YtffbjmipkffgkaaLi
import Derived.Test.YtffbjmipkffgkaaAb22
namespace Go.AB
open Go Go.Proofs
set_option linter.unusedVariables false
def wf60 : R59 → Prop := (fun y : R59 => (fun n => (Lit.int .i64 n).wf = true) y.X ∧ (fun n => (Lit.int .i64 n).wf = true) y.Y ∧ True)
theorem op60 : OpC Try.prog 60 encR59 wf60 := OpC.struct (σ := Int × Int × Unit) Try.underlying60 rfl (by kernel_rfl) (.cons (OpC.int Try.underlying3) (.cons (OpC.int Try.underlying3) (.nil))) (fun x => R59.mk x.1 x.2.1) (fun _ => rfl) (fun _ h => h)
def wf25 : List R59 → Prop := (fun ys : List R59 => ys.length ≤ maxLen ∧ ∀ y, y ∈ ys → (wf60) y)
theorem op25 : OpC Try.prog 25 (fun ys : List R59 => [.rd false ys.length (ys.flatMap encR59)]) wf25 := OpC.slice (sz := 2) Try.underlying25 (by kernel_rfl) (by decide) encR59_len op60
def wf26 : List (List R59) → Prop := (fun ys : List (List R59) => ys.length ≤ maxLen ∧ ∀ y, y ∈ ys → (wf25) y)
theorem op26 : OpC Try.prog 26 (fun ys : List (List R59) => [.rd false ys.length (ys.flatMap encL59)]) wf26 := OpC.slice (sz := 1) Try.underlying26 (by kernel_rfl) (by decide) encL59_len op25
def wf28 : R27 → Prop := (fun y : R27 => (wf25) y.Outer ∧ (wf26) y.Holes ∧ True)
theorem op28 : OpC Try.prog 28 encR27 wf28 := OpC.struct (σ := (List R59) × (List (List R59)) × Unit) Try.underlying28 rfl (by kernel_rfl) (.cons op25 (.cons op26 (.nil))) (fun x => R27.mk x.1 x.2.1) (fun _ => rfl) (fun _ h => h)
end Go.AB
namespace Go.Proofs.Ytffbjmipkffgkaa.wirePrefix
open Go Go.AB Go.ChangeShapes Go.WideShapes Go.ChangeAt Go.RowKit
set_option linter.unusedVariables false

theorem own : ownKnob Try.prog.godebug = none := by kernel_rfl
theorem laid : laidOutB Try.prog = true := by kernel_rfl

theorem opens : OpensL Try.prog Try.f4.params.toList (fun x : Int × (List UInt8) × R27 × Unit => [.sc (.int .i64 x.1), .sc (.string (mkS x.2.1)), .agg (encR27 x.2.2.1)]) (fun x => (fun n => (Lit.int .i64 n).wf = true) x.1 ∧ (fun s => s.length ≤ maxLen) x.2.1 ∧ (wf28) x.2.2.1 ∧ True) := by
  rw [show Try.f4.params.toList = [3, 9, 28] from by rw [Try.params4]]
  exact .cons (OpC.opens ⟨_, Try.underlying3, trivial⟩ (OpC.int Try.underlying3)) (.cons (OpC.opens ⟨_, Try.underlying9, trivial⟩ (OpC.str Try.underlying9)) (.cons (OpC.aggs ⟨_, Try.underlying28, trivial⟩ op28) (.nil)))

set_option maxRecDepth 100000 in
theorem contract (H : Type) (enc : TypeId × Value → H) (W : World) (base : Nat) (args : Array Value) (ds gs : List (DataW H)) (before : List MemPlace)
    (hval : ∀ (j : Nat) t v, Try.f4.params[j]? = some t → args[j]? = some v → Value.okWide Try.prog W .any base t v)
    (hW : DataW.Whole enc Try.prog Try.f4.params.toList Rows.wirePrefixSpec.vars false W args.toList ds gs before) :
    Calls Try.prog 4 args W fun e W' => ∃ v, e = .returned v ∧ Rows.wirePrefixSpec.post enc Try.prog Try.f4 false true false false W args v W' :=
  law_contract (fn := Try.f4) (k := 4) laid (by kernel_rfl) (by kernel_rfl) Try.underlying4 rfl opens
    (fun H ds hl => by
      rw [show Try.f4.params.toList = [3, 9, 28] from by rw [Try.params4]] at hl
      match ds, hl with
      | [d1, d2, d3], _ => rfl)
    H enc W base args ds gs before (fun x hx => c4 _ x.1 x.2.1 x.2.2.1 (m4_all hx.1 hx.2.2.1)) hval hW

set_option maxRecDepth 100000 in
theorem lifted (os : Os) (started : os.Started) (H : Type) (enc : TypeId × Value → H) :
    ReturnsInHanded {} Try.checked os 4 .any (Rows.wirePrefixSpec.pre6 enc Try.prog Try.f4 Rows.wirePrefixRow.domain false) (Rows.wirePrefixSpec.post enc Try.prog Try.f4 false true false false) := by
  refine returnsInHanded_of_change (C := Try.checked) own started (by kernel_rfl) Try.func4
    (ChangeSpec.witness6 (enc := enc) (C := Try.checked) false ⟨#[], #[.int .i64 0, .string ⟨#[]⟩, .agg #[.slice none 0 0, .slice none 0 0]], []⟩ 8 (by kernel_rfl) (by kernel_rfl) (by kernel_rfl) (by kernel_rfl)) ?_
  intro W base args ds gs before hval hW _ _
  exact contract H enc W base args ds gs before hval hW

theorem over : Rows.wirePrefixRow.holds Try.pinned (OpenSpec.ofChange Rows.wirePrefixSpec) :=
  OpenClaim.holds_of_wide 4 Try.f4 rfl rfl rfl rfl rfl rfl rfl ⟨rfl, rfl, rfl, rfl, rfl⟩ rfl rfl rfl rfl rfl (by kernel_rfl) Try.func4 (by kernel_rfl)
    (of_decide_eq_true (by kernel_rfl)) (by unfold Func.isWrapper; first | (rw [if_pos (by decide +kernel)]; kernel_rfl) | (rw [if_neg (by decide +kernel)]; exact ⟨rfl, rfl⟩))
    (fun os started H enc _ => lifted os started H enc)

theorem proved : Rows.WirePrefixSaid :=
  over
end Go.Proofs.Ytffbjmipkffgkaa.wirePrefix

/-
  WireNil returns true at every input: whatever the call. No condition.
-/
import Derived.Test.YtffbjmipkffgkaaRows
import Derived.Test.YtffbjmipkffgkaaF6a
import Derived.Test.YtffbjmipkffgkaaLn
import Derived.Test.YtffbjmipkffgkaaAb22
namespace Go.AB
open Go Go.Proofs
set_option linter.unusedVariables false
def wf53 : R52 → Prop := (fun y : R52 => (fun n => (Lit.int .i64 n).wf = true) y.Kind ∧ (fun n => (Lit.int .i64 n).wf = true) y.Lo ∧ (fun n => (Lit.int .i64 n).wf = true) y.Hi ∧ True)
theorem op53 : OpC Try.prog 53 encR52 wf53 := OpC.struct (σ := Int × Int × Int × Unit) Try.underlying53 rfl (by kernel_rfl) (.cons (OpC.int Try.underlying3) (.cons (OpC.int Try.underlying3) (.cons (OpC.int Try.underlying3) (.nil)))) (fun x => R52.mk x.1 x.2.1 x.2.2.1) (fun _ => rfl) (fun _ h => h)
end Go.AB
namespace Go.Proofs.Ytffbjmipkffgkaa.wireNil
open Go Go.AB Go.ChangeShapes Go.WideShapes Go.ChangeAt Go.RowKit
set_option linter.unusedVariables false

theorem own : ownKnob Try.prog.godebug = none := by kernel_rfl
theorem laid : laidOutB Try.prog = true := by kernel_rfl

theorem opens : OpensL Try.prog Try.f6.params.toList (fun x : R52 × Unit => [.agg (encR52 x.1)]) (fun x => (wf53) x.1 ∧ True) := by
  rw [show Try.f6.params.toList = [53] from by rw [Try.params6]]
  exact .cons (OpC.aggs ⟨_, Try.underlying53, trivial⟩ op53) (.nil)

set_option maxRecDepth 100000 in
theorem contract (H : Type) (enc : TypeId × Value → H) (W : World) (base : Nat) (args : Array Value) (ds gs : List (DataW H)) (before : List MemPlace)
    (hval : ∀ (j : Nat) t v, Try.f6.params[j]? = some t → args[j]? = some v → Value.okWide Try.prog W .any base t v)
    (hW : DataW.Whole enc Try.prog Try.f6.params.toList Rows.wireNilSpec.vars false W args.toList ds gs before) :
    Calls Try.prog 6 args W fun e W' => ∃ v, e = .returned v ∧ Rows.wireNilSpec.post enc Try.prog Try.f6 false true false false W args v W' :=
  law_contract (fn := Try.f6) (k := 6) laid (by kernel_rfl) (by kernel_rfl) Try.underlying4 rfl opens
    (fun H ds hl => by
      rw [show Try.f6.params.toList = [53] from by rw [Try.params6]] at hl
      match ds, hl with
      | [d1], _ => rfl)
    H enc W base args ds gs before (fun x hx => c6 5000 x.1 (m6_true x.1)) hval hW

set_option maxRecDepth 100000 in
theorem lifted (os : Os) (started : os.Started) (H : Type) (enc : TypeId × Value → H) :
    ReturnsInHanded {} Try.checked os 6 .any (Rows.wireNilSpec.pre6 enc Try.prog Try.f6 Rows.wireNilRow.domain false) (Rows.wireNilSpec.post enc Try.prog Try.f6 false true false false) := by
  refine returnsInHanded_of_change (C := Try.checked) own started (by kernel_rfl) Try.func6
    (ChangeSpec.witness6 (enc := enc) (C := Try.checked) false ⟨#[], #[.agg #[.int .i64 0, .int .i64 0, .int .i64 0]], []⟩ 8 (by kernel_rfl) (by kernel_rfl) (by kernel_rfl) (by kernel_rfl)) ?_
  intro W base args ds gs before hval hW _ _
  exact contract H enc W base args ds gs before hval hW

theorem over : Rows.wireNilRow.holds Try.pinned (OpenSpec.ofChange Rows.wireNilSpec) :=
  OpenClaim.holds_of_wide 6 Try.f6 rfl rfl rfl rfl rfl rfl rfl ⟨rfl, rfl, rfl, rfl, rfl⟩ rfl rfl rfl rfl rfl (by kernel_rfl) Try.func6 (by kernel_rfl)
    (of_decide_eq_true (by kernel_rfl)) (by unfold Func.isWrapper; first | (rw [if_pos (by decide +kernel)]; kernel_rfl) | (rw [if_neg (by decide +kernel)]; exact ⟨rfl, rfl⟩))
    (fun os started H enc _ => lifted os started H enc)

theorem proved : Rows.WireNilSaid :=
  over
end Go.Proofs.Ytffbjmipkffgkaa.wireNil

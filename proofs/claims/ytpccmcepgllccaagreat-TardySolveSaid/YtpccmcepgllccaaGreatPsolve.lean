/-
  TardySolve returns true at every input: whatever the jobs and the kind of the goal. No condition.
-/
import Derived.Test.YtpccmcepgllccaaGreatRows
import Derived.Test.YtpccmcepgllccaaGreatF4a
import Derived.Test.YtpccmcepgllccaaGreatMf
import Derived.Test.YtpccmcepgllccaaGreatBc
namespace Go.AB
open Go Go.Proofs
set_option linter.unusedVariables false
def wf79 : R63 → Prop := (fun y : R63 => (fun n => (Lit.int .i64 n).wf = true) y.Rl ∧ (fun n => (Lit.int .i64 n).wf = true) y.Ln ∧ (fun n => (Lit.int .i64 n).wf = true) y.Due ∧ True)
theorem op79 : OpC Tryz.prog 79 e63 wf79 := OpC.struct (σ := Int × Int × Int × Unit) Tryz.underlying79 rfl (by kernel_rfl) (.cons (OpC.int Tryz.underlying3) (.cons (OpC.int Tryz.underlying3) (.cons (OpC.int Tryz.underlying3) (.nil)))) (fun x => R63.mk x.1 x.2.1 x.2.2.1) (fun _ => rfl) (fun _ h => h)
def wf22 : List R63 → Prop := (fun ys : List R63 => ys.length ≤ maxLen ∧ ∀ y,y ∈ ys → (wf79) y)
theorem op22 : OpC Tryz.prog 22 (fun ys : List R63 => [.rd false ys.length (ys.flatMap e63)]) wf22 := OpC.slice (sz := 3) Tryz.underlying22 (by kernel_rfl) (by decide) encR63_len op79
end Go.AB
namespace Go.Proofs.YtpccmcepgllccaaGreat.tardySolve
open Go Go.AB Go.ChangeShapes Go.WideShapes Go.ChangeAt Go.RowKit
set_option linter.unusedVariables false

theorem own : ownKnob Tryz.prog.godebug = none := by kernel_rfl
theorem laid : laidOutB Tryz.prog = true := by kernel_rfl

theorem opens : OpensL Tryz.prog Tryz.f4.params.toList (fun x : (List R63) × Bool × Unit => [.rd false x.1.length (x.1.flatMap e63),.sc (.bool x.2.1)]) (fun x => (wf22) x.1 ∧ (fun _ => True) x.2.1 ∧ True) := by
  rw [show Tryz.f4.params.toList = [22,4] from by rw [Tryz.params4]]
  exact .cons (OpC.opens ⟨_,Tryz.underlying22,trivial⟩ op22) (.cons (OpC.opens ⟨_,Tryz.underlying4,trivial⟩ (OpC.bool Tryz.underlying4)) (.nil))

set_option maxRecDepth 100000 in
theorem contract (H : Type) (enc : TypeId × Value → H) (W : World) (base : Nat) (args : Array Value) (ds gs : List (DataW H)) (before : List MemPlace)
    (hval : ∀ (j : Nat) t v,Tryz.f4.params[j]? = some t → args[j]? = some v → Value.okWide Tryz.prog W .any base t v)
    (hW : DataW.Whole enc Tryz.prog Tryz.f4.params.toList Rows.tardySolveSpec.vars false W args.toList ds gs before) :
    Calls Tryz.prog 4 args W fun e W' => ∃ v,e = .returned v ∧ Rows.tardySolveSpec.post enc Tryz.prog Tryz.f4 false true false false W args v W' :=
  law_contract (fn := Tryz.f4) (k := 4) laid (by kernel_rfl) (by kernel_rfl) Tryz.underlying4 rfl opens
    (fun H ds hl => by
      rw [show Tryz.f4.params.toList = [22,4] from by rw [Tryz.params4]] at hl
      match ds,hl with
      | [d1,d2],_ => rfl)
    H enc W base args ds gs before (fun x hx => c4 7000 x.1 x.2.1 (m4_true (by decide) x.1 x.2.1)) hval hW

set_option maxRecDepth 100000 in
theorem lifted (os : Os) (started : os.Started) (H : Type) (enc : TypeId × Value → H) :
    ReturnsInHanded {} Tryz.checked os 4 .any (Rows.tardySolveSpec.pre6 enc Tryz.prog Tryz.f4 Rows.tardySolveRow.domain false) (Rows.tardySolveSpec.post enc Tryz.prog Tryz.f4 false true false false) := by
  refine returnsInHanded_of_change (C := Tryz.checked) own started (by kernel_rfl) Tryz.func4
    (ChangeSpec.witness6 (enc := enc) (C := Tryz.checked) false ⟨#[],#[.slice none 0 0,.bool false],[]⟩ 8 (by kernel_rfl) (by kernel_rfl) (by kernel_rfl) (by kernel_rfl)) ?_
  intro W base args ds gs before hval hW _ _
  exact contract H enc W base args ds gs before hval hW

theorem over : Rows.tardySolveRow.holds Tryz.pinned (OpenSpec.ofChange Rows.tardySolveSpec) :=
  OpenClaim.holds_of_wide 4 Tryz.f4 rfl rfl rfl rfl rfl rfl rfl ⟨rfl,rfl,rfl,rfl,rfl⟩ rfl rfl rfl rfl rfl (by kernel_rfl) Tryz.func4 (by kernel_rfl)
    (of_decide_eq_true (by kernel_rfl)) (by unfold Func.isWrapper; first | (rw [if_pos (by decide +kernel)]; kernel_rfl) | (rw [if_neg (by decide +kernel)]; exact ⟨rfl,rfl⟩))
    (fun os started H enc _ => lifted os started H enc)

theorem proved : Rows.TardySolveSaid :=
  over
end Go.Proofs.YtpccmcepgllccaaGreat.tardySolve


/-
  TourCheck returns true at every input: whatever the goal,the tree and the choices. No condition.
-/
import Derived.Test.YtiginjokbkemcaaRows
import Derived.Test.YtiginjokbkemcaaF10a
import Derived.Test.YtiginjokbkemcaaLr
import Derived.Test.YtiginjokbkemcaaBf
namespace Go.AB
open Go Go.Proofs
set_option linter.unusedVariables false
def wf46 : R45 → Prop := (fun y : R45 => (fun n => (Lit.int .i64 n).wf = true) y.X ∧ (fun n => (Lit.int .i64 n).wf = true) y.Y ∧ True)
theorem op46 : OpC Try.prog 46 e45 wf46 := OpC.struct (σ := Int × Int × Unit) Try.underlying46 rfl (by kernel_rfl) (.cons (OpC.int Try.underlying3) (.cons (OpC.int Try.underlying3) (.nil))) (fun x => R45.mk x.1 x.2.1) (fun _ => rfl) (fun _ h => h)
def wf22 : List R45 → Prop := (fun ys : List R45 => ys.length ≤ maxLen ∧ ∀ y,y ∈ ys → (wf46) y)
theorem op22 : OpC Try.prog 22 (fun ys : List R45 => [.rd false ys.length (ys.flatMap e45)]) wf22 := OpC.slice (sz := 2) Try.underlying22 (by kernel_rfl) (by decide) encR45_len op46
def wf93 : R93 → Prop := (fun y : R93 => (fun n => (Lit.int .i64 n).wf = true) y.f0 ∧ (fun n => (Lit.int .i64 n).wf = true) y.f1)
theorem op93 : OpC Try.prog 93 e93 wf93 := OpC.conv (OpC.array (sz := 1) Try.underlying93 (by kernel_rfl) (by kernel_rfl) (by decide) (encI_len .i64) (OpC.int Try.underlying3)) (fun ys h => by
  match ys,h.1 with
  | [a0,a1],_ => exact ⟨⟨a0,a1⟩,⟨h.2 a0 (by simp),h.2 a1 (by simp)⟩,rfl⟩)
def wf23 : List R93 → Prop := (fun ys : List R93 => ys.length ≤ maxLen ∧ ∀ y,y ∈ ys → (wf93) y)
theorem op23 : OpC Try.prog 23 (fun ys : List R93 => [.rd false ys.length (ys.flatMap e93)]) wf23 := OpC.slice (sz := 2) Try.underlying23 (by kernel_rfl) (by decide) encR93_len op93
def wf25 : R24 → Prop := (fun y : R24 => (wf22) y.Pq ∧ (wf23) y.Bq ∧ True)
theorem op25 : OpC Try.prog 25 encR24 wf25 := OpC.struct (σ := (List R45) × (List R93) × Unit) Try.underlying25 rfl (by kernel_rfl) (.cons op22 (.cons op23 (.nil))) (fun x => R24.mk x.1 x.2.1) (fun _ => rfl) (fun _ h => h)
def wf28 : List Int → Prop := (fun ys : List Int => ys.length ≤ maxLen ∧ ∀ y,y ∈ ys → (fun n => (Lit.int .i64 n).wf = true) y)
theorem op28 : OpC Try.prog 28 (fun ys : List Int => [.rd false ys.length (ys.flatMap (encI .i64))]) wf28 := OpC.slice (sz := 1) Try.underlying28 (by kernel_rfl) (by decide) (encI_len .i64) (OpC.int Try.underlying3)
def wf53 : R52 → Prop := (fun y : R52 => (wf25) y.Gq ∧ (wf28) y.Path ∧ (fun n => (Lit.int .i64 n).wf = true) y.Ln ∧ True)
theorem op53 : OpC Try.prog 53 encR52 wf53 := OpC.struct (σ := R24 × (List Int) × Int × Unit) Try.underlying53 rfl (by kernel_rfl) (.cons op25 (.cons op28 (.cons (OpC.int Try.underlying3) (.nil)))) (fun x => R52.mk x.1 x.2.1 x.2.2.1) (fun _ => rfl) (fun _ h => h)
theorem bytes75 : Try.prog.bytesOf 75 = 56 := by kernel_rfl
theorem opK75 : ∀ N,OpN Try.prog 75 encK74 OkK N
  | 0 => OpN.zero
  | N + 1 => OpN.struct (σ := Int × (List K74) × (List Int) × Unit) Try.underlying75 rfl (by kernel_rfl) (.cons (OpC.n (OpC.int Try.underlying3)) (.cons (((OpN.slice (sz := 3) Try.underlying73 (by kernel_rfl) (by decide) encK74_len (opK75 N)).less (Nat.le_succ N))) (.cons (OpC.n op28) (.nil)))) (fun x => K74.mk x.1 x.2.1 x.2.2.1) (fun x => encK74_of ⟨x.1,x.2.1,x.2.2.1⟩) (fun x hw => OkK.mk _ _ _ (by
      have h := hw.2.1.1.2
      rw [bytes75] at h
      unfold reachBytes at h
      omega) hw.2.1.2)
def wfT75 : R74 → Prop := fun y => OkK (K74.of y)
def encT75 (y : R74) : List AV := [.sc (.int .i64 y.Split),.rd false y.Kd.length (y.Kd.flatMap encK74),.rd false y.Lf.length (y.Lf.flatMap (encI .i64))]
theorem opT75 : OpW Try.prog 75 encT75 wfT75 := OpN.w fun N => (opK75 N).map K74.out (fun y => (encK74_out y).symm) (fun y h => by unfold wfT75; rw [K74.of_out]; exact h)
def wf36 : List UInt8 → Prop := (fun ys : List UInt8 => ys.length ≤ maxLen ∧ ∀ y,y ∈ ys → (fun _ => True) y)
theorem op36 : OpC Try.prog 36 (fun ys : List UInt8 => [.rd false ys.length (ys.flatMap enc8)]) wf36 := OpC.slice (sz := 1) Try.underlying36 (by kernel_rfl) (by decide) enc8_len (OpC.u8 Try.underlying5)
end Go.AB
namespace Go.Proofs.Ytiginjokbkemcaa.tourCheck
open Go Go.AB Go.ChangeShapes Go.WideShapes Go.ChangeAt Go.RowKit
set_option linter.unusedVariables false

theorem own : ownKnob Try.prog.godebug = none := by kernel_rfl
theorem laid : laidOutB Try.prog = true := by kernel_rfl

theorem opens : OpensLW Try.prog Try.f10.params.toList (fun x : R52 × R74 × (List UInt8) × Unit => [.agg (encR52 x.1),.agg (encT75 x.2.1),.rd false x.2.2.1.length (x.2.2.1.flatMap enc8)]) (fun x => (wf53) x.1 ∧ wfT75 x.2.1 ∧ (wf36) x.2.2.1 ∧ True) := by
  rw [show Try.f10.params.toList = [53,75,36] from by rw [Try.params10]]
  exact .cons (Opens.w (OpC.aggs ⟨_,Try.underlying53,trivial⟩ op53)) (.cons (OpW.aggs ⟨_,Try.underlying75,trivial⟩ opT75) (.cons (Opens.w (OpC.opens ⟨_,Try.underlying36,trivial⟩ op36)) (.nil)))

set_option maxRecDepth 100000 in
theorem contract (H : Type) (enc : TypeId × Value → H) (W : World) (base : Nat) (args : Array Value) (ds gs : List (DataW H)) (before : List MemPlace)
    (hval : ∀ (j : Nat) t v,Try.f10.params[j]? = some t → args[j]? = some v → Value.okWide Try.prog W .any base t v)
    (hW : DataW.Whole enc Try.prog Try.f10.params.toList Rows.tourCheckSpec.vars false W args.toList ds gs before)
    (hz : (DataW.weightsEach Try.prog (Try.f10.params.toList ++ Rows.tourCheckSpec.plain.varTypes Try.prog) (ds ++ gs)).all (· ≤ reachBytes) = true) :
    Calls Try.prog 10 args W fun e W' => ∃ v,e = .returned v ∧ Rows.tourCheckSpec.post enc Try.prog Try.f10 false true false false W args v W' :=
  law_contractW (fn := Try.f10) (k := 10) laid (by kernel_rfl) (by kernel_rfl) Try.underlying4 rfl opens
    (fun H ds hl => by
      rw [show Try.f10.params.toList = [53,75,36] from by rw [Try.params10]] at hl
      match ds,hl with
      | [d1,d2,d3],_ => rfl)
    H enc W base args ds gs before (fun x hx => (by
      obtain ⟨N,hN⟩ := OkK.fit _ hx.2.1
      exact c10 (max N 3000) x.1 x.2.1 x.2.2.1 (m10_true (by omega) _ _ _ (hN.mono (by omega) (by omega))))) hval hW hz

set_option maxRecDepth 100000 in
theorem lifted (os : Os) (started : os.Started) (H : Type) (enc : TypeId × Value → H) :
    ReturnsInHanded {} Try.checked os 10 .any (Rows.tourCheckSpec.pre6 enc Try.prog Try.f10 Rows.tourCheckRow.domain false) (Rows.tourCheckSpec.post enc Try.prog Try.f10 false true false false) := by
  refine returnsInHanded_of_change_sized (C := Try.checked) own started (by kernel_rfl) Try.func10
    (ChangeSpec.witness6 (enc := enc) (C := Try.checked) false ⟨#[],#[.agg #[.slice none 0 0,.slice none 0 0,.slice none 0 0,.int .i64 0],.agg #[.int .i64 0,.slice none 0 0,.slice none 0 0],.slice none 0 0],[]⟩ 8 (by kernel_rfl) (by kernel_rfl) (by kernel_rfl) (by kernel_rfl)) ?_
  intro W base args ds gs before hval hW _ hz _
  exact contract H enc W base args ds gs before hval hW hz

theorem over : Rows.tourCheckRow.holds Try.pinned (OpenSpec.ofChange Rows.tourCheckSpec) :=
  OpenClaim.holds_of_wide 10 Try.f10 rfl rfl rfl rfl rfl rfl rfl ⟨rfl,rfl,rfl,rfl,rfl⟩ rfl rfl rfl rfl rfl (by kernel_rfl) Try.func10 (by kernel_rfl)
    (of_decide_eq_true (by kernel_rfl)) (by unfold Func.isWrapper; first | (rw [if_pos (by decide +kernel)]; kernel_rfl) | (rw [if_neg (by decide +kernel)]; exact ⟨rfl,rfl⟩))
    (fun os started H enc _ => lifted os started H enc)

theorem proved : Rows.TourCheckSaid :=
  over
end Go.Proofs.Ytiginjokbkemcaa.tourCheck


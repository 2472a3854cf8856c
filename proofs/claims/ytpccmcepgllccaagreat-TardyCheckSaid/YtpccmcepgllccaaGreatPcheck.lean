/-
  TardyCheck returns true at every input: whatever the goal,the tree and the choices. No condition.
-/
import Derived.Test.YtpccmcepgllccaaGreatRows
import Derived.Test.YtpccmcepgllccaaGreatF3d
import Derived.Test.YtpccmcepgllccaaGreatMd
import Derived.Test.YtpccmcepgllccaaGreatBf
namespace Go.AB
open Go Go.Proofs
set_option linter.unusedVariables false
def wf79 : R63 → Prop := (fun y : R63 => (fun n => (Lit.int .i64 n).wf = true) y.Rl ∧ (fun n => (Lit.int .i64 n).wf = true) y.Ln ∧ (fun n => (Lit.int .i64 n).wf = true) y.Due ∧ True)
theorem op79 : OpC Tryz.prog 79 e63 wf79 := OpC.struct (σ := Int × Int × Int × Unit) Tryz.underlying79 rfl (by kernel_rfl) (.cons (OpC.int Tryz.underlying3) (.cons (OpC.int Tryz.underlying3) (.cons (OpC.int Tryz.underlying3) (.nil)))) (fun x => R63.mk x.1 x.2.1 x.2.2.1) (fun _ => rfl) (fun _ h => h)
def wf22 : List R63 → Prop := (fun ys : List R63 => ys.length ≤ maxLen ∧ ∀ y,y ∈ ys → (wf79) y)
theorem op22 : OpC Tryz.prog 22 (fun ys : List R63 => [.rd false ys.length (ys.flatMap e63)]) wf22 := OpC.slice (sz := 3) Tryz.underlying22 (by kernel_rfl) (by decide) encR63_len op79
def wf23 : List Int → Prop := (fun ys : List Int => ys.length ≤ maxLen ∧ ∀ y,y ∈ ys → (fun n => (Lit.int .i64 n).wf = true) y)
theorem op23 : OpC Tryz.prog 23 (fun ys : List Int => [.rd false ys.length (ys.flatMap (encI .i64))]) wf23 := OpC.slice (sz := 1) Tryz.underlying23 (by kernel_rfl) (by decide) (encI_len .i64) (OpC.int Tryz.underlying3)
def wf25 : R24 → Prop := (fun y : R24 => (wf22) y.Jb ∧ (wf23) y.Dn ∧ (fun _ => True) y.Mt ∧ (fun n => (Lit.int .i64 n).wf = true) y.Bo ∧ True)
theorem op25 : OpC Tryz.prog 25 encR24 wf25 := OpC.struct (σ := (List R63) × (List Int) × Bool × Int × Unit) Tryz.underlying25 rfl (by kernel_rfl) (.cons op22 (.cons op23 (.cons (OpC.bool Tryz.underlying4) (.cons (OpC.int Tryz.underlying3) (.nil))))) (fun x => R24.mk x.1 x.2.1 x.2.2.1 x.2.2.2.1) (fun _ => rfl) (fun _ h => h)
theorem bytes28 : Tryz.prog.bytesOf 28 = 56 := by kernel_rfl
theorem opK28 : ∀ N,OpN Tryz.prog 28 encK27 OkK N
  | 0 => OpN.zero
  | N + 1 => OpN.struct (σ := Int × (List K27) × (List Int) × Unit) Tryz.underlying28 rfl (by kernel_rfl) (.cons (OpC.n (OpC.int Tryz.underlying3)) (.cons (((OpN.slice (sz := 3) Tryz.underlying26 (by kernel_rfl) (by decide) encK27_len (opK28 N)).less (Nat.le_succ N))) (.cons (OpC.n op23) (.nil)))) (fun x => K27.mk x.1 x.2.1 x.2.2.1) (fun x => encK27_of ⟨x.1,x.2.1,x.2.2.1⟩) (fun x hw => OkK.mk _ _ _ (by
      have h := hw.2.1.1.2
      rw [bytes28] at h
      unfold reachBytes at h
      omega) hw.2.1.2)
def wfT28 : R27 → Prop := fun y => OkK (K27.of y)
def encT28 (y : R27) : List AV := [.sc (.int .i64 y.Sp),.rd false y.Kd.length (y.Kd.flatMap encK27),.rd false y.Lf.length (y.Lf.flatMap (encI .i64))]
theorem opT28 : OpW Tryz.prog 28 encT28 wfT28 := OpN.w fun N => (opK28 N).map K27.out (fun y => (encK27_out y).symm) (fun y h => by unfold wfT28; rw [K27.of_out]; exact h)
def wf29 : List UInt8 → Prop := (fun ys : List UInt8 => ys.length ≤ maxLen ∧ ∀ y,y ∈ ys → (fun _ => True) y)
theorem op29 : OpC Tryz.prog 29 (fun ys : List UInt8 => [.rd false ys.length (ys.flatMap enc8)]) wf29 := OpC.slice (sz := 1) Tryz.underlying29 (by kernel_rfl) (by decide) enc8_len (OpC.u8 Tryz.underlying5)
end Go.AB
namespace Go.Proofs.YtpccmcepgllccaaGreat.tardyCheck
open Go Go.AB Go.ChangeShapes Go.WideShapes Go.ChangeAt Go.RowKit
set_option linter.unusedVariables false

theorem own : ownKnob Tryz.prog.godebug = none := by kernel_rfl
theorem laid : laidOutB Tryz.prog = true := by kernel_rfl

theorem opens : OpensLW Tryz.prog Tryz.f3.params.toList (fun x : R24 × R27 × (List UInt8) × Unit => [.agg (encR24 x.1),.agg (encT28 x.2.1),.rd false x.2.2.1.length (x.2.2.1.flatMap enc8)]) (fun x => (wf25) x.1 ∧ wfT28 x.2.1 ∧ (wf29) x.2.2.1 ∧ True) := by
  rw [show Tryz.f3.params.toList = [25,28,29] from by rw [Tryz.params3]]
  exact .cons (Opens.w (OpC.aggs ⟨_,Tryz.underlying25,trivial⟩ op25)) (.cons (OpW.aggs ⟨_,Tryz.underlying28,trivial⟩ opT28) (.cons (Opens.w (OpC.opens ⟨_,Tryz.underlying29,trivial⟩ op29)) (.nil)))

set_option maxRecDepth 100000 in
theorem contract (H : Type) (enc : TypeId × Value → H) (W : World) (base : Nat) (args : Array Value) (ds gs : List (DataW H)) (before : List MemPlace)
    (hval : ∀ (j : Nat) t v,Tryz.f3.params[j]? = some t → args[j]? = some v → Value.okWide Tryz.prog W .any base t v)
    (hW : DataW.Whole enc Tryz.prog Tryz.f3.params.toList Rows.tardyCheckSpec.vars false W args.toList ds gs before)
    (hz : (DataW.weightsEach Tryz.prog (Tryz.f3.params.toList ++ Rows.tardyCheckSpec.plain.varTypes Tryz.prog) (ds ++ gs)).all (· ≤ reachBytes) = true) :
    Calls Tryz.prog 3 args W fun e W' => ∃ v,e = .returned v ∧ Rows.tardyCheckSpec.post enc Tryz.prog Tryz.f3 false true false false W args v W' :=
  law_contractW (fn := Tryz.f3) (k := 3) laid (by kernel_rfl) (by kernel_rfl) Tryz.underlying4 rfl opens
    (fun H ds hl => by
      rw [show Tryz.f3.params.toList = [25,28,29] from by rw [Tryz.params3]] at hl
      match ds,hl with
      | [d1,d2,d3],_ => rfl)
    H enc W base args ds gs before (fun x hx => (by
      obtain ⟨N,hN⟩ := OkK.fit _ hx.2.1
      exact c3 (max N 7000) x.1 x.2.1 x.2.2.1 (m3_true (by omega) _ _ _ (hN.mono (by omega) (by omega))))) hval hW hz

set_option maxRecDepth 100000 in
theorem lifted (os : Os) (started : os.Started) (H : Type) (enc : TypeId × Value → H) :
    ReturnsInHanded {} Tryz.checked os 3 .any (Rows.tardyCheckSpec.pre6 enc Tryz.prog Tryz.f3 Rows.tardyCheckRow.domain false) (Rows.tardyCheckSpec.post enc Tryz.prog Tryz.f3 false true false false) := by
  refine returnsInHanded_of_change_sized (C := Tryz.checked) own started (by kernel_rfl) Tryz.func3
    (ChangeSpec.witness6 (enc := enc) (C := Tryz.checked) false ⟨#[],#[.agg #[.slice none 0 0,.slice none 0 0,.bool false,.int .i64 0],.agg #[.int .i64 0,.slice none 0 0,.slice none 0 0],.slice none 0 0],[]⟩ 8 (by kernel_rfl) (by kernel_rfl) (by kernel_rfl) (by kernel_rfl)) ?_
  intro W base args ds gs before hval hW _ hz _
  exact contract H enc W base args ds gs before hval hW hz

theorem over : Rows.tardyCheckRow.holds Tryz.pinned (OpenSpec.ofChange Rows.tardyCheckSpec) :=
  OpenClaim.holds_of_wide 3 Tryz.f3 rfl rfl rfl rfl rfl rfl rfl ⟨rfl,rfl,rfl,rfl,rfl⟩ rfl rfl rfl rfl rfl (by kernel_rfl) Tryz.func3 (by kernel_rfl)
    (of_decide_eq_true (by kernel_rfl)) (by unfold Func.isWrapper; first | (rw [if_pos (by decide +kernel)]; kernel_rfl) | (rw [if_neg (by decide +kernel)]; exact ⟨rfl,rfl⟩))
    (fun os started H enc _ => lifted os started H enc)

theorem proved : Rows.TardyCheckSaid :=
  over
end Go.Proofs.YtpccmcepgllccaaGreat.tardyCheck


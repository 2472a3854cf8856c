/-
  DigestByte returns true at every input: whatever the bytes, the seed and the change. No condition.
-/
import Derived.Test.YtgbbmfafdbafjaaRows
import Derived.Test.YtgbbmfafdbafjaaLd
import Derived.Test.YtgbbmfafdbafjaaAb22
namespace Go.AB
open Go Go.Proofs
set_option linter.unusedVariables false
def wf22 : List UInt8 → Prop := (fun ys : List UInt8 => ys.length ≤ maxLen ∧ ∀ y, y ∈ ys → (fun _ => True) y)
theorem op22 : OpC Try.prog 22 (fun ys : List UInt8 => [.rd false ys.length (ys.flatMap enc8)]) wf22 := OpC.slice (sz := 1) Try.underlying22 (by kernel_rfl) (by decide) enc8_len (OpC.u8 Try.underlying5)
def wf37 : List Int → Prop := (fun ys : List Int => ys.length = 2 ∧ ∀ y, y ∈ ys → (fun n => (Lit.int .u16 n).wf = true) y)
theorem op37 : OpC Try.prog 37 (fun ys : List Int => ys.flatMap (encI .u16)) wf37 := OpC.array (sz := 1) Try.underlying37 (by kernel_rfl) (by kernel_rfl) (by decide) (encI_len .u16) (OpC.int Try.underlying36)
end Go.AB
namespace Go.Proofs.Ytgbbmfafdbafjaa.digestByte
open Go Go.AB Go.ChangeShapes Go.WideShapes Go.ChangeAt Go.RowKit
set_option linter.unusedVariables false

theorem own : ownKnob Try.prog.godebug = none := by kernel_rfl
theorem laid : laidOutB Try.prog = true := by kernel_rfl

theorem arr2 {l : List Int} (h : wf37 l) : ∃ c0 c1, l = [c0, c1] ∧ (0 ≤ c0 ∧ c0 < 65536) := by
  obtain ⟨h1, h2⟩ := h
  match l, h1 with
  | [c0, c1], _ =>
    have := h2 c0 (by simp)
    simp [Lit.wf, IntKind.min, IntKind.max, IntKind.signed, IntKind.bits] at this
    exact ⟨c0, c1, rfl, by omega, by omega⟩

theorem opens : OpensL Try.prog Try.f7.params.toList (fun x : (List UInt8) × Int × (List Int) × Unit => [.rd false x.1.length (x.1.flatMap enc8), .sc (.int .u64 x.2.1), .agg (x.2.2.1.flatMap (encI .u16))]) (fun x => (wf22) x.1 ∧ (fun n => (Lit.int .u64 n).wf = true) x.2.1 ∧ (wf37) x.2.2.1 ∧ True) := by
  rw [show Try.f7.params.toList = [22, 23, 37] from by rw [Try.params7]]
  exact .cons (OpC.opens ⟨_, Try.underlying22, trivial⟩ op22) (.cons (OpC.opens ⟨_, Try.underlying23, trivial⟩ (OpC.int Try.underlying23)) (.cons (OpC.aggs ⟨_, Try.underlying37, trivial⟩ op37) (.nil)))

theorem contract (H : Type) (enc : TypeId × Value → H) (W : World) (base : Nat) (args : Array Value) (ds gs : List (DataW H)) (before : List MemPlace)
    (hval : ∀ (j : Nat) t v, Try.f7.params[j]? = some t → args[j]? = some v → Value.okWide Try.prog W .any base t v)
    (hW : DataW.Whole enc Try.prog Try.f7.params.toList Rows.digestByteSpec.vars false W args.toList ds gs before) :
    Calls Try.prog 7 args W fun e W' => ∃ v, e = .returned v ∧ Rows.digestByteSpec.post enc Try.prog Try.f7 false true false false W args v W' :=
  law_contract laid (by kernel_rfl) (by kernel_rfl) Try.underlying4 rfl opens
    (fun H ds hl => by
      rw [show Try.f7.params.toList = [22, 23, 37] from by rw [Try.params7]] at hl
      match ds, hl with
      | [d1, d2, d3], _ => rfl)
    H enc W base args ds gs before (fun x hx => (arr2 hx.2.2.1).elim fun c0 h => h.elim fun c1 h => by rw [h.1]; exact c7 2000 x.1 x.2.1 [c0, c1] (m7_true x.1 hx.2.1 h.2)) hval hW

set_option maxRecDepth 100000 in
theorem lifted (os : Os) (started : os.Started) (H : Type) (enc : TypeId × Value → H) :
    ReturnsInHanded {} Try.checked os 7 .any (Rows.digestByteSpec.pre6 enc Try.prog Try.f7 Rows.digestByteRow.domain false) (Rows.digestByteSpec.post enc Try.prog Try.f7 false true false false) := by
  refine returnsInHanded_of_change (C := Try.checked) own started (by kernel_rfl) Try.func7
    (ChangeSpec.witness6 (enc := enc) (C := Try.checked) false ⟨#[], #[.slice none 0 0, .int .u64 0, .agg #[.int .u16 0, .int .u16 0]], []⟩ 8 (by kernel_rfl) (by kernel_rfl) (by kernel_rfl) (by kernel_rfl)) ?_
  intro W base args ds gs before hval hW _ _
  exact contract H enc W base args ds gs before hval hW

theorem over : Rows.digestByteRow.holds Try.pinned (OpenSpec.ofChange Rows.digestByteSpec) :=
  OpenClaim.holds_of_wide 7 Try.f7 rfl rfl rfl rfl rfl rfl rfl ⟨rfl, rfl, rfl, rfl, rfl⟩ rfl rfl rfl rfl rfl (by kernel_rfl) Try.func7 (by kernel_rfl)
    (of_decide_eq_true (by kernel_rfl)) (by unfold Func.isWrapper; first | (rw [if_pos (by decide +kernel)]; kernel_rfl) | (rw [if_neg (by decide +kernel)]; exact ⟨rfl, rfl⟩))
    (fun os started H enc _ => lifted os started H enc)

theorem proved : Rows.DigestByteSaid :=
  over
end Go.Proofs.Ytgbbmfafdbafjaa.digestByte

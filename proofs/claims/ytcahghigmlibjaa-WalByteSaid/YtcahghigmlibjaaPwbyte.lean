/-
  WalByte returns true at every input: whatever the records, the place and the change. No condition.
-/
import Derived.Test.YtcahghigmlibjaaRows
import Derived.Test.YtcahghigmlibjaaLj
import Derived.Test.YtcahghigmlibjaaAb22
namespace Go.AB
open Go Go.Proofs
set_option linter.unusedVariables false
def wf22 : List UInt8 → Prop := (fun ys : List UInt8 => ys.length ≤ maxLen ∧ ∀ y, y ∈ ys → (fun _ => True) y)
theorem op22 : OpC Try.prog 22 (fun ys : List UInt8 => [.rd false ys.length (ys.flatMap enc8)]) wf22 := OpC.slice (sz := 1) Try.underlying22 (by kernel_rfl) (by decide) enc8_len (OpC.u8 Try.underlying5)
def wf42 : List (List UInt8) → Prop := (fun ys : List (List UInt8) => ys.length ≤ maxLen ∧ ∀ y, y ∈ ys → (wf22) y)
theorem op42 : OpC Try.prog 42 (fun ys : List (List UInt8) => [.rd false ys.length (ys.flatMap encL5)]) wf42 := OpC.slice (sz := 1) Try.underlying42 (by kernel_rfl) (by decide) encL5_len op22
end Go.AB
namespace Go.Proofs.Ytcahghigmlibjaa.walByte
open Go Go.AB Go.ChangeShapes Go.WideShapes Go.ChangeAt Go.RowKit
set_option linter.unusedVariables false

theorem own : ownKnob Try.prog.godebug = none := by kernel_rfl
theorem laid : laidOutB Try.prog = true := by kernel_rfl

theorem u8_of {a : Int} (h : (Lit.int .u8 a).wf = true) : ∃ d : UInt8, a = (d.toNat : Int) := by
  simp [Lit.wf, IntKind.min, IntKind.max, IntKind.signed, IntKind.bits] at h
  refine ⟨UInt8.ofNat a.toNat, ?_⟩
  rw [ofN (by omega)]
  omega
theorem u16_of {a : Int} (h : (Lit.int .u16 a).wf = true) : 0 ≤ a ∧ a < 65536 := by
  simp [Lit.wf, IntKind.min, IntKind.max, IntKind.signed, IntKind.bits] at h
  omega

theorem opens : OpensL Try.prog Try.f5.params.toList (fun x : (List (List UInt8)) × Int × Int × Unit => [.rd false x.1.length (x.1.flatMap encL5), .sc (.int .u16 x.2.1), .sc (.int .u8 x.2.2.1)]) (fun x => (wf42) x.1 ∧ (fun n => (Lit.int .u16 n).wf = true) x.2.1 ∧ (fun n => (Lit.int .u8 n).wf = true) x.2.2.1 ∧ True) := by
  rw [show Try.f5.params.toList = [42, 50, 5] from by rw [Try.params5]]
  exact .cons (OpC.opens ⟨_, Try.underlying42, trivial⟩ op42) (.cons (OpC.opens ⟨_, Try.underlying50, trivial⟩ (OpC.int Try.underlying50)) (.cons (OpC.opens ⟨_, Try.underlying5, trivial⟩ (OpC.int Try.underlying5)) (.nil)))

theorem contract (H : Type) (enc : TypeId × Value → H) (W : World) (base : Nat) (args : Array Value) (ds gs : List (DataW H)) (before : List MemPlace)
    (hval : ∀ (j : Nat) t v, Try.f5.params[j]? = some t → args[j]? = some v → Value.okWide Try.prog W .any base t v)
    (hW : DataW.Whole enc Try.prog Try.f5.params.toList Rows.walByteSpec.vars false W args.toList ds gs before) :
    Calls Try.prog 5 args W fun e W' => ∃ v, e = .returned v ∧ Rows.walByteSpec.post enc Try.prog Try.f5 false true false false W args v W' :=
  law_contract laid (by kernel_rfl) (by kernel_rfl) Try.underlying4 rfl opens
    (fun H ds hl => by
      rw [show Try.f5.params.toList = [42, 50, 5] from by rw [Try.params5]] at hl
      match ds, hl with
      | [d1, d2, d3], _ => rfl)
    H enc W base args ds gs before (fun x hx => by obtain ⟨d, hd⟩ := u8_of hx.2.2.1; rw [hd]; exact c5 (x.1.length + 5000) x.1 x.2.1 (d.toNat : Int) (m5_true x.1 x.2.1 d (Nat.le_trans hx.1.1 (by decide)) (u16_of hx.2.1) (by omega) (by omega))) hval hW

set_option maxRecDepth 100000 in
theorem lifted (os : Os) (started : os.Started) (H : Type) (enc : TypeId × Value → H) :
    ReturnsInHanded {} Try.checked os 5 .any (Rows.walByteSpec.pre6 enc Try.prog Try.f5 Rows.walByteRow.domain false) (Rows.walByteSpec.post enc Try.prog Try.f5 false true false false) := by
  refine returnsInHanded_of_change (C := Try.checked) own started (by kernel_rfl) Try.func5
    (ChangeSpec.witness6 (enc := enc) (C := Try.checked) false ⟨#[], #[.slice none 0 0, .int .u16 0, .int .u8 0], []⟩ 8 (by kernel_rfl) (by kernel_rfl) (by kernel_rfl) (by kernel_rfl)) ?_
  intro W base args ds gs before hval hW _ _
  exact contract H enc W base args ds gs before hval hW

theorem over : Rows.walByteRow.holds Try.pinned (OpenSpec.ofChange Rows.walByteSpec) :=
  OpenClaim.holds_of_wide 5 Try.f5 rfl rfl rfl rfl rfl rfl rfl ⟨rfl, rfl, rfl, rfl, rfl⟩ rfl rfl rfl rfl rfl (by kernel_rfl) Try.func5 (by kernel_rfl)
    (of_decide_eq_true (by kernel_rfl)) (by unfold Func.isWrapper; first | (rw [if_pos (by decide +kernel)]; kernel_rfl) | (rw [if_neg (by decide +kernel)]; exact ⟨rfl, rfl⟩))
    (fun os started H enc _ => lifted os started H enc)

theorem proved : Rows.WalByteSaid :=
  over
end Go.Proofs.Ytcahghigmlibjaa.walByte

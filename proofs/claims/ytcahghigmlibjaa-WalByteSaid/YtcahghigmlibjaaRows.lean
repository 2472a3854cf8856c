/-
  No cell of these rows narrows 'for every input' (looked for: loops, veiled, ifaces, maps, wideKeys, modest, calm, conditions, laid).
  DERIVED. THE GIVEN ROWS OF THIS SEAT. 7 by the template 'for every input the law returns true; each argument reads behind the call as it read before'; 0 by the template 'total and deterministic' (their statements: YtcahghigmlibjaaTotals.lean).
  GIVEN WITH THE SEED: the statements are not yours to turn. If you find one false, say at which input.
  Laid BY PROGRAM, IN A SANDBOX (cutbox-rows.mjs): the forced cells as the released guide's own fill.sh prints them over the translation 9a28f05d48876855… (all of the seat's roots in one cut). By AI agents, Wed Nov 11 2026. No macro, syntax, notation, axiom, sorry.
-/
import Derived.Test.YtcahghigmlibjaaChecked
import GoSem.Claim
import GoSem.ClaimJoined
import GoSem.ClaimMapViews
import Derived.JoinedTies
import Derived.KernelRfl
namespace Go.Proofs.Ytcahghigmlibjaa
/- THE CELL 'sum', in the pinned program and in every row, IS THE sha256 OF THE DUMP (.gsa) THAT YtcahghigmlibjaaProg.lean LOADS. Nothing in Lean hashes anything: it is a label: what it is worth is what the hold of that sum in a sandbox is worth. -/
noncomputable def Try.pinned : Pinned := { name := "ytcahghigmlibjaa", sum := "9a28f05d488768552f450419d59aa756c66f97b3fe4ef94aba83db4adbfb8268", checked := Try.checked }
namespace Rows
def none {H : Type} : Left H := { results := [], args := [] }

/-- 'fretsawlaw55.WalCalls': WHATEVER THE INPUT: true; the input reads as it did. -/
def walCallsSpec : ChangeSpec := { name := "walCalls", fn := fun _ => fun
  | [d1, d2, d3] => { results := [.lit (.bool true)], args := [d1, d2, d3] }
  | _ => none }
def walCallsRow : OpenClaim := { program := "ytcahghigmlibjaa", sum := "9a28f05d488768552f450419d59aa756c66f97b3fe4ef94aba83db4adbfb8268", func := "fretsaw/fretsawlaw55.WalCalls", spec := "walCalls", unfollowed := true, recurses := true, apart := false }
def WalCallsSaid : Prop := walCallsRow.holds Try.pinned (OpenSpec.ofChange walCallsSpec)

/-- ITS FALSE NEIGHBOUR: 'it returns false'. Refute it at one input. -/
def walCallsWrong : ChangeSpec := { name := "walCalls", fn := fun _ => fun
  | [d1, d2, d3] => { results := [.lit (.bool false)], args := [d1, d2, d3] }
  | _ => none }
def WalCallsWrongFalsely : Prop := walCallsRow.holds Try.pinned (OpenSpec.ofChange walCallsWrong)

/-- 'fretsawlaw55.WalRoundTrip': WHATEVER THE INPUT: true; the input reads as it did. -/
def walRoundTripSpec : ChangeSpec := { name := "walRoundTrip", fn := fun _ => fun
  | [d1, d2, d3] => { results := [.lit (.bool true)], args := [d1, d2, d3] }
  | _ => none }
def walRoundTripRow : OpenClaim := { program := "ytcahghigmlibjaa", sum := "9a28f05d488768552f450419d59aa756c66f97b3fe4ef94aba83db4adbfb8268", func := "fretsaw/fretsawlaw55.WalRoundTrip", spec := "walRoundTrip", unfollowed := true, recurses := true, apart := false }
def WalRoundTripSaid : Prop := walRoundTripRow.holds Try.pinned (OpenSpec.ofChange walRoundTripSpec)

/-- ITS FALSE NEIGHBOUR: 'it returns false'. Refute it at one input. -/
def walRoundTripWrong : ChangeSpec := { name := "walRoundTrip", fn := fun _ => fun
  | [d1, d2, d3] => { results := [.lit (.bool false)], args := [d1, d2, d3] }
  | _ => none }
def WalRoundTripWrongFalsely : Prop := walRoundTripRow.holds Try.pinned (OpenSpec.ofChange walRoundTripWrong)

/-- 'fretsawlaw55.WalByte': WHATEVER THE INPUT: true; the input reads as it did. -/
def walByteSpec : ChangeSpec := { name := "walByte", fn := fun _ => fun
  | [d1, d2, d3] => { results := [.lit (.bool true)], args := [d1, d2, d3] }
  | _ => none }
def walByteRow : OpenClaim := { program := "ytcahghigmlibjaa", sum := "9a28f05d488768552f450419d59aa756c66f97b3fe4ef94aba83db4adbfb8268", func := "fretsaw/fretsawlaw55.WalByte", spec := "walByte", unfollowed := true, recurses := true, apart := false }
def WalByteSaid : Prop := walByteRow.holds Try.pinned (OpenSpec.ofChange walByteSpec)

/-- ITS FALSE NEIGHBOUR: 'it returns false'. Refute it at one input. -/
def walByteWrong : ChangeSpec := { name := "walByte", fn := fun _ => fun
  | [d1, d2, d3] => { results := [.lit (.bool false)], args := [d1, d2, d3] }
  | _ => none }
def WalByteWrongFalsely : Prop := walByteRow.holds Try.pinned (OpenSpec.ofChange walByteWrong)

/-- 'fretsawlaw55.WalRead': WHATEVER THE INPUT: true; the input reads as it did. -/
def walReadSpec : ChangeSpec := { name := "walRead", fn := fun _ => fun
  | [d] => { results := [.lit (.bool true)], args := [d] }
  | _ => none }
def walReadRow : OpenClaim := { program := "ytcahghigmlibjaa", sum := "9a28f05d488768552f450419d59aa756c66f97b3fe4ef94aba83db4adbfb8268", func := "fretsaw/fretsawlaw55.WalRead", spec := "walRead", unfollowed := true, recurses := true, apart := false }
def WalReadSaid : Prop := walReadRow.holds Try.pinned (OpenSpec.ofChange walReadSpec)

/-- ITS FALSE NEIGHBOUR: 'it returns false'. Refute it at one input. -/
def walReadWrong : ChangeSpec := { name := "walRead", fn := fun _ => fun
  | [d] => { results := [.lit (.bool false)], args := [d] }
  | _ => none }
def WalReadWrongFalsely : Prop := walReadRow.holds Try.pinned (OpenSpec.ofChange walReadWrong)

/-- 'fretsawlaw55.WalOpen': WHATEVER THE INPUT: true; the input reads as it did. -/
def walOpenSpec : ChangeSpec := { name := "walOpen", fn := fun _ => fun
  | [d] => { results := [.lit (.bool true)], args := [d] }
  | _ => none }
def walOpenRow : OpenClaim := { program := "ytcahghigmlibjaa", sum := "9a28f05d488768552f450419d59aa756c66f97b3fe4ef94aba83db4adbfb8268", func := "fretsaw/fretsawlaw55.WalOpen", spec := "walOpen", unfollowed := true, recurses := true, apart := false }
def WalOpenSaid : Prop := walOpenRow.holds Try.pinned (OpenSpec.ofChange walOpenSpec)

/-- ITS FALSE NEIGHBOUR: 'it returns false'. Refute it at one input. -/
def walOpenWrong : ChangeSpec := { name := "walOpen", fn := fun _ => fun
  | [d] => { results := [.lit (.bool false)], args := [d] }
  | _ => none }
def WalOpenWrongFalsely : Prop := walOpenRow.holds Try.pinned (OpenSpec.ofChange walOpenWrong)

/-- 'fretsawlaw55.WalCrash': WHATEVER THE INPUT: true; the input reads as it did. -/
def walCrashSpec : ChangeSpec := { name := "walCrash", fn := fun _ => fun
  | [d1, d2, d3] => { results := [.lit (.bool true)], args := [d1, d2, d3] }
  | _ => none }
def walCrashRow : OpenClaim := { program := "ytcahghigmlibjaa", sum := "9a28f05d488768552f450419d59aa756c66f97b3fe4ef94aba83db4adbfb8268", func := "fretsaw/fretsawlaw55.WalCrash", spec := "walCrash", unfollowed := true, recurses := true, apart := false }
def WalCrashSaid : Prop := walCrashRow.holds Try.pinned (OpenSpec.ofChange walCrashSpec)

/-- ITS FALSE NEIGHBOUR: 'it returns false'. Refute it at one input. -/
def walCrashWrong : ChangeSpec := { name := "walCrash", fn := fun _ => fun
  | [d1, d2, d3] => { results := [.lit (.bool false)], args := [d1, d2, d3] }
  | _ => none }
def WalCrashWrongFalsely : Prop := walCrashRow.holds Try.pinned (OpenSpec.ofChange walCrashWrong)

/-- 'fretsawlaw55.WalContinue': WHATEVER THE INPUT: true; the input reads as it did. -/
def walContinueSpec : ChangeSpec := { name := "walContinue", fn := fun _ => fun
  | [d1, d2, d3] => { results := [.lit (.bool true)], args := [d1, d2, d3] }
  | _ => none }
def walContinueRow : OpenClaim := { program := "ytcahghigmlibjaa", sum := "9a28f05d488768552f450419d59aa756c66f97b3fe4ef94aba83db4adbfb8268", func := "fretsaw/fretsawlaw55.WalContinue", spec := "walContinue", unfollowed := true, recurses := true, apart := false }
def WalContinueSaid : Prop := walContinueRow.holds Try.pinned (OpenSpec.ofChange walContinueSpec)

/-- ITS FALSE NEIGHBOUR: 'it returns false'. Refute it at one input. -/
def walContinueWrong : ChangeSpec := { name := "walContinue", fn := fun _ => fun
  | [d1, d2, d3] => { results := [.lit (.bool false)], args := [d1, d2, d3] }
  | _ => none }
def WalContinueWrongFalsely : Prop := walContinueRow.holds Try.pinned (OpenSpec.ofChange walContinueWrong)

/- THE SECOND FORM. 'bulk': how many values and letters a reading holds, each counted each time it is reached (what is shared counts as often as it is met; a slice's spare places count too). A statement '..UptoSaid' is the law's where the arguments, and the package variables that the reading takes, are together of bulk at most 1048576: NARROWER than '..Said'. Prove '..Said' where nothing that the law and all that it calls make is longer than what came in: it says more and counts as full. Else prove '..UptoSaid'. A law counts once. -/
mutual
def uptoBulk {H : Type} : DataW H → Nat
  | .lit (.string bytes) => bytes.length + 1
  | .lit _ => 1
  | .nil => 1
  | .ptr d => uptoBulk d + 1
  | .slice elems spare => uptoBulkAll elems + uptoBulkAll spare + 1
  | .agg parts => uptoBulkAll parts + 1
  | .iface _ d => uptoBulk d + 1
  | .map entries => uptoBulkEntries entries + 1
  | .held _ => 1
def uptoBulkAll {H : Type} : List (DataW H) → Nat
  | [] => 0
  | d :: r => uptoBulk d + uptoBulkAll r
def uptoBulkEntries {H : Type} : List (Lit × DataW H) → Nat
  | [] => 0
  | x :: r => uptoBulkEntry x + uptoBulkEntries r
def uptoBulkEntry {H : Type} : Lit × DataW H → Nat
  | (.string bytes, d) => bytes.length + uptoBulk d + 1
  | (_, d) => uptoBulk d + 1
 end
def uptoSmall : (H : Type) → List (DataW H) → Bool := fun _ ds => decide (uptoBulkAll ds ≤ 1048576)
def OpenSpec.upto (s : _root_.Go.ChangeSpec) : _root_.Go.OpenSpec := { _root_.Go.OpenSpec.ofChange s with cond := some uptoSmall }

/-- 'fretsawlaw55.WalCalls', WHERE WHAT IT READS IS OF BULK AT MOST 1048576: true; the input reads as it did. -/
def walCallsUptoRow : OpenClaim := { program := "ytcahghigmlibjaa", sum := "9a28f05d488768552f450419d59aa756c66f97b3fe4ef94aba83db4adbfb8268", func := "fretsaw/fretsawlaw55.WalCalls", spec := "walCalls", unfollowed := true, recurses := true, apart := false, narrowed := true }
def WalCallsUptoSaid : Prop := walCallsUptoRow.holds Try.pinned (OpenSpec.upto walCallsSpec)

/-- 'fretsawlaw55.WalRoundTrip', WHERE WHAT IT READS IS OF BULK AT MOST 1048576: true; the input reads as it did. -/
def walRoundTripUptoRow : OpenClaim := { program := "ytcahghigmlibjaa", sum := "9a28f05d488768552f450419d59aa756c66f97b3fe4ef94aba83db4adbfb8268", func := "fretsaw/fretsawlaw55.WalRoundTrip", spec := "walRoundTrip", unfollowed := true, recurses := true, apart := false, narrowed := true }
def WalRoundTripUptoSaid : Prop := walRoundTripUptoRow.holds Try.pinned (OpenSpec.upto walRoundTripSpec)

/-- 'fretsawlaw55.WalByte', WHERE WHAT IT READS IS OF BULK AT MOST 1048576: true; the input reads as it did. -/
def walByteUptoRow : OpenClaim := { program := "ytcahghigmlibjaa", sum := "9a28f05d488768552f450419d59aa756c66f97b3fe4ef94aba83db4adbfb8268", func := "fretsaw/fretsawlaw55.WalByte", spec := "walByte", unfollowed := true, recurses := true, apart := false, narrowed := true }
def WalByteUptoSaid : Prop := walByteUptoRow.holds Try.pinned (OpenSpec.upto walByteSpec)

/-- 'fretsawlaw55.WalRead', WHERE WHAT IT READS IS OF BULK AT MOST 1048576: true; the input reads as it did. -/
def walReadUptoRow : OpenClaim := { program := "ytcahghigmlibjaa", sum := "9a28f05d488768552f450419d59aa756c66f97b3fe4ef94aba83db4adbfb8268", func := "fretsaw/fretsawlaw55.WalRead", spec := "walRead", unfollowed := true, recurses := true, apart := false, narrowed := true }
def WalReadUptoSaid : Prop := walReadUptoRow.holds Try.pinned (OpenSpec.upto walReadSpec)

/-- 'fretsawlaw55.WalOpen', WHERE WHAT IT READS IS OF BULK AT MOST 1048576: true; the input reads as it did. -/
def walOpenUptoRow : OpenClaim := { program := "ytcahghigmlibjaa", sum := "9a28f05d488768552f450419d59aa756c66f97b3fe4ef94aba83db4adbfb8268", func := "fretsaw/fretsawlaw55.WalOpen", spec := "walOpen", unfollowed := true, recurses := true, apart := false, narrowed := true }
def WalOpenUptoSaid : Prop := walOpenUptoRow.holds Try.pinned (OpenSpec.upto walOpenSpec)

/-- 'fretsawlaw55.WalCrash', WHERE WHAT IT READS IS OF BULK AT MOST 1048576: true; the input reads as it did. -/
def walCrashUptoRow : OpenClaim := { program := "ytcahghigmlibjaa", sum := "9a28f05d488768552f450419d59aa756c66f97b3fe4ef94aba83db4adbfb8268", func := "fretsaw/fretsawlaw55.WalCrash", spec := "walCrash", unfollowed := true, recurses := true, apart := false, narrowed := true }
def WalCrashUptoSaid : Prop := walCrashUptoRow.holds Try.pinned (OpenSpec.upto walCrashSpec)

/-- 'fretsawlaw55.WalContinue', WHERE WHAT IT READS IS OF BULK AT MOST 1048576: true; the input reads as it did. -/
def walContinueUptoRow : OpenClaim := { program := "ytcahghigmlibjaa", sum := "9a28f05d488768552f450419d59aa756c66f97b3fe4ef94aba83db4adbfb8268", func := "fretsaw/fretsawlaw55.WalContinue", spec := "walContinue", unfollowed := true, recurses := true, apart := false, narrowed := true }
def WalContinueUptoSaid : Prop := walContinueUptoRow.holds Try.pinned (OpenSpec.upto walContinueSpec)

end Rows
end Go.Proofs.Ytcahghigmlibjaa

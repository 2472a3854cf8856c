/-
  No cell of these rows narrows 'for every input' (looked for: loops, veiled, ifaces, maps, wideKeys, modest, calm, conditions, laid).
  DERIVED. THE GIVEN ROWS OF THIS SEAT. 7 by the template 'for every input the law returns true; each argument reads behind the call as it read before'; 0 by the template 'total and deterministic' (their statements: YtpccmcepgllccaaTotals.lean).
  GIVEN WITH THE SEED: the statements are not yours to turn. If you find one false, say at which input.
  Laid BY PROGRAM, IN A SANDBOX (cutbox-rows.mjs): the forced cells as the released guide's own fill.sh prints them over the translation 05aeb0ef4e478721… (all of the seat's roots in one cut). By AI agents, Wed Nov 11 2026. No macro, syntax, notation, axiom, sorry.
-/
import Derived.Test.YtpccmcepgllccaaChecked
import GoSem.Claim
import GoSem.ClaimJoined
import GoSem.ClaimMapViews
import Derived.JoinedTies
import Derived.KernelRfl
namespace Go.Proofs.Ytpccmcepgllccaa
/- THE CELL 'sum', in the pinned program and in every row, IS THE sha256 OF THE DUMP (.gsa) THAT YtpccmcepgllccaaProg.lean LOADS. Nothing in Lean hashes anything: it is a label: what it is worth is what the hold of that sum in a sandbox is worth. -/
noncomputable def Try.pinned : Pinned := { name := "ytpccmcepgllccaa", sum := "05aeb0ef4e478721d75f92b43d48b067ab1c2433b453190938ed378366df8afd", checked := Try.checked }
namespace Rows
def none {H : Type} : Left H := { results := [], args := [] }

/-- 'fretsawlaw53.TardyExact': WHATEVER THE INPUT: true; the input reads as it did. -/
def tardyExactSpec : ChangeSpec := { name := "tardyExact", fn := fun _ => fun
  | [d1, d2, d3] => { results := [.lit (.bool true)], args := [d1, d2, d3] }
  | _ => none }
def tardyExactRow : OpenClaim := { program := "ytpccmcepgllccaa", sum := "05aeb0ef4e478721d75f92b43d48b067ab1c2433b453190938ed378366df8afd", func := "fretsaw/fretsawlaw53.TardyExact", spec := "tardyExact", unfollowed := true, recurses := true, apart := false }
def TardyExactSaid : Prop := tardyExactRow.holds Try.pinned (OpenSpec.ofChange tardyExactSpec)

/-- ITS FALSE NEIGHBOUR: 'it returns false'. Refute it at one input. -/
def tardyExactWrong : ChangeSpec := { name := "tardyExact", fn := fun _ => fun
  | [d1, d2, d3] => { results := [.lit (.bool false)], args := [d1, d2, d3] }
  | _ => none }
def TardyExactWrongFalsely : Prop := tardyExactRow.holds Try.pinned (OpenSpec.ofChange tardyExactWrong)

/-- 'fretsawlaw53.TardyMore': WHATEVER THE INPUT: true; the input reads as it did. -/
def tardyMoreSpec : ChangeSpec := { name := "tardyMore", fn := fun _ => fun
  | [d1, d2] => { results := [.lit (.bool true)], args := [d1, d2] }
  | _ => none }
def tardyMoreRow : OpenClaim := { program := "ytpccmcepgllccaa", sum := "05aeb0ef4e478721d75f92b43d48b067ab1c2433b453190938ed378366df8afd", func := "fretsaw/fretsawlaw53.TardyMore", spec := "tardyMore", unfollowed := true, recurses := true, apart := false }
def TardyMoreSaid : Prop := tardyMoreRow.holds Try.pinned (OpenSpec.ofChange tardyMoreSpec)

/-- ITS FALSE NEIGHBOUR: 'it returns false'. Refute it at one input. -/
def tardyMoreWrong : ChangeSpec := { name := "tardyMore", fn := fun _ => fun
  | [d1, d2] => { results := [.lit (.bool false)], args := [d1, d2] }
  | _ => none }
def TardyMoreWrongFalsely : Prop := tardyMoreRow.holds Try.pinned (OpenSpec.ofChange tardyMoreWrong)

/-- 'fretsawlaw53.TardyTimes': WHATEVER THE INPUT: true; the input reads as it did. -/
def tardyTimesSpec : ChangeSpec := { name := "tardyTimes", fn := fun _ => fun
  | [d1, d2] => { results := [.lit (.bool true)], args := [d1, d2] }
  | _ => none }
def tardyTimesRow : OpenClaim := { program := "ytpccmcepgllccaa", sum := "05aeb0ef4e478721d75f92b43d48b067ab1c2433b453190938ed378366df8afd", func := "fretsaw/fretsawlaw53.TardyTimes", spec := "tardyTimes", unfollowed := true, recurses := true, apart := false }
def TardyTimesSaid : Prop := tardyTimesRow.holds Try.pinned (OpenSpec.ofChange tardyTimesSpec)

/-- ITS FALSE NEIGHBOUR: 'it returns false'. Refute it at one input. -/
def tardyTimesWrong : ChangeSpec := { name := "tardyTimes", fn := fun _ => fun
  | [d1, d2] => { results := [.lit (.bool false)], args := [d1, d2] }
  | _ => none }
def TardyTimesWrongFalsely : Prop := tardyTimesRow.holds Try.pinned (OpenSpec.ofChange tardyTimesWrong)

/-- 'fretsawlaw53.TardyShift': WHATEVER THE INPUT: true; the input reads as it did. -/
def tardyShiftSpec : ChangeSpec := { name := "tardyShift", fn := fun _ => fun
  | [d1, d2, d3] => { results := [.lit (.bool true)], args := [d1, d2, d3] }
  | _ => none }
def tardyShiftRow : OpenClaim := { program := "ytpccmcepgllccaa", sum := "05aeb0ef4e478721d75f92b43d48b067ab1c2433b453190938ed378366df8afd", func := "fretsaw/fretsawlaw53.TardyShift", spec := "tardyShift", unfollowed := true, recurses := true, apart := false }
def TardyShiftSaid : Prop := tardyShiftRow.holds Try.pinned (OpenSpec.ofChange tardyShiftSpec)

/-- ITS FALSE NEIGHBOUR: 'it returns false'. Refute it at one input. -/
def tardyShiftWrong : ChangeSpec := { name := "tardyShift", fn := fun _ => fun
  | [d1, d2, d3] => { results := [.lit (.bool false)], args := [d1, d2, d3] }
  | _ => none }
def TardyShiftWrongFalsely : Prop := tardyShiftRow.holds Try.pinned (OpenSpec.ofChange tardyShiftWrong)

/-- 'fretsawlaw53.TardyLeast': WHATEVER THE INPUT: true; the input reads as it did. -/
def tardyLeastSpec : ChangeSpec := { name := "tardyLeast", fn := fun _ => fun
  | [d1, d2] => { results := [.lit (.bool true)], args := [d1, d2] }
  | _ => none }
def tardyLeastRow : OpenClaim := { program := "ytpccmcepgllccaa", sum := "05aeb0ef4e478721d75f92b43d48b067ab1c2433b453190938ed378366df8afd", func := "fretsaw/fretsawlaw53.TardyLeast", spec := "tardyLeast", unfollowed := true, recurses := true, apart := false }
def TardyLeastSaid : Prop := tardyLeastRow.holds Try.pinned (OpenSpec.ofChange tardyLeastSpec)

/-- ITS FALSE NEIGHBOUR: 'it returns false'. Refute it at one input. -/
def tardyLeastWrong : ChangeSpec := { name := "tardyLeast", fn := fun _ => fun
  | [d1, d2] => { results := [.lit (.bool false)], args := [d1, d2] }
  | _ => none }
def TardyLeastWrongFalsely : Prop := tardyLeastRow.holds Try.pinned (OpenSpec.ofChange tardyLeastWrong)

/-- 'fretsawlaw53.TardyBounds': WHATEVER THE INPUT: true; the input reads as it did. -/
def tardyBoundsSpec : ChangeSpec := { name := "tardyBounds", fn := fun _ => fun
  | [d1, d2] => { results := [.lit (.bool true)], args := [d1, d2] }
  | _ => none }
def tardyBoundsRow : OpenClaim := { program := "ytpccmcepgllccaa", sum := "05aeb0ef4e478721d75f92b43d48b067ab1c2433b453190938ed378366df8afd", func := "fretsaw/fretsawlaw53.TardyBounds", spec := "tardyBounds", unfollowed := true, recurses := true, apart := false }
def TardyBoundsSaid : Prop := tardyBoundsRow.holds Try.pinned (OpenSpec.ofChange tardyBoundsSpec)

/-- ITS FALSE NEIGHBOUR: 'it returns false'. Refute it at one input. -/
def tardyBoundsWrong : ChangeSpec := { name := "tardyBounds", fn := fun _ => fun
  | [d1, d2] => { results := [.lit (.bool false)], args := [d1, d2] }
  | _ => none }
def TardyBoundsWrongFalsely : Prop := tardyBoundsRow.holds Try.pinned (OpenSpec.ofChange tardyBoundsWrong)

/-- 'fretsawlaw53.TardyParts': WHATEVER THE INPUT: true; the input reads as it did. -/
def tardyPartsSpec : ChangeSpec := { name := "tardyParts", fn := fun _ => fun
  | [d1, d2, d3] => { results := [.lit (.bool true)], args := [d1, d2, d3] }
  | _ => none }
def tardyPartsRow : OpenClaim := { program := "ytpccmcepgllccaa", sum := "05aeb0ef4e478721d75f92b43d48b067ab1c2433b453190938ed378366df8afd", func := "fretsaw/fretsawlaw53.TardyParts", spec := "tardyParts", unfollowed := true, recurses := true, apart := false }
def TardyPartsSaid : Prop := tardyPartsRow.holds Try.pinned (OpenSpec.ofChange tardyPartsSpec)

/-- ITS FALSE NEIGHBOUR: 'it returns false'. Refute it at one input. -/
def tardyPartsWrong : ChangeSpec := { name := "tardyParts", fn := fun _ => fun
  | [d1, d2, d3] => { results := [.lit (.bool false)], args := [d1, d2, d3] }
  | _ => none }
def TardyPartsWrongFalsely : Prop := tardyPartsRow.holds Try.pinned (OpenSpec.ofChange tardyPartsWrong)

/- THE SECOND FORM. 'bulk': how many values and letters a reading holds, each counted each time it is reached (what is shared counts as often as it is met; a slice's spare places count too). A statement '..UptoSaid' is the law's where the arguments, and the package variables that the reading takes, are together of bulk at most 1048576: NARROWER than '..Said'. Prove '..Said' where nothing that the law and all that it calls make is longer than what came in: it says more and counts as full. Else prove '..UptoSaid'. A law counts once. -/
mutual
def uptoBulk {H : Type} : DataW H → Nat
  | .lit (.string bytes) => bytes.length + 1
  | .lit _ => 1
  | .nil => 1
  | .ptr d => uptoBulk d + 1
  | .slice elems spare => uptoBulkAll elems + uptoBulkAll spare + 1
  | .agg parts => uptoBulkAll parts + 1
  | .iface _ d => uptoBulk d + 1
  | .map entries => uptoBulkEntries entries + 1
  | .held _ => 1
def uptoBulkAll {H : Type} : List (DataW H) → Nat
  | [] => 0
  | d :: r => uptoBulk d + uptoBulkAll r
def uptoBulkEntries {H : Type} : List (Lit × DataW H) → Nat
  | [] => 0
  | x :: r => uptoBulkEntry x + uptoBulkEntries r
def uptoBulkEntry {H : Type} : Lit × DataW H → Nat
  | (.string bytes, d) => bytes.length + uptoBulk d + 1
  | (_, d) => uptoBulk d + 1
 end
def uptoSmall : (H : Type) → List (DataW H) → Bool := fun _ ds => decide (uptoBulkAll ds ≤ 1048576)
def OpenSpec.upto (s : _root_.Go.ChangeSpec) : _root_.Go.OpenSpec := { _root_.Go.OpenSpec.ofChange s with cond := some uptoSmall }

/-- 'fretsawlaw53.TardyExact', WHERE WHAT IT READS IS OF BULK AT MOST 1048576: true; the input reads as it did. -/
def tardyExactUptoRow : OpenClaim := { program := "ytpccmcepgllccaa", sum := "05aeb0ef4e478721d75f92b43d48b067ab1c2433b453190938ed378366df8afd", func := "fretsaw/fretsawlaw53.TardyExact", spec := "tardyExact", unfollowed := true, recurses := true, apart := false, narrowed := true }
def TardyExactUptoSaid : Prop := tardyExactUptoRow.holds Try.pinned (OpenSpec.upto tardyExactSpec)

/-- 'fretsawlaw53.TardyMore', WHERE WHAT IT READS IS OF BULK AT MOST 1048576: true; the input reads as it did. -/
def tardyMoreUptoRow : OpenClaim := { program := "ytpccmcepgllccaa", sum := "05aeb0ef4e478721d75f92b43d48b067ab1c2433b453190938ed378366df8afd", func := "fretsaw/fretsawlaw53.TardyMore", spec := "tardyMore", unfollowed := true, recurses := true, apart := false, narrowed := true }
def TardyMoreUptoSaid : Prop := tardyMoreUptoRow.holds Try.pinned (OpenSpec.upto tardyMoreSpec)

/-- 'fretsawlaw53.TardyTimes', WHERE WHAT IT READS IS OF BULK AT MOST 1048576: true; the input reads as it did. -/
def tardyTimesUptoRow : OpenClaim := { program := "ytpccmcepgllccaa", sum := "05aeb0ef4e478721d75f92b43d48b067ab1c2433b453190938ed378366df8afd", func := "fretsaw/fretsawlaw53.TardyTimes", spec := "tardyTimes", unfollowed := true, recurses := true, apart := false, narrowed := true }
def TardyTimesUptoSaid : Prop := tardyTimesUptoRow.holds Try.pinned (OpenSpec.upto tardyTimesSpec)

/-- 'fretsawlaw53.TardyShift', WHERE WHAT IT READS IS OF BULK AT MOST 1048576: true; the input reads as it did. -/
def tardyShiftUptoRow : OpenClaim := { program := "ytpccmcepgllccaa", sum := "05aeb0ef4e478721d75f92b43d48b067ab1c2433b453190938ed378366df8afd", func := "fretsaw/fretsawlaw53.TardyShift", spec := "tardyShift", unfollowed := true, recurses := true, apart := false, narrowed := true }
def TardyShiftUptoSaid : Prop := tardyShiftUptoRow.holds Try.pinned (OpenSpec.upto tardyShiftSpec)

/-- 'fretsawlaw53.TardyLeast', WHERE WHAT IT READS IS OF BULK AT MOST 1048576: true; the input reads as it did. -/
def tardyLeastUptoRow : OpenClaim := { program := "ytpccmcepgllccaa", sum := "05aeb0ef4e478721d75f92b43d48b067ab1c2433b453190938ed378366df8afd", func := "fretsaw/fretsawlaw53.TardyLeast", spec := "tardyLeast", unfollowed := true, recurses := true, apart := false, narrowed := true }
def TardyLeastUptoSaid : Prop := tardyLeastUptoRow.holds Try.pinned (OpenSpec.upto tardyLeastSpec)

/-- 'fretsawlaw53.TardyBounds', WHERE WHAT IT READS IS OF BULK AT MOST 1048576: true; the input reads as it did. -/
def tardyBoundsUptoRow : OpenClaim := { program := "ytpccmcepgllccaa", sum := "05aeb0ef4e478721d75f92b43d48b067ab1c2433b453190938ed378366df8afd", func := "fretsaw/fretsawlaw53.TardyBounds", spec := "tardyBounds", unfollowed := true, recurses := true, apart := false, narrowed := true }
def TardyBoundsUptoSaid : Prop := tardyBoundsUptoRow.holds Try.pinned (OpenSpec.upto tardyBoundsSpec)

/-- 'fretsawlaw53.TardyParts', WHERE WHAT IT READS IS OF BULK AT MOST 1048576: true; the input reads as it did. -/
def tardyPartsUptoRow : OpenClaim := { program := "ytpccmcepgllccaa", sum := "05aeb0ef4e478721d75f92b43d48b067ab1c2433b453190938ed378366df8afd", func := "fretsaw/fretsawlaw53.TardyParts", spec := "tardyParts", unfollowed := true, recurses := true, apart := false, narrowed := true }
def TardyPartsUptoSaid : Prop := tardyPartsUptoRow.holds Try.pinned (OpenSpec.upto tardyPartsSpec)

end Rows
end Go.Proofs.Ytpccmcepgllccaa

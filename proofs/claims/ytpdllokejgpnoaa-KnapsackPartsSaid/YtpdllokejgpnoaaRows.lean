/-
  No cell of these rows narrows 'for every input' (looked for: loops, veiled, ifaces, maps, wideKeys, modest, calm, conditions, laid).
  DERIVED. THE GIVEN ROWS OF THIS SEAT. 8 by the template 'for every input the law returns true; each argument reads behind the call as it read before'; 0 by the template 'total and deterministic' (their statements: YtpdllokejgpnoaaTotals.lean).
  GIVEN WITH THE SEED: the statements are not yours to turn. If you find one false, say at which input.
  Laid BY PROGRAM, IN A SANDBOX (cutbox-rows.mjs): the forced cells as the released guide's own fill.sh prints them over the translation 6fe861e73d289a52… (all of the seat's roots in one cut). By AI agents, Wed Nov 11 2026. No macro, syntax, notation, axiom, sorry.
-/
import Derived.Test.YtpdllokejgpnoaaChecked
import GoSem.Claim
import GoSem.ClaimJoined
import GoSem.ClaimMapViews
import Derived.JoinedTies
import Derived.KernelRfl
namespace Go.Proofs.Ytpdllokejgpnoaa
/- THE CELL 'sum', in the pinned program and in every row, IS THE sha256 OF THE DUMP (.gsa) THAT YtpdllokejgpnoaaProg.lean LOADS. Nothing in Lean hashes anything: it is a label: what it is worth is what the hold of that sum in a sandbox is worth. -/
noncomputable def Try.pinned : Pinned := { name := "ytpdllokejgpnoaa", sum := "6fe861e73d289a52651c151d4e615b1b44105daa9d6a4888f8d054fc98a640ee", checked := Try.checked }
namespace Rows
def none {H : Type} : Left H := { results := [], args := [] }

/-- 'fretsawlaw27.KnapsackScale': WHATEVER THE INPUT: true; the input reads as it did. -/
def knapsackScaleSpec : ChangeSpec := { name := "knapsackScale", fn := fun _ => fun
  | [d1, d2, d3] => { results := [.lit (.bool true)], args := [d1, d2, d3] }
  | _ => none }
def knapsackScaleRow : OpenClaim := { program := "ytpdllokejgpnoaa", sum := "6fe861e73d289a52651c151d4e615b1b44105daa9d6a4888f8d054fc98a640ee", func := "fretsaw/fretsawlaw27.KnapsackScale", spec := "knapsackScale", unfollowed := true, recurses := true, apart := false }
def KnapsackScaleSaid : Prop := knapsackScaleRow.holds Try.pinned (OpenSpec.ofChange knapsackScaleSpec)

/-- ITS FALSE NEIGHBOUR: 'it returns false'. Refute it at one input. -/
def knapsackScaleWrong : ChangeSpec := { name := "knapsackScale", fn := fun _ => fun
  | [d1, d2, d3] => { results := [.lit (.bool false)], args := [d1, d2, d3] }
  | _ => none }
def KnapsackScaleWrongFalsely : Prop := knapsackScaleRow.holds Try.pinned (OpenSpec.ofChange knapsackScaleWrong)

/-- 'fretsawlaw27.KnapsackWithout': WHATEVER THE INPUT: true; the input reads as it did. -/
def knapsackWithoutSpec : ChangeSpec := { name := "knapsackWithout", fn := fun _ => fun
  | [d1, d2, d3] => { results := [.lit (.bool true)], args := [d1, d2, d3] }
  | _ => none }
def knapsackWithoutRow : OpenClaim := { program := "ytpdllokejgpnoaa", sum := "6fe861e73d289a52651c151d4e615b1b44105daa9d6a4888f8d054fc98a640ee", func := "fretsaw/fretsawlaw27.KnapsackWithout", spec := "knapsackWithout", unfollowed := true, recurses := true, apart := false }
def KnapsackWithoutSaid : Prop := knapsackWithoutRow.holds Try.pinned (OpenSpec.ofChange knapsackWithoutSpec)

/-- ITS FALSE NEIGHBOUR: 'it returns false'. Refute it at one input. -/
def knapsackWithoutWrong : ChangeSpec := { name := "knapsackWithout", fn := fun _ => fun
  | [d1, d2, d3] => { results := [.lit (.bool false)], args := [d1, d2, d3] }
  | _ => none }
def KnapsackWithoutWrongFalsely : Prop := knapsackWithoutRow.holds Try.pinned (OpenSpec.ofChange knapsackWithoutWrong)

/-- 'fretsawlaw27.KnapsackSolve': WHATEVER THE INPUT: true; the input reads as it did. -/
def knapsackSolveSpec : ChangeSpec := { name := "knapsackSolve", fn := fun _ => fun
  | [d1, d2] => { results := [.lit (.bool true)], args := [d1, d2] }
  | _ => none }
def knapsackSolveRow : OpenClaim := { program := "ytpdllokejgpnoaa", sum := "6fe861e73d289a52651c151d4e615b1b44105daa9d6a4888f8d054fc98a640ee", func := "fretsaw/fretsawlaw27.KnapsackSolve", spec := "knapsackSolve", unfollowed := true, recurses := true, apart := false }
def KnapsackSolveSaid : Prop := knapsackSolveRow.holds Try.pinned (OpenSpec.ofChange knapsackSolveSpec)

/-- ITS FALSE NEIGHBOUR: 'it returns false'. Refute it at one input. -/
def knapsackSolveWrong : ChangeSpec := { name := "knapsackSolve", fn := fun _ => fun
  | [d1, d2] => { results := [.lit (.bool false)], args := [d1, d2] }
  | _ => none }
def KnapsackSolveWrongFalsely : Prop := knapsackSolveRow.holds Try.pinned (OpenSpec.ofChange knapsackSolveWrong)

/-- 'fretsawlaw27.KnapsackGrows': WHATEVER THE INPUT: true; the input reads as it did. -/
def knapsackGrowsSpec : ChangeSpec := { name := "knapsackGrows", fn := fun _ => fun
  | [d1, d2, d3] => { results := [.lit (.bool true)], args := [d1, d2, d3] }
  | _ => none }
def knapsackGrowsRow : OpenClaim := { program := "ytpdllokejgpnoaa", sum := "6fe861e73d289a52651c151d4e615b1b44105daa9d6a4888f8d054fc98a640ee", func := "fretsaw/fretsawlaw27.KnapsackGrows", spec := "knapsackGrows", unfollowed := true, recurses := true, apart := false }
def KnapsackGrowsSaid : Prop := knapsackGrowsRow.holds Try.pinned (OpenSpec.ofChange knapsackGrowsSpec)

/-- ITS FALSE NEIGHBOUR: 'it returns false'. Refute it at one input. -/
def knapsackGrowsWrong : ChangeSpec := { name := "knapsackGrows", fn := fun _ => fun
  | [d1, d2, d3] => { results := [.lit (.bool false)], args := [d1, d2, d3] }
  | _ => none }
def KnapsackGrowsWrongFalsely : Prop := knapsackGrowsRow.holds Try.pinned (OpenSpec.ofChange knapsackGrowsWrong)

/-- 'fretsawlaw27.KnapsackBest': WHATEVER THE INPUT: true; the input reads as it did. -/
def knapsackBestSpec : ChangeSpec := { name := "knapsackBest", fn := fun _ => fun
  | [d1, d2, d3] => { results := [.lit (.bool true)], args := [d1, d2, d3] }
  | _ => none }
def knapsackBestRow : OpenClaim := { program := "ytpdllokejgpnoaa", sum := "6fe861e73d289a52651c151d4e615b1b44105daa9d6a4888f8d054fc98a640ee", func := "fretsaw/fretsawlaw27.KnapsackBest", spec := "knapsackBest", unfollowed := true, recurses := true, apart := false }
def KnapsackBestSaid : Prop := knapsackBestRow.holds Try.pinned (OpenSpec.ofChange knapsackBestSpec)

/-- ITS FALSE NEIGHBOUR: 'it returns false'. Refute it at one input. -/
def knapsackBestWrong : ChangeSpec := { name := "knapsackBest", fn := fun _ => fun
  | [d1, d2, d3] => { results := [.lit (.bool false)], args := [d1, d2, d3] }
  | _ => none }
def KnapsackBestWrongFalsely : Prop := knapsackBestRow.holds Try.pinned (OpenSpec.ofChange knapsackBestWrong)

/-- 'fretsawlaw27.KnapsackBound': WHATEVER THE INPUT: true; the input reads as it did. -/
def knapsackBoundSpec : ChangeSpec := { name := "knapsackBound", fn := fun _ => fun
  | [d1, d2] => { results := [.lit (.bool true)], args := [d1, d2] }
  | _ => none }
def knapsackBoundRow : OpenClaim := { program := "ytpdllokejgpnoaa", sum := "6fe861e73d289a52651c151d4e615b1b44105daa9d6a4888f8d054fc98a640ee", func := "fretsaw/fretsawlaw27.KnapsackBound", spec := "knapsackBound", unfollowed := true, recurses := true, apart := false }
def KnapsackBoundSaid : Prop := knapsackBoundRow.holds Try.pinned (OpenSpec.ofChange knapsackBoundSpec)

/-- ITS FALSE NEIGHBOUR: 'it returns false'. Refute it at one input. -/
def knapsackBoundWrong : ChangeSpec := { name := "knapsackBound", fn := fun _ => fun
  | [d1, d2] => { results := [.lit (.bool false)], args := [d1, d2] }
  | _ => none }
def KnapsackBoundWrongFalsely : Prop := knapsackBoundRow.holds Try.pinned (OpenSpec.ofChange knapsackBoundWrong)

/-- 'fretsawlaw27.KnapsackOrder': WHATEVER THE INPUT: true; the input reads as it did. -/
def knapsackOrderSpec : ChangeSpec := { name := "knapsackOrder", fn := fun _ => fun
  | [d1, d2, d3] => { results := [.lit (.bool true)], args := [d1, d2, d3] }
  | _ => none }
def knapsackOrderRow : OpenClaim := { program := "ytpdllokejgpnoaa", sum := "6fe861e73d289a52651c151d4e615b1b44105daa9d6a4888f8d054fc98a640ee", func := "fretsaw/fretsawlaw27.KnapsackOrder", spec := "knapsackOrder", unfollowed := true, recurses := true, apart := false }
def KnapsackOrderSaid : Prop := knapsackOrderRow.holds Try.pinned (OpenSpec.ofChange knapsackOrderSpec)

/-- ITS FALSE NEIGHBOUR: 'it returns false'. Refute it at one input. -/
def knapsackOrderWrong : ChangeSpec := { name := "knapsackOrder", fn := fun _ => fun
  | [d1, d2, d3] => { results := [.lit (.bool false)], args := [d1, d2, d3] }
  | _ => none }
def KnapsackOrderWrongFalsely : Prop := knapsackOrderRow.holds Try.pinned (OpenSpec.ofChange knapsackOrderWrong)

/-- 'fretsawlaw27.KnapsackParts': WHATEVER THE INPUT: true; the input reads as it did. -/
def knapsackPartsSpec : ChangeSpec := { name := "knapsackParts", fn := fun _ => fun
  | [d1, d2, d3] => { results := [.lit (.bool true)], args := [d1, d2, d3] }
  | _ => none }
def knapsackPartsRow : OpenClaim := { program := "ytpdllokejgpnoaa", sum := "6fe861e73d289a52651c151d4e615b1b44105daa9d6a4888f8d054fc98a640ee", func := "fretsaw/fretsawlaw27.KnapsackParts", spec := "knapsackParts", unfollowed := true, recurses := true, apart := false }
def KnapsackPartsSaid : Prop := knapsackPartsRow.holds Try.pinned (OpenSpec.ofChange knapsackPartsSpec)

/-- ITS FALSE NEIGHBOUR: 'it returns false'. Refute it at one input. -/
def knapsackPartsWrong : ChangeSpec := { name := "knapsackParts", fn := fun _ => fun
  | [d1, d2, d3] => { results := [.lit (.bool false)], args := [d1, d2, d3] }
  | _ => none }
def KnapsackPartsWrongFalsely : Prop := knapsackPartsRow.holds Try.pinned (OpenSpec.ofChange knapsackPartsWrong)

/- THE SECOND FORM. 'bulk': how many values and letters a reading holds, each counted each time it is reached (what is shared counts as often as it is met; a slice's spare places count too). A statement '..UptoSaid' is the law's where the arguments, and the package variables that the reading takes, are together of bulk at most 1048576: NARROWER than '..Said'. Prove '..Said' where nothing that the law and all that it calls make is longer than what came in: it says more and counts as full. Else prove '..UptoSaid'. A law counts once. -/
mutual
def uptoBulk {H : Type} : DataW H → Nat
  | .lit (.string bytes) => bytes.length + 1
  | .lit _ => 1
  | .nil => 1
  | .ptr d => uptoBulk d + 1
  | .slice elems spare => uptoBulkAll elems + uptoBulkAll spare + 1
  | .agg parts => uptoBulkAll parts + 1
  | .iface _ d => uptoBulk d + 1
  | .map entries => uptoBulkEntries entries + 1
  | .held _ => 1
def uptoBulkAll {H : Type} : List (DataW H) → Nat
  | [] => 0
  | d :: r => uptoBulk d + uptoBulkAll r
def uptoBulkEntries {H : Type} : List (Lit × DataW H) → Nat
  | [] => 0
  | x :: r => uptoBulkEntry x + uptoBulkEntries r
def uptoBulkEntry {H : Type} : Lit × DataW H → Nat
  | (.string bytes, d) => bytes.length + uptoBulk d + 1
  | (_, d) => uptoBulk d + 1
 end
def uptoSmall : (H : Type) → List (DataW H) → Bool := fun _ ds => decide (uptoBulkAll ds ≤ 1048576)
def OpenSpec.upto (s : _root_.Go.ChangeSpec) : _root_.Go.OpenSpec := { _root_.Go.OpenSpec.ofChange s with cond := some uptoSmall }

/-- 'fretsawlaw27.KnapsackScale', WHERE WHAT IT READS IS OF BULK AT MOST 1048576: true; the input reads as it did. -/
def knapsackScaleUptoRow : OpenClaim := { program := "ytpdllokejgpnoaa", sum := "6fe861e73d289a52651c151d4e615b1b44105daa9d6a4888f8d054fc98a640ee", func := "fretsaw/fretsawlaw27.KnapsackScale", spec := "knapsackScale", unfollowed := true, recurses := true, apart := false, narrowed := true }
def KnapsackScaleUptoSaid : Prop := knapsackScaleUptoRow.holds Try.pinned (OpenSpec.upto knapsackScaleSpec)

/-- 'fretsawlaw27.KnapsackWithout', WHERE WHAT IT READS IS OF BULK AT MOST 1048576: true; the input reads as it did. -/
def knapsackWithoutUptoRow : OpenClaim := { program := "ytpdllokejgpnoaa", sum := "6fe861e73d289a52651c151d4e615b1b44105daa9d6a4888f8d054fc98a640ee", func := "fretsaw/fretsawlaw27.KnapsackWithout", spec := "knapsackWithout", unfollowed := true, recurses := true, apart := false, narrowed := true }
def KnapsackWithoutUptoSaid : Prop := knapsackWithoutUptoRow.holds Try.pinned (OpenSpec.upto knapsackWithoutSpec)

/-- 'fretsawlaw27.KnapsackSolve', WHERE WHAT IT READS IS OF BULK AT MOST 1048576: true; the input reads as it did. -/
def knapsackSolveUptoRow : OpenClaim := { program := "ytpdllokejgpnoaa", sum := "6fe861e73d289a52651c151d4e615b1b44105daa9d6a4888f8d054fc98a640ee", func := "fretsaw/fretsawlaw27.KnapsackSolve", spec := "knapsackSolve", unfollowed := true, recurses := true, apart := false, narrowed := true }
def KnapsackSolveUptoSaid : Prop := knapsackSolveUptoRow.holds Try.pinned (OpenSpec.upto knapsackSolveSpec)

/-- 'fretsawlaw27.KnapsackGrows', WHERE WHAT IT READS IS OF BULK AT MOST 1048576: true; the input reads as it did. -/
def knapsackGrowsUptoRow : OpenClaim := { program := "ytpdllokejgpnoaa", sum := "6fe861e73d289a52651c151d4e615b1b44105daa9d6a4888f8d054fc98a640ee", func := "fretsaw/fretsawlaw27.KnapsackGrows", spec := "knapsackGrows", unfollowed := true, recurses := true, apart := false, narrowed := true }
def KnapsackGrowsUptoSaid : Prop := knapsackGrowsUptoRow.holds Try.pinned (OpenSpec.upto knapsackGrowsSpec)

/-- 'fretsawlaw27.KnapsackBest', WHERE WHAT IT READS IS OF BULK AT MOST 1048576: true; the input reads as it did. -/
def knapsackBestUptoRow : OpenClaim := { program := "ytpdllokejgpnoaa", sum := "6fe861e73d289a52651c151d4e615b1b44105daa9d6a4888f8d054fc98a640ee", func := "fretsaw/fretsawlaw27.KnapsackBest", spec := "knapsackBest", unfollowed := true, recurses := true, apart := false, narrowed := true }
def KnapsackBestUptoSaid : Prop := knapsackBestUptoRow.holds Try.pinned (OpenSpec.upto knapsackBestSpec)

/-- 'fretsawlaw27.KnapsackBound', WHERE WHAT IT READS IS OF BULK AT MOST 1048576: true; the input reads as it did. -/
def knapsackBoundUptoRow : OpenClaim := { program := "ytpdllokejgpnoaa", sum := "6fe861e73d289a52651c151d4e615b1b44105daa9d6a4888f8d054fc98a640ee", func := "fretsaw/fretsawlaw27.KnapsackBound", spec := "knapsackBound", unfollowed := true, recurses := true, apart := false, narrowed := true }
def KnapsackBoundUptoSaid : Prop := knapsackBoundUptoRow.holds Try.pinned (OpenSpec.upto knapsackBoundSpec)

/-- 'fretsawlaw27.KnapsackOrder', WHERE WHAT IT READS IS OF BULK AT MOST 1048576: true; the input reads as it did. -/
def knapsackOrderUptoRow : OpenClaim := { program := "ytpdllokejgpnoaa", sum := "6fe861e73d289a52651c151d4e615b1b44105daa9d6a4888f8d054fc98a640ee", func := "fretsaw/fretsawlaw27.KnapsackOrder", spec := "knapsackOrder", unfollowed := true, recurses := true, apart := false, narrowed := true }
def KnapsackOrderUptoSaid : Prop := knapsackOrderUptoRow.holds Try.pinned (OpenSpec.upto knapsackOrderSpec)

/-- 'fretsawlaw27.KnapsackParts', WHERE WHAT IT READS IS OF BULK AT MOST 1048576: true; the input reads as it did. -/
def knapsackPartsUptoRow : OpenClaim := { program := "ytpdllokejgpnoaa", sum := "6fe861e73d289a52651c151d4e615b1b44105daa9d6a4888f8d054fc98a640ee", func := "fretsaw/fretsawlaw27.KnapsackParts", spec := "knapsackParts", unfollowed := true, recurses := true, apart := false, narrowed := true }
def KnapsackPartsUptoSaid : Prop := knapsackPartsUptoRow.holds Try.pinned (OpenSpec.upto knapsackPartsSpec)

end Rows
end Go.Proofs.Ytpdllokejgpnoaa

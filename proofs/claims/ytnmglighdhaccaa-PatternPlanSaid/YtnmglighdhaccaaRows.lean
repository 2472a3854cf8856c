/-
  No cell of these rows narrows 'for every input' (looked for: loops, veiled, ifaces, maps, wideKeys, modest, calm, conditions, laid).
  DERIVED. THE GIVEN ROWS OF THIS SEAT. 7 by the template 'for every input the law returns true; each argument reads behind the call as it read before'; 0 by the template 'total and deterministic' (their statements: YtnmglighdhaccaaTotals.lean).
  GIVEN WITH THE SEED: the statements are not yours to turn. If you find one false, say at which input.
  Laid BY PROGRAM, IN A SANDBOX (cutbox-rows.mjs): the forced cells as the released guide's own fill.sh prints them over the translation 99e92a9a3924a036… (all of the seat's roots in one cut). By AI agents, Wed Nov 11 2026. No macro, syntax, notation, axiom, sorry.
-/
import Derived.Test.YtnmglighdhaccaaChecked
import GoSem.Claim
import GoSem.ClaimJoined
import GoSem.ClaimMapViews
import Derived.JoinedTies
import Derived.KernelRfl
namespace Go.Proofs.Ytnmglighdhaccaa
/- THE CELL 'sum', in the pinned program and in every row, IS THE sha256 OF THE DUMP (.gsa) THAT YtnmglighdhaccaaProg.lean LOADS. Nothing in Lean hashes anything: it is a label: what it is worth is what the hold of that sum in a sandbox is worth. -/
noncomputable def Try.pinned : Pinned := { name := "ytnmglighdhaccaa", sum := "99e92a9a3924a0365e937e980b7dd665685d9102eec29d384c6533fd780537e1", checked := Try.checked }
namespace Rows
def none {H : Type} : Left H := { results := [], args := [] }

/-- 'fretsawlaw28.PatternMaximal': WHATEVER THE INPUT: true; the input reads as it did. -/
def patternMaximalSpec : ChangeSpec := { name := "patternMaximal", fn := fun _ => fun
  | [d1, d2] => { results := [.lit (.bool true)], args := [d1, d2] }
  | _ => none }
def patternMaximalRow : OpenClaim := { program := "ytnmglighdhaccaa", sum := "99e92a9a3924a0365e937e980b7dd665685d9102eec29d384c6533fd780537e1", func := "fretsaw/fretsawlaw28.PatternMaximal", spec := "patternMaximal", unfollowed := true, recurses := true, apart := false }
def PatternMaximalSaid : Prop := patternMaximalRow.holds Try.pinned (OpenSpec.ofChange patternMaximalSpec)

/-- ITS FALSE NEIGHBOUR: 'it returns false'. Refute it at one input. -/
def patternMaximalWrong : ChangeSpec := { name := "patternMaximal", fn := fun _ => fun
  | [d1, d2] => { results := [.lit (.bool false)], args := [d1, d2] }
  | _ => none }
def PatternMaximalWrongFalsely : Prop := patternMaximalRow.holds Try.pinned (OpenSpec.ofChange patternMaximalWrong)

/-- 'fretsawlaw28.PatternAll': WHATEVER THE INPUT: true; the input reads as it did. -/
def patternAllSpec : ChangeSpec := { name := "patternAll", fn := fun _ => fun
  | [d1, d2] => { results := [.lit (.bool true)], args := [d1, d2] }
  | _ => none }
def patternAllRow : OpenClaim := { program := "ytnmglighdhaccaa", sum := "99e92a9a3924a0365e937e980b7dd665685d9102eec29d384c6533fd780537e1", func := "fretsaw/fretsawlaw28.PatternAll", spec := "patternAll", unfollowed := true, recurses := true, apart := false }
def PatternAllSaid : Prop := patternAllRow.holds Try.pinned (OpenSpec.ofChange patternAllSpec)

/-- ITS FALSE NEIGHBOUR: 'it returns false'. Refute it at one input. -/
def patternAllWrong : ChangeSpec := { name := "patternAll", fn := fun _ => fun
  | [d1, d2] => { results := [.lit (.bool false)], args := [d1, d2] }
  | _ => none }
def PatternAllWrongFalsely : Prop := patternAllRow.holds Try.pinned (OpenSpec.ofChange patternAllWrong)

/-- 'fretsawlaw28.PatternKerf': WHATEVER THE INPUT: true; the input reads as it did. -/
def patternKerfSpec : ChangeSpec := { name := "patternKerf", fn := fun _ => fun
  | [d1, d2] => { results := [.lit (.bool true)], args := [d1, d2] }
  | _ => none }
def patternKerfRow : OpenClaim := { program := "ytnmglighdhaccaa", sum := "99e92a9a3924a0365e937e980b7dd665685d9102eec29d384c6533fd780537e1", func := "fretsaw/fretsawlaw28.PatternKerf", spec := "patternKerf", unfollowed := true, recurses := true, apart := false }
def PatternKerfSaid : Prop := patternKerfRow.holds Try.pinned (OpenSpec.ofChange patternKerfSpec)

/-- ITS FALSE NEIGHBOUR: 'it returns false'. Refute it at one input. -/
def patternKerfWrong : ChangeSpec := { name := "patternKerf", fn := fun _ => fun
  | [d1, d2] => { results := [.lit (.bool false)], args := [d1, d2] }
  | _ => none }
def PatternKerfWrongFalsely : Prop := patternKerfRow.holds Try.pinned (OpenSpec.ofChange patternKerfWrong)

/-- 'fretsawlaw28.PatternFits': WHATEVER THE INPUT: true; the input reads as it did. -/
def patternFitsSpec : ChangeSpec := { name := "patternFits", fn := fun _ => fun
  | [d1, d2] => { results := [.lit (.bool true)], args := [d1, d2] }
  | _ => none }
def patternFitsRow : OpenClaim := { program := "ytnmglighdhaccaa", sum := "99e92a9a3924a0365e937e980b7dd665685d9102eec29d384c6533fd780537e1", func := "fretsaw/fretsawlaw28.PatternFits", spec := "patternFits", unfollowed := true, recurses := true, apart := false }
def PatternFitsSaid : Prop := patternFitsRow.holds Try.pinned (OpenSpec.ofChange patternFitsSpec)

/-- ITS FALSE NEIGHBOUR: 'it returns false'. Refute it at one input. -/
def patternFitsWrong : ChangeSpec := { name := "patternFits", fn := fun _ => fun
  | [d1, d2] => { results := [.lit (.bool false)], args := [d1, d2] }
  | _ => none }
def PatternFitsWrongFalsely : Prop := patternFitsRow.holds Try.pinned (OpenSpec.ofChange patternFitsWrong)

/-- 'fretsawlaw28.PatternNormal': WHATEVER THE INPUT: true; the input reads as it did. -/
def patternNormalSpec : ChangeSpec := { name := "patternNormal", fn := fun _ => fun
  | [d1, d2, d3] => { results := [.lit (.bool true)], args := [d1, d2, d3] }
  | _ => none }
def patternNormalRow : OpenClaim := { program := "ytnmglighdhaccaa", sum := "99e92a9a3924a0365e937e980b7dd665685d9102eec29d384c6533fd780537e1", func := "fretsaw/fretsawlaw28.PatternNormal", spec := "patternNormal", unfollowed := true, recurses := true, apart := false }
def PatternNormalSaid : Prop := patternNormalRow.holds Try.pinned (OpenSpec.ofChange patternNormalSpec)

/-- ITS FALSE NEIGHBOUR: 'it returns false'. Refute it at one input. -/
def patternNormalWrong : ChangeSpec := { name := "patternNormal", fn := fun _ => fun
  | [d1, d2, d3] => { results := [.lit (.bool false)], args := [d1, d2, d3] }
  | _ => none }
def PatternNormalWrongFalsely : Prop := patternNormalRow.holds Try.pinned (OpenSpec.ofChange patternNormalWrong)

/-- 'fretsawlaw28.PatternPlan': WHATEVER THE INPUT: true; the input reads as it did. -/
def patternPlanSpec : ChangeSpec := { name := "patternPlan", fn := fun _ => fun
  | [d1, d2] => { results := [.lit (.bool true)], args := [d1, d2] }
  | _ => none }
def patternPlanRow : OpenClaim := { program := "ytnmglighdhaccaa", sum := "99e92a9a3924a0365e937e980b7dd665685d9102eec29d384c6533fd780537e1", func := "fretsaw/fretsawlaw28.PatternPlan", spec := "patternPlan", unfollowed := true, recurses := true, apart := false }
def PatternPlanSaid : Prop := patternPlanRow.holds Try.pinned (OpenSpec.ofChange patternPlanSpec)

/-- ITS FALSE NEIGHBOUR: 'it returns false'. Refute it at one input. -/
def patternPlanWrong : ChangeSpec := { name := "patternPlan", fn := fun _ => fun
  | [d1, d2] => { results := [.lit (.bool false)], args := [d1, d2] }
  | _ => none }
def PatternPlanWrongFalsely : Prop := patternPlanRow.holds Try.pinned (OpenSpec.ofChange patternPlanWrong)

/-- 'fretsawlaw28.PatternTrim': WHATEVER THE INPUT: true; the input reads as it did. -/
def patternTrimSpec : ChangeSpec := { name := "patternTrim", fn := fun _ => fun
  | [d1, d2] => { results := [.lit (.bool true)], args := [d1, d2] }
  | _ => none }
def patternTrimRow : OpenClaim := { program := "ytnmglighdhaccaa", sum := "99e92a9a3924a0365e937e980b7dd665685d9102eec29d384c6533fd780537e1", func := "fretsaw/fretsawlaw28.PatternTrim", spec := "patternTrim", unfollowed := true, recurses := true, apart := false }
def PatternTrimSaid : Prop := patternTrimRow.holds Try.pinned (OpenSpec.ofChange patternTrimSpec)

/-- ITS FALSE NEIGHBOUR: 'it returns false'. Refute it at one input. -/
def patternTrimWrong : ChangeSpec := { name := "patternTrim", fn := fun _ => fun
  | [d1, d2] => { results := [.lit (.bool false)], args := [d1, d2] }
  | _ => none }
def PatternTrimWrongFalsely : Prop := patternTrimRow.holds Try.pinned (OpenSpec.ofChange patternTrimWrong)

/- THE SECOND FORM. 'bulk': how many values and letters a reading holds, each counted each time it is reached (what is shared counts as often as it is met; a slice's spare places count too). A statement '..UptoSaid' is the law's where the arguments, and the package variables that the reading takes, are together of bulk at most 1048576: NARROWER than '..Said'. Prove '..Said' where nothing that the law and all that it calls make is longer than what came in: it says more and counts as full. Else prove '..UptoSaid'. A law counts once. -/
mutual
def uptoBulk {H : Type} : DataW H → Nat
  | .lit (.string bytes) => bytes.length + 1
  | .lit _ => 1
  | .nil => 1
  | .ptr d => uptoBulk d + 1
  | .slice elems spare => uptoBulkAll elems + uptoBulkAll spare + 1
  | .agg parts => uptoBulkAll parts + 1
  | .iface _ d => uptoBulk d + 1
  | .map entries => uptoBulkEntries entries + 1
  | .held _ => 1
def uptoBulkAll {H : Type} : List (DataW H) → Nat
  | [] => 0
  | d :: r => uptoBulk d + uptoBulkAll r
def uptoBulkEntries {H : Type} : List (Lit × DataW H) → Nat
  | [] => 0
  | x :: r => uptoBulkEntry x + uptoBulkEntries r
def uptoBulkEntry {H : Type} : Lit × DataW H → Nat
  | (.string bytes, d) => bytes.length + uptoBulk d + 1
  | (_, d) => uptoBulk d + 1
 end
def uptoSmall : (H : Type) → List (DataW H) → Bool := fun _ ds => decide (uptoBulkAll ds ≤ 1048576)
def OpenSpec.upto (s : _root_.Go.ChangeSpec) : _root_.Go.OpenSpec := { _root_.Go.OpenSpec.ofChange s with cond := some uptoSmall }

/-- 'fretsawlaw28.PatternMaximal', WHERE WHAT IT READS IS OF BULK AT MOST 1048576: true; the input reads as it did. -/
def patternMaximalUptoRow : OpenClaim := { program := "ytnmglighdhaccaa", sum := "99e92a9a3924a0365e937e980b7dd665685d9102eec29d384c6533fd780537e1", func := "fretsaw/fretsawlaw28.PatternMaximal", spec := "patternMaximal", unfollowed := true, recurses := true, apart := false, narrowed := true }
def PatternMaximalUptoSaid : Prop := patternMaximalUptoRow.holds Try.pinned (OpenSpec.upto patternMaximalSpec)

/-- 'fretsawlaw28.PatternAll', WHERE WHAT IT READS IS OF BULK AT MOST 1048576: true; the input reads as it did. -/
def patternAllUptoRow : OpenClaim := { program := "ytnmglighdhaccaa", sum := "99e92a9a3924a0365e937e980b7dd665685d9102eec29d384c6533fd780537e1", func := "fretsaw/fretsawlaw28.PatternAll", spec := "patternAll", unfollowed := true, recurses := true, apart := false, narrowed := true }
def PatternAllUptoSaid : Prop := patternAllUptoRow.holds Try.pinned (OpenSpec.upto patternAllSpec)

/-- 'fretsawlaw28.PatternKerf', WHERE WHAT IT READS IS OF BULK AT MOST 1048576: true; the input reads as it did. -/
def patternKerfUptoRow : OpenClaim := { program := "ytnmglighdhaccaa", sum := "99e92a9a3924a0365e937e980b7dd665685d9102eec29d384c6533fd780537e1", func := "fretsaw/fretsawlaw28.PatternKerf", spec := "patternKerf", unfollowed := true, recurses := true, apart := false, narrowed := true }
def PatternKerfUptoSaid : Prop := patternKerfUptoRow.holds Try.pinned (OpenSpec.upto patternKerfSpec)

/-- 'fretsawlaw28.PatternFits', WHERE WHAT IT READS IS OF BULK AT MOST 1048576: true; the input reads as it did. -/
def patternFitsUptoRow : OpenClaim := { program := "ytnmglighdhaccaa", sum := "99e92a9a3924a0365e937e980b7dd665685d9102eec29d384c6533fd780537e1", func := "fretsaw/fretsawlaw28.PatternFits", spec := "patternFits", unfollowed := true, recurses := true, apart := false, narrowed := true }
def PatternFitsUptoSaid : Prop := patternFitsUptoRow.holds Try.pinned (OpenSpec.upto patternFitsSpec)

/-- 'fretsawlaw28.PatternNormal', WHERE WHAT IT READS IS OF BULK AT MOST 1048576: true; the input reads as it did. -/
def patternNormalUptoRow : OpenClaim := { program := "ytnmglighdhaccaa", sum := "99e92a9a3924a0365e937e980b7dd665685d9102eec29d384c6533fd780537e1", func := "fretsaw/fretsawlaw28.PatternNormal", spec := "patternNormal", unfollowed := true, recurses := true, apart := false, narrowed := true }
def PatternNormalUptoSaid : Prop := patternNormalUptoRow.holds Try.pinned (OpenSpec.upto patternNormalSpec)

/-- 'fretsawlaw28.PatternPlan', WHERE WHAT IT READS IS OF BULK AT MOST 1048576: true; the input reads as it did. -/
def patternPlanUptoRow : OpenClaim := { program := "ytnmglighdhaccaa", sum := "99e92a9a3924a0365e937e980b7dd665685d9102eec29d384c6533fd780537e1", func := "fretsaw/fretsawlaw28.PatternPlan", spec := "patternPlan", unfollowed := true, recurses := true, apart := false, narrowed := true }
def PatternPlanUptoSaid : Prop := patternPlanUptoRow.holds Try.pinned (OpenSpec.upto patternPlanSpec)

/-- 'fretsawlaw28.PatternTrim', WHERE WHAT IT READS IS OF BULK AT MOST 1048576: true; the input reads as it did. -/
def patternTrimUptoRow : OpenClaim := { program := "ytnmglighdhaccaa", sum := "99e92a9a3924a0365e937e980b7dd665685d9102eec29d384c6533fd780537e1", func := "fretsaw/fretsawlaw28.PatternTrim", spec := "patternTrim", unfollowed := true, recurses := true, apart := false, narrowed := true }
def PatternTrimUptoSaid : Prop := patternTrimUptoRow.holds Try.pinned (OpenSpec.upto patternTrimSpec)

end Rows
end Go.Proofs.Ytnmglighdhaccaa

/-
  NARROWER THAN 'FOR EVERY INPUT', by the rows' own cells (each row's printed sentence says how): TourCheck: loops.
  DERIVED. THE GIVEN ROWS OF THIS SEAT. 8 by the template 'for every input the law returns true; each argument reads behind the call as it read before'; 0 by the template 'total and deterministic' (their statements: YtiginjokbkemcaaTotals.lean).
  GIVEN WITH THE SEED: the statements are not yours to turn. If you find one false, say at which input.
  Laid BY PROGRAM, IN A SANDBOX (cutbox-rows.mjs): the forced cells as the released guide's own fill.sh prints them over the translation d8e8c302aa9215cd… (all of the seat's roots in one cut). By AI agents, Wed Nov 11 2026. No macro, syntax, notation, axiom, sorry.
-/
import Derived.Test.YtiginjokbkemcaaChecked
import GoSem.Claim
import GoSem.ClaimJoined
import GoSem.ClaimMapViews
import Derived.JoinedTies
import Derived.KernelRfl
namespace Go.Proofs.Ytiginjokbkemcaa
/- THE CELL 'sum', in the pinned program and in every row, IS THE sha256 OF THE DUMP (.gsa) THAT YtiginjokbkemcaaProg.lean LOADS. Nothing in Lean hashes anything: it is a label: what it is worth is what the hold of that sum in a sandbox is worth. -/
noncomputable def Try.pinned : Pinned := { name := "ytiginjokbkemcaa", sum := "d8e8c302aa9215cd2becee0dc856711d72506b9c02e08abb86489d75ec3165f9", checked := Try.checked }
namespace Rows
def none {H : Type} : Left H := { results := [], args := [] }

/-- 'fretsawlaw48.TourExact': WHATEVER THE INPUT: true; the input reads as it did. -/
def tourExactSpec : ChangeSpec := { name := "tourExact", fn := fun _ => fun
  | [d] => { results := [.lit (.bool true)], args := [d] }
  | _ => none }
def tourExactRow : OpenClaim := { program := "ytiginjokbkemcaa", sum := "d8e8c302aa9215cd2becee0dc856711d72506b9c02e08abb86489d75ec3165f9", func := "fretsaw/fretsawlaw48.TourExact", spec := "tourExact", unfollowed := true, recurses := true, apart := false }
def TourExactSaid : Prop := tourExactRow.holds Try.pinned (OpenSpec.ofChange tourExactSpec)

/-- ITS FALSE NEIGHBOUR: 'it returns false'. Refute it at one input. -/
def tourExactWrong : ChangeSpec := { name := "tourExact", fn := fun _ => fun
  | [d] => { results := [.lit (.bool false)], args := [d] }
  | _ => none }
def TourExactWrongFalsely : Prop := tourExactRow.holds Try.pinned (OpenSpec.ofChange tourExactWrong)

/-- 'fretsawlaw48.TourOneTree': WHATEVER THE INPUT: true; the input reads as it did. -/
def tourOneTreeSpec : ChangeSpec := { name := "tourOneTree", fn := fun _ => fun
  | [d1, d2, d3] => { results := [.lit (.bool true)], args := [d1, d2, d3] }
  | _ => none }
def tourOneTreeRow : OpenClaim := { program := "ytiginjokbkemcaa", sum := "d8e8c302aa9215cd2becee0dc856711d72506b9c02e08abb86489d75ec3165f9", func := "fretsaw/fretsawlaw48.TourOneTree", spec := "tourOneTree", unfollowed := true, recurses := true, apart := false }
def TourOneTreeSaid : Prop := tourOneTreeRow.holds Try.pinned (OpenSpec.ofChange tourOneTreeSpec)

/-- ITS FALSE NEIGHBOUR: 'it returns false'. Refute it at one input. -/
def tourOneTreeWrong : ChangeSpec := { name := "tourOneTree", fn := fun _ => fun
  | [d1, d2, d3] => { results := [.lit (.bool false)], args := [d1, d2, d3] }
  | _ => none }
def TourOneTreeWrongFalsely : Prop := tourOneTreeRow.holds Try.pinned (OpenSpec.ofChange tourOneTreeWrong)

/-- 'fretsawlaw48.TourShift': WHATEVER THE INPUT: true; the input reads as it did. -/
def tourShiftSpec : ChangeSpec := { name := "tourShift", fn := fun _ => fun
  | [d1, d2, d3] => { results := [.lit (.bool true)], args := [d1, d2, d3] }
  | _ => none }
def tourShiftRow : OpenClaim := { program := "ytiginjokbkemcaa", sum := "d8e8c302aa9215cd2becee0dc856711d72506b9c02e08abb86489d75ec3165f9", func := "fretsaw/fretsawlaw48.TourShift", spec := "tourShift", unfollowed := true, recurses := true, apart := false }
def TourShiftSaid : Prop := tourShiftRow.holds Try.pinned (OpenSpec.ofChange tourShiftSpec)

/-- ITS FALSE NEIGHBOUR: 'it returns false'. Refute it at one input. -/
def tourShiftWrong : ChangeSpec := { name := "tourShift", fn := fun _ => fun
  | [d1, d2, d3] => { results := [.lit (.bool false)], args := [d1, d2, d3] }
  | _ => none }
def TourShiftWrongFalsely : Prop := tourShiftRow.holds Try.pinned (OpenSpec.ofChange tourShiftWrong)

/-- 'fretsawlaw48.TourAscend': WHATEVER THE INPUT: true; the input reads as it did. -/
def tourAscendSpec : ChangeSpec := { name := "tourAscend", fn := fun _ => fun
  | [d1, d2, d3] => { results := [.lit (.bool true)], args := [d1, d2, d3] }
  | _ => none }
def tourAscendRow : OpenClaim := { program := "ytiginjokbkemcaa", sum := "d8e8c302aa9215cd2becee0dc856711d72506b9c02e08abb86489d75ec3165f9", func := "fretsaw/fretsawlaw48.TourAscend", spec := "tourAscend", unfollowed := true, recurses := true, apart := false }
def TourAscendSaid : Prop := tourAscendRow.holds Try.pinned (OpenSpec.ofChange tourAscendSpec)

/-- ITS FALSE NEIGHBOUR: 'it returns false'. Refute it at one input. -/
def tourAscendWrong : ChangeSpec := { name := "tourAscend", fn := fun _ => fun
  | [d1, d2, d3] => { results := [.lit (.bool false)], args := [d1, d2, d3] }
  | _ => none }
def TourAscendWrongFalsely : Prop := tourAscendRow.holds Try.pinned (OpenSpec.ofChange tourAscendWrong)

/-- 'fretsawlaw48.TourParts': WHATEVER THE INPUT: true; the input reads as it did. -/
def tourPartsSpec : ChangeSpec := { name := "tourParts", fn := fun _ => fun
  | [d1, d2, d3] => { results := [.lit (.bool true)], args := [d1, d2, d3] }
  | _ => none }
def tourPartsRow : OpenClaim := { program := "ytiginjokbkemcaa", sum := "d8e8c302aa9215cd2becee0dc856711d72506b9c02e08abb86489d75ec3165f9", func := "fretsaw/fretsawlaw48.TourParts", spec := "tourParts", unfollowed := true, recurses := true, apart := false }
def TourPartsSaid : Prop := tourPartsRow.holds Try.pinned (OpenSpec.ofChange tourPartsSpec)

/-- ITS FALSE NEIGHBOUR: 'it returns false'. Refute it at one input. -/
def tourPartsWrong : ChangeSpec := { name := "tourParts", fn := fun _ => fun
  | [d1, d2, d3] => { results := [.lit (.bool false)], args := [d1, d2, d3] }
  | _ => none }
def TourPartsWrongFalsely : Prop := tourPartsRow.holds Try.pinned (OpenSpec.ofChange tourPartsWrong)

/-- 'fretsawlaw48.TourLength': WHATEVER THE INPUT: true; the input reads as it did. -/
def tourLengthSpec : ChangeSpec := { name := "tourLength", fn := fun _ => fun
  | [d1, d2] => { results := [.lit (.bool true)], args := [d1, d2] }
  | _ => none }
def tourLengthRow : OpenClaim := { program := "ytiginjokbkemcaa", sum := "d8e8c302aa9215cd2becee0dc856711d72506b9c02e08abb86489d75ec3165f9", func := "fretsaw/fretsawlaw48.TourLength", spec := "tourLength", unfollowed := true, recurses := true, apart := false }
def TourLengthSaid : Prop := tourLengthRow.holds Try.pinned (OpenSpec.ofChange tourLengthSpec)

/-- ITS FALSE NEIGHBOUR: 'it returns false'. Refute it at one input. -/
def tourLengthWrong : ChangeSpec := { name := "tourLength", fn := fun _ => fun
  | [d1, d2] => { results := [.lit (.bool false)], args := [d1, d2] }
  | _ => none }
def TourLengthWrongFalsely : Prop := tourLengthRow.holds Try.pinned (OpenSpec.ofChange tourLengthWrong)

/-- 'fretsawlaw48.TourShort': WHATEVER THE INPUT: true; the input reads as it did. -/
def tourShortSpec : ChangeSpec := { name := "tourShort", fn := fun _ => fun
  | [d1, d2] => { results := [.lit (.bool true)], args := [d1, d2] }
  | _ => none }
def tourShortRow : OpenClaim := { program := "ytiginjokbkemcaa", sum := "d8e8c302aa9215cd2becee0dc856711d72506b9c02e08abb86489d75ec3165f9", func := "fretsaw/fretsawlaw48.TourShort", spec := "tourShort", unfollowed := true, recurses := true, apart := false }
def TourShortSaid : Prop := tourShortRow.holds Try.pinned (OpenSpec.ofChange tourShortSpec)

/-- ITS FALSE NEIGHBOUR: 'it returns false'. Refute it at one input. -/
def tourShortWrong : ChangeSpec := { name := "tourShort", fn := fun _ => fun
  | [d1, d2] => { results := [.lit (.bool false)], args := [d1, d2] }
  | _ => none }
def TourShortWrongFalsely : Prop := tourShortRow.holds Try.pinned (OpenSpec.ofChange tourShortWrong)

/-- 'fretsawlaw48.TourCheck': WHATEVER THE INPUT: true; the input reads as it did. -/
def tourCheckSpec : ChangeSpec := { name := "tourCheck", fn := fun _ => fun
  | [d1, d2, d3] => { results := [.lit (.bool true)], args := [d1, d2, d3] }
  | _ => none }
def tourCheckRow : OpenClaim := { program := "ytiginjokbkemcaa", sum := "d8e8c302aa9215cd2becee0dc856711d72506b9c02e08abb86489d75ec3165f9", func := "fretsaw/fretsawlaw48.TourCheck", spec := "tourCheck", unfollowed := true, recurses := true, loops := true, apart := false }
def TourCheckSaid : Prop := tourCheckRow.holds Try.pinned (OpenSpec.ofChange tourCheckSpec)

/-- ITS FALSE NEIGHBOUR: 'it returns false'. Refute it at one input. -/
def tourCheckWrong : ChangeSpec := { name := "tourCheck", fn := fun _ => fun
  | [d1, d2, d3] => { results := [.lit (.bool false)], args := [d1, d2, d3] }
  | _ => none }
def TourCheckWrongFalsely : Prop := tourCheckRow.holds Try.pinned (OpenSpec.ofChange tourCheckWrong)

/- THE SECOND FORM. 'bulk': how many values and letters a reading holds, each counted each time it is reached (what is shared counts as often as it is met; a slice's spare places count too). A statement '..UptoSaid' is the law's where the arguments, and the package variables that the reading takes, are together of bulk at most 1048576: NARROWER than '..Said'. Prove '..Said' where nothing that the law and all that it calls make is longer than what came in: it says more and counts as full. Else prove '..UptoSaid'. A law counts once. -/
mutual
def uptoBulk {H : Type} : DataW H → Nat
  | .lit (.string bytes) => bytes.length + 1
  | .lit _ => 1
  | .nil => 1
  | .ptr d => uptoBulk d + 1
  | .slice elems spare => uptoBulkAll elems + uptoBulkAll spare + 1
  | .agg parts => uptoBulkAll parts + 1
  | .iface _ d => uptoBulk d + 1
  | .map entries => uptoBulkEntries entries + 1
  | .held _ => 1
def uptoBulkAll {H : Type} : List (DataW H) → Nat
  | [] => 0
  | d :: r => uptoBulk d + uptoBulkAll r
def uptoBulkEntries {H : Type} : List (Lit × DataW H) → Nat
  | [] => 0
  | x :: r => uptoBulkEntry x + uptoBulkEntries r
def uptoBulkEntry {H : Type} : Lit × DataW H → Nat
  | (.string bytes, d) => bytes.length + uptoBulk d + 1
  | (_, d) => uptoBulk d + 1
 end
def uptoSmall : (H : Type) → List (DataW H) → Bool := fun _ ds => decide (uptoBulkAll ds ≤ 1048576)
def OpenSpec.upto (s : _root_.Go.ChangeSpec) : _root_.Go.OpenSpec := { _root_.Go.OpenSpec.ofChange s with cond := some uptoSmall }

/-- 'fretsawlaw48.TourExact', WHERE WHAT IT READS IS OF BULK AT MOST 1048576: true; the input reads as it did. -/
def tourExactUptoRow : OpenClaim := { program := "ytiginjokbkemcaa", sum := "d8e8c302aa9215cd2becee0dc856711d72506b9c02e08abb86489d75ec3165f9", func := "fretsaw/fretsawlaw48.TourExact", spec := "tourExact", unfollowed := true, recurses := true, apart := false, narrowed := true }
def TourExactUptoSaid : Prop := tourExactUptoRow.holds Try.pinned (OpenSpec.upto tourExactSpec)

/-- 'fretsawlaw48.TourOneTree', WHERE WHAT IT READS IS OF BULK AT MOST 1048576: true; the input reads as it did. -/
def tourOneTreeUptoRow : OpenClaim := { program := "ytiginjokbkemcaa", sum := "d8e8c302aa9215cd2becee0dc856711d72506b9c02e08abb86489d75ec3165f9", func := "fretsaw/fretsawlaw48.TourOneTree", spec := "tourOneTree", unfollowed := true, recurses := true, apart := false, narrowed := true }
def TourOneTreeUptoSaid : Prop := tourOneTreeUptoRow.holds Try.pinned (OpenSpec.upto tourOneTreeSpec)

/-- 'fretsawlaw48.TourShift', WHERE WHAT IT READS IS OF BULK AT MOST 1048576: true; the input reads as it did. -/
def tourShiftUptoRow : OpenClaim := { program := "ytiginjokbkemcaa", sum := "d8e8c302aa9215cd2becee0dc856711d72506b9c02e08abb86489d75ec3165f9", func := "fretsaw/fretsawlaw48.TourShift", spec := "tourShift", unfollowed := true, recurses := true, apart := false, narrowed := true }
def TourShiftUptoSaid : Prop := tourShiftUptoRow.holds Try.pinned (OpenSpec.upto tourShiftSpec)

/-- 'fretsawlaw48.TourAscend', WHERE WHAT IT READS IS OF BULK AT MOST 1048576: true; the input reads as it did. -/
def tourAscendUptoRow : OpenClaim := { program := "ytiginjokbkemcaa", sum := "d8e8c302aa9215cd2becee0dc856711d72506b9c02e08abb86489d75ec3165f9", func := "fretsaw/fretsawlaw48.TourAscend", spec := "tourAscend", unfollowed := true, recurses := true, apart := false, narrowed := true }
def TourAscendUptoSaid : Prop := tourAscendUptoRow.holds Try.pinned (OpenSpec.upto tourAscendSpec)

/-- 'fretsawlaw48.TourParts', WHERE WHAT IT READS IS OF BULK AT MOST 1048576: true; the input reads as it did. -/
def tourPartsUptoRow : OpenClaim := { program := "ytiginjokbkemcaa", sum := "d8e8c302aa9215cd2becee0dc856711d72506b9c02e08abb86489d75ec3165f9", func := "fretsaw/fretsawlaw48.TourParts", spec := "tourParts", unfollowed := true, recurses := true, apart := false, narrowed := true }
def TourPartsUptoSaid : Prop := tourPartsUptoRow.holds Try.pinned (OpenSpec.upto tourPartsSpec)

/-- 'fretsawlaw48.TourLength', WHERE WHAT IT READS IS OF BULK AT MOST 1048576: true; the input reads as it did. -/
def tourLengthUptoRow : OpenClaim := { program := "ytiginjokbkemcaa", sum := "d8e8c302aa9215cd2becee0dc856711d72506b9c02e08abb86489d75ec3165f9", func := "fretsaw/fretsawlaw48.TourLength", spec := "tourLength", unfollowed := true, recurses := true, apart := false, narrowed := true }
def TourLengthUptoSaid : Prop := tourLengthUptoRow.holds Try.pinned (OpenSpec.upto tourLengthSpec)

/-- 'fretsawlaw48.TourShort', WHERE WHAT IT READS IS OF BULK AT MOST 1048576: true; the input reads as it did. -/
def tourShortUptoRow : OpenClaim := { program := "ytiginjokbkemcaa", sum := "d8e8c302aa9215cd2becee0dc856711d72506b9c02e08abb86489d75ec3165f9", func := "fretsaw/fretsawlaw48.TourShort", spec := "tourShort", unfollowed := true, recurses := true, apart := false, narrowed := true }
def TourShortUptoSaid : Prop := tourShortUptoRow.holds Try.pinned (OpenSpec.upto tourShortSpec)

/-- 'fretsawlaw48.TourCheck', WHERE WHAT IT READS IS OF BULK AT MOST 1048576: true; the input reads as it did. -/
def tourCheckUptoRow : OpenClaim := { program := "ytiginjokbkemcaa", sum := "d8e8c302aa9215cd2becee0dc856711d72506b9c02e08abb86489d75ec3165f9", func := "fretsaw/fretsawlaw48.TourCheck", spec := "tourCheck", unfollowed := true, recurses := true, loops := true, apart := false, narrowed := true }
def TourCheckUptoSaid : Prop := tourCheckUptoRow.holds Try.pinned (OpenSpec.upto tourCheckSpec)

end Rows
end Go.Proofs.Ytiginjokbkemcaa

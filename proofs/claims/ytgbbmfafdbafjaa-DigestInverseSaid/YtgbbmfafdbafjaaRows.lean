/-
  No cell of these rows narrows 'for every input' (looked for: loops, veiled, ifaces, maps, wideKeys, modest, calm, conditions, laid).
  DERIVED. THE GIVEN ROWS OF THIS SEAT. 7 by the template 'for every input the law returns true; each argument reads behind the call as it read before'; 0 by the template 'total and deterministic' (their statements: YtgbbmfafdbafjaaTotals.lean).
  GIVEN WITH THE SEED: the statements are not yours to turn. If you find one false, say at which input.
  Laid BY PROGRAM, IN A SANDBOX (cutbox-rows.mjs): the forced cells as the released guide's own fill.sh prints them over the translation 34b2e6a09581ffae… (all of the seat's roots in one cut). By AI agents, Wed Nov 11 2026. No macro, syntax, notation, axiom, sorry.
-/
import Derived.Test.YtgbbmfafdbafjaaChecked
import GoSem.Claim
import GoSem.ClaimJoined
import GoSem.ClaimMapViews
import Derived.JoinedTies
import Derived.KernelRfl
namespace Go.Proofs.Ytgbbmfafdbafjaa
/- THE CELL 'sum', in the pinned program and in every row, IS THE sha256 OF THE DUMP (.gsa) THAT YtgbbmfafdbafjaaProg.lean LOADS. Nothing in Lean hashes anything: it is a label: what it is worth is what the hold of that sum in a sandbox is worth. -/
noncomputable def Try.pinned : Pinned := { name := "ytgbbmfafdbafjaa", sum := "34b2e6a09581ffae761f1032ed599a9a4bbbbe42c8cc671d217e4e7e7754e409", checked := Try.checked }
namespace Rows
def none {H : Type} : Left H := { results := [], args := [] }

/-- 'fretsawlaw02.DigestOf': WHATEVER THE INPUT: true; the input reads as it did. -/
def digestOfSpec : ChangeSpec := { name := "digestOf", fn := fun _ => fun
  | [d1, d2] => { results := [.lit (.bool true)], args := [d1, d2] }
  | _ => none }
def digestOfRow : OpenClaim := { program := "ytgbbmfafdbafjaa", sum := "34b2e6a09581ffae761f1032ed599a9a4bbbbe42c8cc671d217e4e7e7754e409", func := "fretsaw/fretsawlaw02.DigestOf", spec := "digestOf", apart := false }
def DigestOfSaid : Prop := digestOfRow.holds Try.pinned (OpenSpec.ofChange digestOfSpec)

/-- ITS FALSE NEIGHBOUR: 'it returns false'. Refute it at one input. -/
def digestOfWrong : ChangeSpec := { name := "digestOf", fn := fun _ => fun
  | [d1, d2] => { results := [.lit (.bool false)], args := [d1, d2] }
  | _ => none }
def DigestOfWrongFalsely : Prop := digestOfRow.holds Try.pinned (OpenSpec.ofChange digestOfWrong)

/-- 'fretsawlaw02.DigestChain': WHATEVER THE INPUT: true; the input reads as it did. -/
def digestChainSpec : ChangeSpec := { name := "digestChain", fn := fun _ => fun
  | [d1, d2, d3] => { results := [.lit (.bool true)], args := [d1, d2, d3] }
  | _ => none }
def digestChainRow : OpenClaim := { program := "ytgbbmfafdbafjaa", sum := "34b2e6a09581ffae761f1032ed599a9a4bbbbe42c8cc671d217e4e7e7754e409", func := "fretsaw/fretsawlaw02.DigestChain", spec := "digestChain", apart := false }
def DigestChainSaid : Prop := digestChainRow.holds Try.pinned (OpenSpec.ofChange digestChainSpec)

/-- ITS FALSE NEIGHBOUR: 'it returns false'. Refute it at one input. -/
def digestChainWrong : ChangeSpec := { name := "digestChain", fn := fun _ => fun
  | [d1, d2, d3] => { results := [.lit (.bool false)], args := [d1, d2, d3] }
  | _ => none }
def DigestChainWrongFalsely : Prop := digestChainRow.holds Try.pinned (OpenSpec.ofChange digestChainWrong)

/-- 'fretsawlaw02.DigestSeeds': WHATEVER THE INPUT: true; the input reads as it did. -/
def digestSeedsSpec : ChangeSpec := { name := "digestSeeds", fn := fun _ => fun
  | [d1, d2, d3] => { results := [.lit (.bool true)], args := [d1, d2, d3] }
  | _ => none }
def digestSeedsRow : OpenClaim := { program := "ytgbbmfafdbafjaa", sum := "34b2e6a09581ffae761f1032ed599a9a4bbbbe42c8cc671d217e4e7e7754e409", func := "fretsaw/fretsawlaw02.DigestSeeds", spec := "digestSeeds", apart := false }
def DigestSeedsSaid : Prop := digestSeedsRow.holds Try.pinned (OpenSpec.ofChange digestSeedsSpec)

/-- ITS FALSE NEIGHBOUR: 'it returns false'. Refute it at one input. -/
def digestSeedsWrong : ChangeSpec := { name := "digestSeeds", fn := fun _ => fun
  | [d1, d2, d3] => { results := [.lit (.bool false)], args := [d1, d2, d3] }
  | _ => none }
def DigestSeedsWrongFalsely : Prop := digestSeedsRow.holds Try.pinned (OpenSpec.ofChange digestSeedsWrong)

/-- 'fretsawlaw02.DigestSeal': WHATEVER THE INPUT: true; the input reads as it did. -/
def digestSealSpec : ChangeSpec := { name := "digestSeal", fn := fun _ => fun
  | [d] => { results := [.lit (.bool true)], args := [d] }
  | _ => none }
def digestSealRow : OpenClaim := { program := "ytgbbmfafdbafjaa", sum := "34b2e6a09581ffae761f1032ed599a9a4bbbbe42c8cc671d217e4e7e7754e409", func := "fretsaw/fretsawlaw02.DigestSeal", spec := "digestSeal", apart := false }
def DigestSealSaid : Prop := digestSealRow.holds Try.pinned (OpenSpec.ofChange digestSealSpec)

/-- ITS FALSE NEIGHBOUR: 'it returns false'. Refute it at one input. -/
def digestSealWrong : ChangeSpec := { name := "digestSeal", fn := fun _ => fun
  | [d] => { results := [.lit (.bool false)], args := [d] }
  | _ => none }
def DigestSealWrongFalsely : Prop := digestSealRow.holds Try.pinned (OpenSpec.ofChange digestSealWrong)

/-- 'fretsawlaw02.DigestByte': WHATEVER THE INPUT: true; the input reads as it did. -/
def digestByteSpec : ChangeSpec := { name := "digestByte", fn := fun _ => fun
  | [d1, d2, d3] => { results := [.lit (.bool true)], args := [d1, d2, d3] }
  | _ => none }
def digestByteRow : OpenClaim := { program := "ytgbbmfafdbafjaa", sum := "34b2e6a09581ffae761f1032ed599a9a4bbbbe42c8cc671d217e4e7e7754e409", func := "fretsaw/fretsawlaw02.DigestByte", spec := "digestByte", apart := false }
def DigestByteSaid : Prop := digestByteRow.holds Try.pinned (OpenSpec.ofChange digestByteSpec)

/-- ITS FALSE NEIGHBOUR: 'it returns false'. Refute it at one input. -/
def digestByteWrong : ChangeSpec := { name := "digestByte", fn := fun _ => fun
  | [d1, d2, d3] => { results := [.lit (.bool false)], args := [d1, d2, d3] }
  | _ => none }
def DigestByteWrongFalsely : Prop := digestByteRow.holds Try.pinned (OpenSpec.ofChange digestByteWrong)

/-- 'fretsawlaw02.DigestText': WHATEVER THE INPUT: true; the input reads as it did. -/
def digestTextSpec : ChangeSpec := { name := "digestText", fn := fun _ => fun
  | [d1, d2] => { results := [.lit (.bool true)], args := [d1, d2] }
  | _ => none }
def digestTextRow : OpenClaim := { program := "ytgbbmfafdbafjaa", sum := "34b2e6a09581ffae761f1032ed599a9a4bbbbe42c8cc671d217e4e7e7754e409", func := "fretsaw/fretsawlaw02.DigestText", spec := "digestText", apart := false }
def DigestTextSaid : Prop := digestTextRow.holds Try.pinned (OpenSpec.ofChange digestTextSpec)

/-- ITS FALSE NEIGHBOUR: 'it returns false'. Refute it at one input. -/
def digestTextWrong : ChangeSpec := { name := "digestText", fn := fun _ => fun
  | [d1, d2] => { results := [.lit (.bool false)], args := [d1, d2] }
  | _ => none }
def DigestTextWrongFalsely : Prop := digestTextRow.holds Try.pinned (OpenSpec.ofChange digestTextWrong)

/-- 'fretsawlaw02.DigestInverse': WHATEVER THE INPUT: true; the input reads as it did. -/
def digestInverseSpec : ChangeSpec := { name := "digestInverse", fn := fun _ => fun
  | [d1, d2, d3] => { results := [.lit (.bool true)], args := [d1, d2, d3] }
  | _ => none }
def digestInverseRow : OpenClaim := { program := "ytgbbmfafdbafjaa", sum := "34b2e6a09581ffae761f1032ed599a9a4bbbbe42c8cc671d217e4e7e7754e409", func := "fretsaw/fretsawlaw02.DigestInverse", spec := "digestInverse", apart := false }
def DigestInverseSaid : Prop := digestInverseRow.holds Try.pinned (OpenSpec.ofChange digestInverseSpec)

/-- ITS FALSE NEIGHBOUR: 'it returns false'. Refute it at one input. -/
def digestInverseWrong : ChangeSpec := { name := "digestInverse", fn := fun _ => fun
  | [d1, d2, d3] => { results := [.lit (.bool false)], args := [d1, d2, d3] }
  | _ => none }
def DigestInverseWrongFalsely : Prop := digestInverseRow.holds Try.pinned (OpenSpec.ofChange digestInverseWrong)

/- THE SECOND FORM. 'bulk': how many values and letters a reading holds, each counted each time it is reached (what is shared counts as often as it is met; a slice's spare places count too). A statement '..UptoSaid' is the law's where the arguments, and the package variables that the reading takes, are together of bulk at most 1048576: NARROWER than '..Said'. Prove '..Said' where nothing that the law and all that it calls make is longer than what came in: it says more and counts as full. Else prove '..UptoSaid'. A law counts once. -/
mutual
def uptoBulk {H : Type} : DataW H → Nat
  | .lit (.string bytes) => bytes.length + 1
  | .lit _ => 1
  | .nil => 1
  | .ptr d => uptoBulk d + 1
  | .slice elems spare => uptoBulkAll elems + uptoBulkAll spare + 1
  | .agg parts => uptoBulkAll parts + 1
  | .iface _ d => uptoBulk d + 1
  | .map entries => uptoBulkEntries entries + 1
  | .held _ => 1
def uptoBulkAll {H : Type} : List (DataW H) → Nat
  | [] => 0
  | d :: r => uptoBulk d + uptoBulkAll r
def uptoBulkEntries {H : Type} : List (Lit × DataW H) → Nat
  | [] => 0
  | x :: r => uptoBulkEntry x + uptoBulkEntries r
def uptoBulkEntry {H : Type} : Lit × DataW H → Nat
  | (.string bytes, d) => bytes.length + uptoBulk d + 1
  | (_, d) => uptoBulk d + 1
 end
def uptoSmall : (H : Type) → List (DataW H) → Bool := fun _ ds => decide (uptoBulkAll ds ≤ 1048576)
def OpenSpec.upto (s : _root_.Go.ChangeSpec) : _root_.Go.OpenSpec := { _root_.Go.OpenSpec.ofChange s with cond := some uptoSmall }

/-- 'fretsawlaw02.DigestOf', WHERE WHAT IT READS IS OF BULK AT MOST 1048576: true; the input reads as it did. -/
def digestOfUptoRow : OpenClaim := { program := "ytgbbmfafdbafjaa", sum := "34b2e6a09581ffae761f1032ed599a9a4bbbbe42c8cc671d217e4e7e7754e409", func := "fretsaw/fretsawlaw02.DigestOf", spec := "digestOf", apart := false, narrowed := true }
def DigestOfUptoSaid : Prop := digestOfUptoRow.holds Try.pinned (OpenSpec.upto digestOfSpec)

/-- 'fretsawlaw02.DigestChain', WHERE WHAT IT READS IS OF BULK AT MOST 1048576: true; the input reads as it did. -/
def digestChainUptoRow : OpenClaim := { program := "ytgbbmfafdbafjaa", sum := "34b2e6a09581ffae761f1032ed599a9a4bbbbe42c8cc671d217e4e7e7754e409", func := "fretsaw/fretsawlaw02.DigestChain", spec := "digestChain", apart := false, narrowed := true }
def DigestChainUptoSaid : Prop := digestChainUptoRow.holds Try.pinned (OpenSpec.upto digestChainSpec)

/-- 'fretsawlaw02.DigestSeeds', WHERE WHAT IT READS IS OF BULK AT MOST 1048576: true; the input reads as it did. -/
def digestSeedsUptoRow : OpenClaim := { program := "ytgbbmfafdbafjaa", sum := "34b2e6a09581ffae761f1032ed599a9a4bbbbe42c8cc671d217e4e7e7754e409", func := "fretsaw/fretsawlaw02.DigestSeeds", spec := "digestSeeds", apart := false, narrowed := true }
def DigestSeedsUptoSaid : Prop := digestSeedsUptoRow.holds Try.pinned (OpenSpec.upto digestSeedsSpec)

/-- 'fretsawlaw02.DigestSeal', WHERE WHAT IT READS IS OF BULK AT MOST 1048576: true; the input reads as it did. -/
def digestSealUptoRow : OpenClaim := { program := "ytgbbmfafdbafjaa", sum := "34b2e6a09581ffae761f1032ed599a9a4bbbbe42c8cc671d217e4e7e7754e409", func := "fretsaw/fretsawlaw02.DigestSeal", spec := "digestSeal", apart := false, narrowed := true }
def DigestSealUptoSaid : Prop := digestSealUptoRow.holds Try.pinned (OpenSpec.upto digestSealSpec)

/-- 'fretsawlaw02.DigestByte', WHERE WHAT IT READS IS OF BULK AT MOST 1048576: true; the input reads as it did. -/
def digestByteUptoRow : OpenClaim := { program := "ytgbbmfafdbafjaa", sum := "34b2e6a09581ffae761f1032ed599a9a4bbbbe42c8cc671d217e4e7e7754e409", func := "fretsaw/fretsawlaw02.DigestByte", spec := "digestByte", apart := false, narrowed := true }
def DigestByteUptoSaid : Prop := digestByteUptoRow.holds Try.pinned (OpenSpec.upto digestByteSpec)

/-- 'fretsawlaw02.DigestText', WHERE WHAT IT READS IS OF BULK AT MOST 1048576: true; the input reads as it did. -/
def digestTextUptoRow : OpenClaim := { program := "ytgbbmfafdbafjaa", sum := "34b2e6a09581ffae761f1032ed599a9a4bbbbe42c8cc671d217e4e7e7754e409", func := "fretsaw/fretsawlaw02.DigestText", spec := "digestText", apart := false, narrowed := true }
def DigestTextUptoSaid : Prop := digestTextUptoRow.holds Try.pinned (OpenSpec.upto digestTextSpec)

/-- 'fretsawlaw02.DigestInverse', WHERE WHAT IT READS IS OF BULK AT MOST 1048576: true; the input reads as it did. -/
def digestInverseUptoRow : OpenClaim := { program := "ytgbbmfafdbafjaa", sum := "34b2e6a09581ffae761f1032ed599a9a4bbbbe42c8cc671d217e4e7e7754e409", func := "fretsaw/fretsawlaw02.DigestInverse", spec := "digestInverse", apart := false, narrowed := true }
def DigestInverseUptoSaid : Prop := digestInverseUptoRow.holds Try.pinned (OpenSpec.upto digestInverseSpec)

end Rows
end Go.Proofs.Ytgbbmfafdbafjaa

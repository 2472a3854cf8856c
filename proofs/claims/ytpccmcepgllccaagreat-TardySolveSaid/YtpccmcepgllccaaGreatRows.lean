/-
  NARROWER THAN 'FOR EVERY INPUT', by the rows' own cells (each row's printed sentence says how): TardyCheck: loops.
  DERIVED. THE GIVEN ROWS OF THIS SEAT. 2 by the template 'for every input the law returns true; each argument reads behind the call as it read before'; 0 by the template 'total and deterministic' (their statements: YtpccmcepgllccaaGreatTotals.lean).
  GIVEN WITH THE SEED: the statements are not yours to turn. If you find one false, say at which input.
  Laid BY PROGRAM, IN A SANDBOX (cutbox-rows.mjs): the forced cells as the released guide's own fill.sh prints them over the translation c88288da275dcc21… (all of the seat's roots in one cut). By AI agents, Wed Nov 11 2026. No macro, syntax, notation, axiom, sorry.
-/
import Derived.Test.YtpccmcepgllccaaGreatChecked
import GoSem.Claim
import GoSem.ClaimJoined
import GoSem.ClaimMapViews
import Derived.JoinedTies
import Derived.KernelRfl
namespace Go.Proofs.YtpccmcepgllccaaGreat
/- THE CELL 'sum', in the pinned program and in every row, IS THE sha256 OF THE DUMP (.gsa) THAT YtpccmcepgllccaaGreatProg.lean LOADS. Nothing in Lean hashes anything: it is a label: what it is worth is what the hold of that sum in a sandbox is worth. -/
noncomputable def Tryz.pinned : Pinned := { name := "ytpccmcepgllccaagreat", sum := "c88288da275dcc2166b1828f555e602cbc520370b989e9e3efd31653d93b9008", checked := Tryz.checked }
namespace Rows
def none {H : Type} : Left H := { results := [], args := [] }

/-- 'fretsawlaw53.TardyCheck': WHATEVER THE INPUT: true; the input reads as it did. -/
def tardyCheckSpec : ChangeSpec := { name := "tardyCheck", fn := fun _ => fun
  | [d1, d2, d3] => { results := [.lit (.bool true)], args := [d1, d2, d3] }
  | _ => none }
def tardyCheckRow : OpenClaim := { program := "ytpccmcepgllccaagreat", sum := "c88288da275dcc2166b1828f555e602cbc520370b989e9e3efd31653d93b9008", func := "fretsaw/fretsawlaw53.TardyCheck", spec := "tardyCheck", unfollowed := true, recurses := true, loops := true, apart := false }
def TardyCheckSaid : Prop := tardyCheckRow.holds Tryz.pinned (OpenSpec.ofChange tardyCheckSpec)

/-- ITS FALSE NEIGHBOUR: 'it returns false'. Refute it at one input. -/
def tardyCheckWrong : ChangeSpec := { name := "tardyCheck", fn := fun _ => fun
  | [d1, d2, d3] => { results := [.lit (.bool false)], args := [d1, d2, d3] }
  | _ => none }
def TardyCheckWrongFalsely : Prop := tardyCheckRow.holds Tryz.pinned (OpenSpec.ofChange tardyCheckWrong)

/-- 'fretsawlaw53.TardySolve': WHATEVER THE INPUT: true; the input reads as it did. -/
def tardySolveSpec : ChangeSpec := { name := "tardySolve", fn := fun _ => fun
  | [d1, d2] => { results := [.lit (.bool true)], args := [d1, d2] }
  | _ => none }
def tardySolveRow : OpenClaim := { program := "ytpccmcepgllccaagreat", sum := "c88288da275dcc2166b1828f555e602cbc520370b989e9e3efd31653d93b9008", func := "fretsaw/fretsawlaw53.TardySolve", spec := "tardySolve", unfollowed := true, recurses := true, apart := false }
def TardySolveSaid : Prop := tardySolveRow.holds Tryz.pinned (OpenSpec.ofChange tardySolveSpec)

/-- ITS FALSE NEIGHBOUR: 'it returns false'. Refute it at one input. -/
def tardySolveWrong : ChangeSpec := { name := "tardySolve", fn := fun _ => fun
  | [d1, d2] => { results := [.lit (.bool false)], args := [d1, d2] }
  | _ => none }
def TardySolveWrongFalsely : Prop := tardySolveRow.holds Tryz.pinned (OpenSpec.ofChange tardySolveWrong)

/- THE SECOND FORM. 'bulk': how many values and letters a reading holds, each counted each time it is reached (what is shared counts as often as it is met; a slice's spare places count too). A statement '..UptoSaid' is the law's where the arguments, and the package variables that the reading takes, are together of bulk at most 1048576: NARROWER than '..Said'. Prove '..Said' where nothing that the law and all that it calls make is longer than what came in: it says more and counts as full. Else prove '..UptoSaid'. A law counts once. -/
mutual
def uptoBulk {H : Type} : DataW H → Nat
  | .lit (.string bytes) => bytes.length + 1
  | .lit _ => 1
  | .nil => 1
  | .ptr d => uptoBulk d + 1
  | .slice elems spare => uptoBulkAll elems + uptoBulkAll spare + 1
  | .agg parts => uptoBulkAll parts + 1
  | .iface _ d => uptoBulk d + 1
  | .map entries => uptoBulkEntries entries + 1
  | .held _ => 1
def uptoBulkAll {H : Type} : List (DataW H) → Nat
  | [] => 0
  | d :: r => uptoBulk d + uptoBulkAll r
def uptoBulkEntries {H : Type} : List (Lit × DataW H) → Nat
  | [] => 0
  | x :: r => uptoBulkEntry x + uptoBulkEntries r
def uptoBulkEntry {H : Type} : Lit × DataW H → Nat
  | (.string bytes, d) => bytes.length + uptoBulk d + 1
  | (_, d) => uptoBulk d + 1
 end
def uptoSmall : (H : Type) → List (DataW H) → Bool := fun _ ds => decide (uptoBulkAll ds ≤ 1048576)
def OpenSpec.upto (s : _root_.Go.ChangeSpec) : _root_.Go.OpenSpec := { _root_.Go.OpenSpec.ofChange s with cond := some uptoSmall }

/-- 'fretsawlaw53.TardyCheck', WHERE WHAT IT READS IS OF BULK AT MOST 1048576: true; the input reads as it did. -/
def tardyCheckUptoRow : OpenClaim := { program := "ytpccmcepgllccaagreat", sum := "c88288da275dcc2166b1828f555e602cbc520370b989e9e3efd31653d93b9008", func := "fretsaw/fretsawlaw53.TardyCheck", spec := "tardyCheck", unfollowed := true, recurses := true, loops := true, apart := false, narrowed := true }
def TardyCheckUptoSaid : Prop := tardyCheckUptoRow.holds Tryz.pinned (OpenSpec.upto tardyCheckSpec)

/-- 'fretsawlaw53.TardySolve', WHERE WHAT IT READS IS OF BULK AT MOST 1048576: true; the input reads as it did. -/
def tardySolveUptoRow : OpenClaim := { program := "ytpccmcepgllccaagreat", sum := "c88288da275dcc2166b1828f555e602cbc520370b989e9e3efd31653d93b9008", func := "fretsaw/fretsawlaw53.TardySolve", spec := "tardySolve", unfollowed := true, recurses := true, apart := false, narrowed := true }
def TardySolveUptoSaid : Prop := tardySolveUptoRow.holds Tryz.pinned (OpenSpec.upto tardySolveSpec)

end Rows
end Go.Proofs.YtpccmcepgllccaaGreat

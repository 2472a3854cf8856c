import Derived.Test.YtiginjokbkemcaaLf
set_option linter.unusedVariables false
namespace Go.AB
open Go
theorem m63o_val {n : Nat} {l : List Int} (hl : l.length ≤ 1000000) : m63o n l = some l := by
  unfold m63o
  rw [apd_val (by simp; omega),Option.bind_some]; rfl
end Go.AB

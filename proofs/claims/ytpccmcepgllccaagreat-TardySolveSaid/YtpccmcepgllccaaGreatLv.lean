import Derived.Test.YtpccmcepgllccaaGreatLt
import Derived.Test.YtpccmcepgllccaaGreatLg
set_option linter.unusedVariables false
namespace Go.AB
open Go
def shift (c : Int) (l : List R63) : List R63 := l.map fun y => R63.mk (y.Rl + c) y.Ln (y.Due + c)
theorem m23_val {n : Nat} {l : List R63} {o : List Int} (hv : vld l = true) (ho : ordB l.length o = true) (hl : o.length ≤ 1000) (hn : 1000 < n) : m23 n l o = some (val l o false,0) := by
  unfold m23
  rw [m34_val (by omega) (by omega) (by omega),oB,if_pos hv,if_pos ho,if_neg (by simp),m35_val (bd_vld hv).1 (ord_iff.1 ho).2 (by omega) (by omega)]
  rfl
end Go.AB

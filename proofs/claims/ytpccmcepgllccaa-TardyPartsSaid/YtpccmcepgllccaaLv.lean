import Derived.Test.YtpccmcepgllccaaLt
import Derived.Test.YtpccmcepgllccaaLg
set_option linter.unusedVariables false
namespace Go.AB
open Go
def shift (c : Int) (l : List R38) : List R38 := l.map fun y => R38.mk (y.Release + c) y.Length (y.Due + c)
end Go.AB

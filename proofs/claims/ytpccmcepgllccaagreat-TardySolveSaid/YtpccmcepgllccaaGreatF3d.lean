import Derived.Test.YtpccmcepgllccaaGreatProg
import Derived.Test.YtpccmcepgllccaaGreatF3c
import Derived.KernelRfl
set_option linter.unusedVariables false
set_option maxRecDepth 20000
namespace Go.AB
open Go Go.Proofs
end Go.AB

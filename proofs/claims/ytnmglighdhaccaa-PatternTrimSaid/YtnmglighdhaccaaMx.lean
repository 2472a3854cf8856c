import Derived.Test.YtnmglighdhaccaaMw
set_option linter.unusedVariables false
namespace Go.AB
open Go Go.Proofs
end Go.AB

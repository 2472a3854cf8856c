import Derived.Test.YtpccmcepgllccaaLf
set_option linter.unusedVariables false
namespace Go.AB
open Go
end Go.AB

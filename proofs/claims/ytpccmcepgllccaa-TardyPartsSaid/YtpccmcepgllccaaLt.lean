import Derived.Test.YtpccmcepgllccaaLq
set_option linter.unusedVariables false
namespace Go.AB
open Go
theorem m10_7 : m10 7000 = some true := by kernel_rfl
end Go.AB

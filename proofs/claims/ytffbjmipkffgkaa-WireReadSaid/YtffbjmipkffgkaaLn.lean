import Derived.Test.YtffbjmipkffgkaaD
namespace Go.AB
open Go
theorem m9_true : m9 5000 = some true := by kernel_rfl
theorem m6_true (a0 : R52) : m6 5000 a0 = some true := by kernel_rfl
end Go.AB

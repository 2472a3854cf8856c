import Derived.Test.YtpcjbgfgimboiaaLi
namespace Go.AB
open Go
end Go.AB

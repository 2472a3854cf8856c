import Derived.Test.YtpcjbgfgimboiaaLh
namespace Go.AB
open Go
def popL (n : Nat) (k : Int) (K : (Int × (List R68)) → Option Bool) (nx : (Int × Int × (List R68)) → Option Bool) (x : (Int × Int × (List R68))) : Option Bool :=
  (if (decide (x.1 < k)) = true then ((m21 n x.2.2 x.2.1).bind fun y => (letM ((IntKind.wrap .i64 (x.1 + (1 : Int)))) fun t => (nx (t,y.2.2.1,y.2.2.2)))) else (K (x.2.1,x.2.2)))
end Go.AB

import Derived.Test.YtdkegmmigongoaaGreatDoorGo
import Derived.Test.YtdkegmmigongoaaGreatDoorM13
namespace Go.Proofs.YtdkegmmigongoaaGreatDoor
set_option maxRecDepth 20000
open Go.Awp Tr
structure UnI (a b : List (List UInt8)) where
 i : Nat
 h : i ≤ a.length
 e : a.take i = b.take i
end Go.Proofs.YtdkegmmigongoaaGreatDoor

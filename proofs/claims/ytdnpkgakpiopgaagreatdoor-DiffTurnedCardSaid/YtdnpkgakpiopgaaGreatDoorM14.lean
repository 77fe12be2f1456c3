import Derived.Test.YtdnpkgakpiopgaaGreatDoorGo
import Derived.Test.YtdnpkgakpiopgaaGreatDoorM13
namespace Go.Proofs.YtdnpkgakpiopgaaGreatDoor
set_option maxRecDepth 20000
open Go.Awp Tr
structure UnI (a b : List (List UInt8)) where
 i : Nat
 h : i ≤ a.length
 e : a.take i = b.take i
end Go.Proofs.YtdnpkgakpiopgaaGreatDoor

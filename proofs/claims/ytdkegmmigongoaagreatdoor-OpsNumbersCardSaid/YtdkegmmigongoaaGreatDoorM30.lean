import Derived.Test.YtdkegmmigongoaaGreatDoorGo
import Derived.Test.YtdkegmmigongoaaGreatDoorM29
import Derived.Test.YtdkegmmigongoaaGreatDoorM14
import Derived.Test.YtdkegmmigongoaaGreatDoorM15
import Derived.Test.YtdkegmmigongoaaGreatDoorM25
import Derived.Test.YtdkegmmigongoaaGreatDoorM19
namespace Go.Proofs.YtdkegmmigongoaaGreatDoor
set_option maxRecDepth 20000
open Go.Awp Tr
def mfr (f : MF) (l : List Int) (o : Op20) (fr : Int) : Int := if (o.kind = 4 ∨ o.kind = 5) ∧ (mdo f l o fr).1.e = 0 then fr + 1 else fr
structure R20 (f : MF) (l : List Int) (fr : Int) (c : Nat) : Prop where
 ok : f.ok c
 hc : c ≤ 30000
 u : ∀ x ∈ f, U32 x.i
 k1 : f.kind 1 = 2
 b : ∀ x ∈ f, x.b.length ≤ 100000
 st : ∀ p, Nd.ok (f.stat p).1
 l : l.length = 16
 fr : 0 ≤ fr ∧ fr ≤ 1000000
end Go.Proofs.YtdkegmmigongoaaGreatDoor

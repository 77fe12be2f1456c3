/- Contracts and plain laws, several texts joined: F18w, F18y, F18z. -/
import Derived.Test.YtfnpelogfcnanaaGreatDoorGo
import Derived.Test.YtfnpelogfcnanaaGreatDoorM13
import Derived.Test.YtfnpelogfcnanaaGreatDoorM11
import Derived.Test.YtfnpelogfcnanaaGreatDoorM8
/- The model of layer 18 (the reference): Rename. -/
-- @D
namespace Go.Proofs.YtfnpelogfcnanaaGreatDoor
set_option maxRecDepth 20000
open Go.Awp Tr
/-- Where things are moved, all is there. -/
structure MF.mvOk (f : MF) (c : Nat) (s t : MS) : Prop where
  wk : f.wk c
  s : f.has s.d
  t : f.has t.d
end Go.Proofs.YtfnpelogfcnanaaGreatDoor

/- flintlaw18: do. -/
-- @D
namespace Go.Proofs.YtfnpelogfcnanaaGreatDoor
set_option maxRecDepth 20000
open Go.Awp Tr
/-- An operation in a view, and of the model. -/
def do18 (s : VS) (m : MF) (k : Int) (p o : List UInt8) (i : Int) : (Int × VS) × (Int × MF) :=
  if k = 0 then (s.make p 1 i, m.make p 1 i) else if k = 1 then (s.make p 2 i, m.make p 2 i) else if k = 2 then (s.remove p, m.remove p) else if k = 4 then (s.link p o, m.link p o) else if k = 5 then (s.unlink p, m.unlink p) else if k = 6 then (s.rename p o, m.rename p o) else ((0, s), (0, m))
def doT (s : VS) (m : MF) (k : Int) (p o : List UInt8) (i : Int) : (Bool × MF × Bool) × VS :=
  if k = 3 then ((decide ((s.dlist p).1.2 = (m.list p).2) && decide ((s.dlist p).1.1 = (m.list p).1), m, false), (s.dlist p).2)
  else if (do18 s m k p o i).1.1 = 21 then ((true, m, true), (do18 s m k p o i).1.2) else ((decide ((do18 s m k p o i).1.1 = (do18 s m k p o i).2.1), (do18 s m k p o i).2.2, false), (do18 s m k p o i).1.2)
end Go.Proofs.YtfnpelogfcnanaaGreatDoor

/- flintlaw18: do whole. -/
-- @D
namespace Go.Proofs.YtfnpelogfcnanaaGreatDoor
set_option maxRecDepth 20000
open Go.Awp Tr
theorem opr_at {P : Program} {o : Oper} {env : Env} {H L H' L' : List AObj} {x y : TV} (h : OpR P o env H L x H' L') (e : x = y) : OpR P o env H L y H' L' := e ▸ h
end Go.Proofs.YtfnpelogfcnanaaGreatDoor

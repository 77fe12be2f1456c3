/- Contracts and plain laws, several texts joined: F18c, F14g, F14h, F14i, F14j, Mod. -/
import Derived.Test.YtfnpelogfcnanaaGreatDoorGo
import Derived.Test.YtfnpelogfcnanaaGreatDoorM10
import Derived.Test.YtfnpelogfcnanaaGreatDoorM6
import Derived.Test.YtfnpelogfcnanaaGreatDoorM9
/- dirs: Link, clears, Rename. -/
-- @D
namespace Go.Proofs.YtfnpelogfcnanaaGreatDoor
set_option maxRecDepth 20000
open Go.Awp Tr
def VS.linkAt (s : VS) (a t : Sp) : Int × VS :=
  let s1 := s.put (entryK t.d t.m) (beB 4 a.i)
  (fullE [s.room (entryK t.d t.m), s1.room (keyH 73 a.i)], s1.save a.i (linkN a.n 1))
def VS.link (s : VS) (o p : List UInt8) : Int × VS :=
  if (s.there o true).2 ≠ 0 then ((s.there o true).2, s.rdp o) else if (s.there o true).1.n.1 = 2 then (13, s.rdp o) else
  if ((s.rdp o).find p).2.1 ≠ 0 then (((s.rdp o).find p).2.1, (s.rdp o).rdp p) else if ((s.rdp o).find p).1.i ≠ 0 then (11, (s.rdp o).rdp p) else if (s.there o true).1.n.2.1 ≥ 1000 then (18, (s.rdp o).rdp p)
  else ((s.rdp o).rdp p).linkAt (s.there o true).1 ((s.rdp o).find p).1
theorem namesP_len (l : List UInt8) : (namesP l).length ≤ 16 := by
  by_cases h : (splitN l).2 = 0
  · exact (splitN_eq h).2.1
  · have e : namesP l = [] := by unfold namesP; rw [if_pos (.inl h)]
    rw [e]; simp
def VS.clears (s : VS) (a t : Sp) (o p : List UInt8) : Int × VS :=
  if a.n.1 = 2 ∧ underB (namesP o) (namesP p) = true then (15, s) else if t.i = 0 then (0, s) else if a.n.1 = 2 then s.removes t else s.unlinks t
theorem clears_ok {s : VS} {n : Nat} (h : VJ s n) (a t : Sp) (o p : List UInt8) : VJ (s.clears a t o p).2 (2 * n + 10) := by
  unfold VS.clears
  repeat' split
  · exact h.mono (by omega)
  · exact h.mono (by omega)
  · exact (removes_ok h t).mono (by omega)
  · exact unlinks_ok h t
/-- A directory's parent. -/
def parN (g : Nd) (d : Int) : Nd := (g.1, g.2.1, g.2.2.1, d)
def VS.movesAt (s : VS) (a t : Sp) : Int × VS :=
  let s2 := s.del (entryK a.d a.m)
  let s3 := s2.put (entryK t.d t.m) (beB 4 a.i)
  let e := fullE [s.room (entryK a.d a.m), s2.room (entryK t.d t.m)]
  if a.n.1 ≠ 2 ∨ a.d = t.d then (e, s3) else
  let s4 := s3.save a.i (parN a.n t.d)
  let s5 := s4.links a.d (-1)
  (firstE [e, fullE [s3.room (keyH 73 a.i)], s4.linksE a.d, s5.linksE t.d], s5.links t.d 1)
def VS.renameAt (s : VS) (a t : Sp) (o p : List UInt8) : Int × VS :=
  if (s.clears a t o p).1 ≠ 0 then s.clears a t o p else (s.clears a t o p).2.movesAt a t
def VS.rename (s : VS) (o p : List UInt8) : Int × VS :=
  if (s.there o false).2 ≠ 0 then ((s.there o false).2, s.rdp o) else
  if ((s.rdp o).find p).2.1 ≠ 0 then (((s.rdp o).find p).2.1, (s.rdp o).rdp p) else if ((s.rdp o).find p).1.i = 1 then (29, (s.rdp o).rdp p) else if ((s.rdp o).find p).1.i = (s.there o false).1.i then (0, (s.rdp o).rdp p)
  else ((s.rdp o).rdp p).renameAt (s.there o false).1 ((s.rdp o).find p).1 o p
end Go.Proofs.YtfnpelogfcnanaaGreatDoor

/- The reference of layer 14: Shown, written, Get. -/
-- @D
namespace Go.Proofs.YtfnpelogfcnanaaGreatDoor
set_option maxRecDepth 20000
open Go.Awp Tr
def stepW (l : List KV) (w : KV) : List KV := if w.2 = [] then lcut w.1 l else lset w.1 (w.2.drop 1) l
structure WrI (k : List UInt8) (w : List KV) where
  i : Nat
  h : i ≤ w.length
  e : lget k (w.drop i) = lget k w
end Go.Proofs.YtfnpelogfcnanaaGreatDoor

/- The reference of layer 14: Get. -/
-- @D
namespace Go.Proofs.YtfnpelogfcnanaaGreatDoor
set_option maxRecDepth 20000
open Go.Awp Tr
end Go.Proofs.YtfnpelogfcnanaaGreatDoor

/- The reference of layer 14: Range. -/
-- @D
namespace Go.Proofs.YtfnpelogfcnanaaGreatDoor
set_option maxRecDepth 20000
open Go.Awp Tr
structure RgI (g : List Rg) (r : Rg) where
  i : Nat
  h : i ≤ g.length
  e : r ∈ g ↔ r ∈ g.drop i
end Go.Proofs.YtfnpelogfcnanaaGreatDoor

/- The reference of layer 14: Write. -/
-- @D
namespace Go.Proofs.YtfnpelogfcnanaaGreatDoor
set_option maxRecDepth 20000
open Go.Awp Tr
theorem putW_fold {w : List KV} (h : Rises w) (k raw : List UInt8) (dn : Bool) : endS k raw (w.foldl (stepS k raw) ([], dn)) = if dn = true then lcut k w else lset k raw w := by
  cases dn with
  | true => rw [fold_done]; simp [endS]
  | false => rw [fold_new k raw w [] h]; simp
end Go.Proofs.YtfnpelogfcnanaaGreatDoor

/- The model of layer 18 in plain Lean: nodes, entries; what is done to them. -/
-- @D
namespace Go.Proofs.YtfnpelogfcnanaaGreatDoor
set_option maxRecDepth 20000
open Go.Awp Tr
/-- A node: its number, kind, links, bytes and entries (a name and its number's four bytes, rising by name). -/
structure MN where
  i : Int
  k : Int
  n : Int
  b : List UInt8
  e : List KV
abbrev MF := List MN
def newM : MF := [⟨1, 2, 2, [], []⟩]
/-- The node of a number. -/
def MF.at (f : MF) (i : Int) : Option MN := f.find? fun x => x.i == i
def ixF : MF → Int → Nat → Int
  | [], _, _ => -1
  | x :: r, i, j => if x.i = i then (j : Int) else ixF r i (j + 1)
def MF.ix (f : MF) (i : Int) : Int := ixF f i 0
theorem ixF_at {i : Int} {x : MN} : ∀ {f : MF} (j : Nat), f.at i = some x → ∃ n : Nat, ixF f i j = ((j + n : Nat) : Int) ∧ f[n]? = some x
  | [], j, h => by simp [MF.at] at h
  | y :: r, j, h => by
    unfold MF.at at h
    rw [List.find?_cons] at h
    unfold ixF
    by_cases e : y.i = i
    · rw [if_pos e]
      simp only [e, beq_self_eq_true] at h
      exact ⟨0, rfl, by simpa using h⟩
    · rw [if_neg e]
      have e2 : (y.i == i) = false := by simpa using e
      rw [e2] at h
      obtain ⟨n, h1, h2⟩ := ixF_at (f := r) (j + 1) h
      exact ⟨n + 1, by rw [h1]; congr 1; omega, by simpa using h2⟩
theorem at_any (f : MF) (i : Int) : (f.at i).isSome = f.any fun x => x.i == i := by
  unfold MF.at
  rw [Bool.eq_iff_iff, List.find?_isSome, List.any_eq_true]
theorem at_mem {f : MF} {i : Int} {x : MN} (h : f.at i = some x) : x ∈ f ∧ x.i = i := by
  unfold MF.at at h
  exact ⟨List.mem_of_find?_eq_some h, by simpa using List.find?_some h⟩
def MF.with (f : MF) (x : MN) : MF := f.map (fun y => if y.i = x.i then x else y) ++ (if (f.at x.i).isSome = true then [] else [x])
def MF.without (f : MF) (i : Int) : MF := f.filter fun x => !(x.i == i)
def MN.entry (x : MN) (m : List UInt8) : Int := match lget m x.e with
  | some v => beV v
  | none => 0
def nmE (e : List KV) (m : List UInt8) (i : Int) : List KV := if i = 0 then lcut m e else lset m (beB 4 i) e
def MF.named (f : MF) (d : Int) (m : List UInt8) (i : Int) : MF := match f.at d with
  | some x => f.with { x with e := nmE x.e m i }
  | none => f
def MF.linked (f : MF) (i by_ : Int) : MF := match f.at i with
  | some x => f.with { x with n := x.n + by_ }
  | none => f
/-- A spot of the model. -/
structure MS where
  d : Int
  m : List UInt8
  i : Int
def ms0 : MS := ⟨0, [], 0⟩
def MF.go (f : MF) : List (List UInt8) → MS → MS × Int
  | [], a => (a, 0)
  | x :: r, a => if a.i = 0 then (ms0, 10) else match f.at a.i with
    | none => (ms0, 0)
    | some n => if n.k ≠ 2 then (ms0, 12) else MF.go f r ⟨a.i, x, n.entry x⟩
def MF.findP (f : MF) (l : List UInt8) : MS × Int := if (splitN l).2 ≠ 0 then (ms0, (splitN l).2) else f.go (namesP l) ⟨0, [], 1⟩
def MF.kind (f : MF) (i : Int) : Int := match f.at i with
  | some x => x.k
  | none => 0
def MF.make (f : MF) (p : List UInt8) (k i : Int) : Int × MF :=
  if (f.findP p).2 ≠ 0 then ((f.findP p).2, f) else if (f.findP p).1.i ≠ 0 then (11, f)
  else (0, MF.named (if k = 1 then f.with ⟨i, 1, 1, [], []⟩ else (f.with ⟨i, 2, 2, [], []⟩).linked (f.findP p).1.d 1) (f.findP p).1.d (f.findP p).1.m i)
def MF.rmv (f : MF) (s : MS) : Int × MF := match f.at s.i with
  | none => (0, f)
  | some n => if n.k ≠ 2 then (12, f) else if n.e.length > 0 then (14, f) else (0, ((f.without s.i).linked s.d (-1)).named s.d s.m 0)
def MF.unl (f : MF) (s : MS) : Int × MF := match f.at s.i with
  | none => (0, f)
  | some n => if n.k = 2 then (13, f) else (0, (if n.n = 1 then f.without s.i else f.linked s.i (-1)).named s.d s.m 0)
def MF.remove (f : MF) (p : List UInt8) : Int × MF :=
  if (f.findP p).2 ≠ 0 then ((f.findP p).2, f) else if (f.findP p).1.i = 1 then (29, f) else if (f.findP p).1.i = 0 then (10, f) else f.rmv (f.findP p).1
def MF.list (f : MF) (p : List UInt8) : List (List UInt8) × Int :=
  if (f.findP p).2 ≠ 0 then ([], (f.findP p).2) else if (f.findP p).1.i = 0 then ([], 10) else match f.at (f.findP p).1.i with
    | none => ([], 0)
    | some n => if n.k ≠ 2 then ([], 12) else (n.e.map (·.1), 0)
def MF.link (f : MF) (o p : List UInt8) : Int × MF :=
  if (f.findP o).2 ≠ 0 then ((f.findP o).2, f) else if (f.findP o).1.i = 0 then (10, f) else match f.at (f.findP o).1.i with
    | none => (0, f)
    | some n => if n.k = 2 then (13, f) else if (f.findP p).2 ≠ 0 then ((f.findP p).2, f) else if (f.findP p).1.i ≠ 0 then (11, f) else if n.n ≥ 1000 then (18, f)
      else (0, (f.linked (f.findP o).1.i 1).named (f.findP p).1.d (f.findP p).1.m (f.findP o).1.i)
def MF.unlink (f : MF) (p : List UInt8) : Int × MF :=
  if (f.findP p).2 ≠ 0 then ((f.findP p).2, f) else if (f.findP p).1.i = 0 then (10, f) else f.unl (f.findP p).1
/-- What is moved, where nothing is in the way. -/
def MF.moved (f : MF) (s t : MS) (dir : Bool) : MF :=
  if dir = true then ((((f.named s.d s.m 0).named t.d t.m s.i).linked s.d (-1)).linked t.d 1) else (f.named s.d s.m 0).named t.d t.m s.i
def MF.rename (f : MF) (o p : List UInt8) : Int × MF :=
  if (f.findP o).2 ≠ 0 then ((f.findP o).2, f) else if (f.findP o).1.i = 1 then (29, f) else if (f.findP o).1.i = 0 then (10, f)
  else if (f.findP p).2 ≠ 0 then ((f.findP p).2, f) else if (f.findP p).1.i = 1 then (29, f) else if (f.findP p).1.i = (f.findP o).1.i then (0, f)
  else if (f.kind (f.findP o).1.i = 2 && underB (namesP o) (namesP p)) = true then (15, f)
  else if (f.findP p).1.i = 0 then (0, f.moved (f.findP o).1 (f.findP p).1 (f.kind (f.findP o).1.i == 2))
  else
    let q := if f.kind (f.findP o).1.i = 2 then f.rmv (f.findP p).1 else f.unl (f.findP p).1
    if q.1 ≠ 0 then (q.1, f) else (0, q.2.moved (f.findP o).1 (f.findP p).1 (f.kind (f.findP o).1.i == 2))
end Go.Proofs.YtfnpelogfcnanaaGreatDoor

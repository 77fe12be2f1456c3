/- Trees: what they are, and what is made of them, in plain Lean. -/
import Derived.Test.YtbdijekfplpnlaaGo2
import Derived.Test.YtbdijekfplpnlaaLex
namespace Go.Proofs.Ytbdijekfplpnlaa
set_option maxRecDepth 20000
open Go.Awp
/-- A version of a tree. -/
inductive Tr where
  | nil
  | node (k v : List UInt8) (l r : Tr)
  deriving Inhabited
namespace Tr
def size : Tr → Nat
  | nil => 0
  | node _ _ l r => 1 + l.size + r.size
def high : Tr → Nat
  | nil => 0
  | node _ _ l r => 1 + max l.high r.high
theorem high_le : ∀ (t : Tr), t.high ≤ t.size
  | nil => Nat.le_refl _
  | node _ _ l r => by have := high_le l; have := high_le r; simp only [high, size]; omega
def av : Tr → AV
  | nil => .nilp
  | node k v l r => .pp [.str k, .str v, .cell l.av, .cell r.av, .int .i64 ((1 + l.size + r.size : Nat) : Int), .int .i64 ((1 + max l.high r.high : Nat) : Int)]
theorem av_cl (t : Tr) : cl t.av = true := by cases t <;> rfl
/-- The tree as a value that is handed on. -/
abbrev W (t : Tr) : TV := .p (.cell t.av)
def rotR : Tr → Tr
  | node k v (node k2 v2 a b) c => node k2 v2 a (node k v b c)
  | t => t
def rotL : Tr → Tr
  | node k v a (node k2 v2 b c) => node k2 v2 (node k v a b) c
  | t => t
def lean : Tr → Int
  | nil => 0
  | node _ _ l r => (l.high : Int) - (r.high : Int)
def join (k v : List UInt8) (l r : Tr) : Tr :=
  if (node k v l r).lean > 1 then rotR (if l.lean < 0 then node k v (rotL l) r else node k v l r)
  else if (node k v l r).lean < -1 then rotL (if r.lean > 0 then node k v l (rotR r) else node k v l r)
  else node k v l r
theorem rotR_size (t : Tr) : t.rotR.size = t.size := by
  unfold rotR; split
  · simp only [size]; omega
  · rfl
theorem rotL_size (t : Tr) : t.rotL.size = t.size := by
  unfold rotL; split
  · simp only [size]; omega
  · rfl
theorem join_size (k v : List UInt8) (l r : Tr) : (join k v l r).size = 1 + l.size + r.size := by
  unfold join
  split
  · rw [rotR_size]; split <;> simp only [size, rotL_size]
  · split
    · rw [rotL_size]; split <;> simp only [size, rotR_size]
    · rfl
end Tr
end Go.Proofs.Ytbdijekfplpnlaa

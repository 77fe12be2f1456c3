/- Trees: Set, Cut, Get, in plain Lean. -/
import Derived.Test.YtbdijekfplpnlaaGo
import Derived.Test.YtbdijekfplpnlaaTr1
namespace Go.Proofs.Ytbdijekfplpnlaa
set_option maxRecDepth 20000
open Go.Awp
namespace Tr
def set (k v : List UInt8) : Tr → Tr
  | nil => node k v nil nil
  | node k0 v0 l r => if Op.bytesLess k k0 = true then join k0 v0 (l.set k v) r else if k = k0 then node k v l r else join k0 v0 l (r.set k v)
def get (k : List UInt8) : Tr → Option (List UInt8)
  | nil => none
  | node k0 v0 l r => if k0 = k then some v0 else if Op.bytesLess k k0 = true then l.get k else r.get k
theorem set_size (k v : List UInt8) : ∀ (t : Tr), (t.set k v).size ≤ t.size + 1
  | nil => by simp [set, size]
  | node k0 v0 l r => by
    have h1 := set_size k v l
    have h2 := set_size k v r
    simp only [set]
    split
    · rw [join_size]; simp only [size]; omega
    · split
      · simp only [size]; omega
      · rw [join_size]; simp only [size]; omega
/-- The first key, and its value. -/
def min : Tr → List UInt8 × List UInt8
  | nil => ([], [])
  | node k v nil _ => (k, v)
  | node _ _ (node k v l r) _ => (node k v l r).min
def cut : Tr → List UInt8 → Tr
  | nil, _ => nil
  | node k0 v0 l r, k => if (node k0 v0 l r).get k = none then node k0 v0 l r
    else if Op.bytesLess k k0 = true then join k0 v0 (l.cut k) r
    else if k = k0 then (match l, r with
      | nil, r => r
      | node a b c d, nil => node a b c d
      | node a b c d, node e f g h => join (node e f g h).min.1 (node e f g h).min.2 (node a b c d) (cut (node e f g h) (node e f g h).min.1))
    else join k0 v0 l (r.cut k)
theorem cut_node (k0 v0 : List UInt8) (l r : Tr) (k : List UInt8) : (node k0 v0 l r).cut k = if (node k0 v0 l r).get k = none then node k0 v0 l r
    else if Op.bytesLess k k0 = true then join k0 v0 (l.cut k) r
    else if k = k0 then (match l, r with
      | nil, r => r
      | node a b c d, nil => node a b c d
      | node a b c d, node e f g h => join (node e f g h).min.1 (node e f g h).min.2 (node a b c d) (cut (node e f g h) (node e f g h).min.1))
    else join k0 v0 l (r.cut k) := by
  conv => lhs; unfold cut
theorem cut_size : ∀ (t : Tr) (k : List UInt8), (t.cut k).size ≤ t.size
  | nil, k => by simp [cut]
  | node k0 v0 l r, k => by
    have h1 := cut_size l k
    have h2 := cut_size r k
    have h3 := fun k' => cut_size r k'
    unfold cut
    split
    · exact Nat.le_refl _
    · split
      · rw [join_size]; simp only [size]; omega
      · split
        · split
          · simp only [size]; omega
          · simp only [size]; omega
          · rename_i a b c d e f g h _
            rw [join_size]
            have := h3 (node e f g h).min.1
            simp only [size] at this ⊢
            omega
        · rw [join_size]; simp only [size]; omega
end Tr
end Go.Proofs.Ytbdijekfplpnlaa

/- Trees: Range, At, Rank, in plain Lean. -/
import Derived.Test.YtbdijekfplpnlaaGo
import Derived.Test.YtbdijekfplpnlaaTr3
namespace Go.Proofs.Ytbdijekfplpnlaa
set_option maxRecDepth 20000
open Go.Awp
namespace Tr
def range (a b : List UInt8) : Tr → List KV
  | nil => []
  | node k v l r => ((if lt a k then l.range a b else []) ++ (if inR k a b = true then [(k, v)] else [])) ++ (if lt k b then r.range a b else [])
theorem range_row (a b : List UInt8) : ∀ (t : Tr), Rises t.row → t.range a b = lrange a b t.row
  | nil, _ => rfl
  | node k v l r, h => by
    obtain ⟨h1, h2, h3, h4, _⟩ := rises_app.1 h
    have e1 : (if lt a k then l.range a b else []) = lrange a b l.row := by
      split
      · exact range_row a b l h1
      · rename_i hk
        refine (List.filter_eq_nil_iff.2 fun x hx => ?_).symm
        have : lt x.1 a := by
          rcases lt_cases a k with h | h | h
          · exact absurd h hk
          · rw [h]; exact h3 x hx
          · exact lt_trans (h3 x hx) h
        unfold lt at this
        simp [inR, this]
    have e2 : (if lt k b then r.range a b else []) = lrange a b r.row := by
      split
      · exact range_row a b r h2
      · rename_i hk
        refine (List.filter_eq_nil_iff.2 fun x hx => ?_).symm
        have : ¬ lt x.1 b := by
          intro hx2
          exact hk (lt_trans (h4 x hx) hx2)
        unfold lt at this
        simp [inR, this]
    have e3 : lrange a b (node k v l r).row = lrange a b l.row ++ ((if inR k a b = true then [(k, v)] else []) ++ lrange a b r.row) := by
      simp only [row, lrange, List.filter_append, List.filter_cons]
      split <;> simp
    rw [e3, ← e1, ← e2, range, List.append_assoc]
theorem range_len (a b : List UInt8) : ∀ (t : Tr), (t.range a b).length ≤ t.size
  | nil => Nat.le_refl _
  | node k v l r => by
    have h1 := range_len a b l
    have h2 := range_len a b r
    simp only [range, size, List.length_append]
    have e1 : (if lt a k then l.range a b else []).length ≤ l.size := by split <;> first | exact h1 | simp
    have e2 : (if lt k b then r.range a b else []).length ≤ r.size := by split <;> first | exact h2 | simp
    have e3 : (if inR k a b = true then [(k, v)] else [] : List KV).length ≤ 1 := by split <;> simp
    omega
def atI : Tr → Nat → Option KV
  | nil, _ => none
  | node k v l r, i => if i < l.size then l.atI i else if i = l.size then some (k, v) else r.atI (i - (l.size + 1))
theorem atI_row : ∀ (t : Tr) (i : Nat), t.atI i = t.row[i]?
  | nil, i => by simp [atI, row]
  | node k v l r, i => by
    simp only [atI, row]
    have hl := row_len l
    split
    · rw [atI_row l i, List.getElem?_append_left (by omega)]
    · split
      · rename_i h
        rw [List.getElem?_append_right (by omega), show i - l.row.length = 0 by omega]
        rfl
      · rw [atI_row r, List.getElem?_append_right (by omega), show i - l.row.length = (i - (l.size + 1)) + 1 by omega]
        simp
def rank (k : List UInt8) : Tr → Nat
  | nil => 0
  | node k0 _ l r => if lt k0 k then l.size + 1 + r.rank k else l.rank k
theorem rank_row (k : List UInt8) : ∀ (t : Tr), Rises t.row → t.rank k = lrank k t.row
  | nil, _ => rfl
  | node k0 v l r, h => by
    obtain ⟨h1, h2, h3, h4, _⟩ := rises_app.1 h
    have e : lrank k (node k0 v l r).row = lrank k l.row + ((if lt k0 k then 1 else 0) + lrank k r.row) := by
      simp only [row, lrank, List.filter_append, List.length_append, List.filter_cons, lt]
      by_cases hk : Op.bytesLess k0 k = true
      · simp [hk]; omega
      · simp [hk]
    rw [e, rank]
    split
    · rename_i hk
      rw [rank_row k r h2]
      have : lrank k l.row = l.size := by
        unfold lrank
        rw [List.filter_eq_self.2 fun x hx => lt_trans (h3 x hx) hk, row_len]
      omega
    · rename_i hk
      rw [rank_row k l h1]
      have : lrank k r.row = 0 := by
        unfold lrank
        rw [List.filter_eq_nil_iff.2 fun x hx h => hk (lt_trans (h4 x hx) h)]
        rfl
      omega
end Tr
end Go.Proofs.Ytbdijekfplpnlaa

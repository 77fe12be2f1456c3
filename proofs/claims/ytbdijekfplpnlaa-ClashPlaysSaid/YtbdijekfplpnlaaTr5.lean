/- The reference's Set, as a fold; on rows that rise it is the rising row's. -/
import Derived.Test.YtbdijekfplpnlaaGo
import Derived.Test.YtbdijekfplpnlaaTr4
namespace Go.Proofs.Ytbdijekfplpnlaa
set_option maxRecDepth 20000
open Go.Awp
def stepS (k v : List UInt8) (s : List KV × Bool) (x : KV) : List KV × Bool :=
  let t := if (!s.2 && (Op.bytesLess k x.1 || k == x.1)) = true then (s.1 ++ [(k, v)], true) else s
  (if x.1 = k then t.1 else t.1 ++ [x], t.2)
def endS (k v : List UInt8) (s : List KV × Bool) : List KV := if s.2 = true then s.1 else s.1 ++ [(k, v)]
def rset (k v : List UInt8) (l : List KV) : List KV := endS k v (l.foldl (stepS k v) ([], false))
theorem fold_done (k v : List UInt8) : ∀ (l A : List KV), l.foldl (stepS k v) (A, true) = (A ++ lcut k l, true)
  | [], A => by simp [lcut]
  | x :: r, A => by
    have e : stepS k v (A, true) x = (if x.1 = k then A else A ++ [x], true) := by simp [stepS]
    rw [List.foldl_cons, e, fold_done k v r]
    by_cases h : x.1 = k
    · simp [h, lcut]
    · simp [h, lcut]
theorem fold_new (k v : List UInt8) : ∀ (l A : List KV), Rises l → endS k v (l.foldl (stepS k v) (A, false)) = A ++ lset k v l
  | [], A, _ => by simp [endS, lset]
  | x :: r, A, h => by
    have h' := List.pairwise_cons.1 h
    rw [List.foldl_cons]
    rcases lt_cases k x.1 with hk | hk | hk
    · have hb : Op.bytesLess k x.1 = true := hk
      have e : stepS k v (A, false) x = (A ++ [(k, v)] ++ [x], true) := by
        simp only [stepS, hb, Bool.not_false, Bool.true_and, Bool.true_or, if_true]
        rw [if_neg fun e => lt_ne hk e.symm]
      rw [e, fold_done]
      have hc : lcut k r = r := lcut_none fun y hy => fun e => lt_ne (lt_trans hk (h'.1 y hy)) e.symm
      simp only [endS, lset, if_true]
      rw [if_pos hk, hc]
      simp
    · have e : stepS k v (A, false) x = (A ++ [(k, v)], true) := by
        simp [stepS, ← hk]
      rw [e, fold_done]
      have hc : lcut k r = r := lcut_none fun y hy => by rw [hk]; exact fun e => lt_ne (h'.1 y hy) e.symm
      simp only [endS, lset, if_true]
      rw [if_neg (by rw [← hk]; exact lt_irrefl k), if_pos hk, hc]
      simp
    · have hb : Op.bytesLess k x.1 = false := by
        have := lt_asymm hk
        unfold lt at this
        simpa using this
      have hne : (k == x.1) = false := beq_eq_false_iff_ne.2 fun e => lt_ne hk e.symm
      have e : stepS k v (A, false) x = (A ++ [x], false) := by
        simp only [stepS, hb, hne, Bool.not_false, Bool.true_and, Bool.or_false]
        rw [if_neg (lt_ne hk)]
        rfl
      rw [e, fold_new k v r _ h'.2]
      simp only [lset]
      rw [if_neg (lt_asymm hk), if_neg fun e => lt_ne hk e.symm]
      simp
theorem rset_row {k v : List UInt8} {l : List KV} (h : Rises l) : rset k v l = lset k v l := by
  unfold rset
  rw [fold_new k v l [] h]
  rfl
theorem fold_take {α β : Type} (f : β → α → β) (b : β) {l : List α} {i : Nat} {x : α} (hx : l[i]? = some x) : (l.take (i + 1)).foldl f b = f ((l.take i).foldl f b) x := by
  obtain ⟨h, rfl⟩ := List.getElem?_eq_some_iff.1 hx
  rw [List.take_succ_eq_append_getElem h, List.foldl_append]
  rfl
theorem stepS_len (k v : List UInt8) (s : List KV × Bool) (x : KV) : (stepS k v s x).1.length ≤ s.1.length + 2 := by
  simp only [stepS]
  split <;> split <;> simp
theorem fold_len (k v : List UInt8) : ∀ (l : List KV) (s : List KV × Bool), (l.foldl (stepS k v) s).1.length ≤ s.1.length + 2 * l.length
  | [], s => by simp
  | x :: r, s => by
    have h1 := fold_len k v r (stepS k v s x)
    have h2 := stepS_len k v s x
    rw [List.foldl_cons, List.length_cons]
    omega
end Go.Proofs.Ytbdijekfplpnlaa

/- Rows that rise, as maps. -/
import Derived.Test.YtbdijekfplpnlaaGo
import Derived.Test.YtbdijekfplpnlaaTr6
namespace Go.Proofs.Ytbdijekfplpnlaa
set_option maxRecDepth 20000
open Go.Awp
theorem lget_some {k v : List UInt8} : ∀ {l : List KV}, Rises l → (lget k l = some v ↔ (k, v) ∈ l)
  | [], _ => by simp [lget]
  | x :: r, h => by
    have hp := List.pairwise_cons.1 h
    unfold lget
    split
    · rename_i e
      subst e
      constructor
      · intro h1
        obtain rfl := Option.some.inj h1
        simp
      · intro h1
        rcases List.mem_cons.1 h1 with h1 | h1
        · rw [← h1]
        · exact absurd (hp.1 _ h1) (lt_irrefl _)
    · rename_i e
      rw [lget_some hp.2, List.mem_cons]
      exact ⟨.inr, fun h1 => h1.resolve_left fun h2 => e (by rw [← h2])⟩
theorem lget_lset {k v kk : List UInt8} : ∀ {l : List KV}, Rises l → lget kk (lset k v l) = if kk = k then some v else lget kk l
  | [], _ => by
    simp only [lset, lget]
    by_cases e : kk = k
    · rw [if_pos e.symm, if_pos e]
    · rw [if_neg (fun h => e h.symm), if_neg e]
  | x :: r, h => by
    have hp := List.pairwise_cons.1 h
    unfold lset
    split
    · simp only [lget]
      by_cases e : kk = k
      · rw [if_pos e.symm, if_pos e]
      · rw [if_neg (fun h => e h.symm), if_neg e]
    · split
      · rename_i e0
        simp only [lget]
        by_cases e : kk = k
        · rw [if_pos e.symm, if_pos e]
        · rw [if_neg (fun h => e h.symm), if_neg e, if_neg (fun h => e (by rw [← h, e0]))]
      · rename_i e0
        simp only [lget]
        by_cases e1 : x.1 = kk
        · rw [if_pos e1, if_pos e1, if_neg (fun e => e0 (by rw [← e, e1]))]
        · rw [if_neg e1, if_neg e1, lget_lset hp.2]
theorem lget_lcut {k kk : List UInt8} : ∀ {l : List KV}, lget kk (lcut k l) = if kk = k then none else lget kk l
  | [] => by simp [lcut, lget]
  | x :: r => by
    have ih := lget_lcut (k := k) (kk := kk) (l := r)
    unfold lcut at ih ⊢
    rw [List.filter_cons]
    by_cases e : x.1 = k
    · rw [if_neg (by simp [e]), ih]
      by_cases e2 : kk = k
      · rw [if_pos e2, if_pos e2]
      · rw [if_neg e2, if_neg e2, lget, if_neg (fun h => e2 (by rw [← h, e]))]
    · rw [if_pos (by simp [e])]
      simp only [lget]
      by_cases e1 : x.1 = kk
      · rw [if_pos e1, if_pos e1, if_neg (fun h => e (by rw [e1, h]))]
      · rw [if_neg e1, if_neg e1, ih]
theorem lset_length {k v : List UInt8} : ∀ {l : List KV}, Rises l → (lset k v l).length = if (lget k l).isSome = true then l.length else l.length + 1
  | [], _ => by simp [lset, lget]
  | x :: r, h => by
    have hp := List.pairwise_cons.1 h
    unfold lset
    split
    · rename_i hlt
      have : lget k (x :: r) = none := lget_none fun y hy => by
        rcases List.mem_cons.1 hy with rfl | hy
        · exact fun e => lt_ne hlt e.symm
        · exact fun e => lt_ne (lt_trans hlt (hp.1 y hy)) e.symm
      rw [this]; rfl
    · split
      · rename_i e
        simp [lget, e]
      · rename_i e
        have e' : lget k (x :: r) = lget k r := by rw [lget, if_neg (fun h => e h.symm)]
        rw [e', List.length_cons, lset_length hp.2, List.length_cons]
        split <;> rfl
theorem lcut_length {k : List UInt8} {l : List KV} (h : Rises l) : (lcut k l).length = if (lget k l).isSome = true then l.length - 1 else l.length := by
  induction l with
  | nil => simp [lcut, lget]
  | cons x r ih =>
    have hp := List.pairwise_cons.1 h
    have ih := ih hp.2
    unfold lcut at ih ⊢
    rw [List.filter_cons]
    by_cases e : x.1 = k
    · have hf : (r.filter fun y => !(y.1 == k)) = r := List.filter_eq_self.2 fun y hy => by
        have := hp.1 y hy
        simp only [Bool.not_eq_true', beq_eq_false_iff_ne, ne_eq]
        exact fun e2 => lt_ne this (by rw [e, e2])
      rw [if_neg (by simp [e]), hf, lget, if_pos e]
      simp
    · rw [if_pos (by simp [e]), List.length_cons, ih, lget, if_neg e]
      split
      · rename_i hs
        cases r with
        | nil => simp [lget] at hs
        | cons => simp
      · rfl
theorem lget_ext {l m : List KV} (hl : Rises l) (hm : Rises m) (h : ∀ k, lget k l = lget k m) : l = m := by
  have key : ∀ {l m : List KV}, Rises l → Rises m → (∀ k, lget k l = lget k m) → ∀ x, x ∈ l → x ∈ m := fun {l m} hl hm h x hx => by
    have := (lget_some hl).2 (show (x.1, x.2) ∈ l from hx)
    rw [h] at this
    exact (lget_some hm).1 this
  exact rises_ext hl hm fun x => ⟨key hl hm h x, key hm hl (fun k => (h k).symm) x⟩
namespace Tr
theorem set_get {k v kk : List UInt8} {t : Tr} (h : Rises t.row) : (t.set k v).get kk = if kk = k then some v else t.get kk := by
  have h2 : Rises (t.set k v).row := by rw [set_row _ _ _ h]; exact lset_rises h
  rw [get_row _ _ h2, get_row _ _ h, set_row _ _ _ h, lget_lset h]
theorem cut_get {k kk : List UInt8} {t : Tr} (h : Rises t.row) : (t.cut k).get kk = if kk = k then none else t.get kk := by
  have h2 : Rises (t.cut k).row := by rw [cut_row _ _ h]; exact lcut_rises h
  rw [get_row _ _ h2, get_row _ _ h, cut_row _ _ h, lget_lcut]
theorem set_size_eq {k v : List UInt8} {t : Tr} (h : Rises t.row) : (t.set k v).size = if (t.get k).isSome = true then t.size else t.size + 1 := by
  rw [← row_len, ← row_len, set_row _ _ _ h, lset_length h, get_row _ _ h]
theorem cut_size_eq {k : List UInt8} {t : Tr} (h : Rises t.row) : (t.cut k).size = if (t.get k).isSome = true then t.size - 1 else t.size := by
  rw [← row_len, ← row_len, cut_row _ _ h, lcut_length h, get_row _ _ h]
theorem set_rises {k v : List UInt8} {t : Tr} (h : Rises t.row) : Rises (t.set k v).row := by rw [set_row _ _ _ h]; exact lset_rises h
theorem cut_rises {k : List UInt8} {t : Tr} (h : Rises t.row) : Rises (t.cut k).row := by rw [cut_row _ _ h]; exact lcut_rises h
end Tr
end Go.Proofs.Ytbdijekfplpnlaa

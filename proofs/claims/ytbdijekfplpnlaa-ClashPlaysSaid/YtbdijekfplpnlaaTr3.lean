/- Trees as rows that rise, in plain Lean. -/
import Derived.Test.YtbdijekfplpnlaaGo
import Derived.Test.YtbdijekfplpnlaaTr2
namespace Go.Proofs.Ytbdijekfplpnlaa
set_option maxRecDepth 20000
open Go.Awp
abbrev KV := List UInt8 × List UInt8
def lt (a b : List UInt8) : Prop := Op.bytesLess a b = true
theorem lt_trans {a b c : List UInt8} (h : lt a b) (k : lt b c) : lt a c := bl_trans h k
theorem lt_irrefl (a : List UInt8) : ¬ lt a a := fun h => by unfold lt at h; rw [bl_irrefl] at h; cases h
theorem lt_asymm {a b : List UInt8} (h : lt a b) : ¬ lt b a := fun k => lt_irrefl a (lt_trans h k)
theorem lt_ne {a b : List UInt8} (h : lt a b) : a ≠ b := fun e => by rw [e] at h; exact lt_irrefl b h
theorem lt_cases (a b : List UInt8) : lt a b ∨ a = b ∨ lt b a := by
  unfold lt
  cases h1 : Op.bytesLess a b with
  | true => exact .inl rfl
  | false =>
    cases h2 : Op.bytesLess b a with
    | true => exact .inr (.inr rfl)
    | false => exact .inr (.inl (bl_total h1 h2))
instance (a b : List UInt8) : Decidable (lt a b) := by unfold lt; infer_instance
/-- Keys rise. -/
def Rises (l : List KV) : Prop := l.Pairwise fun a b => lt a.1 b.1
def lset (k v : List UInt8) : List KV → List KV
  | [] => [(k, v)]
  | x :: r => if lt k x.1 then (k, v) :: x :: r else if k = x.1 then (k, v) :: r else x :: lset k v r
def lget (k : List UInt8) : List KV → Option (List UInt8)
  | [] => none
  | x :: r => if x.1 = k then some x.2 else lget k r
def lcut (k : List UInt8) (l : List KV) : List KV := l.filter fun x => !(x.1 == k)
def inB (a b : List UInt8) (x : KV) : Bool := inR x.1 a b
def lrange (a b : List UInt8) (l : List KV) : List KV := l.filter fun x => inR x.1 a b
def lrank (k : List UInt8) (l : List KV) : Nat := (l.filter fun x => Op.bytesLess x.1 k).length
theorem rises_app {A B : List KV} {x : KV} : Rises (A ++ x :: B) ↔ Rises A ∧ Rises B ∧ (∀ a ∈ A, lt a.1 x.1) ∧ (∀ b ∈ B, lt x.1 b.1) ∧ ∀ a ∈ A, ∀ b ∈ B, lt a.1 b.1 := by
  unfold Rises
  rw [List.pairwise_append, List.pairwise_cons]
  constructor
  · rintro ⟨h1, ⟨h2, h3⟩, h4⟩
    exact ⟨h1, h3, fun a ha => h4 a ha x (by simp), h2, fun a ha b hb => h4 a ha b (by simp [hb])⟩
  · rintro ⟨h1, h2, h3, h4, h5⟩
    refine ⟨h1, ⟨h4, h2⟩, fun a ha b hb => ?_⟩
    rcases List.mem_cons.1 hb with rfl | hb
    · exact h3 a ha
    · exact h5 a ha b hb
theorem lset_left (k v : List UInt8) (x : KV) (B : List KV) (hk : lt k x.1) : ∀ A : List KV, (∀ a ∈ A, lt a.1 x.1) → lset k v (A ++ x :: B) = lset k v A ++ x :: B
  | [], _ => by simp [lset, hk]
  | a :: A, h => by
    simp only [List.cons_append, lset]
    split
    · rfl
    · split
      · rfl
      · rw [lset_left k v x B hk A fun b hb => h b (by simp [hb])]; rfl
theorem lset_at (k v : List UInt8) (x : KV) (B : List KV) (hk : k = x.1) : ∀ A : List KV, (∀ a ∈ A, lt a.1 x.1) → lset k v (A ++ x :: B) = A ++ (k, v) :: B
  | [], _ => by subst hk; simp [lset, lt_irrefl]
  | a :: A, h => by
    have h1 := h a (by simp)
    simp only [List.cons_append, lset]
    rw [if_neg (by rw [hk]; exact lt_asymm h1), if_neg (by rw [hk]; exact fun e => lt_ne h1 e.symm), lset_at k v x B hk A fun b hb => h b (by simp [hb])]
theorem lset_right (k v : List UInt8) (x : KV) (B : List KV) (hk : lt x.1 k) : ∀ A : List KV, (∀ a ∈ A, lt a.1 x.1) → lset k v (A ++ x :: B) = A ++ x :: lset k v B
  | [], _ => by simp only [List.nil_append, lset]; rw [if_neg (lt_asymm hk), if_neg fun e => lt_ne hk e.symm]
  | a :: A, h => by
    have h1 := lt_trans (h a (by simp)) hk
    simp only [List.cons_append, lset]
    rw [if_neg (lt_asymm h1), if_neg fun e => lt_ne h1 e.symm, lset_right k v x B hk A fun b hb => h b (by simp [hb])]
theorem lget_none {k : List UInt8} : ∀ {l : List KV}, (∀ x ∈ l, x.1 ≠ k) → lget k l = none
  | [], _ => rfl
  | x :: r, h => by simp only [lget]; rw [if_neg (h x (by simp)), lget_none fun y hy => h y (by simp [hy])]
theorem lget_append (k : List UInt8) : ∀ (A B : List KV), lget k (A ++ B) = (lget k A).or (lget k B)
  | [], B => by simp [lget]
  | a :: A, B => by
    simp only [List.cons_append, lget]
    split
    · rfl
    · exact lget_append k A B
theorem lset_mem {k v : List UInt8} : ∀ {l : List KV} {y : KV}, y ∈ lset k v l → y = (k, v) ∨ y ∈ l
  | [], y, h => by simp [lset] at h; exact .inl h
  | x :: r, y, h => by
    simp only [lset] at h
    split at h
    · rcases List.mem_cons.1 h with h | h
      · exact .inl h
      · exact .inr h
    · split at h
      · rcases List.mem_cons.1 h with h | h
        · exact .inl h
        · exact .inr (by simp [h])
      · rcases List.mem_cons.1 h with h | h
        · exact .inr (by simp [h])
        · rcases lset_mem h with h | h
          · exact .inl h
          · exact .inr (by simp [h])
theorem lset_rises {k v : List UInt8} : ∀ {l : List KV}, Rises l → Rises (lset k v l)
  | [], _ => by simp [lset, Rises]
  | x :: r, h => by
    have h' := List.pairwise_cons.1 h
    simp only [lset]
    split
    · rename_i hk
      refine List.pairwise_cons.2 ⟨fun y hy => ?_, h⟩
      rcases List.mem_cons.1 hy with rfl | hy
      · exact hk
      · exact lt_trans hk (h'.1 y hy)
    · split
      · rename_i hk
        exact List.pairwise_cons.2 ⟨fun y hy => by rw [hk]; exact h'.1 y hy, h'.2⟩
      · rename_i h1 h2
        have hk : lt x.1 k := (lt_cases k x.1).elim (fun h => absurd h h1) fun h => h.elim (fun h => absurd h h2) id
        refine List.pairwise_cons.2 ⟨fun y hy => ?_, lset_rises h'.2⟩
        rcases lset_mem hy with rfl | hy
        · exact hk
        · exact h'.1 y hy
theorem lcut_rises {k : List UInt8} {l : List KV} (h : Rises l) : Rises (lcut k l) := List.Pairwise.sublist List.filter_sublist h
theorem lcut_none {k : List UInt8} {l : List KV} (h : ∀ x ∈ l, x.1 ≠ k) : lcut k l = l := List.filter_eq_self.2 fun x hx => by simpa using h x hx
namespace Tr
def row : Tr → List KV
  | nil => []
  | node k v l r => l.row ++ (k, v) :: r.row
theorem row_len : ∀ (t : Tr), t.row.length = t.size
  | nil => rfl
  | node k v l r => by simp only [row, size, List.length_append, List.length_cons, row_len l, row_len r]; omega
theorem rotR_row (t : Tr) : t.rotR.row = t.row := by
  unfold rotR; split
  · simp [row]
  · rfl
theorem rotL_row (t : Tr) : t.rotL.row = t.row := by
  unfold rotL; split
  · simp [row]
  · rfl
theorem join_row (k v : List UInt8) (l r : Tr) : (join k v l r).row = l.row ++ (k, v) :: r.row := by
  unfold join
  split
  · rw [rotR_row]; split <;> simp only [row, rotL_row]
  · split
    · rw [rotL_row]; split <;> simp only [row, rotR_row]
    · rfl
theorem set_row (k v : List UInt8) : ∀ (t : Tr), Rises t.row → (t.set k v).row = lset k v t.row
  | nil, _ => rfl
  | node k0 v0 l r, h => by
    obtain ⟨h1, h2, h3, h4, _⟩ := rises_app.1 h
    simp only [set, row]
    by_cases hk : Op.bytesLess k k0 = true
    · rw [if_pos hk, join_row, set_row k v l h1, lset_left k v (k0, v0) r.row hk l.row h3]
    · rw [if_neg hk]
      by_cases he : k = k0
      · rw [if_pos he, lset_at k v (k0, v0) r.row he l.row h3]; rfl
      · rw [if_neg he, join_row, set_row k v r h2]
        have hk2 : lt k0 k := (lt_cases k k0).elim (fun h => absurd h hk) fun h => h.elim (fun h => absurd h he) id
        rw [lset_right k v (k0, v0) r.row hk2 l.row h3]
theorem get_row (k : List UInt8) : ∀ (t : Tr), Rises t.row → t.get k = lget k t.row
  | nil, _ => rfl
  | node k0 v0 l r, h => by
    obtain ⟨h1, h2, h3, h4, _⟩ := rises_app.1 h
    simp only [get, row]
    rw [lget_append]
    by_cases he : k0 = k
    · rw [if_pos he, lget_none (l := l.row) fun x hx => by rw [← he]; exact lt_ne (h3 x hx)]
      simp [lget, he]
    · rw [if_neg he]
      by_cases hk : Op.bytesLess k k0 = true
      · rw [if_pos hk, get_row k l h1]
        have : lget k ((k0, v0) :: r.row) = none := lget_none fun x hx => by
          rcases List.mem_cons.1 hx with rfl | hx
          · exact he
          · exact fun e => lt_ne (lt_trans hk (h4 x hx)) e.symm
        rw [this]; cases lget k l.row <;> rfl
      · rw [if_neg hk, get_row k r h2]
        have hk2 : lt k0 k := (lt_cases k k0).elim (fun h => absurd h hk) fun h => h.elim (fun h => absurd h.symm he) id
        rw [lget_none (l := l.row) fun x hx => lt_ne (lt_trans (h3 x hx) hk2)]
        simp [lget, he]
theorem min_row : ∀ (t : Tr), t ≠ nil → ∃ B, t.row = t.min :: B
  | nil, h => absurd rfl h
  | node k v nil r, _ => ⟨r.row, by simp [row, min]⟩
  | node k v (node k2 v2 a b) r, _ => by
    obtain ⟨B, hB⟩ := min_row (node k2 v2 a b) (by simp)
    refine ⟨B ++ (k, v) :: r.row, ?_⟩
    rw [row, hB]
    rfl
theorem cut_row : ∀ (t : Tr) (k : List UInt8), Rises t.row → (t.cut k).row = lcut k t.row
  | nil, k, _ => rfl
  | node k0 v0 l r, k, h => by
    obtain ⟨h1, h2, h3, h4, h5⟩ := rises_app.1 h
    have happ : lcut k (node k0 v0 l r).row = lcut k l.row ++ lcut k ((k0, v0) :: r.row) := by simp [row, lcut]
    rw [cut_node]
    split
    · rename_i hn
      rw [get_row k _ h] at hn
      refine (lcut_none fun x hx e => ?_).symm
      have : ∀ l : List KV, lget k l = none → ∀ x ∈ l, x.1 ≠ k := by
        intro l
        induction l with
        | nil => intro _ x hx; simp at hx
        | cons y r ih =>
          intro hg x hx
          simp only [lget] at hg
          split at hg
          · cases hg
          · rename_i hy
            rcases List.mem_cons.1 hx with rfl | hx
            · exact hy
            · exact ih hg x hx
      exact this _ hn x hx e
    · by_cases hk : Op.bytesLess k k0 = true
      · rw [if_pos hk, join_row, cut_row l k h1, happ]
        congr 1
        refine (lcut_none fun x hx => ?_).symm
        rcases List.mem_cons.1 hx with rfl | hx
        · exact fun e => lt_ne hk e.symm
        · exact fun e => lt_ne (lt_trans hk (h4 x hx)) e.symm
      · rw [if_neg hk]
        by_cases he : k = k0
        · rw [if_pos he, happ]
          have e1 : lcut k l.row = l.row := lcut_none fun x hx => by rw [he]; exact lt_ne (h3 x hx)
          have e2 : lcut k ((k0, v0) :: r.row) = r.row := by
            have : lcut k r.row = r.row := lcut_none fun x hx => by rw [he]; exact fun e => lt_ne (h4 x hx) e.symm
            simp only [lcut, List.filter_cons, he, beq_self_eq_true, Bool.not_true, Bool.false_eq_true, if_false] at this ⊢
            exact this
          rw [e1, e2]
          match l, r with
          | nil, r => simp [row]
          | node a b c d, nil => simp [row]
          | node a b c d, node e f g i =>
            obtain ⟨B, hB⟩ := min_row (node e f g i) (by simp)
            have ih := cut_row (node e f g i) (node e f g i).min.1 h2
            simp only []
            rw [join_row, ih]
            have hr2 := h2
            rw [hB] at hr2
            have hr3 := List.pairwise_cons.1 hr2
            have : lcut (node e f g i).min.1 (node e f g i).row = B := by
              rw [hB]
              have : lcut (node e f g i).min.1 B = B := lcut_none fun x hx => fun e => lt_ne (hr3.1 x hx) e.symm
              simp only [lcut, List.filter_cons, beq_self_eq_true, Bool.not_true, Bool.false_eq_true, if_false] at this ⊢
              exact this
            rw [this, hB]
        · rw [if_neg he, join_row, cut_row r k h2, happ]
          have hk2 : lt k0 k := (lt_cases k k0).elim (fun h => absurd h hk) fun h => h.elim (fun h => absurd h he) id
          have e1 : lcut k l.row = l.row := lcut_none fun x hx => lt_ne (lt_trans (h3 x hx) hk2)
          have e2 : lcut k ((k0, v0) :: r.row) = (k0, v0) :: lcut k r.row := by
            have : (k0 == k) = false := beq_eq_false_iff_ne.2 fun e => he e.symm
            simp [lcut, this]
          rw [e1, e2]
end Tr
end Go.Proofs.Ytbdijekfplpnlaa

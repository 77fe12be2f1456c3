/- Trees: how low they are, whatever is made of them. -/
import Derived.Test.YtbdijekfplpnlaaGo
import Derived.Test.YtbdijekfplpnlaaTr5
namespace Go.Proofs.Ytbdijekfplpnlaa
set_option maxRecDepth 20000
open Go.Awp
theorem lset_mem_iff {k v : List UInt8} : ∀ {l : List KV}, Rises l → ∀ y : KV, y ∈ lset k v l ↔ y = (k, v) ∨ (y ∈ l ∧ y.1 ≠ k)
  | [], _, y => by simp [lset]
  | x :: r, h, y => by
    have hr := List.pairwise_cons.1 h
    unfold lset
    split
    · rename_i hlt
      simp only [List.mem_cons]
      constructor
      · rintro (h1 | h1 | h1)
        · exact .inl h1
        · exact .inr ⟨.inl h1, by rw [h1]; exact fun e => lt_ne hlt e.symm⟩
        · exact .inr ⟨.inr h1, fun e => lt_ne (lt_trans hlt (hr.1 y h1)) e.symm⟩
      · rintro (h1 | ⟨h1 | h1, _⟩)
        · exact .inl h1
        · exact .inr (.inl h1)
        · exact .inr (.inr h1)
    · split
      · rename_i he
        simp only [List.mem_cons]
        constructor
        · rintro (h1 | h1)
          · exact .inl h1
          · exact .inr ⟨.inr h1, fun e => lt_ne (hr.1 y h1) (by rw [e, he])⟩
        · rintro (h1 | ⟨h1 | h1, h2⟩)
          · exact .inl h1
          · exact absurd (by rw [h1, he]) h2
          · exact .inr h1
      · rename_i he
        simp only [List.mem_cons, lset_mem_iff hr.2 y]
        constructor
        · rintro (h1 | h1 | ⟨h1, h2⟩)
          · exact .inr ⟨.inl h1, by rw [h1]; exact fun e => he e.symm⟩
          · exact .inl h1
          · exact .inr ⟨.inr h1, h2⟩
        · rintro (h1 | ⟨h1 | h1, h2⟩)
          · exact .inr (.inl h1)
          · exact .inl h1
          · exact .inr (.inr ⟨h1, h2⟩)
theorem rises_ext : ∀ {l m : List KV}, Rises l → Rises m → (∀ x, x ∈ l ↔ x ∈ m) → l = m
  | [], [], _, _, _ => rfl
  | [], b :: m, _, _, h => by simpa using (h b).2 (by simp)
  | a :: l, [], _, _, h => by simpa using (h a).1 (by simp)
  | a :: l, b :: m, hl, hm, h => by
    have h1 := List.pairwise_cons.1 hl
    have h2 := List.pairwise_cons.1 hm
    have e : a = b := by
      rcases List.mem_cons.1 ((h a).1 (by simp)) with e | ha
      · exact e
      · rcases List.mem_cons.1 ((h b).2 (by simp)) with e | hb
        · exact e.symm
        · exact absurd (h2.1 a ha) (lt_asymm (h1.1 b hb))
    subst e
    rw [rises_ext h1.2 h2.2 fun x => ?_]
    constructor
    · intro hx
      rcases List.mem_cons.1 ((h x).1 (by simp [hx])) with e | hx2
      · subst e; exact absurd (h1.1 x hx) (lt_irrefl _)
      · exact hx2
    · intro hx
      rcases List.mem_cons.1 ((h x).2 (by simp [hx])) with e | hx2
      · subst e; exact absurd (h2.1 x hx) (lt_irrefl _)
      · exact hx2
namespace Tr
/-- Nowhere do the sides' heights differ by more than one. -/
def Bal : Tr → Prop
  | nil => True
  | node _ _ l r => Bal l ∧ Bal r ∧ l.high ≤ r.high + 1 ∧ r.high ≤ l.high + 1
theorem mul_both {p a b : Nat} (h : p ≤ a * a) (k : p ≤ b * b) : p ≤ a * b := by
  rcases Nat.le_total a b with e | e
  · exact Nat.le_trans h (Nat.mul_le_mul_left a e)
  · exact Nat.le_trans k (Nat.mul_le_mul_right b e)
theorem pow_step {a b h : Nat} (ha : 2 ^ h ≤ a * a) (hb : 2 ^ (h - 1) ≤ b * b) (a1 : 1 ≤ a) (b1 : 1 ≤ b) : 2 ^ (1 + h) ≤ (a + b) * (a + b) := by
  have e : (a + b) * (a + b) = a * a + 2 * (a * b) + b * b := by rw [Nat.add_mul, Nat.mul_add, Nat.mul_add, Nat.mul_comm b a]; omega
  rw [e]
  cases h with
  | zero =>
    have := Nat.mul_le_mul a1 a1
    have := Nat.mul_le_mul a1 b1
    have := Nat.mul_le_mul b1 b1
    omega
  | succ h =>
    rw [Nat.add_sub_cancel] at hb
    rw [show 1 + (h + 1) = h + 1 + 1 by omega, Nat.pow_succ, Nat.pow_succ] at *
    have := mul_both (p := 2 ^ h) (a := a) (b := b) (by omega) hb
    omega
theorem bal_pow : ∀ (t : Tr), Bal t → 2 ^ t.high ≤ (t.size + 1) * (t.size + 1)
  | nil, _ => by simp [high, size]
  | node _ _ l r, ⟨h1, h2, h3, h4⟩ => by
    have a := bal_pow l h1
    have b := bal_pow r h2
    rcases Nat.le_total r.high l.high with e | e
    · have := pow_step (h := l.high) a (Nat.le_trans (Nat.pow_le_pow_right (by omega) (by omega)) b) (by omega) (by omega)
      simp only [high, size]
      rw [show max l.high r.high = l.high by omega, show 1 + l.size + r.size + 1 = l.size + 1 + (r.size + 1) by omega]
      exact this
    · have := pow_step (h := r.high) b (Nat.le_trans (Nat.pow_le_pow_right (by omega) (by omega)) a) (by omega) (by omega)
      simp only [high, size]
      rw [show max l.high r.high = r.high by omega, show 1 + l.size + r.size + 1 = r.size + 1 + (l.size + 1) by omega]
      exact this
theorem bal_log {t : Tr} (h : Bal t) : t.high ≤ ((t.size + 1) * (t.size + 1)).log2 := by
  have h0 : (t.size + 1) * (t.size + 1) ≠ 0 := by have := Nat.mul_pos (show 0 < t.size + 1 by omega) (show 0 < t.size + 1 by omega); omega
  exact (Nat.le_log2 h0).2 (bal_pow t h)
theorem join_bal {k v : List UInt8} {l r : Tr} (hl : Bal l) (hr : Bal r) (h1 : l.high ≤ r.high + 2) (h2 : r.high ≤ l.high + 2) :
    Bal (join k v l r) ∧ max l.high r.high ≤ (join k v l r).high ∧ (join k v l r).high ≤ max l.high r.high + 1 ∧ (l.high ≤ r.high + 1 → r.high ≤ l.high + 1 → (join k v l r).high = 1 + max l.high r.high) := by
  unfold join
  by_cases c1 : (node k v l r).lean > 1
  · rw [if_pos c1]
    cases l with
    | nil => simp only [lean, high] at c1; omega
    | node k2 v2 a b =>
      obtain ⟨p1, p2, p3, p4⟩ := hl
      by_cases c2 : (node k2 v2 a b).lean < 0
      · rw [if_pos c2]
        cases b with
        | nil => simp only [lean, high] at c2; omega
        | node k3 v3 b1 b2 =>
          obtain ⟨q1, q2, q3, q4⟩ := p2
          simp only [lean, high] at c1 c2 h1 h2 p3 p4
          simp only [rotL, rotR, Bal, high]
          and_intros <;> first | assumption | trivial | omega | (intros; trivial) | (intros; omega)
      · rw [if_neg c2]
        simp only [lean, high] at c1 c2 h1 h2 p3 p4
        simp only [rotR, Bal, high]
        and_intros <;> first | assumption | trivial | omega | (intros; trivial) | (intros; omega)
  · rw [if_neg c1]
    by_cases c3 : (node k v l r).lean < -1
    · rw [if_pos c3]
      cases r with
      | nil => simp only [lean, high] at c3; omega
      | node k2 v2 a b =>
        obtain ⟨p1, p2, p3, p4⟩ := hr
        by_cases c2 : (node k2 v2 a b).lean > 0
        · rw [if_pos c2]
          cases a with
          | nil => simp only [lean, high] at c2; omega
          | node k3 v3 b1 b2 =>
            obtain ⟨q1, q2, q3, q4⟩ := p1
            simp only [lean, high] at c1 c2 c3 h1 h2 p3 p4
            simp only [rotL, rotR, Bal, high]
            and_intros <;> first | assumption | trivial | omega | (intros; trivial) | (intros; omega)
        · rw [if_neg c2]
          simp only [lean, high] at c1 c2 c3 h1 h2 p3 p4
          simp only [rotL, Bal, high]
          and_intros <;> first | assumption | trivial | omega | (intros; trivial) | (intros; omega)
    · rw [if_neg c3]
      simp only [lean] at c1 c3
      simp only [Bal, high]
      and_intros <;> first | assumption | trivial | omega | (intros; trivial) | (intros; omega)
theorem set_bal (k v : List UInt8) : ∀ (t : Tr), Bal t → Bal (t.set k v) ∧ t.high ≤ (t.set k v).high ∧ (t.set k v).high ≤ t.high + 1
  | nil, _ => by simp [set, Bal, high]
  | node k0 v0 l r, ⟨h1, h2, h3, h4⟩ => by
    obtain ⟨a1, a2, a3⟩ := set_bal k v l h1
    obtain ⟨b1, b2, b3⟩ := set_bal k v r h2
    simp only [set]
    split
    · obtain ⟨j1, j2, j3, j4⟩ := join_bal (k := k0) (v := v0) a1 h2 (by omega) (by omega)
      refine ⟨j1, ?_, ?_⟩ <;> simp only [high] <;> omega
    · split
      · exact ⟨⟨h1, h2, h3, h4⟩, by simp only [high]; omega, by simp only [high]; omega⟩
      · obtain ⟨j1, j2, j3, j4⟩ := join_bal (k := k0) (v := v0) h1 b1 (by omega) (by omega)
        refine ⟨j1, ?_, ?_⟩ <;> simp only [high] <;> omega
theorem cut_bal : ∀ (t : Tr) (k : List UInt8), Bal t → Bal (t.cut k) ∧ (t.cut k).high ≤ t.high ∧ t.high ≤ (t.cut k).high + 1
  | nil, k, _ => by simp [cut, Bal, high]
  | node k0 v0 l r, k, ⟨h1, h2, h3, h4⟩ => by
    obtain ⟨a1, a2, a3⟩ := cut_bal l k h1
    obtain ⟨b1, b2, b3⟩ := cut_bal r k h2
    have h5 := fun k' => cut_bal r k' h2
    unfold cut
    split
    · exact ⟨⟨h1, h2, h3, h4⟩, by omega, by omega⟩
    · split
      · obtain ⟨j1, j2, j3, j4⟩ := join_bal (k := k0) (v := v0) a1 h2 (by omega) (by omega)
        refine ⟨j1, ?_, ?_⟩ <;> simp only [high] <;> omega
      · split
        · split
          · exact ⟨h2, by simp only [high]; omega, by simp only [high] at *; omega⟩
          · exact ⟨h1, by simp only [high]; omega, by simp only [high] at *; omega⟩
          · rename_i a b c d e f g h _
            obtain ⟨c1, c2, c3⟩ := h5 (node e f g h).min.1
            obtain ⟨j1, j2, j3, j4⟩ := join_bal (k := (node e f g h).min.1) (v := (node e f g h).min.2) h1 c1 (by omega) (by omega)
            refine ⟨j1, ?_, ?_⟩ <;> rw [high] <;> omega
        · obtain ⟨j1, j2, j3, j4⟩ := join_bal (k := k0) (v := v0) h1 b1 (by omega) (by omega)
          refine ⟨j1, ?_, ?_⟩ <;> simp only [high] <;> omega
end Tr
end Go.Proofs.Ytbdijekfplpnlaa

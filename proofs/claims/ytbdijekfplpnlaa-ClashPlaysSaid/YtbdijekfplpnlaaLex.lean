/- The order of texts, in plain Lean; what stands behind those that begin so. -/
import Derived.Test.YtbdijekfplpnlaaGo
namespace Go.Proofs.Ytbdijekfplpnlaa
set_option maxRecDepth 20000
open Go.Awp
theorem bl_irrefl : ∀ (a : List UInt8), Op.bytesLess a a = false
  | [] => rfl
  | x :: a => by simp [Op.bytesLess, bl_irrefl a]
theorem bl_nil (a : List UInt8) : Op.bytesLess a [] = false := by cases a <;> rfl
theorem bl_trans : ∀ {a b c : List UInt8}, Op.bytesLess a b = true → Op.bytesLess b c = true → Op.bytesLess a c = true
  | a, b, [], _, h => by rw [bl_nil] at h; cases h
  | a, [], z :: c, h, _ => by rw [bl_nil] at h; cases h
  | [], y :: b, z :: c, _, _ => rfl
  | x :: a, y :: b, z :: c, h1, h2 => by
    simp only [Op.bytesLess, Bool.or_eq_true, Bool.and_eq_true, beq_iff_eq, decide_eq_true_eq] at h1 h2 ⊢
    simp only [UInt8.lt_iff_toNat_lt, ← UInt8.toNat_inj] at h1 h2 ⊢
    rcases h1 with h1 | ⟨h1, h1'⟩ <;> rcases h2 with h2 | ⟨h2, h2'⟩
    · exact .inl (by omega)
    · exact .inl (by omega)
    · exact .inl (by omega)
    · exact .inr ⟨by omega, bl_trans h1' h2'⟩
theorem bl_asymm {a b : List UInt8} (h : Op.bytesLess a b = true) : Op.bytesLess b a = false := by
  cases h2 : Op.bytesLess b a with
  | false => rfl
  | true => have := bl_trans h h2; rw [bl_irrefl] at this; cases this
theorem bl_total : ∀ {a b : List UInt8}, Op.bytesLess a b = false → Op.bytesLess b a = false → a = b
  | [], [], _, _ => rfl
  | [], y :: b, h, _ => by simp [Op.bytesLess] at h
  | x :: a, [], _, h => by simp [Op.bytesLess] at h
  | x :: a, y :: b, h1, h2 => by
    simp only [Op.bytesLess, Bool.or_eq_false_iff, Bool.and_eq_false_iff, beq_eq_false_iff_ne, decide_eq_false_iff_not] at h1 h2
    simp only [UInt8.lt_iff_toNat_lt, ne_eq, ← UInt8.toNat_inj] at h1 h2
    have hxy : x = y := UInt8.toNat_inj.1 (by omega)
    subst hxy
    have e1 : Op.bytesLess a b = false := h1.2.resolve_left (fun h => h rfl)
    have e2 : Op.bytesLess b a = false := h2.2.resolve_left (fun h => h rfl)
    rw [bl_total e1 e2]
/-- Ahead of all that stands behind those that begin so; nothing, if all is 255. -/
def beh : List UInt8 → List UInt8
  | [] => []
  | b :: l => match beh l with
    | [] => if b = 255 then [] else [b + 1]
    | c :: r => b :: c :: r
theorem beh_nil : ∀ {l : List UInt8}, beh l = [] → ∀ k, Op.bytesLess k l = false ↔ l <+: k
  | [], _, k => by simp [bl_nil]
  | b :: l, h, k => by
    simp only [beh] at h
    split at h
    · rename_i hl
      split at h
      · rename_i hb
        subst hb
        cases k with
        | nil => simp [Op.bytesLess]
        | cons x k =>
          have hx := x.toNat_lt
          simp only [Op.bytesLess, List.cons_prefix_cons, Bool.or_eq_false_iff, Bool.and_eq_false_iff, beq_eq_false_iff_ne, decide_eq_false_iff_not, UInt8.lt_iff_toNat_lt, ne_eq, ← UInt8.toNat_inj]
          rw [← beh_nil hl k]
          have : (255 : UInt8).toNat = 255 := rfl
          constructor
          · rintro ⟨h1, h2⟩
            refine ⟨by omega, ?_⟩
            rcases h2 with h2 | h2
            · omega
            · exact h2
          · rintro ⟨h1, h2⟩
            exact ⟨by omega, .inr h2⟩
      · cases h
    · cases h
theorem beh_iff : ∀ {l : List UInt8}, beh l ≠ [] → ∀ k, (Op.bytesLess k l = false ∧ Op.bytesLess k (beh l) = true) ↔ l <+: k
  | [], h, _ => by simp [beh] at h
  | b :: l, h, k => by
    simp only [beh] at h ⊢
    split
    · rename_i hl
      rw [hl] at h
      simp only [] at h
      split
      · rename_i hb; rw [if_pos hb] at h; simp at h
      · rename_i hb
        have hbt := b.toNat_lt
        have hb1 : (b + 1).toNat = b.toNat + 1 := by
          have h2 : b.toNat ≠ 255 := fun e => hb (UInt8.toNat_inj.1 e)
          rw [UInt8.toNat_add]
          have : (1 : UInt8).toNat = 1 := rfl
          omega
        cases k with
        | nil => simp [Op.bytesLess]
        | cons x k =>
          simp only [Op.bytesLess, bl_nil, Bool.and_false, Bool.or_false, List.cons_prefix_cons, Bool.or_eq_false_iff, Bool.and_eq_false_iff, beq_eq_false_iff_ne, decide_eq_false_iff_not, decide_eq_true_eq, UInt8.lt_iff_toNat_lt, ne_eq, ← UInt8.toNat_inj, hb1]
          rw [← beh_nil hl k]
          constructor
          · rintro ⟨⟨h1, h2⟩, h3⟩
            refine ⟨by omega, ?_⟩
            rcases h2 with h2 | h2
            · omega
            · exact h2
          · rintro ⟨h1, h2⟩
            exact ⟨⟨by omega, .inr h2⟩, by omega⟩
    · rename_i c r hl
      cases k with
      | nil => simp [Op.bytesLess]
      | cons x k =>
        have ih := beh_iff (l := l) (by rw [hl]; simp) k
        rw [hl] at ih
        simp only [Op.bytesLess, List.cons_prefix_cons, Bool.or_eq_false_iff, Bool.and_eq_false_iff, beq_eq_false_iff_ne, decide_eq_false_iff_not, Bool.or_eq_true, Bool.and_eq_true, beq_iff_eq, decide_eq_true_eq, UInt8.lt_iff_toNat_lt, ne_eq, ← UInt8.toNat_inj]
        rw [← ih]
        constructor
        · rintro ⟨⟨h1, h2⟩, h3⟩
          have hbx : b.toNat = x.toNat := by omega
          refine ⟨hbx, ?_, ?_⟩
          · rcases h2 with h2 | h2
            · omega
            · exact h2
          · rcases h3 with h3 | h3
            · omega
            · exact h3.2
        · rintro ⟨h1, h2, h3⟩
          exact ⟨⟨by omega, .inr h2⟩, .inr ⟨by omega, h3⟩⟩
theorem beh_rep : ∀ (m : Nat), beh (List.replicate m 255) = []
  | 0 => rfl
  | m + 1 => by simp [List.replicate_succ, beh, beh_rep m]
theorem beh_at : ∀ (p : List UInt8) (b : UInt8) (m : Nat), b ≠ 255 → beh (p ++ b :: List.replicate m 255) = p ++ [b + 1]
  | [], b, m, hb => by simp [beh, beh_rep, hb]
  | x :: p, b, m, hb => by
    have := beh_at p b m hb
    simp only [List.cons_append, beh, this]
    cases p <;> rfl
/-- From where to where. -/
def inR (k a b : List UInt8) : Bool := !Op.bytesLess k a && Op.bytesLess k b
end Go.Proofs.Ytbdijekfplpnlaa

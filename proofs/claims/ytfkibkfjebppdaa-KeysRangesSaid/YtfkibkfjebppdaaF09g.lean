/- What keys are made of, in plain Lean. -/
import Derived.Test.YtfkibkfjebppdaaGo
import Derived.Test.YtfkibkfjebppdaaF09f
namespace Go.Proofs.Ytfkibkfjebppdaa
open Go.Awp
theorem keyH_get {l : List UInt8} (h : ¬ l.length < 5) : keyH (b0 l) (gF l 1) ++ l.drop 5 = l := by
  have e4 : beB 4 (gF l 1) = (l.drop 1).take 4 := by
    have := beB_beV ((l.drop 1).take 4)
    rwa [show ((l.drop 1).take 4).length = 4 by simp; omega] at this
  unfold keyH
  rw [e4]
  match l, h with
  | [], h => simp at h
  | [_], h => simp at h
  | [_, _], h => simp at h
  | [_, _, _], h => simp at h
  | [_, _, _, _], h => simp at h
  | x0 :: x1 :: x2 :: x3 :: x4 :: r, _ => simp [b0]
theorem b0_key (k n : Int) (r : List UInt8) (hk : 0 ≤ k ∧ k ≤ 255) : b0 (keyH k n ++ r) = k := by
  simp [b0, keyH]; omega
theorem gF_key (k n : Int) (r : List UInt8) (hn : 0 ≤ n ∧ n ≤ 4294967295) : gF (keyH k n ++ r) 1 = n := by
  unfold gF keyH
  rw [List.cons_append, List.drop_succ_cons, List.drop_zero, List.take_append_of_le_length (by simp [beB_len]), List.take_of_length_le (by simp [beB_len]), beV_be4 n hn]
theorem drop_key (k n : Int) (r : List UInt8) : (keyH k n ++ r).drop 5 = r := by
  rw [List.drop_append, List.drop_of_length_le (by rw [keyH_len]; exact Nat.le_refl _), keyH_len]; rfl
theorem key_inj {k n k' n' : Int} {r r' : List UInt8} (hk : 0 ≤ k ∧ k ≤ 255) (hk' : 0 ≤ k' ∧ k' ≤ 255) (hn : 0 ≤ n ∧ n ≤ 4294967295) (hn' : 0 ≤ n' ∧ n' ≤ 4294967295) (h : keyH k n ++ r = keyH k' n' ++ r') : k = k' ∧ n = n' ∧ r = r' := by
  refine ⟨?_, ?_, ?_⟩
  · rw [← b0_key k n r hk, h, b0_key k' n' r' hk']
  · rw [← gF_key k n r hn, h, gF_key k' n' r' hn']
  · rw [← drop_key k n r, h, drop_key k' n' r']
theorem key_prefix {k n k' n' : Int} {r' : List UInt8} (hk : 0 ≤ k ∧ k ≤ 255) (hk' : 0 ≤ k' ∧ k' ≤ 255) (hn : 0 ≤ n ∧ n ≤ 4294967295) (hn' : 0 ≤ n' ∧ n' ≤ 4294967295) : keyH k n <+: keyH k' n' ++ r' ↔ k = k' ∧ n = n' := by
  constructor
  · rintro ⟨r, hr⟩
    obtain ⟨h1, h2, _⟩ := key_inj hk hk' hn hn' hr
    exact ⟨h1, h2⟩
  · rintro ⟨rfl, rfl⟩
    exact List.prefix_append _ _
theorem beV_be2 (v : Int) (h : 0 ≤ v ∧ v ≤ 65535) : beV (beB 2 v) = v := by
  obtain ⟨x, rfl⟩ : ∃ x : Nat, v = x := ⟨v.toNat, by omega⟩
  rw [beV_beB, Nat.mod_eq_of_lt (by omega)]
theorem split_inode (n : Int) (hn : 0 ≤ n ∧ n ≤ 4294967295) : splitK (keyH 73 n) = (73, n, [], 0) := by
  have e1 := b0_key 73 n [] (by decide)
  have e2 := gF_key 73 n [] hn
  have e3 := drop_key 73 n []
  rw [List.append_nil] at e1 e2 e3
  unfold splitK
  rw [if_neg (by rw [keyH_len]; decide), if_pos ⟨e1, e3⟩, e2]
theorem split_entry (n : Int) (m : List UInt8) (hn : 0 ≤ n ∧ n ≤ 4294967295) (h1 : m ≠ []) (h2 : m.length ≤ 32) : splitK (keyH 69 n ++ m) = (69, n, m, 0) := by
  unfold splitK
  rw [if_neg (by rw [List.length_append, keyH_len]; omega), b0_key 69 n m (by decide), drop_key, gF_key 69 n m hn, if_neg (by simp), if_pos ⟨rfl, h1, h2⟩]
theorem split_block (n i : Int) (hn : 0 ≤ n ∧ n ≤ 4294967295) (hi : 0 ≤ i ∧ i ≤ 65535) : splitK (keyH 68 n ++ beB 2 i) = (68, n, [], i) := by
  unfold splitK
  rw [if_neg (by rw [List.length_append, keyH_len]; omega), b0_key 68 n _ (by decide), drop_key, gF_key 68 n _ hn, if_neg (by simp), if_neg (by simp), if_pos ⟨rfl, by rw [beB_len]⟩, beV_be2 i hi]
theorem split_cases (l : List UInt8) : splitK l = (0, 0, [], 0) ∨ (∃ n, (0 ≤ n ∧ n ≤ 4294967295) ∧ splitK l = (73, n, [], 0) ∧ l = keyH 73 n) ∨
    (∃ n m, (0 ≤ n ∧ n ≤ 4294967295) ∧ m ≠ [] ∧ m.length ≤ 32 ∧ splitK l = (69, n, m, 0) ∧ l = keyH 69 n ++ m) ∨
    (∃ n i, (0 ≤ n ∧ n ≤ 4294967295) ∧ (0 ≤ i ∧ i ≤ 65535) ∧ splitK l = (68, n, [], i) ∧ l = keyH 68 n ++ beB 2 i) := by
  by_cases h5 : l.length < 5
  · exact .inl (by unfold splitK; rw [if_pos h5])
  have hg := keyH_get h5
  have hb := gF_bd l 1
  by_cases h1 : b0 l = 73 ∧ l.drop 5 = []
  · refine .inr (.inl ⟨gF l 1, hb, by unfold splitK; rw [if_neg h5, if_pos h1], ?_⟩)
    rw [h1.1, h1.2, List.append_nil] at hg
    exact hg.symm
  by_cases h2 : b0 l = 69 ∧ l.drop 5 ≠ [] ∧ (l.drop 5).length ≤ 32
  · refine .inr (.inr (.inl ⟨gF l 1, l.drop 5, hb, h2.2.1, h2.2.2, by unfold splitK; rw [if_neg h5, if_neg h1, if_pos h2], ?_⟩))
    rw [h2.1] at hg
    exact hg.symm
  by_cases h3 : b0 l = 68 ∧ (l.drop 5).length = 2
  · have b2 := beV_2 h3.2
    refine .inr (.inr (.inr ⟨gF l 1, beV (l.drop 5), hb, ⟨b2.1, by omega⟩, by unfold splitK; rw [if_neg h5, if_neg h1, if_neg h2, if_pos h3], ?_⟩))
    have := beB_beV (l.drop 5)
    rw [h3.2] at this
    rw [this, ← h3.1]
    exact hg.symm
  · exact .inl (by unfold splitK; rw [if_neg h5, if_neg h1, if_neg h2, if_neg h3])
theorem bl_append (p a b : List UInt8) : Op.bytesLess (p ++ a) (p ++ b) = Op.bytesLess a b := by
  induction p with
  | nil => rfl
  | cons x p ih => simp [Op.bytesLess, ih]
theorem bl_be2 (i j : Int) (hi : 0 ≤ i ∧ i ≤ 65535) (hj : 0 ≤ j ∧ j ≤ 65535) : Op.bytesLess (beB 2 i) (beB 2 j) = decide (i < j) := by
  have e : ∀ x : Int, 0 ≤ x ∧ x ≤ 65535 → beB 2 x = [UInt8.ofNat (x / 256).toNat, UInt8.ofNat (x % 256).toNat] := fun x hx => by
    simp only [beB]
    congr 3
    · have : x / 256 ^ 1 % 256 = x / 256 := by rw [Int.pow_one]; omega
      omega
    · simp
  rw [e i hi, e j hj]
  simp only [Op.bytesLess, Bool.and_false, Bool.or_false]
  rw [Bool.eq_iff_iff]
  simp only [Bool.or_eq_true, Bool.and_eq_true, decide_eq_true_eq, beq_iff_eq, UInt8.lt_iff_toNat_lt, ← UInt8.toNat_inj]
  simp
  omega
theorem bl_prefix {a k : List UInt8} (h : a <+: k) : Op.bytesLess k a = false := by
  obtain ⟨t, rfl⟩ := h
  have := bl_append a t []
  rw [List.append_nil] at this
  rw [this, bl_nil]
/-- From where to where. -/
def inR (k a b : List UInt8) : Bool := !Op.bytesLess k a && Op.bytesLess k b
theorem inR_beh {a : List UInt8} (h : beh a ≠ []) (k : List UInt8) : inR k a (beh a) = decide (a <+: k) := by
  rw [Bool.eq_iff_iff, decide_eq_true_eq, ← beh_iff h k]
  simp [inR]
theorem inR_block (n : Int) (i : Int) (hi : 0 ≤ i ∧ i ≤ 65535) (k : List UInt8) : inR k (keyH 68 n ++ beB 2 i) (beh (keyH 68 n)) = (decide (keyH 68 n <+: k) && !Op.bytesLess k (keyH 68 n ++ beB 2 i)) := by
  have hb := beh_iff (beh_key 68 n (by decide)) k
  rw [Bool.eq_iff_iff]
  simp only [inR, Bool.and_eq_true, Bool.not_eq_true', decide_eq_true_eq]
  rw [← hb]
  constructor
  · rintro ⟨h1, h2⟩
    refine ⟨⟨?_, h2⟩, h1⟩
    cases h3 : Op.bytesLess k (keyH 68 n) with
    | false => rfl
    | true =>
      have : Op.bytesLess k (keyH 68 n ++ beB 2 i) = true := by
        cases h4 : Op.bytesLess (keyH 68 n) (keyH 68 n ++ beB 2 i) with
        | true => exact bl_trans h3 h4
        | false =>
          have := bl_total h4 (bl_prefix (List.prefix_append _ _))
          rwa [← this]
      rw [this] at h1; cases h1
  · rintro ⟨⟨_, h2⟩, h1⟩
    exact ⟨h1, h2⟩
end Go.Proofs.Ytfkibkfjebppdaa

/- Contracts and plain laws, several texts joined: F10b, Tr2, F10c, CPackBack, CNodePuts, CNodeGets, F09d, F09e. -/
import Derived.Test.YtfnpelogfcnanaaGreatDoorGo
import Derived.Test.YtfnpelogfcnanaaGreatDoorM2
import Derived.Test.YtfnpelogfcnanaaGreatDoorM1
/- tree: join, Get. -/
-- @D
namespace Go.Proofs.YtfnpelogfcnanaaGreatDoor
set_option maxRecDepth 20000
open Go.Awp Tr
set_option maxHeartbeats 4000000 in
theorem tjoin_spec (k v : List UInt8) (l0 r0 l r : Tr) (h : 1 + l.size + r.size ≤ big40) : Con Tryz.prog 97 [W (node k v l0 r0), W l, W r] [] (W (Tr.join k v l r)) [] [] := by
  have c1 := twith_spec k v l0 r0 l r (by omega) (by omega)
  have c2 := tlean_spec k v l r (by omega) (by omega)
  by_cases h1 : (node k v l r).lean > 1
  · match l, h1 with
    | nil, h1 => simp [Tr.lean, Tr.high] at h1; omega
    | node k2 v2 a b, h1 =>
    simp only [Tr.size] at h
    have c3 := tlean_spec k2 v2 a b (by omega) (by omega)
    by_cases h2 : (node k2 v2 a b).lean < 0
    · match b, h2 with
      | nil, h2 => simp [Tr.lean, Tr.high] at h2; omega
      | node k3 v3 b1 b2, h2 =>
      have e : Tr.join k v (node k2 v2 a (node k3 v3 b1 b2)) r = node k3 v3 (node k2 v2 a b1) (node k v b2 r) := by
        unfold Tr.join; rw [if_pos h1, if_pos h2]; rfl
      simp only [Tr.size] at h
      have c4 := trotL_spec k2 v2 a k3 v3 b1 b2 (by simp only [Tr.size]; omega)
      have c5 := twith_spec k v l0 r0 (node k3 v3 (node k2 v2 a b1) b2) r (by simp only [Tr.size]; omega) (by omega)
      have c6 := trotR_spec k v k3 v3 (node k2 v2 a b1) b2 r (by simp only [Tr.size]; omega)
      rw [e]
      refine con_of Tryz.func97 rfl (by kernel_rfl) rfl fun F w0 β0 => ?_
      refine K_tell rfl ?_
      refine go ?_
      refine K_op rfl rfl (opr_callP rfl rfl (c1) rfl rfl rfl rfl) rfl ?_
      refine go ?_
      refine K_op rfl rfl (opr_callP rfl rfl (c2) rfl rfl rfl rfl) rfl ?_
      refine go ?_
      refine K_condT rfl (decide_eq_true h1) ?_
      refine go ?_
      refine K_op rfl rfl (opr_callP rfl rfl (c3) rfl rfl rfl rfl) rfl ?_
      refine go ?_
      refine K_condT rfl (decide_eq_true h2) ?_
      refine go ?_
      refine K_op rfl rfl (opr_callP rfl rfl (c4) rfl rfl rfl rfl) rfl ?_
      refine go ?_
      refine K_op rfl rfl (opr_callP rfl rfl (c5) rfl rfl rfl rfl) rfl ?_
      refine go ?_
      refine K_op rfl rfl (opr_callP rfl rfl (c6) rfl rfl rfl rfl) rfl ?_
      refine go ?_
      exact J_done hT rfl rfl rfl
    · have e : Tr.join k v (node k2 v2 a b) r = node k2 v2 a (node k v b r) := by
        unfold Tr.join; rw [if_pos h1, if_neg h2]; rfl
      have c6 := trotR_spec k v k2 v2 a b r (by simp only [Tr.size]; omega)
      rw [e]
      refine con_of Tryz.func97 rfl (by kernel_rfl) rfl fun F w0 β0 => ?_
      refine K_tell rfl ?_
      refine go ?_
      refine K_op rfl rfl (opr_callP rfl rfl (c1) rfl rfl rfl rfl) rfl ?_
      refine go ?_
      refine K_op rfl rfl (opr_callP rfl rfl (c2) rfl rfl rfl rfl) rfl ?_
      refine go ?_
      refine K_condT rfl (decide_eq_true h1) ?_
      refine go ?_
      refine K_op rfl rfl (opr_callP rfl rfl (c3) rfl rfl rfl rfl) rfl ?_
      refine go ?_
      refine K_condF rfl (decide_eq_false h2) ?_
      refine go ?_
      refine K_op rfl rfl (opr_callP rfl rfl (c6) rfl rfl rfl rfl) rfl ?_
      refine go ?_
      exact J_done hT rfl rfl rfl
  by_cases h3 : (node k v l r).lean < -1
  · match r, h1, h3 with
    | nil, h1, h3 => simp [Tr.lean, Tr.high] at h3; omega
    | node k2 v2 a b, h1, h3 =>
    simp only [Tr.size] at h
    have c3 := tlean_spec k2 v2 a b (by omega) (by omega)
    by_cases h2 : (node k2 v2 a b).lean > 0
    · match a, h2 with
      | nil, h2 => simp [Tr.lean, Tr.high] at h2; omega
      | node k3 v3 b1 b2, h2 =>
      have e : Tr.join k v l (node k2 v2 (node k3 v3 b1 b2) b) = node k3 v3 (node k v l b1) (node k2 v2 b2 b) := by
        unfold Tr.join; rw [if_neg h1, if_pos h3, if_pos h2]; rfl
      simp only [Tr.size] at h
      have c4 := trotR_spec k2 v2 k3 v3 b1 b2 b (by simp only [Tr.size]; omega)
      have c5 := twith_spec k v l0 r0 l (node k3 v3 b1 (node k2 v2 b2 b)) (by omega) (by simp only [Tr.size]; omega)
      have c6 := trotL_spec k v l k3 v3 b1 (node k2 v2 b2 b) (by simp only [Tr.size]; omega)
      rw [e]
      refine con_of Tryz.func97 rfl (by kernel_rfl) rfl fun F w0 β0 => ?_
      refine K_tell rfl ?_
      refine go ?_
      refine K_op rfl rfl (opr_callP rfl rfl (c1) rfl rfl rfl rfl) rfl ?_
      refine go ?_
      refine K_op rfl rfl (opr_callP rfl rfl (c2) rfl rfl rfl rfl) rfl ?_
      refine go ?_
      refine K_condF rfl (decide_eq_false h1) ?_
      refine go ?_
      refine K_condT rfl (decide_eq_true h3) ?_
      refine go ?_
      refine K_op rfl rfl (opr_callP rfl rfl (c3) rfl rfl rfl rfl) rfl ?_
      refine go ?_
      refine K_condT rfl (decide_eq_true h2) ?_
      refine go ?_
      refine K_op rfl rfl (opr_callP rfl rfl (c4) rfl rfl rfl rfl) rfl ?_
      refine go ?_
      refine K_op rfl rfl (opr_callP rfl rfl (c5) rfl rfl rfl rfl) rfl ?_
      refine go ?_
      refine K_op rfl rfl (opr_callP rfl rfl (c6) rfl rfl rfl rfl) rfl ?_
      refine go ?_
      exact J_done hT rfl rfl rfl
    · have e : Tr.join k v l (node k2 v2 a b) = node k2 v2 (node k v l a) b := by
        unfold Tr.join; rw [if_neg h1, if_pos h3, if_neg h2]; rfl
      have c6 := trotL_spec k v l k2 v2 a b (by simp only [Tr.size]; omega)
      rw [e]
      refine con_of Tryz.func97 rfl (by kernel_rfl) rfl fun F w0 β0 => ?_
      refine K_tell rfl ?_
      refine go ?_
      refine K_op rfl rfl (opr_callP rfl rfl (c1) rfl rfl rfl rfl) rfl ?_
      refine go ?_
      refine K_op rfl rfl (opr_callP rfl rfl (c2) rfl rfl rfl rfl) rfl ?_
      refine go ?_
      refine K_condF rfl (decide_eq_false h1) ?_
      refine go ?_
      refine K_condT rfl (decide_eq_true h3) ?_
      refine go ?_
      refine K_op rfl rfl (opr_callP rfl rfl (c3) rfl rfl rfl rfl) rfl ?_
      refine go ?_
      refine K_condF rfl (decide_eq_false h2) ?_
      refine go ?_
      refine K_op rfl rfl (opr_callP rfl rfl (c6) rfl rfl rfl rfl) rfl ?_
      refine go ?_
      exact J_done hT rfl rfl rfl
  · have e : Tr.join k v l r = node k v l r := by
      unfold Tr.join; rw [if_neg h1, if_neg h3]
    rw [e]
    refine con_of Tryz.func97 rfl (by kernel_rfl) rfl fun F w0 β0 => ?_
    refine K_tell rfl ?_
    refine go ?_
    refine K_op rfl rfl (opr_callP rfl rfl (c1) rfl rfl rfl rfl) rfl ?_
    refine go ?_
    refine K_op rfl rfl (opr_callP rfl rfl (c2) rfl rfl rfl rfl) rfl ?_
    refine go ?_
    refine K_condF rfl (decide_eq_false h1) ?_
    refine go ?_
    refine K_condF rfl (decide_eq_false h3) ?_
    refine go ?_
    exact J_done hT rfl rfl rfl
end Go.Proofs.YtfnpelogfcnanaaGreatDoor

/- Trees: Set, Cut, Get, in plain Lean. -/
namespace Go.Proofs.YtfnpelogfcnanaaGreatDoor
set_option maxRecDepth 20000
open Go.Awp
namespace Tr
def set (k v : List UInt8) : Tr → Tr
  | nil => node k v nil nil
  | node k0 v0 l r => if Op.bytesLess k k0 = true then join k0 v0 (l.set k v) r else if k = k0 then node k v l r else join k0 v0 l (r.set k v)
def get (k : List UInt8) : Tr → Option (List UInt8)
  | nil => none
  | node k0 v0 l r => if k0 = k then some v0 else if Op.bytesLess k k0 = true then l.get k else r.get k
theorem set_size (k v : List UInt8) : ∀ (t : Tr), (t.set k v).size ≤ t.size + 1
  | nil => by simp [set, size]
  | node k0 v0 l r => by
    have h1 := set_size k v l
    have h2 := set_size k v r
    simp only [set]
    split
    · rw [join_size]; simp only [size]; omega
    · split
      · simp only [size]; omega
      · rw [join_size]; simp only [size]; omega
/-- The first key, and its value. -/
def min : Tr → List UInt8 × List UInt8
  | nil => ([], [])
  | node k v nil _ => (k, v)
  | node _ _ (node k v l r) _ => (node k v l r).min
def cut : Tr → List UInt8 → Tr
  | nil, _ => nil
  | node k0 v0 l r, k => if (node k0 v0 l r).get k = none then node k0 v0 l r
    else if Op.bytesLess k k0 = true then join k0 v0 (l.cut k) r
    else if k = k0 then (match l, r with
      | nil, r => r
      | node a b c d, nil => node a b c d
      | node a b c d, node e f g h => join (node e f g h).min.1 (node e f g h).min.2 (node a b c d) (cut (node e f g h) (node e f g h).min.1))
    else join k0 v0 l (r.cut k)
theorem cut_node (k0 v0 : List UInt8) (l r : Tr) (k : List UInt8) : (node k0 v0 l r).cut k = if (node k0 v0 l r).get k = none then node k0 v0 l r
    else if Op.bytesLess k k0 = true then join k0 v0 (l.cut k) r
    else if k = k0 then (match l, r with
      | nil, r => r
      | node a b c d, nil => node a b c d
      | node a b c d, node e f g h => join (node e f g h).min.1 (node e f g h).min.2 (node a b c d) (cut (node e f g h) (node e f g h).min.1))
    else join k0 v0 l (r.cut k) := by
  conv => lhs; unfold cut
theorem cut_size : ∀ (t : Tr) (k : List UInt8), (t.cut k).size ≤ t.size
  | nil, k => by simp [cut]
  | node k0 v0 l r, k => by
    have h1 := cut_size l k
    have h2 := cut_size r k
    have h3 := fun k' => cut_size r k'
    unfold cut
    split
    · exact Nat.le_refl _
    · split
      · rw [join_size]; simp only [size]; omega
      · split
        · split
          · simp only [size]; omega
          · simp only [size]; omega
          · rename_i a b c d e f g h _
            rw [join_size]
            have := h3 (node e f g h).min.1
            simp only [size] at this ⊢
            omega
        · rw [join_size]; simp only [size]; omega
end Tr
end Go.Proofs.YtfnpelogfcnanaaGreatDoor

/- tree: Set. -/
-- @D
namespace Go.Proofs.YtfnpelogfcnanaaGreatDoor
set_option maxRecDepth 20000
open Go.Awp Tr
set_option maxHeartbeats 8000000 in
theorem tset_spec (k v : List UInt8) : ∀ (t : Tr), t.size + 2 ≤ big40 → Con Tryz.prog 53 [W t, .p (.str k), .p (.str v)] [] (W (t.set k v)) [] []
  | .nil, h => by
    refine con_of Tryz.func53 rfl (by kernel_rfl) rfl fun F w0 β0 => ?_
    refine K_tell rfl ?_
    refine go ?_
    refine J_freeze_box 6 0 rfl rfl rfl ?_
    refine J_le 6 ((Tr.node k v .nil .nil).av) rfl (pp_le (.cons (.refl _) (.cons (.refl _) (.cons (cell_le rfl) (.cons (cell_le rfl) (.cons (.refl _) (.cons (.refl _) .nil))))))) ?_
    refine J_wrap 6 rfl rfl ?_
    exact J_done hT rfl rfl rfl
  | .node k0 v0 l r, h => by
    simp only [Tr.size] at h
    have hl := set_size k v l
    have hr := set_size k v r
    have c1 := tset_spec k v l (by omega)
    have c2 := tset_spec k v r (by omega)
    have c3 := tjoin_spec k0 v0 l r (l.set k v) r (by omega)
    have c4 := tjoin_spec k0 v0 l r l (r.set k v) (by omega)
    by_cases h1 : Op.bytesLess k k0 = true
    · have e : (node k0 v0 l r).set k v = Tr.join k0 v0 (l.set k v) r := by simp only [Tr.set]; rw [if_pos h1]
      rw [e]
      refine con_of Tryz.func53 rfl (by kernel_rfl) rfl fun F w0 β0 => ?_
      refine K_tell rfl ?_
      refine go ?_
      refine K_condT rfl h1 ?_
      refine J_seq ?_
      refine J_draw [[]] [] (by kernel_rfl) (by kernel_rfl) rfl ?_
      refine gd ?_
      refine T_opD rfl rfl rfl rfl rfl (opr_call0P rfl rfl (c1) rfl rfl rfl) rfl ?_
      refine gd ?_
      refine T_opD rfl rfl rfl rfl rfl (opr_call0P rfl rfl (c3) rfl rfl rfl) rfl ?_
      refine gd ?_
      refine J_then ?_
      refine K_tell rfl ?_
      refine go ?_
      exact J_done hT rfl rfl rfl
    · have h1' : Op.bytesLess k k0 = false := by simpa using h1
      by_cases h2 : k = k0
      · have e : (node k0 v0 l r).set k v = node k v l r := by simp only [Tr.set]; rw [if_neg h1, if_pos h2]
        rw [e]
        refine con_of Tryz.func53 rfl (by kernel_rfl) rfl fun F w0 β0 => ?_
        refine K_tell rfl ?_
        refine go ?_
        refine K_condF rfl h1' ?_
        refine go ?_
        refine K_condF rfl (by simp [h2]) ?_
        refine go ?_
        refine J_draw [[]] [] (by kernel_rfl) (by kernel_rfl) rfl ?_
        refine gd ?_
        refine J_then ?_
        refine K_tell rfl ?_
        refine go ?_
        refine J_wrap 6 rfl rfl ?_
        exact J_done hT rfl rfl rfl
      · have e : (node k0 v0 l r).set k v = Tr.join k0 v0 l (r.set k v) := by simp only [Tr.set]; rw [if_neg h1, if_neg h2]
        rw [e]
        refine con_of Tryz.func53 rfl (by kernel_rfl) rfl fun F w0 β0 => ?_
        refine K_tell rfl ?_
        refine go ?_
        refine K_condF rfl h1' ?_
        refine go ?_
        refine K_condT rfl (by simp [h1', h2]) ?_
        refine J_seq ?_
        refine J_draw [[]] [] (by kernel_rfl) (by kernel_rfl) rfl ?_
        refine gd ?_
        refine T_opD rfl rfl rfl rfl rfl (opr_call0P rfl rfl (c2) rfl rfl rfl) rfl ?_
        refine gd ?_
        refine T_opD rfl rfl rfl rfl rfl (opr_call0P rfl rfl (c4) rfl rfl rfl) rfl ?_
        refine gd ?_
        refine J_then ?_
        refine K_tell rfl ?_
        refine go ?_
        exact J_done hT rfl rfl rfl
end Go.Proofs.YtfnpelogfcnanaaGreatDoor

/- The law PackBack: its contract (under way: the numbers). -/
-- @N
namespace Go.Proofs.YtfnpelogfcnanaaGreatDoor
set_option maxRecDepth 20000
open Go.Awp
theorem beB_snoc (n : Nat) (v : Int) : beB (n + 1) v = beB n (v / 256) ++ [UInt8.ofNat (v % 256).toNat] := by
  rw [← leB_rev, leB3, List.reverse_cons, leB_rev]
theorem beV_beB : ∀ (n x : Nat), beV (beB n (x : Int)) = ((x % 256 ^ n : Nat) : Int)
  | 0, x => by simp [beB, beV, Nat.mod_one]
  | n + 1, x => by
    have ih := beV_beB n (x / 256)
    rw [beB_snoc, beV_snoc, show (x : Int) / 256 = ((x / 256 : Nat) : Int) by omega, ih, Nat.pow_succ, Nat.mul_comm (256 ^ n) 256, Nat.mod_mul]
    have hb : ((UInt8.ofNat ((x : Int) % 256).toNat).toNat : Int) = ((x % 256 : Nat) : Int) := by simp; omega
    rw [hb]
    simp only [Int.natCast_add, Int.natCast_mul]
    omega
namespace packBack
end packBack
end Go.Proofs.YtfnpelogfcnanaaGreatDoor

/- The law NodePuts: its contract. -/
namespace Go.Proofs.YtfnpelogfcnanaaGreatDoor
set_option maxRecDepth 20000
open Go.Awp
theorem beV_be4 (v : Int) (h : 0 ≤ v ∧ v ≤ 4294967295) : beV (beB 4 v) = v := by
  obtain ⟨x, rfl⟩ : ∃ x : Nat, v = x := ⟨v.toNat, by omega⟩
  rw [beV_beB, Nat.mod_eq_of_lt (by omega)]
theorem gF_node (k l s p : Int) (hl : 0 ≤ l ∧ l ≤ 4294967295) (hs : 0 ≤ s ∧ s ≤ 4294967295) (hp : 0 ≤ p ∧ p ≤ 4294967295) :
    gF (nodeB k l s p) 1 = l ∧ gF (nodeB k l s p) 5 = s ∧ gF (nodeB k l s p) 9 = p := by
  refine ⟨?_, ?_, ?_⟩
  · unfold gF nodeB
    rw [List.append_assoc, List.append_assoc, List.drop_append_of_le_length (by simp), List.drop_of_length_le (by simp), List.nil_append, List.take_append_of_le_length (by simp [beB_len]), List.take_of_length_le (by simp [beB_len]), beV_be4 l hl]
  · unfold gF nodeB
    rw [List.append_assoc, List.drop_append, List.drop_of_length_le (by simp [beB_len]), List.nil_append, show 5 - ([UInt8.ofNat k.toNat] ++ beB 4 l).length = 0 by simp [beB_len], List.drop_zero, List.take_append_of_le_length (by simp [beB_len]), List.take_of_length_le (by simp [beB_len]), beV_be4 s hs]
  · unfold gF nodeB
    rw [List.drop_append, List.drop_of_length_le (by simp [beB_len]), List.nil_append, show 9 - ([UInt8.ofNat k.toNat] ++ beB 4 l ++ beB 4 s).length = 0 by simp [beB_len], List.drop_zero, List.take_of_length_le (by simp [beB_len]), beV_be4 p hp]
theorem b0_node (k l s p : Int) (hk : 0 ≤ k ∧ k ≤ 255) : b0 (nodeB k l s p) = k := by
  simp [b0, nodeB]; omega
namespace nodePuts
end nodePuts
end Go.Proofs.YtfnpelogfcnanaaGreatDoor

/- The law NodeGets: its contract. -/
namespace Go.Proofs.YtfnpelogfcnanaaGreatDoor
set_option maxRecDepth 20000
open Go.Awp
namespace nodeGets
end nodeGets
end Go.Proofs.YtfnpelogfcnanaaGreatDoor

/- keys.behind, Entries, Blocks. -/
namespace Go.Proofs.YtfnpelogfcnanaaGreatDoor
set_option maxRecDepth 20000
open Go.Awp
structure BehI (l : List UInt8) where
  i : Nat
  h : i < l.length
  d : l.drop (i + 1) = List.replicate (l.length - (i + 1)) 255
def behE (l : List UInt8) (s : BehI l) : Env := [(3, .sl (.l 0) l.length 0 l.length), (4, .p (.int .i64 (s.i : Int)))]
def behR (l : List UInt8) (s : BehI l) : List UInt8 := l.take (s.i + 1) ++ List.replicate (l.length - (s.i + 1)) 0
theorem behR_len (l : List UInt8) (s : BehI l) : (behR l s).length = l.length := by
  have := s.h
  simp [behR]; omega
theorem behR_get (l : List UInt8) (s : BehI l) : (behR l s)[s.i]? = some (l[s.i]'s.h) := by
  have := s.h
  unfold behR
  rw [List.getElem?_append_left (by simp; omega), List.getElem?_take, if_pos (by omega), List.getElem?_eq_getElem]
theorem behR_set (l : List UInt8) (s : BehI l) (b : UInt8) : (behR l s).set s.i b = l.take s.i ++ b :: List.replicate (l.length - (s.i + 1)) 0 := by
  have := s.h
  unfold behR
  rw [List.take_succ_eq_append_getElem s.h, List.append_assoc, List.set_append_right _ _ (by simp; omega)]
  simp [Nat.min_eq_left (Nat.le_of_lt this)]
theorem wrap_u8 (b : UInt8) : IntKind.u8.wrap ((b.toNat : Int) + 1) = ((b + 1).toNat : Int) := by
  have h := b.toNat_lt
  simp [IntKind.wrap, IntKind.bits, IntKind.signed, UInt8.toNat_add]
set_option maxHeartbeats 4000000 in
theorem behind_spec (l : List UInt8) (hl : l.length ≤ 140737488355328) (hb : beh l ≠ []) : Con Tryz.prog 127 [.p (.str l)] [] (.p (.str (beh l))) [] [] := by
  have hpos : 0 < l.length := by
    cases l with
    | nil => simp [beh] at hb
    | cons b l => simp
  refine con_of Tryz.func127 rfl (by kernel_rfl) rfl fun F w0 β0 => ?_
  refine K_tell rfl ?_
  refine g0 ?_
  refine K_op rfl rfl (opr_bytes_own hT rfl rfl rfl rfl rfl hl) rfl ?_
  refine go ?_
  refine K_op rfl rfl (opr_len_rd hT rfl rfl (Rd.full rfl (bv_length l))) rfl ?_
  rw [bv_length]
  refine go ?_
  have e4 : IntKind.i64.wrap ((l.length : Int) - 1) = ((l.length - 1 : Nat) : Int) := by rw [IntWalk.i64_in _ (by omega)]; omega
  refine J_loop (behE l) (fun _ => []) (fun s => [.arr 5 false 1 (bv (behR l s))]) (fun s => s.i) ⟨l.length - 1, by omega, ?_⟩ ⟨rfl, congrArg (fun z => TV.p (.int .i64 z)) e4, trivial⟩ rfl ?_ (fun s => ?_)
  · rw [List.drop_of_length_le (by omega)]; simp [show l.length - (l.length - 1 + 1) = 0 by omega]
  · show [AObj.arr _ false 1 (bv (l.take (l.length - 1 + 1) ++ _))] = _
    simp [show l.length - (l.length - 1 + 1) = 0 by omega, List.take_of_length_le (show l.length ≤ l.length - 1 + 1 by omega)]
  have hs := s.h
  have hlen : (bv (behR l s)).length = l.length := by rw [bv_length, behR_len]
  have hg : (bv (behR l s))[s.i]? = some (.int .u8 ((l[s.i]'hs).toNat : Int)) := by rw [bv_get, behR_get]; rfl
  have hlt : ((s.i : Nat) : Int) < ((bv (behR l s)).length : Int) := by rw [hlen]; omega
  have hset : (bv (behR l s)).set (0 + s.i) (.int .u8 (IntKind.u8.wrap (((l[s.i]'hs).toNat : Int) + 1))) = bv (l.take s.i ++ (l[s.i]'hs + 1) :: List.replicate (l.length - (s.i + 1)) 0) := by
    rw [wrap_u8, Nat.zero_add, bv_set, behR_set]
  have hlen2 : (bv (l.take s.i ++ (l[s.i]'hs + 1) :: List.replicate (l.length - (s.i + 1)) 0)).length = l.length := by rw [bv_length]; simp; omega
  have hg2 : (bv (l.take s.i ++ (l[s.i]'hs + 1) :: List.replicate (l.length - (s.i + 1)) 0))[s.i]? = some (.int .u8 ((l[s.i]'hs + 1).toNat : Int)) := by
    rw [bv_get, List.getElem?_append_right (by simp; omega)]
    simp [Nat.min_eq_left (Nat.le_of_lt hs)]
  have hlt2 : ((s.i : Nat) : Int) < ((bv (l.take s.i ++ (l[s.i]'hs + 1) :: List.replicate (l.length - (s.i + 1)) 0)).length : Int) := by rw [hlen2]; omega
  unfold behE
  refine go ?_
  refine K_op rfl rfl (opr_index hT rfl rfl rfl rfl rfl (Rd.full rfl hlen) (by omega) hlt) rfl ?_
  refine K_op rfl rfl (opr_load_el hT rfl rfl (Rd.full rfl hlen) (by rw [Int.toNat_natCast]; exact hg) rfl rfl) rfl ?_
  refine go ?_
  refine K_op rfl rfl (opr_index hT rfl rfl rfl rfl rfl (Rd.full rfl hlen) (by omega) hlt) rfl ?_
  refine K_op rfl rfl (opr_storeEl1 hT rfl rfl rfl hlen rfl rfl rfl rfl) rfl ?_
  refine go ?_
  rw [Int.toNat_natCast, hset]
  refine K_op rfl rfl (opr_index hT rfl rfl rfl rfl rfl (Rd.full rfl hlen2) (by omega) hlt2) rfl ?_
  refine K_op rfl rfl (opr_load_el hT rfl rfl (Rd.full rfl hlen2) (by rw [Int.toNat_natCast]; exact hg2) rfl rfl) rfl ?_
  refine go ?_
  by_cases h255 : l[s.i]'hs = 255
  · have h0 : l[s.i]'hs + 1 = 0 := by rw [h255]; rfl
    have hip : 0 < s.i := by
      rcases Nat.eq_zero_or_pos s.i with h | h
      · exfalso
        refine hb ?_
        have hd := s.d
        have e : l = List.replicate l.length 255 := by
          have : l = l[s.i]'hs :: l.drop (s.i + 1) := by
            rw [← List.drop_eq_getElem_cons hs, h]; rfl
          rw [hd, h255, h] at this
          rw [this]
          simp [List.replicate_succ]
        rw [e]
        exact beh_rep _
      · exact h
    rw [h0]
    refine J_false 22 rfl rfl ?_
    refine K_condF rfl rfl ?_
    refine go ?_
    refine J_again ⟨s.i - 1, by omega, ?_⟩ (show s.i - 1 < s.i by omega) ⟨rfl, congrArg (fun z => TV.p (.int .i64 z)) ?_, trivial⟩ rfl ?_
    · rw [show s.i - 1 + 1 = s.i by omega, List.drop_eq_getElem_cons hs, s.d, h255, ← List.replicate_succ]
      congr 1
      omega
    · show IntKind.i64.wrap ((s.i : Int) - 1) = ((s.i - 1 : Nat) : Int)
      rw [IntWalk.i64_in _ (by omega)]; omega
    · show [AObj.arr _ _ _ (bv _)] = [AObj.arr _ _ _ (bv _)]
      congr 3
      show l.take (s.i - 1 + 1) ++ List.replicate (l.length - (s.i - 1 + 1)) 0 = _
      rw [show s.i - 1 + 1 = s.i by omega, show l.length - s.i = l.length - (s.i + 1) + 1 by omega, List.replicate_succ]
  · have hne : ((l[s.i]'hs + 1).toNat : Int) ≠ 0 := by
      have hlt := (l[s.i]'hs).toNat_lt
      have h2 : (l[s.i]'hs).toNat ≠ 255 := fun e => h255 (UInt8.toNat_inj.1 e)
      rw [UInt8.toNat_add]
      have : (1 : UInt8).toNat = 1 := rfl
      omega
    have hbe : beh l = l.take s.i ++ [l[s.i]'hs + 1] := by
      have e : l = l.take s.i ++ l[s.i]'hs :: List.replicate (l.length - (s.i + 1)) 255 := by
        rw [← s.d, ← List.drop_eq_getElem_cons hs, List.take_append_drop]
      have := beh_at (l.take s.i) (l[s.i]'hs) (l.length - (s.i + 1)) h255
      rwa [← e] at this
    have ecut : ((bv (l.take s.i ++ (l[s.i]'hs + 1) :: List.replicate (l.length - (s.i + 1)) 0)).drop 0).take (s.i + 1 - 0) = bv (beh l) := by
      rw [hbe, List.drop_zero, bv_take]
      congr 1
      rw [List.take_append, List.take_of_length_le (by simp; omega)]
      simp [Nat.min_eq_left (Nat.le_of_lt hs)]
    have e25 : IntKind.i64.wrap ((s.i : Int) + 1) = ((s.i + 1 : Nat) : Int) := by rw [IntWalk.i64_in _ (by omega)]; omega
    refine J_true 22 rfl (by simpa using hne) ?_
    refine K_condT rfl rfl ?_
    refine go ?_
    refine J_val 25 _ rfl (congrArg (fun z => TV.p (.int .i64 z)) e25) ?_
    refine K_op rfl rfl (opr_cut hT rfl rfl rfl rfl (Rd.full rfl hlen2) rfl rfl (by decide) (by omega) (by rw [hlen2]; omega) (bv_size _)) rfl ?_
    have hrd : Rd [] [AObj.arr 5 false 1 (bv (l.take s.i ++ (l[s.i]'hs + 1) :: List.replicate (l.length - (s.i + 1)) 0))] (.sl (.l 0) l.length (0 + Int.toNat 0) ((((s.i + 1 : Nat)) : Int).toNat - Int.toNat 0)) (bv (beh l)) := by
      rw [← ecut]
      exact Rd.sl rfl hlen2
    refine K_op rfl rfl (opr_to_str (l := beh l) hT rfl rfl rfl rfl rfl hrd) rfl ?_
    refine go ?_
    exact J_done hT rfl rfl rfl
theorem beh_key (k n : Int) (hk : 0 ≤ k ∧ k < 255) : beh (keyH k n) ≠ [] := by
  have hb : UInt8.ofNat k.toNat ≠ 255 := fun e => by
    have := congrArg UInt8.toNat e
    simp at this
    omega
  unfold keyH
  simp only [beh]
  split
  · rw [if_neg hb]; simp
  · simp
theorem entries_spec (n : Int) (hn : 0 ≤ n ∧ n ≤ 4294967295) : Con Tryz.prog 98 [.p (.int .u32 n)] [] (.tup [.p (.str (keyH 69 n)), .p (.str (beh (keyH 69 n)))]) [] [] := by
  have c1 := kof_spec 69 n (by decide) hn []
  have c2 := behind_spec (keyH 69 n) (by rw [keyH_len]; decide) (beh_key 69 n (by decide))
  refine con_of Tryz.func98 rfl (by kernel_rfl) rfl fun F w0 β0 => ?_
  refine K_tell rfl ?_
  refine go ?_
  refine K_op rfl rfl (opr_callP rfl rfl (c1) rfl rfl rfl rfl) rfl ?_
  refine K_op rfl rfl (opr_to_str (l := keyH 69 n) hT rfl rfl rfl rfl rfl (.ps _)) rfl ?_
  refine go ?_
  refine K_op rfl rfl (opr_callP rfl rfl (c2) rfl rfl rfl rfl) rfl ?_
  refine go ?_
  exact J_done hT rfl rfl rfl
def blocksV (n from_ : Int) : List UInt8 := if from_ > 65535 then beh (keyH 68 n) else blockK n (max from_ 0)
theorem mm_max (a : Int) : mmA .max a 0 = max a 0 := by unfold mmA; simp only []; split <;> omega
theorem blocks9_spec (n i : Int) (hn : 0 ≤ n ∧ n ≤ 4294967295) : Con Tryz.prog 111 [.p (.int .u32 n), .p (.int .i64 i)] [] (.tup [.p (.str (blocksV n i)), .p (.str (beh (keyH 68 n)))]) [] [] := by
  have c1 := kof_spec 68 n (by decide) hn []
  have c2 := behind_spec (keyH 68 n) (by rw [keyH_len]; decide) (beh_key 68 n (by decide))
  have c3 := kblock_spec n (max i 0) hn []
  refine con_of Tryz.func111 rfl (by kernel_rfl) rfl fun F w0 β0 => ?_
  refine K_tell rfl ?_
  refine go ?_
  refine K_op rfl rfl (opr_callP rfl rfl (c1) rfl rfl rfl rfl) rfl ?_
  refine K_op rfl rfl (opr_to_str (l := keyH 68 n) hT rfl rfl rfl rfl rfl (.ps _)) rfl ?_
  refine go ?_
  refine K_op rfl rfl (opr_callP rfl rfl (c2) rfl rfl rfl rfl) rfl ?_
  refine go ?_
  refine J_cond rfl (fun h => ?_) (fun h => ?_)
  · have h1 : i > 65535 := of_decide_eq_true h
    have e : blocksV n i = beh (keyH 68 n) := by unfold blocksV; rw [if_pos h1]
    rw [e]
    refine go ?_
    exact J_done hT rfl rfl rfl
  · have h1 : ¬ i > 65535 := of_decide_eq_false h
    have e : blocksV n i = blockK n (max i 0) := by unfold blocksV; rw [if_neg h1]
    rw [e]
    refine go ?_
    refine J_val 17 _ rfl (congrArg (fun z => TV.p (.int .i64 z)) (mm_max i)) ?_
    refine K_op rfl rfl (opr_callP rfl rfl (c3) rfl rfl rfl rfl) rfl ?_
    refine go ?_
    exact J_done hT rfl rfl rfl
end Go.Proofs.YtfnpelogfcnanaaGreatDoor

/- keys.Split and the reference's. -/
namespace Go.Proofs.YtfnpelogfcnanaaGreatDoor
set_option maxRecDepth 20000
open Go.Awp
/-- What a text was made of. -/
def splitK (l : List UInt8) : Int × Int × List UInt8 × Int :=
  if l.length < 5 then (0, 0, [], 0) else
  if b0 l = 73 ∧ l.drop 5 = [] then (73, gF l 1, [], 0) else
  if b0 l = 69 ∧ l.drop 5 ≠ [] ∧ (l.drop 5).length ≤ 32 then (69, gF l 1, l.drop 5, 0) else
  if b0 l = 68 ∧ (l.drop 5).length = 2 then (68, gF l 1, [], beV (l.drop 5)) else (0, 0, [], 0)
def splitT (r : Int × Int × List UInt8 × Int) : TV := .tup [.p (.int .u8 r.1), .p (.int .u32 r.2.1), .p (.str r.2.2.1), .p (.int .i64 r.2.2.2)]
theorem b0_get {l : List UInt8} (h : ¬ l.length < 5) : l[0]? = some (l.headD 0) := by
  cases l with
  | nil => simp at h
  | cons b r => rfl
set_option maxHeartbeats 4000000 in
theorem rsplit_spec (l : List UInt8) (hl : l.length ≤ 140737488355328) : Con Tryz.prog 20 [.p (.str l)] [] (splitT (splitK l)) [] [] := by
  by_cases h5 : l.length < 5
  · have e : splitK l = (0, 0, [], 0) := by unfold splitK; rw [if_pos h5]
    rw [e]
    refine con_of Tryz.func20 rfl (by kernel_rfl) rfl fun F w0 β0 => ?_
    refine K_tell rfl ?_
    refine go ?_
    refine J_true 12 rfl (by simp; omega) ?_
    refine go ?_
    exact J_done hT rfl rfl rfl
  have c1 := rget4 l 1 (by omega) hl
  have g1 := gF_bd l 1
  have hb := b0_get h5
  have hb0 : b0 l = ((l.headD 0).toNat : Int) := rfl
  have hcut : (l.drop (5 : Int).toNat).take ((l.length : Int).toNat - (5 : Int).toNat) = l.drop 5 := List.take_of_length_le (by simp)
  have w1 : IntKind.u32.wrap (gF l 1) = gF l 1 := u32_in _ g1
  generalize hx : ((l.headD 0).toNat : Int) = x at hb0
  have hb1 : TV.p (AV.int .u8 ((l.headD 0).toNat : Int)) = .p (.int .u8 x) := by rw [hx]
  refine con_of Tryz.func20 rfl (by kernel_rfl) rfl fun F w0 β0 => ?_
  refine K_tell rfl ?_
  refine go ?_
  refine J_false 12 rfl (by simp; omega) ?_
  refine go ?_
  refine K_op rfl rfl (opr_callP rfl rfl (c1) rfl rfl rfl rfl) rfl ?_
  refine go ?_
  refine K_op rfl rfl (opr_cut_str hT rfl rfl rfl rfl rfl (by decide) (by show (5 : Int) ≤ _; omega) (by omega)) rfl ?_
  refine J_val 21 (.p (.str (l.drop 5))) rfl (congrArg (fun z => TV.p (.str z)) hcut) ?_
  refine go ?_
  refine K_op rfl rfl (opr_byte hT rfl rfl rfl rfl (by decide) hb) rfl ?_
  refine J_val 23 _ rfl hb1 ?_
  refine go ?_
  refine J_cond rfl (fun hc => ?_) (fun hc => ?_)
  · have hc0 : x = 73 := by simpa using hc
    refine go ?_
    refine J_cond rfl (fun hd => ?_) (fun hd => ?_)
    · have hc1 : x = 73 ∧ l.drop 5 = [] := by
        refine ⟨hc0, List.eq_nil_of_length_eq_zero ?_⟩
        have := of_decide_eq_true hd
        omega
      have e : splitK l = (73, gF l 1, [], 0) := by unfold splitK; rw [if_neg h5, hb0, if_pos hc1]
      rw [e]
      refine go ?_
      refine J_val 3 _ rfl (congrArg (fun z => TV.p (.int .u32 z)) w1) ?_
      exact J_done hT rfl rfl rfl
    · have hne : l.drop 5 ≠ [] := by
        intro h
        rw [h] at hd
        simp at hd
      have e : splitK l = (0, 0, [], 0) := by unfold splitK; rw [if_neg h5, hb0, hc0]; simp [hne]
      rw [e]
      refine go ?_
      exact J_done hT rfl rfl rfl
  have hc0 : ¬ x = 73 := by simpa using hc
  refine go ?_
  refine J_cond rfl (fun hd => ?_) (fun hd => ?_)
  · have hd0 : x = 69 := by simpa using hd
    refine go ?_
    refine J_cond rfl (fun he => ?_) (fun he => ?_)
    · have hd1 : x = 69 ∧ l.drop 5 ≠ [] ∧ (l.drop 5).length ≤ 32 := by
        simp only [Bool.and_eq_true, decide_eq_true_eq] at he
        refine ⟨hd0, fun h => ?_, by omega⟩
        rw [h] at he
        simp at he
      have e : splitK l = (69, gF l 1, l.drop 5, 0) := by unfold splitK; rw [if_neg h5, hb0, if_neg (by omega), if_pos hd1]
      rw [e]
      refine go ?_
      refine J_val 3 _ rfl (congrArg (fun z => TV.p (.int .u32 z)) w1) ?_
      exact J_done hT rfl rfl rfl
    · have hd1 : ¬ (x = 69 ∧ l.drop 5 ≠ [] ∧ (l.drop 5).length ≤ 32) := by
        intro h
        simp only [Bool.and_eq_false_iff, decide_eq_false_iff_not] at he
        have : 0 < (l.drop 5).length := List.length_pos_iff.2 h.2.1
        omega
      have e : splitK l = (0, 0, [], 0) := by unfold splitK; rw [if_neg h5, hb0, if_neg (by omega), if_neg hd1, if_neg (by omega)]
      rw [e]
      refine go ?_
      exact J_done hT rfl rfl rfl
  have hd0 : ¬ x = 69 := by simpa using hd
  refine go ?_
  refine J_cond rfl (fun he => ?_) (fun he => ?_)
  · have he0 : x = 68 := by simpa using he
    refine go ?_
    refine J_cond rfl (fun hf => ?_) (fun hf => ?_)
    · have he1 : x = 68 ∧ (l.drop 5).length = 2 := by
        have := of_decide_eq_true hf
        exact ⟨he0, by omega⟩
      have e : splitK l = (68, gF l 1, [], beV (l.drop 5)) := by unfold splitK; rw [if_neg h5, hb0, if_neg (by omega), if_neg (by omega), if_pos he1]
      rw [e]
      have h2 := he1.2
      generalize l.drop 5 = m at h2
      match m, h2 with
      | [u, v], _ =>
      have hu := u.toNat_lt
      have hv := v.toNat_lt
      have ev : IntKind.i64.wrap (IntKind.i64.wrap (256 * IntKind.i64.wrap (u.toNat : Int)) + IntKind.i64.wrap (v.toNat : Int)) = beV [u, v] := by
        rw [IntWalk.i64_in (u.toNat : Int) (by omega), IntWalk.i64_in (v.toNat : Int) (by omega), IntWalk.i64_in (256 * (u.toNat : Int)) (by omega), IntWalk.i64_in _ (by omega)]
        simp [beV]
      refine K_only [2, 3, 4, 5, 6, 9] rfl ?_
      refine J_seq ?_
      refine J_draw [[]] [] (by kernel_rfl) (by kernel_rfl) rfl ?_
      repeat (first | refine T_nil ?_ | refine T_no rfl rfl rfl rfl ?_ | refine T_yes rfl rfl rfl rfl rfl rfl (stepN_ok hT rfl) rfl ?_ | refine T_op rfl rfl rfl rfl rfl (stepN_ok hT rfl) rfl ?_)
      refine T_op rfl rfl rfl rfl rfl (opr_byte (b := u) hT rfl rfl rfl rfl (by decide) rfl) rfl ?_
      repeat (first | refine T_nil ?_ | refine T_no rfl rfl rfl rfl ?_ | refine T_yes rfl rfl rfl rfl rfl rfl (stepN_ok hT rfl) rfl ?_ | refine T_op rfl rfl rfl rfl rfl (stepN_ok hT rfl) rfl ?_)
      refine T_op rfl rfl rfl rfl rfl (opr_byte (b := v) hT rfl rfl rfl rfl (by decide) rfl) rfl ?_
      repeat (first | refine T_nil ?_ | refine T_no rfl rfl rfl rfl ?_ | refine T_yes rfl rfl rfl rfl rfl rfl (stepN_ok hT rfl) rfl ?_ | refine T_op rfl rfl rfl rfl rfl (stepN_ok hT rfl) rfl ?_)
      refine J_then ?_
      refine K_tell rfl ?_
      refine go ?_
      refine J_val 3 _ rfl (congrArg (fun z => TV.p (.int .u32 z)) w1) ?_
      refine J_val 5 _ rfl (congrArg (fun z => TV.p (.int .i64 z)) ev) ?_
      exact J_done hT rfl rfl rfl
    · have he1 : ¬ (x = 68 ∧ (l.drop 5).length = 2) := by
        intro h
        have := of_decide_eq_false hf
        omega
      have e : splitK l = (0, 0, [], 0) := by unfold splitK; rw [if_neg h5, hb0, if_neg (by omega), if_neg (by omega), if_neg he1]
      rw [e]
      refine go ?_
      exact J_done hT rfl rfl rfl
  · have he0 : ¬ x = 68 := by simpa using he
    have e : splitK l = (0, 0, [], 0) := by unfold splitK; rw [if_neg h5, hb0, if_neg (by omega), if_neg (by omega), if_neg (by omega)]
    rw [e]
    refine go ?_
    exact J_done hT rfl rfl rfl
end Go.Proofs.YtfnpelogfcnanaaGreatDoor

/- The law NodePuts: its contract. -/
import Derived.Test.YtfkibkfjebppdaaGo
import Derived.Test.YtfkibkfjebppdaaF15g
import Derived.Test.YtfkibkfjebppdaaCPackBack
namespace Go.Proofs.Ytfkibkfjebppdaa
open Go.Awp
theorem beV_be4 (v : Int) (h : 0 ≤ v ∧ v ≤ 4294967295) : beV (beB 4 v) = v := by
  obtain ⟨x, rfl⟩ : ∃ x : Nat, v = x := ⟨v.toNat, by omega⟩
  rw [beV_beB, Nat.mod_eq_of_lt (by omega)]
theorem nodeB_len (k l s p : Int) : (nodeB k l s p).length = 13 := by simp [nodeB, beB_len]
theorem gF_node (k l s p : Int) (hl : 0 ≤ l ∧ l ≤ 4294967295) (hs : 0 ≤ s ∧ s ≤ 4294967295) (hp : 0 ≤ p ∧ p ≤ 4294967295) :
    gF (nodeB k l s p) 1 = l ∧ gF (nodeB k l s p) 5 = s ∧ gF (nodeB k l s p) 9 = p := by
  refine ⟨?_, ?_, ?_⟩
  · unfold gF nodeB
    rw [List.append_assoc, List.append_assoc, List.drop_append_of_le_length (by simp), List.drop_of_length_le (by simp), List.nil_append, List.take_append_of_le_length (by simp [beB_len]), List.take_of_length_le (by simp [beB_len]), beV_be4 l hl]
  · unfold gF nodeB
    rw [List.append_assoc, List.drop_append, List.drop_of_length_le (by simp [beB_len]), List.nil_append, show 5 - ([UInt8.ofNat k.toNat] ++ beB 4 l).length = 0 by simp [beB_len], List.drop_zero, List.take_append_of_le_length (by simp [beB_len]), List.take_of_length_le (by simp [beB_len]), beV_be4 s hs]
  · unfold gF nodeB
    rw [List.drop_append, List.drop_of_length_le (by simp [beB_len]), List.nil_append, show 9 - ([UInt8.ofNat k.toNat] ++ beB 4 l ++ beB 4 s).length = 0 by simp [beB_len], List.drop_zero, List.take_of_length_le (by simp [beB_len]), beV_be4 p hp]
theorem b0_node (k l s p : Int) (hk : 0 ≤ k ∧ k ≤ 255) : b0 (nodeB k l s p) = k := by
  simp [b0, nodeB]; omega
theorem getNode_put (k l s p : Int) (hk : 0 ≤ k ∧ k ≤ 255) (hl : 0 ≤ l ∧ l ≤ 4294967295) (hs : 0 ≤ s ∧ s ≤ 4294967295) (hp : 0 ≤ p ∧ p ≤ 4294967295) :
    getNode (nodeB k l s p) = if mayB k l s p = true then some (k, l, s, p) else none := by
  obtain ⟨h1, h2, h3⟩ := gF_node k l s p hl hs hp
  unfold getNode
  rw [h1, h2, h3, b0_node k l s p hk]
  simp [nodeB_len]
namespace nodePuts
set_option maxHeartbeats 8000000 in
theorem con {a0 : List AV} (s0 : All2 (Shp tab 8) [5, 29, 29, 29] a0) : Con Try.prog 6 [.p (.agg a0)] [] (.p (.bool true)) [] [] := by
  match a0, s0 with
  | [x0, x1, x2, x3], ⟨h0, h1, h2, h3, _⟩ =>
  obtain ⟨k, rfl, hk⟩ := h0.int rfl
  obtain ⟨l, rfl, hl⟩ := h1.int rfl
  obtain ⟨s, rfl, hs⟩ := h2.int rfl
  obtain ⟨p, rfl, hp⟩ := h3.int rfl
  change 0 ≤ k ∧ k ≤ 255 at hk
  change 0 ≤ l ∧ l ≤ 4294967295 at hl
  change 0 ≤ s ∧ s ≤ 4294967295 at hs
  change 0 ≤ p ∧ p ≤ 4294967295 at hp
  have p1 := nput_spec k l s p hk hl hs hp
  have p2 := nget_spec (nodeB k l s p) (by rw [nodeB_len]; decide)
  have p3 := rnput_spec k l s p hk hl hs hp []
  have p4 := may_spec k l s p []
  have p5 := rmay_spec k l s p hl.1
  have p6 := fixed15_spec []
  rw [getNode_put k l s p hk hl hs hp] at p2
  generalize nodeB k l s p = m at p1 p2 p3
  generalize hm : mayB k l s p = b at p2 p4 p5
  cases b with
  | true =>
    have p2 : Con Try.prog 22 [.p (.str m)] [] (.tup [.agg ((nodeV k l s p).map .p), .p (.bool true)]) [] [] := p2
    refine con_of Try.func6 rfl (by kernel_rfl) rfl fun F w0 β0 => ?_
    refine K_tell rfl ?_
    refine go ?_
    refine K_op rfl rfl (opr_callP rfl rfl (p1) rfl rfl rfl rfl) rfl ?_
    refine go ?_
    refine K_op rfl rfl (opr_callP rfl rfl (p2) rfl rfl rfl rfl) rfl ?_
    refine go ?_
    refine K_only [0, 1, 2, 3, 4, 5] rfl ?_
    refine J_draw [[AObj.box 31 [.p (.int .u8 k), .p (.int .u32 l), .p (.int .u32 s), .p (.int .u32 p)], AObj.box 31 [.p (.int .u8 k), .p (.int .u32 l), .p (.int .u32 s), .p (.int .u32 p)]]] [] (by kernel_rfl) (by kernel_rfl) rfl ?_
    repeat (first | refine T_nil ?_ | refine T_no rfl rfl rfl rfl ?_ | refine T_yes rfl rfl rfl rfl rfl rfl (stepN_ok hT rfl) rfl ?_ | refine T_op rfl rfl rfl rfl rfl (stepN_ok hT rfl) rfl ?_)
    refine T_op rfl rfl rfl rfl rfl (opr_call0P rfl rfl (p3) rfl rfl rfl) rfl ?_
    repeat (first | refine T_nil ?_ | refine T_no rfl rfl rfl rfl ?_ | refine T_yes rfl rfl rfl rfl rfl rfl (stepN_ok hT rfl) rfl ?_ | refine T_op rfl rfl rfl rfl rfl (stepN_ok hT rfl) rfl ?_)
    refine T_false 4 rfl (by simp) rfl ?_
    repeat (first | refine T_nil ?_ | refine T_no rfl rfl rfl rfl ?_ | refine T_yes rfl rfl rfl rfl rfl rfl (stepN_ok hT rfl) rfl ?_ | refine T_op rfl rfl rfl rfl rfl (stepN_ok hT rfl) rfl ?_)
    refine T_yes rfl rfl rfl rfl rfl rfl (opr_call0P rfl rfl (p4) rfl rfl rfl) rfl ?_
    repeat (first | refine T_nil ?_ | refine T_no rfl rfl rfl rfl ?_ | refine T_yes rfl rfl rfl rfl rfl rfl (stepN_ok hT rfl) rfl ?_ | refine T_op rfl rfl rfl rfl rfl (stepN_ok hT rfl) rfl ?_)
    refine T_yes rfl rfl rfl rfl rfl rfl (opr_call0P rfl rfl (p5) rfl rfl rfl) rfl ?_
    repeat (first | refine T_nil ?_ | refine T_no rfl rfl rfl rfl ?_ | refine T_yes rfl rfl rfl rfl rfl rfl (stepN_ok hT rfl) rfl ?_ | refine T_op rfl rfl rfl rfl rfl (stepN_ok hT rfl) rfl ?_)
    refine T_yes rfl rfl rfl rfl rfl rfl (opr_call0P rfl rfl (p5) rfl rfl rfl) rfl ?_
    repeat (first | refine T_nil ?_ | refine T_no rfl rfl rfl rfl ?_ | refine T_yes rfl rfl rfl rfl rfl rfl (stepN_ok hT rfl) rfl ?_ | refine T_op rfl rfl rfl rfl rfl (stepN_ok hT rfl) rfl ?_)
    refine J_then ?_
    refine K_tell rfl ?_
    refine go ?_
    refine K_op rfl rfl (opr_callP rfl rfl (p6) rfl rfl rfl rfl) rfl ?_
    refine gx ?_
    refine J_true 38 rfl (by simp) ?_
    refine gx ?_
    exact J_done hT rfl rfl rfl
  | false =>
    have p2 : Con Try.prog 22 [.p (.str m)] [] (.tup [.agg ((nodeV 0 0 0 0).map .p), .p (.bool false)]) [] [] := p2
    refine con_of Try.func6 rfl (by kernel_rfl) rfl fun F w0 β0 => ?_
    refine K_tell rfl ?_
    refine go ?_
    refine K_op rfl rfl (opr_callP rfl rfl (p1) rfl rfl rfl rfl) rfl ?_
    refine go ?_
    refine K_op rfl rfl (opr_callP rfl rfl (p2) rfl rfl rfl rfl) rfl ?_
    refine go ?_
    refine K_only [0, 1, 2, 3, 4, 5] rfl ?_
    refine J_draw [[AObj.box 31 [.p (.int .u8 k), .p (.int .u32 l), .p (.int .u32 s), .p (.int .u32 p)], AObj.box 31 ((nodeV 0 0 0 0).map .p)]] [] (by kernel_rfl) (by kernel_rfl) rfl ?_
    repeat (first | refine T_nil ?_ | refine T_no rfl rfl rfl rfl ?_ | refine T_yes rfl rfl rfl rfl rfl rfl (stepN_ok hT rfl) rfl ?_ | refine T_op rfl rfl rfl rfl rfl (stepN_ok hT rfl) rfl ?_)
    refine T_op rfl rfl rfl rfl rfl (opr_call0P rfl rfl (p3) rfl rfl rfl) rfl ?_
    repeat (first | refine T_nil ?_ | refine T_no rfl rfl rfl rfl ?_ | refine T_yes rfl rfl rfl rfl rfl rfl (stepN_ok hT rfl) rfl ?_ | refine T_op rfl rfl rfl rfl rfl (stepN_ok hT rfl) rfl ?_)
    refine T_false 4 rfl (by simp) rfl ?_
    repeat (first | refine T_nil ?_ | refine T_no rfl rfl rfl rfl ?_ | refine T_yes rfl rfl rfl rfl rfl rfl (stepN_ok hT rfl) rfl ?_ | refine T_op rfl rfl rfl rfl rfl (stepN_ok hT rfl) rfl ?_)
    refine T_yes rfl rfl rfl rfl rfl rfl (opr_call0P rfl rfl (p4) rfl rfl rfl) rfl ?_
    repeat (first | refine T_nil ?_ | refine T_no rfl rfl rfl rfl ?_ | refine T_yes rfl rfl rfl rfl rfl rfl (stepN_ok hT rfl) rfl ?_ | refine T_op rfl rfl rfl rfl rfl (stepN_ok hT rfl) rfl ?_)
    refine T_yes rfl rfl rfl rfl rfl rfl (opr_call0P rfl rfl (p5) rfl rfl rfl) rfl ?_
    repeat (first | refine T_nil ?_ | refine T_no rfl rfl rfl rfl ?_ | refine T_yes rfl rfl rfl rfl rfl rfl (stepN_ok hT rfl) rfl ?_ | refine T_op rfl rfl rfl rfl rfl (stepN_ok hT rfl) rfl ?_)
    refine T_yes rfl rfl rfl rfl rfl rfl (opr_call0P rfl rfl (p5) rfl rfl rfl) rfl ?_
    repeat (first | refine T_nil ?_ | refine T_no rfl rfl rfl rfl ?_ | refine T_yes rfl rfl rfl rfl rfl rfl (stepN_ok hT rfl) rfl ?_ | refine T_op rfl rfl rfl rfl rfl (stepN_ok hT rfl) rfl ?_)
    refine J_then ?_
    refine K_tell rfl ?_
    refine go ?_
    refine K_op rfl rfl (opr_callP rfl rfl (p6) rfl rfl rfl rfl) rfl ?_
    refine go ?_
    refine J_true 2 rfl (by simp) ?_
    exact J_done hT rfl rfl rfl
end nodePuts
end Go.Proofs.Ytfkibkfjebppdaa

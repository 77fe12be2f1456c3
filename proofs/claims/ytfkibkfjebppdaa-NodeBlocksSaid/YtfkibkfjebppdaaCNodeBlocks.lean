/- The law NodeBlocks: its contract. -/
import Derived.Test.YtfkibkfjebppdaaF15c
import Derived.Test.YtfkibkfjebppdaaAwpL
namespace Go.Proofs.Ytfkibkfjebppdaa
open Go.Awp
namespace nodeBlocks
theorem con {a0 : AV} (s0 : Shp tab 8 3 a0) : Con Try.prog 4 [.p a0] [] (.p (.bool true)) [] [] := by
  obtain ⟨n, rfl, h⟩ := s0.int rfl
  change -9223372036854775808 ≤ n ∧ n ≤ 9223372036854775807 at h
  refine con_of Try.func4 rfl (by kernel_rfl) rfl fun F w0 β0 => ?_
  repeat (first
    | with_reducible refine J_seq ?_ | with_reducible refine J_then ?_ | with_reducible refine J_then_ret ?_ | with_reducible refine J_region ?_ | with_reducible refine J_nil ?_ | with_reducible refine J_ret ?_ | with_reducible refine J_skip ?_
    | with_reducible refine J_block ?_ | with_reducible refine J_then_exit ?_ | with_reducible refine J_blk ?_ | with_reducible refine J_blk_ret ?_ | with_reducible refine J_blk_exit ?_ | refine J_blk_exit_ne rfl ?_ | with_reducible refine J_exit ?_
    | refine J_no rfl rfl rfl ?_ | refine J_yes rfl rfl rfl (stepA_ok hT rfl) ?_ | refine J_op rfl rfl (stepA_ok hT rfl) ?_
    | refine J_op rfl rfl (opr_lit hT rfl rfl rfl rfl) ?_ | refine J_op rfl rfl (opr_idxArr hT rfl rfl rfl rfl rfl) ?_ | refine J_op rfl rfl (opr_eqAgg hT rfl (by kernel_rfl) rfl rfl rfl rfl rfl) ?_
    | refine J_yes rfl rfl rfl (opr_lit hT rfl rfl rfl rfl) ?_ | refine J_yes rfl rfl rfl (opr_idxArr hT rfl rfl rfl rfl rfl) ?_ | refine J_yes rfl rfl rfl (opr_eqAgg hT rfl (by kernel_rfl) rfl rfl rfl rfl rfl) ?_)
  refine J_op rfl rfl (opr_call0 rfl rfl rfl rfl rfl (blocks_spec n h [])) ?_
  repeat (first
    | with_reducible refine J_seq ?_ | with_reducible refine J_then ?_ | with_reducible refine J_then_ret ?_ | with_reducible refine J_region ?_ | with_reducible refine J_nil ?_ | with_reducible refine J_ret ?_ | with_reducible refine J_skip ?_
    | with_reducible refine J_block ?_ | with_reducible refine J_then_exit ?_ | with_reducible refine J_blk ?_ | with_reducible refine J_blk_ret ?_ | with_reducible refine J_blk_exit ?_ | refine J_blk_exit_ne rfl ?_ | with_reducible refine J_exit ?_
    | refine J_no rfl rfl rfl ?_ | refine J_yes rfl rfl rfl (stepA_ok hT rfl) ?_ | refine J_op rfl rfl (stepA_ok hT rfl) ?_
    | refine J_op rfl rfl (opr_lit hT rfl rfl rfl rfl) ?_ | refine J_op rfl rfl (opr_idxArr hT rfl rfl rfl rfl rfl) ?_ | refine J_op rfl rfl (opr_eqAgg hT rfl (by kernel_rfl) rfl rfl rfl rfl rfl) ?_
    | refine J_yes rfl rfl rfl (opr_lit hT rfl rfl rfl rfl) ?_ | refine J_yes rfl rfl rfl (opr_idxArr hT rfl rfl rfl rfl rfl) ?_ | refine J_yes rfl rfl rfl (opr_eqAgg hT rfl (by kernel_rfl) rfl rfl rfl rfl rfl) ?_)
  refine J_cond rfl (fun hc => ?_) (fun hc => ?_)
  · have hc1 : n ≤ 0 := of_decide_eq_true hc
    repeat (first
      | with_reducible refine J_seq ?_ | with_reducible refine J_then ?_ | with_reducible refine J_then_ret ?_ | with_reducible refine J_region ?_ | with_reducible refine J_nil ?_ | with_reducible refine J_ret ?_ | with_reducible refine J_skip ?_
      | with_reducible refine J_block ?_ | with_reducible refine J_then_exit ?_ | with_reducible refine J_blk ?_ | with_reducible refine J_blk_ret ?_ | with_reducible refine J_blk_exit ?_ | refine J_blk_exit_ne rfl ?_ | with_reducible refine J_exit ?_
      | refine J_no rfl rfl rfl ?_ | refine J_yes rfl rfl rfl (stepA_ok hT rfl) ?_ | refine J_op rfl rfl (stepA_ok hT rfl) ?_
      | refine J_op rfl rfl (opr_lit hT rfl rfl rfl rfl) ?_ | refine J_op rfl rfl (opr_idxArr hT rfl rfl rfl rfl rfl) ?_ | refine J_op rfl rfl (opr_eqAgg hT rfl (by kernel_rfl) rfl rfl rfl rfl rfl) ?_
      | refine J_yes rfl rfl rfl (opr_lit hT rfl rfl rfl rfl) ?_ | refine J_yes rfl rfl rfl (opr_idxArr hT rfl rfl rfl rfl rfl) ?_ | refine J_yes rfl rfl rfl (opr_eqAgg hT rfl (by kernel_rfl) rfl rfl rfl rfl rfl) ?_)
    refine J_op rfl rfl (opr_call0 rfl rfl rfl rfl rfl (fixed15_spec [])) ?_
    repeat (first
      | with_reducible refine J_seq ?_ | with_reducible refine J_then ?_ | with_reducible refine J_then_ret ?_ | with_reducible refine J_region ?_ | with_reducible refine J_nil ?_ | with_reducible refine J_ret ?_ | with_reducible refine J_skip ?_
      | with_reducible refine J_block ?_ | with_reducible refine J_then_exit ?_ | with_reducible refine J_blk ?_ | with_reducible refine J_blk_ret ?_ | with_reducible refine J_blk_exit ?_ | refine J_blk_exit_ne rfl ?_ | with_reducible refine J_exit ?_
      | refine J_no rfl rfl rfl ?_ | refine J_yes rfl rfl rfl (stepA_ok hT rfl) ?_ | refine J_op rfl rfl (stepA_ok hT rfl) ?_
      | refine J_op rfl rfl (opr_lit hT rfl rfl rfl rfl) ?_ | refine J_op rfl rfl (opr_idxArr hT rfl rfl rfl rfl rfl) ?_ | refine J_op rfl rfl (opr_eqAgg hT rfl (by kernel_rfl) rfl rfl rfl rfl rfl) ?_
      | refine J_yes rfl rfl rfl (opr_lit hT rfl rfl rfl rfl) ?_ | refine J_yes rfl rfl rfl (opr_idxArr hT rfl rfl rfl rfl rfl) ?_ | refine J_yes rfl rfl rfl (opr_eqAgg hT rfl (by kernel_rfl) rfl rfl rfl rfl rfl) ?_)
    refine J_true 2 rfl (by simp [blocks, hc1]) ?_
    exact J_done hT rfl rfl rfl
  · have hc1 : ¬ n ≤ 0 := of_decide_eq_false hc
    have e : blocks n = (n - 1) / 64 + 1 := by simp [blocks, hc1]
    have w1 : IntKind.i64.wrap (n - 1) = n - 1 := IntWalk.i64_in _ (by omega)
    have w2 : IntKind.i64.wrap ((IntKind.i64.wrap (n - 1)).tdiv 64) = (n - 1) / 64 := by rw [w1, Int.tdiv_eq_ediv_of_nonneg (by omega), IntWalk.i64_in _ (by omega)]
    have w3 : IntKind.i64.wrap (blocks n - 1) = (n - 1) / 64 := by rw [e, IntWalk.i64_in _ (by omega)]; omega
    have w4 : IntKind.i64.wrap (IntKind.i64.wrap (blocks n - 1) * 64) = (n - 1) / 64 * 64 := by rw [w3, IntWalk.i64_in _ (by omega)]
    repeat (first
      | with_reducible refine J_seq ?_ | with_reducible refine J_then ?_ | with_reducible refine J_then_ret ?_ | with_reducible refine J_region ?_ | with_reducible refine J_nil ?_ | with_reducible refine J_ret ?_ | with_reducible refine J_skip ?_
      | with_reducible refine J_block ?_ | with_reducible refine J_then_exit ?_ | with_reducible refine J_blk ?_ | with_reducible refine J_blk_ret ?_ | with_reducible refine J_blk_exit ?_ | refine J_blk_exit_ne rfl ?_ | with_reducible refine J_exit ?_
      | refine J_no rfl rfl rfl ?_ | refine J_yes rfl rfl rfl (stepA_ok hT rfl) ?_ | refine J_op rfl rfl (stepA_ok hT rfl) ?_
      | refine J_op rfl rfl (opr_lit hT rfl rfl rfl rfl) ?_ | refine J_op rfl rfl (opr_idxArr hT rfl rfl rfl rfl rfl) ?_ | refine J_op rfl rfl (opr_eqAgg hT rfl (by kernel_rfl) rfl rfl rfl rfl rfl) ?_
      | refine J_yes rfl rfl rfl (opr_lit hT rfl rfl rfl rfl) ?_ | refine J_yes rfl rfl rfl (opr_idxArr hT rfl rfl rfl rfl rfl) ?_ | refine J_yes rfl rfl rfl (opr_eqAgg hT rfl (by kernel_rfl) rfl rfl rfl rfl rfl) ?_)
    refine J_op rfl rfl (opr_call0 rfl rfl rfl rfl rfl (fixed15_spec [])) ?_
    repeat (first
      | with_reducible refine J_seq ?_ | with_reducible refine J_then ?_ | with_reducible refine J_then_ret ?_ | with_reducible refine J_region ?_ | with_reducible refine J_nil ?_ | with_reducible refine J_ret ?_ | with_reducible refine J_skip ?_
      | with_reducible refine J_block ?_ | with_reducible refine J_then_exit ?_ | with_reducible refine J_blk ?_ | with_reducible refine J_blk_ret ?_ | with_reducible refine J_blk_exit ?_ | refine J_blk_exit_ne rfl ?_ | with_reducible refine J_exit ?_
      | refine J_no rfl rfl rfl ?_ | refine J_yes rfl rfl rfl (stepA_ok hT rfl) ?_ | refine J_op rfl rfl (stepA_ok hT rfl) ?_
      | refine J_op rfl rfl (opr_lit hT rfl rfl rfl rfl) ?_ | refine J_op rfl rfl (opr_idxArr hT rfl rfl rfl rfl rfl) ?_ | refine J_op rfl rfl (opr_eqAgg hT rfl (by kernel_rfl) rfl rfl rfl rfl rfl) ?_
      | refine J_yes rfl rfl rfl (opr_lit hT rfl rfl rfl rfl) ?_ | refine J_yes rfl rfl rfl (opr_idxArr hT rfl rfl rfl rfl rfl) ?_ | refine J_yes rfl rfl rfl (opr_eqAgg hT rfl (by kernel_rfl) rfl rfl rfl rfl rfl) ?_)
    refine J_true 18 rfl (decide_eq_true (by omega)) ?_
    repeat (first
      | with_reducible refine J_seq ?_ | with_reducible refine J_then ?_ | with_reducible refine J_then_ret ?_ | with_reducible refine J_region ?_ | with_reducible refine J_nil ?_ | with_reducible refine J_ret ?_ | with_reducible refine J_skip ?_
      | with_reducible refine J_block ?_ | with_reducible refine J_then_exit ?_ | with_reducible refine J_blk ?_ | with_reducible refine J_blk_ret ?_ | with_reducible refine J_blk_exit ?_ | refine J_blk_exit_ne rfl ?_ | with_reducible refine J_exit ?_
      | refine J_no rfl rfl rfl ?_ | refine J_yes rfl rfl rfl (stepA_ok hT rfl) ?_ | refine J_op rfl rfl (stepA_ok hT rfl) ?_
      | refine J_op rfl rfl (opr_lit hT rfl rfl rfl rfl) ?_ | refine J_op rfl rfl (opr_idxArr hT rfl rfl rfl rfl rfl) ?_ | refine J_op rfl rfl (opr_eqAgg hT rfl (by kernel_rfl) rfl rfl rfl rfl rfl) ?_
      | refine J_yes rfl rfl rfl (opr_lit hT rfl rfl rfl rfl) ?_ | refine J_yes rfl rfl rfl (opr_idxArr hT rfl rfl rfl rfl rfl) ?_ | refine J_yes rfl rfl rfl (opr_eqAgg hT rfl (by kernel_rfl) rfl rfl rfl rfl rfl) ?_)
    refine J_true 25 rfl (decide_eq_true (by show blocks n ≥ _; rw [w2]; omega)) ?_
    repeat (first
      | with_reducible refine J_seq ?_ | with_reducible refine J_then ?_ | with_reducible refine J_then_ret ?_ | with_reducible refine J_region ?_ | with_reducible refine J_nil ?_ | with_reducible refine J_ret ?_ | with_reducible refine J_skip ?_
      | with_reducible refine J_block ?_ | with_reducible refine J_then_exit ?_ | with_reducible refine J_blk ?_ | with_reducible refine J_blk_ret ?_ | with_reducible refine J_blk_exit ?_ | refine J_blk_exit_ne rfl ?_ | with_reducible refine J_exit ?_
      | refine J_no rfl rfl rfl ?_ | refine J_yes rfl rfl rfl (stepA_ok hT rfl) ?_ | refine J_op rfl rfl (stepA_ok hT rfl) ?_
      | refine J_op rfl rfl (opr_lit hT rfl rfl rfl rfl) ?_ | refine J_op rfl rfl (opr_idxArr hT rfl rfl rfl rfl rfl) ?_ | refine J_op rfl rfl (opr_eqAgg hT rfl (by kernel_rfl) rfl rfl rfl rfl rfl) ?_
      | refine J_yes rfl rfl rfl (opr_lit hT rfl rfl rfl rfl) ?_ | refine J_yes rfl rfl rfl (opr_idxArr hT rfl rfl rfl rfl rfl) ?_ | refine J_yes rfl rfl rfl (opr_eqAgg hT rfl (by kernel_rfl) rfl rfl rfl rfl rfl) ?_)
    refine J_true 33 rfl (decide_eq_true (by show IntKind.i64.wrap (blocks n - 1) ≤ _; rw [w2, w3]; omega)) ?_
    repeat (first
      | with_reducible refine J_seq ?_ | with_reducible refine J_then ?_ | with_reducible refine J_then_ret ?_ | with_reducible refine J_region ?_ | with_reducible refine J_nil ?_ | with_reducible refine J_ret ?_ | with_reducible refine J_skip ?_
      | with_reducible refine J_block ?_ | with_reducible refine J_then_exit ?_ | with_reducible refine J_blk ?_ | with_reducible refine J_blk_ret ?_ | with_reducible refine J_blk_exit ?_ | refine J_blk_exit_ne rfl ?_ | with_reducible refine J_exit ?_
      | refine J_no rfl rfl rfl ?_ | refine J_yes rfl rfl rfl (stepA_ok hT rfl) ?_ | refine J_op rfl rfl (stepA_ok hT rfl) ?_
      | refine J_op rfl rfl (opr_lit hT rfl rfl rfl rfl) ?_ | refine J_op rfl rfl (opr_idxArr hT rfl rfl rfl rfl rfl) ?_ | refine J_op rfl rfl (opr_eqAgg hT rfl (by kernel_rfl) rfl rfl rfl rfl rfl) ?_
      | refine J_yes rfl rfl rfl (opr_lit hT rfl rfl rfl rfl) ?_ | refine J_yes rfl rfl rfl (opr_idxArr hT rfl rfl rfl rfl rfl) ?_ | refine J_yes rfl rfl rfl (opr_eqAgg hT rfl (by kernel_rfl) rfl rfl rfl rfl rfl) ?_)
    refine J_true 40 rfl (decide_eq_true (by show IntKind.i64.wrap (IntKind.i64.wrap (blocks n - 1) * 64) < n; rw [w4]; omega)) ?_
    repeat (first
      | with_reducible refine J_seq ?_ | with_reducible refine J_then ?_ | with_reducible refine J_then_ret ?_ | with_reducible refine J_region ?_ | with_reducible refine J_nil ?_ | with_reducible refine J_ret ?_ | with_reducible refine J_skip ?_
      | with_reducible refine J_block ?_ | with_reducible refine J_then_exit ?_ | with_reducible refine J_blk ?_ | with_reducible refine J_blk_ret ?_ | with_reducible refine J_blk_exit ?_ | refine J_blk_exit_ne rfl ?_ | with_reducible refine J_exit ?_
      | refine J_no rfl rfl rfl ?_ | refine J_yes rfl rfl rfl (stepA_ok hT rfl) ?_ | refine J_op rfl rfl (stepA_ok hT rfl) ?_
      | refine J_op rfl rfl (opr_lit hT rfl rfl rfl rfl) ?_ | refine J_op rfl rfl (opr_idxArr hT rfl rfl rfl rfl rfl) ?_ | refine J_op rfl rfl (opr_eqAgg hT rfl (by kernel_rfl) rfl rfl rfl rfl rfl) ?_
      | refine J_yes rfl rfl rfl (opr_lit hT rfl rfl rfl rfl) ?_ | refine J_yes rfl rfl rfl (opr_idxArr hT rfl rfl rfl rfl rfl) ?_ | refine J_yes rfl rfl rfl (opr_eqAgg hT rfl (by kernel_rfl) rfl rfl rfl rfl rfl) ?_)
    refine J_true 2 rfl (beq_iff_eq.2 (by show IntKind.i64.wrap ((IntKind.i64.wrap (n - 1)).tdiv 64) = IntKind.i64.wrap (blocks n - 1); rw [w2, w3])) ?_
    exact J_done hT rfl rfl rfl
end nodeBlocks
end Go.Proofs.Ytfkibkfjebppdaa

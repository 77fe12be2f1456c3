/- What the laws of chapter 15 fix; the law NodeBlocks. -/
import Derived.Test.YtfkibkfjebppdaaF15b
namespace Go.Proofs.Ytfkibkfjebppdaa
open Go.Awp
theorem cut_60 (H : List AObj) : Con Try.prog 15 [.p (.int .i64 60), .p (.int .i64 10)] H (.p (.ps [.agg [.int .i64 0, .int .i64 60, .int .i64 4], .agg [.int .i64 1, .int .i64 0, .int .i64 6]])) H [] := by
  have h := cut_spec 60 10 (by decide) (by decide) H
  have e : cutV 60 10 = .ps [.agg [.int .i64 0, .int .i64 60, .int .i64 4], .agg [.int .i64 1, .int .i64 0, .int .i64 6]] := by
    have : ¬ cutBad 60 10 := by decide
    simp only [cutV, this, if_false]
    rfl
  rw [e] at h
  exact h
theorem blocks_65 (H : List AObj) : Con Try.prog 17 [.p (.int .i64 65)] H (.p (.int .i64 2)) H [] := blocks_spec 65 (by decide) H
theorem fixed15_spec (H : List AObj) : Con Try.prog 16 [] H (.p (.bool true)) H [] := by
  refine con_of Try.func16 rfl (by kernel_rfl) rfl fun F w0 β0 => ?_
  repeat (first
    | with_reducible refine J_seq ?_ | with_reducible refine J_then ?_ | with_reducible refine J_then_ret ?_ | with_reducible refine J_region ?_ | with_reducible refine J_nil ?_ | with_reducible refine J_ret ?_ | with_reducible refine J_skip ?_
    | with_reducible refine J_block ?_ | with_reducible refine J_then_exit ?_ | with_reducible refine J_blk ?_ | with_reducible refine J_blk_ret ?_ | with_reducible refine J_blk_exit ?_ | refine J_blk_exit_ne rfl ?_ | with_reducible refine J_exit ?_
    | refine J_no rfl rfl rfl ?_ | refine J_yes rfl rfl rfl (stepA_ok hT rfl) ?_ | refine J_op rfl rfl (stepA_ok hT rfl) ?_
    | refine J_op rfl rfl (opr_lit hT rfl rfl rfl rfl) ?_ | refine J_op rfl rfl (opr_idxArr hT rfl rfl rfl rfl rfl) ?_ | refine J_op rfl rfl (opr_eqAgg hT rfl (by kernel_rfl) rfl rfl rfl rfl rfl) ?_
    | refine J_yes rfl rfl rfl (opr_lit hT rfl rfl rfl rfl) ?_ | refine J_yes rfl rfl rfl (opr_idxArr hT rfl rfl rfl rfl rfl) ?_ | refine J_yes rfl rfl rfl (opr_eqAgg hT rfl (by kernel_rfl) rfl rfl rfl rfl rfl) ?_)
  refine J_op rfl rfl (opr_call0 rfl rfl rfl rfl rfl (cut_60 H)) ?_
  repeat (first
    | with_reducible refine J_seq ?_ | with_reducible refine J_then ?_ | with_reducible refine J_then_ret ?_ | with_reducible refine J_region ?_ | with_reducible refine J_nil ?_ | with_reducible refine J_ret ?_ | with_reducible refine J_skip ?_
    | with_reducible refine J_block ?_ | with_reducible refine J_then_exit ?_ | with_reducible refine J_blk ?_ | with_reducible refine J_blk_ret ?_ | with_reducible refine J_blk_exit ?_ | refine J_blk_exit_ne rfl ?_ | with_reducible refine J_exit ?_
    | refine J_no rfl rfl rfl ?_ | refine J_yes rfl rfl rfl (stepA_ok hT rfl) ?_ | refine J_op rfl rfl (stepA_ok hT rfl) ?_
    | refine J_op rfl rfl (opr_lit hT rfl rfl rfl rfl) ?_ | refine J_op rfl rfl (opr_idxArr hT rfl rfl rfl rfl rfl) ?_ | refine J_op rfl rfl (opr_eqAgg hT rfl (by kernel_rfl) rfl rfl rfl rfl rfl) ?_
    | refine J_yes rfl rfl rfl (opr_lit hT rfl rfl rfl rfl) ?_ | refine J_yes rfl rfl rfl (opr_idxArr hT rfl rfl rfl rfl rfl) ?_ | refine J_yes rfl rfl rfl (opr_eqAgg hT rfl (by kernel_rfl) rfl rfl rfl rfl rfl) ?_)
  refine J_yes rfl rfl rfl (opr_index hT rfl rfl rfl rfl rfl (.ps _) (by decide) (by decide)) ?_
  refine J_yes rfl rfl rfl (opr_load_el hT rfl rfl (.ps _) rfl rfl rfl) ?_
  repeat (first
    | with_reducible refine J_seq ?_ | with_reducible refine J_then ?_ | with_reducible refine J_then_ret ?_ | with_reducible refine J_region ?_ | with_reducible refine J_nil ?_ | with_reducible refine J_ret ?_ | with_reducible refine J_skip ?_
    | with_reducible refine J_block ?_ | with_reducible refine J_then_exit ?_ | with_reducible refine J_blk ?_ | with_reducible refine J_blk_ret ?_ | with_reducible refine J_blk_exit ?_ | refine J_blk_exit_ne rfl ?_ | with_reducible refine J_exit ?_
    | refine J_no rfl rfl rfl ?_ | refine J_yes rfl rfl rfl (stepA_ok hT rfl) ?_ | refine J_op rfl rfl (stepA_ok hT rfl) ?_
    | refine J_op rfl rfl (opr_lit hT rfl rfl rfl rfl) ?_ | refine J_op rfl rfl (opr_idxArr hT rfl rfl rfl rfl rfl) ?_ | refine J_op rfl rfl (opr_eqAgg hT rfl (by kernel_rfl) rfl rfl rfl rfl rfl) ?_
    | refine J_yes rfl rfl rfl (opr_lit hT rfl rfl rfl rfl) ?_ | refine J_yes rfl rfl rfl (opr_idxArr hT rfl rfl rfl rfl rfl) ?_ | refine J_yes rfl rfl rfl (opr_eqAgg hT rfl (by kernel_rfl) rfl rfl rfl rfl rfl) ?_)
  refine J_yes rfl rfl rfl (opr_index hT rfl rfl rfl rfl rfl (.ps _) (by decide) (by decide)) ?_
  refine J_yes rfl rfl rfl (opr_load_el hT rfl rfl (.ps _) rfl rfl rfl) ?_
  repeat (first
    | with_reducible refine J_seq ?_ | with_reducible refine J_then ?_ | with_reducible refine J_then_ret ?_ | with_reducible refine J_region ?_ | with_reducible refine J_nil ?_ | with_reducible refine J_ret ?_ | with_reducible refine J_skip ?_
    | with_reducible refine J_block ?_ | with_reducible refine J_then_exit ?_ | with_reducible refine J_blk ?_ | with_reducible refine J_blk_ret ?_ | with_reducible refine J_blk_exit ?_ | refine J_blk_exit_ne rfl ?_ | with_reducible refine J_exit ?_
    | refine J_no rfl rfl rfl ?_ | refine J_yes rfl rfl rfl (stepA_ok hT rfl) ?_ | refine J_op rfl rfl (stepA_ok hT rfl) ?_
    | refine J_op rfl rfl (opr_lit hT rfl rfl rfl rfl) ?_ | refine J_op rfl rfl (opr_idxArr hT rfl rfl rfl rfl rfl) ?_ | refine J_op rfl rfl (opr_eqAgg hT rfl (by kernel_rfl) rfl rfl rfl rfl rfl) ?_
    | refine J_yes rfl rfl rfl (opr_lit hT rfl rfl rfl rfl) ?_ | refine J_yes rfl rfl rfl (opr_idxArr hT rfl rfl rfl rfl rfl) ?_ | refine J_yes rfl rfl rfl (opr_eqAgg hT rfl (by kernel_rfl) rfl rfl rfl rfl rfl) ?_)
  refine J_yes rfl rfl rfl (opr_call0 rfl rfl rfl rfl rfl (blocks_65 H)) ?_
  repeat (first
    | with_reducible refine J_seq ?_ | with_reducible refine J_then ?_ | with_reducible refine J_then_ret ?_ | with_reducible refine J_region ?_ | with_reducible refine J_nil ?_ | with_reducible refine J_ret ?_ | with_reducible refine J_skip ?_
    | with_reducible refine J_block ?_ | with_reducible refine J_then_exit ?_ | with_reducible refine J_blk ?_ | with_reducible refine J_blk_ret ?_ | with_reducible refine J_blk_exit ?_ | refine J_blk_exit_ne rfl ?_ | with_reducible refine J_exit ?_
    | refine J_no rfl rfl rfl ?_ | refine J_yes rfl rfl rfl (stepA_ok hT rfl) ?_ | refine J_op rfl rfl (stepA_ok hT rfl) ?_
    | refine J_op rfl rfl (opr_lit hT rfl rfl rfl rfl) ?_ | refine J_op rfl rfl (opr_idxArr hT rfl rfl rfl rfl rfl) ?_ | refine J_op rfl rfl (opr_eqAgg hT rfl (by kernel_rfl) rfl rfl rfl rfl rfl) ?_
    | refine J_yes rfl rfl rfl (opr_lit hT rfl rfl rfl rfl) ?_ | refine J_yes rfl rfl rfl (opr_idxArr hT rfl rfl rfl rfl rfl) ?_ | refine J_yes rfl rfl rfl (opr_eqAgg hT rfl (by kernel_rfl) rfl rfl rfl rfl rfl) ?_)
  exact J_done hT rfl rfl rfl
end Go.Proofs.Ytfkibkfjebppdaa

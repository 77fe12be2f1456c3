/- node: Blocks, Cut, and what the laws of chapter 15 fix. -/
import Derived.Test.YtfkibkfjebppdaaRows
import Derived.Test.YtfkibkfjebppdaaAwpO
import Derived.Test.YtfkibkfjebppdaaTab
import Derived.IntWalk
namespace Go.Proofs.Ytfkibkfjebppdaa
open Go.Awp
def blocks (n : Int) : Int := if n ≤ 0 then 0 else (n - 1) / 64 + 1
theorem blocks_spec (n : Int) (h : -9223372036854775808 ≤ n ∧ n ≤ 9223372036854775807) (H : List AObj) : Con Try.prog 17 [.p (.int .i64 n)] H (.p (.int .i64 (blocks n))) H [] := by
  refine con_of Try.func17 rfl (by kernel_rfl) rfl fun F w0 β0 => ?_
  repeat (first
    | with_reducible refine J_seq ?_ | with_reducible refine J_then ?_ | with_reducible refine J_then_ret ?_ | with_reducible refine J_region ?_ | with_reducible refine J_nil ?_ | with_reducible refine J_ret ?_ | with_reducible refine J_skip ?_
    | with_reducible refine J_block ?_ | with_reducible refine J_then_exit ?_ | with_reducible refine J_blk ?_ | with_reducible refine J_blk_ret ?_ | with_reducible refine J_blk_exit ?_ | refine J_blk_exit_ne rfl ?_ | with_reducible refine J_exit ?_
    | refine J_no rfl rfl rfl ?_ | refine J_yes rfl rfl rfl (stepA_ok hT rfl) ?_ | refine J_op rfl rfl (stepA_ok hT rfl) ?_
    | refine J_op rfl rfl (opr_lit hT rfl rfl rfl rfl) ?_ | refine J_op rfl rfl (opr_idxArr hT rfl rfl rfl rfl rfl) ?_ | refine J_op rfl rfl (opr_eqAgg hT rfl (by kernel_rfl) rfl rfl rfl rfl rfl) ?_
    | refine J_yes rfl rfl rfl (opr_lit hT rfl rfl rfl rfl) ?_ | refine J_yes rfl rfl rfl (opr_idxArr hT rfl rfl rfl rfl rfl) ?_ | refine J_yes rfl rfl rfl (opr_eqAgg hT rfl (by kernel_rfl) rfl rfl rfl rfl rfl) ?_)
  refine J_cond rfl (fun hc => ?_) (fun hc => ?_)
  · simp only [decide_eq_true_eq] at hc
    have e : blocks n = 0 := by simp [blocks, hc]
    repeat (first
      | with_reducible refine J_seq ?_ | with_reducible refine J_then ?_ | with_reducible refine J_then_ret ?_ | with_reducible refine J_region ?_ | with_reducible refine J_nil ?_ | with_reducible refine J_ret ?_ | with_reducible refine J_skip ?_
      | with_reducible refine J_block ?_ | with_reducible refine J_then_exit ?_ | with_reducible refine J_blk ?_ | with_reducible refine J_blk_ret ?_ | with_reducible refine J_blk_exit ?_ | refine J_blk_exit_ne rfl ?_ | with_reducible refine J_exit ?_
      | refine J_no rfl rfl rfl ?_ | refine J_yes rfl rfl rfl (stepA_ok hT rfl) ?_ | refine J_op rfl rfl (stepA_ok hT rfl) ?_
      | refine J_op rfl rfl (opr_lit hT rfl rfl rfl rfl) ?_ | refine J_op rfl rfl (opr_idxArr hT rfl rfl rfl rfl rfl) ?_ | refine J_op rfl rfl (opr_eqAgg hT rfl (by kernel_rfl) rfl rfl rfl rfl rfl) ?_
      | refine J_yes rfl rfl rfl (opr_lit hT rfl rfl rfl rfl) ?_ | refine J_yes rfl rfl rfl (opr_idxArr hT rfl rfl rfl rfl rfl) ?_ | refine J_yes rfl rfl rfl (opr_eqAgg hT rfl (by kernel_rfl) rfl rfl rfl rfl rfl) ?_)
    rw [e]
    exact J_done hT rfl rfl rfl
  · simp only [decide_eq_false_iff_not] at hc
    have e : IntKind.i64.wrap (IntKind.i64.wrap ((IntKind.i64.wrap (n - 1)).tdiv 64) + 1) = blocks n := by
      rw [IntWalk.i64_in (n - 1) (by omega), Int.tdiv_eq_ediv_of_nonneg (by omega), IntWalk.i64_in ((n - 1) / 64) (by omega), IntWalk.i64_in _ (by omega)]
      simp [blocks, hc]
    repeat (first
      | with_reducible refine J_seq ?_ | with_reducible refine J_then ?_ | with_reducible refine J_then_ret ?_ | with_reducible refine J_region ?_ | with_reducible refine J_nil ?_ | with_reducible refine J_ret ?_ | with_reducible refine J_skip ?_
      | with_reducible refine J_block ?_ | with_reducible refine J_then_exit ?_ | with_reducible refine J_blk ?_ | with_reducible refine J_blk_ret ?_ | with_reducible refine J_blk_exit ?_ | refine J_blk_exit_ne rfl ?_ | with_reducible refine J_exit ?_
      | refine J_no rfl rfl rfl ?_ | refine J_yes rfl rfl rfl (stepA_ok hT rfl) ?_ | refine J_op rfl rfl (stepA_ok hT rfl) ?_
      | refine J_op rfl rfl (opr_lit hT rfl rfl rfl rfl) ?_ | refine J_op rfl rfl (opr_idxArr hT rfl rfl rfl rfl rfl) ?_ | refine J_op rfl rfl (opr_eqAgg hT rfl (by kernel_rfl) rfl rfl rfl rfl rfl) ?_
      | refine J_yes rfl rfl rfl (opr_lit hT rfl rfl rfl rfl) ?_ | refine J_yes rfl rfl rfl (opr_idxArr hT rfl rfl rfl rfl rfl) ?_ | refine J_yes rfl rfl rfl (opr_eqAgg hT rfl (by kernel_rfl) rfl rfl rfl rfl rfl) ?_)
    rw [← e]
    exact J_done hT rfl rfl rfl
end Go.Proofs.Ytfkibkfjebppdaa

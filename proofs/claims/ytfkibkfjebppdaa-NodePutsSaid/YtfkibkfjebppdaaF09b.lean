/- keys.Block and the reference's. -/
import Derived.Test.YtfkibkfjebppdaaF09
-- @N
namespace Go.Proofs.Ytfkibkfjebppdaa
open Go.Awp
def blockK (n i : Int) : List UInt8 := if i < 0 ∨ i > 65535 then [] else keyH 68 n ++ beB 2 i
set_option maxHeartbeats 4000000 in
theorem kblock_spec (n i : Int) (hn : 0 ≤ n ∧ n ≤ 4294967295) (H : List AObj) : Con Try.prog 43 [.p (.int .u32 n), .p (.int .i64 i)] H (.p (.str (blockK n i))) H [] := by
  refine con_of Try.func43 rfl (by kernel_rfl) rfl fun F w0 β0 => ?_
  repeat (first
    | with_reducible refine J_seq ?_ | with_reducible refine J_then ?_ | with_reducible refine J_then_ret ?_ | with_reducible refine J_region ?_ | with_reducible refine J_nil ?_ | with_reducible refine J_ret ?_ | with_reducible refine J_skip ?_
    | with_reducible refine J_block ?_ | with_reducible refine J_then_exit ?_ | with_reducible refine J_blk ?_ | with_reducible refine J_blk_ret ?_ | with_reducible refine J_blk_exit ?_ | refine J_blk_exit_ne rfl ?_ | with_reducible refine J_exit ?_
    | refine J_no rfl rfl rfl ?_ | refine J_yes rfl rfl rfl (stepN_ok hT rfl) ?_ | refine J_op rfl rfl (stepN_ok hT rfl) ?_ | refine J_yes rfl rfl rfl (stepA_ok hT rfl) ?_ | refine J_op rfl rfl (stepA_ok hT rfl) ?_
    | refine J_op rfl rfl (opr_lit hT rfl rfl rfl rfl) ?_ | refine J_op rfl rfl (opr_idxArr hT rfl rfl rfl rfl rfl) ?_ | refine J_op rfl rfl (opr_eqAgg hT rfl (by kernel_rfl) rfl rfl rfl rfl rfl) ?_
    | refine J_yes rfl rfl rfl (opr_lit hT rfl rfl rfl rfl) ?_ | refine J_yes rfl rfl rfl (opr_idxArr hT rfl rfl rfl rfl rfl) ?_ | refine J_yes rfl rfl rfl (opr_eqAgg hT rfl (by kernel_rfl) rfl rfl rfl rfl rfl) ?_)
  refine J_split 7 rfl (fun hc => ?_) (fun hc => ?_)
  · have hc1 : i < 0 := of_decide_eq_true hc
    have e : blockK n i = [] := by unfold blockK; rw [if_pos (.inl hc1)]
    rw [e]
    repeat (first
      | with_reducible refine J_seq ?_ | with_reducible refine J_then ?_ | with_reducible refine J_then_ret ?_ | with_reducible refine J_region ?_ | with_reducible refine J_nil ?_ | with_reducible refine J_ret ?_ | with_reducible refine J_skip ?_
      | with_reducible refine J_block ?_ | with_reducible refine J_then_exit ?_ | with_reducible refine J_blk ?_ | with_reducible refine J_blk_ret ?_ | with_reducible refine J_blk_exit ?_ | refine J_blk_exit_ne rfl ?_ | with_reducible refine J_exit ?_
      | refine J_no rfl rfl rfl ?_ | refine J_yes rfl rfl rfl (stepN_ok hT rfl) ?_ | refine J_op rfl rfl (stepN_ok hT rfl) ?_ | refine J_yes rfl rfl rfl (stepA_ok hT rfl) ?_ | refine J_op rfl rfl (stepA_ok hT rfl) ?_
      | refine J_op rfl rfl (opr_lit hT rfl rfl rfl rfl) ?_ | refine J_op rfl rfl (opr_idxArr hT rfl rfl rfl rfl rfl) ?_ | refine J_op rfl rfl (opr_eqAgg hT rfl (by kernel_rfl) rfl rfl rfl rfl rfl) ?_
      | refine J_yes rfl rfl rfl (opr_lit hT rfl rfl rfl rfl) ?_ | refine J_yes rfl rfl rfl (opr_idxArr hT rfl rfl rfl rfl rfl) ?_ | refine J_yes rfl rfl rfl (opr_eqAgg hT rfl (by kernel_rfl) rfl rfl rfl rfl rfl) ?_)
    refine J_cond rfl (fun _ => ?_) (fun h => Bool.noConfusion h)
    repeat (first
      | with_reducible refine J_seq ?_ | with_reducible refine J_then ?_ | with_reducible refine J_then_ret ?_ | with_reducible refine J_region ?_ | with_reducible refine J_nil ?_ | with_reducible refine J_ret ?_ | with_reducible refine J_skip ?_
      | with_reducible refine J_block ?_ | with_reducible refine J_then_exit ?_ | with_reducible refine J_blk ?_ | with_reducible refine J_blk_ret ?_ | with_reducible refine J_blk_exit ?_ | refine J_blk_exit_ne rfl ?_ | with_reducible refine J_exit ?_
      | refine J_no rfl rfl rfl ?_ | refine J_yes rfl rfl rfl (stepN_ok hT rfl) ?_ | refine J_op rfl rfl (stepN_ok hT rfl) ?_ | refine J_yes rfl rfl rfl (stepA_ok hT rfl) ?_ | refine J_op rfl rfl (stepA_ok hT rfl) ?_
      | refine J_op rfl rfl (opr_lit hT rfl rfl rfl rfl) ?_ | refine J_op rfl rfl (opr_idxArr hT rfl rfl rfl rfl rfl) ?_ | refine J_op rfl rfl (opr_eqAgg hT rfl (by kernel_rfl) rfl rfl rfl rfl rfl) ?_
      | refine J_yes rfl rfl rfl (opr_lit hT rfl rfl rfl rfl) ?_ | refine J_yes rfl rfl rfl (opr_idxArr hT rfl rfl rfl rfl rfl) ?_ | refine J_yes rfl rfl rfl (opr_eqAgg hT rfl (by kernel_rfl) rfl rfl rfl rfl rfl) ?_)
    exact J_done hT rfl rfl rfl
  have hc1 : ¬ i < 0 := of_decide_eq_false hc
  repeat (first
    | with_reducible refine J_seq ?_ | with_reducible refine J_then ?_ | with_reducible refine J_then_ret ?_ | with_reducible refine J_region ?_ | with_reducible refine J_nil ?_ | with_reducible refine J_ret ?_ | with_reducible refine J_skip ?_
    | with_reducible refine J_block ?_ | with_reducible refine J_then_exit ?_ | with_reducible refine J_blk ?_ | with_reducible refine J_blk_ret ?_ | with_reducible refine J_blk_exit ?_ | refine J_blk_exit_ne rfl ?_ | with_reducible refine J_exit ?_
    | refine J_no rfl rfl rfl ?_ | refine J_yes rfl rfl rfl (stepN_ok hT rfl) ?_ | refine J_op rfl rfl (stepN_ok hT rfl) ?_ | refine J_yes rfl rfl rfl (stepA_ok hT rfl) ?_ | refine J_op rfl rfl (stepA_ok hT rfl) ?_
    | refine J_op rfl rfl (opr_lit hT rfl rfl rfl rfl) ?_ | refine J_op rfl rfl (opr_idxArr hT rfl rfl rfl rfl rfl) ?_ | refine J_op rfl rfl (opr_eqAgg hT rfl (by kernel_rfl) rfl rfl rfl rfl rfl) ?_
    | refine J_yes rfl rfl rfl (opr_lit hT rfl rfl rfl rfl) ?_ | refine J_yes rfl rfl rfl (opr_idxArr hT rfl rfl rfl rfl rfl) ?_ | refine J_yes rfl rfl rfl (opr_eqAgg hT rfl (by kernel_rfl) rfl rfl rfl rfl rfl) ?_)
  refine J_cond rfl (fun hd => ?_) (fun hd => ?_)
  · have hd1 : i > 65535 := of_decide_eq_true hd
    have e : blockK n i = [] := by unfold blockK; rw [if_pos (.inr hd1)]
    rw [e]
    repeat (first
      | with_reducible refine J_seq ?_ | with_reducible refine J_then ?_ | with_reducible refine J_then_ret ?_ | with_reducible refine J_region ?_ | with_reducible refine J_nil ?_ | with_reducible refine J_ret ?_ | with_reducible refine J_skip ?_
      | with_reducible refine J_block ?_ | with_reducible refine J_then_exit ?_ | with_reducible refine J_blk ?_ | with_reducible refine J_blk_ret ?_ | with_reducible refine J_blk_exit ?_ | refine J_blk_exit_ne rfl ?_ | with_reducible refine J_exit ?_
      | refine J_no rfl rfl rfl ?_ | refine J_yes rfl rfl rfl (stepN_ok hT rfl) ?_ | refine J_op rfl rfl (stepN_ok hT rfl) ?_ | refine J_yes rfl rfl rfl (stepA_ok hT rfl) ?_ | refine J_op rfl rfl (stepA_ok hT rfl) ?_
      | refine J_op rfl rfl (opr_lit hT rfl rfl rfl rfl) ?_ | refine J_op rfl rfl (opr_idxArr hT rfl rfl rfl rfl rfl) ?_ | refine J_op rfl rfl (opr_eqAgg hT rfl (by kernel_rfl) rfl rfl rfl rfl rfl) ?_
      | refine J_yes rfl rfl rfl (opr_lit hT rfl rfl rfl rfl) ?_ | refine J_yes rfl rfl rfl (opr_idxArr hT rfl rfl rfl rfl rfl) ?_ | refine J_yes rfl rfl rfl (opr_eqAgg hT rfl (by kernel_rfl) rfl rfl rfl rfl rfl) ?_)
    exact J_done hT rfl rfl rfl
  have hd1 : ¬ i > 65535 := of_decide_eq_false hd
  have e : blockK n i = keyH 68 n ++ beB 2 i := by unfold blockK; rw [if_neg (by omega)]
  have p1 := put_spec (.ps (keyH 68 n)) 2 i (by omega) (by rw [keyH_len]; decide) H
  rw [show (wide 2).toNat = 2 by decide] at p1
  have e14 : IntKind.u64.wrap i = i := u64_in _ (by omega)
  rw [e]
  repeat (first
    | with_reducible refine J_seq ?_ | with_reducible refine J_then ?_ | with_reducible refine J_then_ret ?_ | with_reducible refine J_region ?_ | with_reducible refine J_nil ?_ | with_reducible refine J_ret ?_ | with_reducible refine J_skip ?_
    | with_reducible refine J_block ?_ | with_reducible refine J_then_exit ?_ | with_reducible refine J_blk ?_ | with_reducible refine J_blk_ret ?_ | with_reducible refine J_blk_exit ?_ | refine J_blk_exit_ne rfl ?_ | with_reducible refine J_exit ?_
    | refine J_no rfl rfl rfl ?_ | refine J_yes rfl rfl rfl (stepN_ok hT rfl) ?_ | refine J_op rfl rfl (stepN_ok hT rfl) ?_ | refine J_yes rfl rfl rfl (stepA_ok hT rfl) ?_ | refine J_op rfl rfl (stepA_ok hT rfl) ?_
    | refine J_op rfl rfl (opr_lit hT rfl rfl rfl rfl) ?_ | refine J_op rfl rfl (opr_idxArr hT rfl rfl rfl rfl rfl) ?_ | refine J_op rfl rfl (opr_eqAgg hT rfl (by kernel_rfl) rfl rfl rfl rfl rfl) ?_
    | refine J_yes rfl rfl rfl (opr_lit hT rfl rfl rfl rfl) ?_ | refine J_yes rfl rfl rfl (opr_idxArr hT rfl rfl rfl rfl rfl) ?_ | refine J_yes rfl rfl rfl (opr_eqAgg hT rfl (by kernel_rfl) rfl rfl rfl rfl rfl) ?_)
  refine J_op rfl rfl (opr_call0 rfl rfl rfl rfl rfl (kof_spec 68 n (by decide) hn H)) ?_
  repeat (first
    | with_reducible refine J_seq ?_ | with_reducible refine J_then ?_ | with_reducible refine J_then_ret ?_ | with_reducible refine J_region ?_ | with_reducible refine J_nil ?_ | with_reducible refine J_ret ?_ | with_reducible refine J_skip ?_
    | with_reducible refine J_block ?_ | with_reducible refine J_then_exit ?_ | with_reducible refine J_blk ?_ | with_reducible refine J_blk_ret ?_ | with_reducible refine J_blk_exit ?_ | refine J_blk_exit_ne rfl ?_ | with_reducible refine J_exit ?_
    | refine J_no rfl rfl rfl ?_ | refine J_yes rfl rfl rfl (stepN_ok hT rfl) ?_ | refine J_op rfl rfl (stepN_ok hT rfl) ?_ | refine J_yes rfl rfl rfl (stepA_ok hT rfl) ?_ | refine J_op rfl rfl (stepA_ok hT rfl) ?_
    | refine J_op rfl rfl (opr_lit hT rfl rfl rfl rfl) ?_ | refine J_op rfl rfl (opr_idxArr hT rfl rfl rfl rfl rfl) ?_ | refine J_op rfl rfl (opr_eqAgg hT rfl (by kernel_rfl) rfl rfl rfl rfl rfl) ?_
    | refine J_yes rfl rfl rfl (opr_lit hT rfl rfl rfl rfl) ?_ | refine J_yes rfl rfl rfl (opr_idxArr hT rfl rfl rfl rfl rfl) ?_ | refine J_yes rfl rfl rfl (opr_eqAgg hT rfl (by kernel_rfl) rfl rfl rfl rfl rfl) ?_)
  refine J_val 14 _ rfl (congrArg (fun z => TV.p (.int .u64 z)) e14) ?_
  refine J_op rfl rfl (opr_call0 rfl rfl rfl rfl rfl p1) ?_
  refine J_op rfl rfl (opr_to_str (l := keyH 68 n ++ beB 2 i) hT rfl rfl rfl rfl rfl (.ps _)) ?_
  repeat (first
    | with_reducible refine J_seq ?_ | with_reducible refine J_then ?_ | with_reducible refine J_then_ret ?_ | with_reducible refine J_region ?_ | with_reducible refine J_nil ?_ | with_reducible refine J_ret ?_ | with_reducible refine J_skip ?_
    | with_reducible refine J_block ?_ | with_reducible refine J_then_exit ?_ | with_reducible refine J_blk ?_ | with_reducible refine J_blk_ret ?_ | with_reducible refine J_blk_exit ?_ | refine J_blk_exit_ne rfl ?_ | with_reducible refine J_exit ?_
    | refine J_no rfl rfl rfl ?_ | refine J_yes rfl rfl rfl (stepN_ok hT rfl) ?_ | refine J_op rfl rfl (stepN_ok hT rfl) ?_ | refine J_yes rfl rfl rfl (stepA_ok hT rfl) ?_ | refine J_op rfl rfl (stepA_ok hT rfl) ?_
    | refine J_op rfl rfl (opr_lit hT rfl rfl rfl rfl) ?_ | refine J_op rfl rfl (opr_idxArr hT rfl rfl rfl rfl rfl) ?_ | refine J_op rfl rfl (opr_eqAgg hT rfl (by kernel_rfl) rfl rfl rfl rfl rfl) ?_
    | refine J_yes rfl rfl rfl (opr_lit hT rfl rfl rfl rfl) ?_ | refine J_yes rfl rfl rfl (opr_idxArr hT rfl rfl rfl rfl rfl) ?_ | refine J_yes rfl rfl rfl (opr_eqAgg hT rfl (by kernel_rfl) rfl rfl rfl rfl rfl) ?_)
  exact J_done hT rfl rfl rfl
end Go.Proofs.Ytfkibkfjebppdaa

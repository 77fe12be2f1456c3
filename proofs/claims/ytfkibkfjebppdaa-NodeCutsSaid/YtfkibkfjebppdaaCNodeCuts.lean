/- The law NodeCuts: its contract. -/
import Derived.Test.YtfkibkfjebppdaaF15c
import Derived.Test.YtfkibkfjebppdaaAwpL
namespace Go.Proofs.Ytfkibkfjebppdaa
open Go.Awp
namespace nodeCuts
structure I (o n : Int) where
  i : Nat
  o1 : Int
  n1 : Int
  h0 : 0 ≤ o1
  h1 : 0 ≤ n1
  h2 : o1 + n1 = o + n
  h3 : (pieces n.toNat o n).drop i = pieces n1.toNat o1 n1
  h4 : i = 0 ∨ n1 = 0 ∨ o1 % 64 = 0
  h5 : i ≤ (pieces n.toNat o n).length
set_option maxHeartbeats 4000000 in
theorem con {a0 a1 : AV} (s0 : Shp tab 8 3 a0) (s1 : Shp tab 8 3 a1) : Con Try.prog 3 [.p a0, .p a1] [] (.p (.bool true)) [] [] := by
  obtain ⟨o, rfl, ho⟩ := s0.int rfl
  obtain ⟨n, rfl, hn⟩ := s1.int rfl
  change -9223372036854775808 ≤ o ∧ o ≤ 9223372036854775807 at ho
  change -9223372036854775808 ≤ n ∧ n ≤ 9223372036854775807 at hn
  have hcut := cut_spec o n ho hn []
  refine con_of Try.func3 rfl (by kernel_rfl) rfl fun F w0 β0 => ?_
  repeat (first
    | with_reducible refine J_seq ?_ | with_reducible refine J_then ?_ | with_reducible refine J_then_ret ?_ | with_reducible refine J_region ?_ | with_reducible refine J_nil ?_ | with_reducible refine J_ret ?_ | with_reducible refine J_skip ?_
    | with_reducible refine J_block ?_ | with_reducible refine J_then_exit ?_ | with_reducible refine J_blk ?_ | with_reducible refine J_blk_ret ?_ | with_reducible refine J_blk_exit ?_ | refine J_blk_exit_ne rfl ?_ | with_reducible refine J_exit ?_
    | refine J_no rfl rfl rfl ?_ | refine J_yes rfl rfl rfl (stepA_ok hT rfl) ?_ | refine J_op rfl rfl (stepA_ok hT rfl) ?_
    | refine J_op rfl rfl (opr_lit hT rfl rfl rfl rfl) ?_ | refine J_op rfl rfl (opr_idxArr hT rfl rfl rfl rfl rfl) ?_ | refine J_op rfl rfl (opr_eqAgg hT rfl (by kernel_rfl) rfl rfl rfl rfl rfl) ?_
    | refine J_yes rfl rfl rfl (opr_lit hT rfl rfl rfl rfl) ?_ | refine J_yes rfl rfl rfl (opr_idxArr hT rfl rfl rfl rfl rfl) ?_ | refine J_yes rfl rfl rfl (opr_eqAgg hT rfl (by kernel_rfl) rfl rfl rfl rfl rfl) ?_)
  refine J_op rfl rfl (opr_call0 rfl rfl rfl rfl rfl hcut) ?_
  have bad : ∀ (hb : cutBad o n), cutV o n = .nils := fun hb => by simp [cutV, hb]
  repeat (first
    | with_reducible refine J_seq ?_ | with_reducible refine J_then ?_ | with_reducible refine J_then_ret ?_ | with_reducible refine J_region ?_ | with_reducible refine J_nil ?_ | with_reducible refine J_ret ?_ | with_reducible refine J_skip ?_
    | with_reducible refine J_block ?_ | with_reducible refine J_then_exit ?_ | with_reducible refine J_blk ?_ | with_reducible refine J_blk_ret ?_ | with_reducible refine J_blk_exit ?_ | refine J_blk_exit_ne rfl ?_ | with_reducible refine J_exit ?_
    | refine J_no rfl rfl rfl ?_ | refine J_yes rfl rfl rfl (stepA_ok hT rfl) ?_ | refine J_op rfl rfl (stepA_ok hT rfl) ?_
    | refine J_op rfl rfl (opr_lit hT rfl rfl rfl rfl) ?_ | refine J_op rfl rfl (opr_idxArr hT rfl rfl rfl rfl rfl) ?_ | refine J_op rfl rfl (opr_eqAgg hT rfl (by kernel_rfl) rfl rfl rfl rfl rfl) ?_
    | refine J_yes rfl rfl rfl (opr_lit hT rfl rfl rfl rfl) ?_ | refine J_yes rfl rfl rfl (opr_idxArr hT rfl rfl rfl rfl rfl) ?_ | refine J_yes rfl rfl rfl (opr_eqAgg hT rfl (by kernel_rfl) rfl rfl rfl rfl rfl) ?_)
  refine J_split 14 rfl (fun hc => ?_) (fun hc => ?_)
  · rw [bad (.inl (of_decide_eq_true hc))]
    repeat (first
      | with_reducible refine J_seq ?_ | with_reducible refine J_then ?_ | with_reducible refine J_then_ret ?_ | with_reducible refine J_region ?_ | with_reducible refine J_nil ?_ | with_reducible refine J_ret ?_ | with_reducible refine J_skip ?_
      | with_reducible refine J_block ?_ | with_reducible refine J_then_exit ?_ | with_reducible refine J_blk ?_ | with_reducible refine J_blk_ret ?_ | with_reducible refine J_blk_exit ?_ | refine J_blk_exit_ne rfl ?_ | with_reducible refine J_exit ?_
      | refine J_no rfl rfl rfl ?_ | refine J_yes rfl rfl rfl (stepA_ok hT rfl) ?_ | refine J_op rfl rfl (stepA_ok hT rfl) ?_
      | refine J_op rfl rfl (opr_lit hT rfl rfl rfl rfl) ?_ | refine J_op rfl rfl (opr_idxArr hT rfl rfl rfl rfl rfl) ?_ | refine J_op rfl rfl (opr_eqAgg hT rfl (by kernel_rfl) rfl rfl rfl rfl rfl) ?_
      | refine J_yes rfl rfl rfl (opr_lit hT rfl rfl rfl rfl) ?_ | refine J_yes rfl rfl rfl (opr_idxArr hT rfl rfl rfl rfl rfl) ?_ | refine J_yes rfl rfl rfl (opr_eqAgg hT rfl (by kernel_rfl) rfl rfl rfl rfl rfl) ?_)
    refine J_cond rfl (fun _ => ?_) (fun h => Bool.noConfusion h)
    repeat (first
      | with_reducible refine J_seq ?_ | with_reducible refine J_then ?_ | with_reducible refine J_then_ret ?_ | with_reducible refine J_region ?_ | with_reducible refine J_nil ?_ | with_reducible refine J_ret ?_ | with_reducible refine J_skip ?_
      | with_reducible refine J_block ?_ | with_reducible refine J_then_exit ?_ | with_reducible refine J_blk ?_ | with_reducible refine J_blk_ret ?_ | with_reducible refine J_blk_exit ?_ | refine J_blk_exit_ne rfl ?_ | with_reducible refine J_exit ?_
      | refine J_no rfl rfl rfl ?_ | refine J_yes rfl rfl rfl (stepA_ok hT rfl) ?_ | refine J_op rfl rfl (stepA_ok hT rfl) ?_
      | refine J_op rfl rfl (opr_lit hT rfl rfl rfl rfl) ?_ | refine J_op rfl rfl (opr_idxArr hT rfl rfl rfl rfl rfl) ?_ | refine J_op rfl rfl (opr_eqAgg hT rfl (by kernel_rfl) rfl rfl rfl rfl rfl) ?_
      | refine J_yes rfl rfl rfl (opr_lit hT rfl rfl rfl rfl) ?_ | refine J_yes rfl rfl rfl (opr_idxArr hT rfl rfl rfl rfl rfl) ?_ | refine J_yes rfl rfl rfl (opr_eqAgg hT rfl (by kernel_rfl) rfl rfl rfl rfl rfl) ?_)
    refine J_op rfl rfl (opr_call0 rfl rfl rfl rfl rfl (fixed15_spec [])) ?_
    repeat (first
      | with_reducible refine J_seq ?_ | with_reducible refine J_then ?_ | with_reducible refine J_then_ret ?_ | with_reducible refine J_region ?_ | with_reducible refine J_nil ?_ | with_reducible refine J_ret ?_ | with_reducible refine J_skip ?_
      | with_reducible refine J_block ?_ | with_reducible refine J_then_exit ?_ | with_reducible refine J_blk ?_ | with_reducible refine J_blk_ret ?_ | with_reducible refine J_blk_exit ?_ | refine J_blk_exit_ne rfl ?_ | with_reducible refine J_exit ?_
      | refine J_no rfl rfl rfl ?_ | refine J_yes rfl rfl rfl (stepA_ok hT rfl) ?_ | refine J_op rfl rfl (stepA_ok hT rfl) ?_
      | refine J_op rfl rfl (opr_lit hT rfl rfl rfl rfl) ?_ | refine J_op rfl rfl (opr_idxArr hT rfl rfl rfl rfl rfl) ?_ | refine J_op rfl rfl (opr_eqAgg hT rfl (by kernel_rfl) rfl rfl rfl rfl rfl) ?_
      | refine J_yes rfl rfl rfl (opr_lit hT rfl rfl rfl rfl) ?_ | refine J_yes rfl rfl rfl (opr_idxArr hT rfl rfl rfl rfl rfl) ?_ | refine J_yes rfl rfl rfl (opr_eqAgg hT rfl (by kernel_rfl) rfl rfl rfl rfl rfl) ?_)
    exact J_done hT rfl rfl rfl
  have hc := of_decide_eq_false hc
  repeat (first
    | with_reducible refine J_seq ?_ | with_reducible refine J_then ?_ | with_reducible refine J_then_ret ?_ | with_reducible refine J_region ?_ | with_reducible refine J_nil ?_ | with_reducible refine J_ret ?_ | with_reducible refine J_skip ?_
    | with_reducible refine J_block ?_ | with_reducible refine J_then_exit ?_ | with_reducible refine J_blk ?_ | with_reducible refine J_blk_ret ?_ | with_reducible refine J_blk_exit ?_ | refine J_blk_exit_ne rfl ?_ | with_reducible refine J_exit ?_
    | refine J_no rfl rfl rfl ?_ | refine J_yes rfl rfl rfl (stepA_ok hT rfl) ?_ | refine J_op rfl rfl (stepA_ok hT rfl) ?_
    | refine J_op rfl rfl (opr_lit hT rfl rfl rfl rfl) ?_ | refine J_op rfl rfl (opr_idxArr hT rfl rfl rfl rfl rfl) ?_ | refine J_op rfl rfl (opr_eqAgg hT rfl (by kernel_rfl) rfl rfl rfl rfl rfl) ?_
    | refine J_yes rfl rfl rfl (opr_lit hT rfl rfl rfl rfl) ?_ | refine J_yes rfl rfl rfl (opr_idxArr hT rfl rfl rfl rfl rfl) ?_ | refine J_yes rfl rfl rfl (opr_eqAgg hT rfl (by kernel_rfl) rfl rfl rfl rfl rfl) ?_)
  refine J_split 18 rfl (fun hc1 => ?_) (fun hc1 => ?_)
  · rw [bad (.inr (.inl (of_decide_eq_true hc1)))]
    repeat (first
      | with_reducible refine J_seq ?_ | with_reducible refine J_then ?_ | with_reducible refine J_then_ret ?_ | with_reducible refine J_region ?_ | with_reducible refine J_nil ?_ | with_reducible refine J_ret ?_ | with_reducible refine J_skip ?_
      | with_reducible refine J_block ?_ | with_reducible refine J_then_exit ?_ | with_reducible refine J_blk ?_ | with_reducible refine J_blk_ret ?_ | with_reducible refine J_blk_exit ?_ | refine J_blk_exit_ne rfl ?_ | with_reducible refine J_exit ?_
      | refine J_no rfl rfl rfl ?_ | refine J_yes rfl rfl rfl (stepA_ok hT rfl) ?_ | refine J_op rfl rfl (stepA_ok hT rfl) ?_
      | refine J_op rfl rfl (opr_lit hT rfl rfl rfl rfl) ?_ | refine J_op rfl rfl (opr_idxArr hT rfl rfl rfl rfl rfl) ?_ | refine J_op rfl rfl (opr_eqAgg hT rfl (by kernel_rfl) rfl rfl rfl rfl rfl) ?_
      | refine J_yes rfl rfl rfl (opr_lit hT rfl rfl rfl rfl) ?_ | refine J_yes rfl rfl rfl (opr_idxArr hT rfl rfl rfl rfl rfl) ?_ | refine J_yes rfl rfl rfl (opr_eqAgg hT rfl (by kernel_rfl) rfl rfl rfl rfl rfl) ?_)
    refine J_cond rfl (fun _ => ?_) (fun h => Bool.noConfusion h)
    repeat (first
      | with_reducible refine J_seq ?_ | with_reducible refine J_then ?_ | with_reducible refine J_then_ret ?_ | with_reducible refine J_region ?_ | with_reducible refine J_nil ?_ | with_reducible refine J_ret ?_ | with_reducible refine J_skip ?_
      | with_reducible refine J_block ?_ | with_reducible refine J_then_exit ?_ | with_reducible refine J_blk ?_ | with_reducible refine J_blk_ret ?_ | with_reducible refine J_blk_exit ?_ | refine J_blk_exit_ne rfl ?_ | with_reducible refine J_exit ?_
      | refine J_no rfl rfl rfl ?_ | refine J_yes rfl rfl rfl (stepA_ok hT rfl) ?_ | refine J_op rfl rfl (stepA_ok hT rfl) ?_
      | refine J_op rfl rfl (opr_lit hT rfl rfl rfl rfl) ?_ | refine J_op rfl rfl (opr_idxArr hT rfl rfl rfl rfl rfl) ?_ | refine J_op rfl rfl (opr_eqAgg hT rfl (by kernel_rfl) rfl rfl rfl rfl rfl) ?_
      | refine J_yes rfl rfl rfl (opr_lit hT rfl rfl rfl rfl) ?_ | refine J_yes rfl rfl rfl (opr_idxArr hT rfl rfl rfl rfl rfl) ?_ | refine J_yes rfl rfl rfl (opr_eqAgg hT rfl (by kernel_rfl) rfl rfl rfl rfl rfl) ?_)
    refine J_op rfl rfl (opr_call0 rfl rfl rfl rfl rfl (fixed15_spec [])) ?_
    repeat (first
      | with_reducible refine J_seq ?_ | with_reducible refine J_then ?_ | with_reducible refine J_then_ret ?_ | with_reducible refine J_region ?_ | with_reducible refine J_nil ?_ | with_reducible refine J_ret ?_ | with_reducible refine J_skip ?_
      | with_reducible refine J_block ?_ | with_reducible refine J_then_exit ?_ | with_reducible refine J_blk ?_ | with_reducible refine J_blk_ret ?_ | with_reducible refine J_blk_exit ?_ | refine J_blk_exit_ne rfl ?_ | with_reducible refine J_exit ?_
      | refine J_no rfl rfl rfl ?_ | refine J_yes rfl rfl rfl (stepA_ok hT rfl) ?_ | refine J_op rfl rfl (stepA_ok hT rfl) ?_
      | refine J_op rfl rfl (opr_lit hT rfl rfl rfl rfl) ?_ | refine J_op rfl rfl (opr_idxArr hT rfl rfl rfl rfl rfl) ?_ | refine J_op rfl rfl (opr_eqAgg hT rfl (by kernel_rfl) rfl rfl rfl rfl rfl) ?_
      | refine J_yes rfl rfl rfl (opr_lit hT rfl rfl rfl rfl) ?_ | refine J_yes rfl rfl rfl (opr_idxArr hT rfl rfl rfl rfl rfl) ?_ | refine J_yes rfl rfl rfl (opr_eqAgg hT rfl (by kernel_rfl) rfl rfl rfl rfl rfl) ?_)
    exact J_done hT rfl rfl rfl
  have hc1 : ¬ n ≤ 0 := of_decide_eq_false hc1
  repeat (first
    | with_reducible refine J_seq ?_ | with_reducible refine J_then ?_ | with_reducible refine J_then_ret ?_ | with_reducible refine J_region ?_ | with_reducible refine J_nil ?_ | with_reducible refine J_ret ?_ | with_reducible refine J_skip ?_
    | with_reducible refine J_block ?_ | with_reducible refine J_then_exit ?_ | with_reducible refine J_blk ?_ | with_reducible refine J_blk_ret ?_ | with_reducible refine J_blk_exit ?_ | refine J_blk_exit_ne rfl ?_ | with_reducible refine J_exit ?_
    | refine J_no rfl rfl rfl ?_ | refine J_yes rfl rfl rfl (stepA_ok hT rfl) ?_ | refine J_op rfl rfl (stepA_ok hT rfl) ?_
    | refine J_op rfl rfl (opr_lit hT rfl rfl rfl rfl) ?_ | refine J_op rfl rfl (opr_idxArr hT rfl rfl rfl rfl rfl) ?_ | refine J_op rfl rfl (opr_eqAgg hT rfl (by kernel_rfl) rfl rfl rfl rfl rfl) ?_
    | refine J_yes rfl rfl rfl (opr_lit hT rfl rfl rfl rfl) ?_ | refine J_yes rfl rfl rfl (opr_idxArr hT rfl rfl rfl rfl rfl) ?_ | refine J_yes rfl rfl rfl (opr_eqAgg hT rfl (by kernel_rfl) rfl rfl rfl rfl rfl) ?_)
  refine J_split 22 rfl (fun hc2 => ?_) (fun hc2 => ?_)
  · rw [bad (.inr (.inr (.inl (of_decide_eq_true hc2))))]
    repeat (first
      | with_reducible refine J_seq ?_ | with_reducible refine J_then ?_ | with_reducible refine J_then_ret ?_ | with_reducible refine J_region ?_ | with_reducible refine J_nil ?_ | with_reducible refine J_ret ?_ | with_reducible refine J_skip ?_
      | with_reducible refine J_block ?_ | with_reducible refine J_then_exit ?_ | with_reducible refine J_blk ?_ | with_reducible refine J_blk_ret ?_ | with_reducible refine J_blk_exit ?_ | refine J_blk_exit_ne rfl ?_ | with_reducible refine J_exit ?_
      | refine J_no rfl rfl rfl ?_ | refine J_yes rfl rfl rfl (stepA_ok hT rfl) ?_ | refine J_op rfl rfl (stepA_ok hT rfl) ?_
      | refine J_op rfl rfl (opr_lit hT rfl rfl rfl rfl) ?_ | refine J_op rfl rfl (opr_idxArr hT rfl rfl rfl rfl rfl) ?_ | refine J_op rfl rfl (opr_eqAgg hT rfl (by kernel_rfl) rfl rfl rfl rfl rfl) ?_
      | refine J_yes rfl rfl rfl (opr_lit hT rfl rfl rfl rfl) ?_ | refine J_yes rfl rfl rfl (opr_idxArr hT rfl rfl rfl rfl rfl) ?_ | refine J_yes rfl rfl rfl (opr_eqAgg hT rfl (by kernel_rfl) rfl rfl rfl rfl rfl) ?_)
    refine J_cond rfl (fun _ => ?_) (fun h => Bool.noConfusion h)
    repeat (first
      | with_reducible refine J_seq ?_ | with_reducible refine J_then ?_ | with_reducible refine J_then_ret ?_ | with_reducible refine J_region ?_ | with_reducible refine J_nil ?_ | with_reducible refine J_ret ?_ | with_reducible refine J_skip ?_
      | with_reducible refine J_block ?_ | with_reducible refine J_then_exit ?_ | with_reducible refine J_blk ?_ | with_reducible refine J_blk_ret ?_ | with_reducible refine J_blk_exit ?_ | refine J_blk_exit_ne rfl ?_ | with_reducible refine J_exit ?_
      | refine J_no rfl rfl rfl ?_ | refine J_yes rfl rfl rfl (stepA_ok hT rfl) ?_ | refine J_op rfl rfl (stepA_ok hT rfl) ?_
      | refine J_op rfl rfl (opr_lit hT rfl rfl rfl rfl) ?_ | refine J_op rfl rfl (opr_idxArr hT rfl rfl rfl rfl rfl) ?_ | refine J_op rfl rfl (opr_eqAgg hT rfl (by kernel_rfl) rfl rfl rfl rfl rfl) ?_
      | refine J_yes rfl rfl rfl (opr_lit hT rfl rfl rfl rfl) ?_ | refine J_yes rfl rfl rfl (opr_idxArr hT rfl rfl rfl rfl rfl) ?_ | refine J_yes rfl rfl rfl (opr_eqAgg hT rfl (by kernel_rfl) rfl rfl rfl rfl rfl) ?_)
    refine J_op rfl rfl (opr_call0 rfl rfl rfl rfl rfl (fixed15_spec [])) ?_
    repeat (first
      | with_reducible refine J_seq ?_ | with_reducible refine J_then ?_ | with_reducible refine J_then_ret ?_ | with_reducible refine J_region ?_ | with_reducible refine J_nil ?_ | with_reducible refine J_ret ?_ | with_reducible refine J_skip ?_
      | with_reducible refine J_block ?_ | with_reducible refine J_then_exit ?_ | with_reducible refine J_blk ?_ | with_reducible refine J_blk_ret ?_ | with_reducible refine J_blk_exit ?_ | refine J_blk_exit_ne rfl ?_ | with_reducible refine J_exit ?_
      | refine J_no rfl rfl rfl ?_ | refine J_yes rfl rfl rfl (stepA_ok hT rfl) ?_ | refine J_op rfl rfl (stepA_ok hT rfl) ?_
      | refine J_op rfl rfl (opr_lit hT rfl rfl rfl rfl) ?_ | refine J_op rfl rfl (opr_idxArr hT rfl rfl rfl rfl rfl) ?_ | refine J_op rfl rfl (opr_eqAgg hT rfl (by kernel_rfl) rfl rfl rfl rfl rfl) ?_
      | refine J_yes rfl rfl rfl (opr_lit hT rfl rfl rfl rfl) ?_ | refine J_yes rfl rfl rfl (opr_idxArr hT rfl rfl rfl rfl rfl) ?_ | refine J_yes rfl rfl rfl (opr_eqAgg hT rfl (by kernel_rfl) rfl rfl rfl rfl rfl) ?_)
    exact J_done hT rfl rfl rfl
  have hc2 : ¬ o > 4096 := of_decide_eq_false hc2
  have e1 : IntKind.i64.wrap (4096 - o) = 4096 - o := IntWalk.i64_in _ (by omega)
  repeat (first
    | with_reducible refine J_seq ?_ | with_reducible refine J_then ?_ | with_reducible refine J_then_ret ?_ | with_reducible refine J_region ?_ | with_reducible refine J_nil ?_ | with_reducible refine J_ret ?_ | with_reducible refine J_skip ?_
    | with_reducible refine J_block ?_ | with_reducible refine J_then_exit ?_ | with_reducible refine J_blk ?_ | with_reducible refine J_blk_ret ?_ | with_reducible refine J_blk_exit ?_ | refine J_blk_exit_ne rfl ?_ | with_reducible refine J_exit ?_
    | refine J_no rfl rfl rfl ?_ | refine J_yes rfl rfl rfl (stepA_ok hT rfl) ?_ | refine J_op rfl rfl (stepA_ok hT rfl) ?_
    | refine J_op rfl rfl (opr_lit hT rfl rfl rfl rfl) ?_ | refine J_op rfl rfl (opr_idxArr hT rfl rfl rfl rfl rfl) ?_ | refine J_op rfl rfl (opr_eqAgg hT rfl (by kernel_rfl) rfl rfl rfl rfl rfl) ?_
    | refine J_yes rfl rfl rfl (opr_lit hT rfl rfl rfl rfl) ?_ | refine J_yes rfl rfl rfl (opr_idxArr hT rfl rfl rfl rfl rfl) ?_ | refine J_yes rfl rfl rfl (opr_eqAgg hT rfl (by kernel_rfl) rfl rfl rfl rfl rfl) ?_)
  refine J_cond rfl (fun hc3 => ?_) (fun hc3 => ?_)
  · have hc4 := of_decide_eq_true hc3
    rw [e1] at hc4
    rw [bad (.inr (.inr (.inr hc4)))]
    repeat (first
      | with_reducible refine J_seq ?_ | with_reducible refine J_then ?_ | with_reducible refine J_then_ret ?_ | with_reducible refine J_region ?_ | with_reducible refine J_nil ?_ | with_reducible refine J_ret ?_ | with_reducible refine J_skip ?_
      | with_reducible refine J_block ?_ | with_reducible refine J_then_exit ?_ | with_reducible refine J_blk ?_ | with_reducible refine J_blk_ret ?_ | with_reducible refine J_blk_exit ?_ | refine J_blk_exit_ne rfl ?_ | with_reducible refine J_exit ?_
      | refine J_no rfl rfl rfl ?_ | refine J_yes rfl rfl rfl (stepA_ok hT rfl) ?_ | refine J_op rfl rfl (stepA_ok hT rfl) ?_
      | refine J_op rfl rfl (opr_lit hT rfl rfl rfl rfl) ?_ | refine J_op rfl rfl (opr_idxArr hT rfl rfl rfl rfl rfl) ?_ | refine J_op rfl rfl (opr_eqAgg hT rfl (by kernel_rfl) rfl rfl rfl rfl rfl) ?_
      | refine J_yes rfl rfl rfl (opr_lit hT rfl rfl rfl rfl) ?_ | refine J_yes rfl rfl rfl (opr_idxArr hT rfl rfl rfl rfl rfl) ?_ | refine J_yes rfl rfl rfl (opr_eqAgg hT rfl (by kernel_rfl) rfl rfl rfl rfl rfl) ?_)
    refine J_op rfl rfl (opr_call0 rfl rfl rfl rfl rfl (fixed15_spec [])) ?_
    repeat (first
      | with_reducible refine J_seq ?_ | with_reducible refine J_then ?_ | with_reducible refine J_then_ret ?_ | with_reducible refine J_region ?_ | with_reducible refine J_nil ?_ | with_reducible refine J_ret ?_ | with_reducible refine J_skip ?_
      | with_reducible refine J_block ?_ | with_reducible refine J_then_exit ?_ | with_reducible refine J_blk ?_ | with_reducible refine J_blk_ret ?_ | with_reducible refine J_blk_exit ?_ | refine J_blk_exit_ne rfl ?_ | with_reducible refine J_exit ?_
      | refine J_no rfl rfl rfl ?_ | refine J_yes rfl rfl rfl (stepA_ok hT rfl) ?_ | refine J_op rfl rfl (stepA_ok hT rfl) ?_
      | refine J_op rfl rfl (opr_lit hT rfl rfl rfl rfl) ?_ | refine J_op rfl rfl (opr_idxArr hT rfl rfl rfl rfl rfl) ?_ | refine J_op rfl rfl (opr_eqAgg hT rfl (by kernel_rfl) rfl rfl rfl rfl rfl) ?_
      | refine J_yes rfl rfl rfl (opr_lit hT rfl rfl rfl rfl) ?_ | refine J_yes rfl rfl rfl (opr_idxArr hT rfl rfl rfl rfl rfl) ?_ | refine J_yes rfl rfl rfl (opr_eqAgg hT rfl (by kernel_rfl) rfl rfl rfl rfl rfl) ?_)
    exact J_done hT rfl rfl rfl
  have hc4 := of_decide_eq_false hc3
  rw [e1] at hc4
  have e : cutV o n = .ps (pieces n.toNat o n) := by
    simp [cutV, cutBad]; omega
  rw [e]
  repeat (first
    | with_reducible refine J_seq ?_ | with_reducible refine J_then ?_ | with_reducible refine J_then_ret ?_ | with_reducible refine J_region ?_ | with_reducible refine J_nil ?_ | with_reducible refine J_ret ?_ | with_reducible refine J_skip ?_
    | with_reducible refine J_block ?_ | with_reducible refine J_then_exit ?_ | with_reducible refine J_blk ?_ | with_reducible refine J_blk_ret ?_ | with_reducible refine J_blk_exit ?_ | refine J_blk_exit_ne rfl ?_ | with_reducible refine J_exit ?_
    | refine J_no rfl rfl rfl ?_ | refine J_yes rfl rfl rfl (stepA_ok hT rfl) ?_ | refine J_op rfl rfl (stepA_ok hT rfl) ?_
    | refine J_op rfl rfl (opr_lit hT rfl rfl rfl rfl) ?_ | refine J_op rfl rfl (opr_idxArr hT rfl rfl rfl rfl rfl) ?_ | refine J_op rfl rfl (opr_eqAgg hT rfl (by kernel_rfl) rfl rfl rfl rfl rfl) ?_
    | refine J_yes rfl rfl rfl (opr_lit hT rfl rfl rfl rfl) ?_ | refine J_yes rfl rfl rfl (opr_idxArr hT rfl rfl rfl rfl rfl) ?_ | refine J_yes rfl rfl rfl (opr_eqAgg hT rfl (by kernel_rfl) rfl rfl rfl rfl rfl) ?_)
  refine J_loop (ι := I o n) (fun i => [(0, .p (.int .i64 o)), (1, .p (.int .i64 n)), (6, .p (.int .i64 i.o1)), (35, .p (.ps (pieces n.toNat o n))), (36, .p (.int .i64 (pieces n.toNat o n).length)), (37, .p (.int .i64 i.i))]) (fun _ => []) (fun _ => []) (fun i => (pieces n.toNat o n).length - i.i) ⟨0, o, n, by omega, by omega, rfl, rfl, .inl rfl, by omega⟩ ⟨rfl, rfl, rfl, rfl, rfl, rfl, trivial⟩ rfl rfl fun i => ?_
  obtain ⟨i, o1, n1, h0, h1, h2, h3, h4, h5⟩ := i
  dsimp only
  repeat (first
    | with_reducible refine J_seq ?_ | with_reducible refine J_then ?_ | with_reducible refine J_then_ret ?_ | with_reducible refine J_region ?_ | with_reducible refine J_nil ?_ | with_reducible refine J_ret ?_ | with_reducible refine J_skip ?_
    | with_reducible refine J_block ?_ | with_reducible refine J_then_exit ?_ | with_reducible refine J_blk ?_ | with_reducible refine J_blk_ret ?_ | with_reducible refine J_blk_exit ?_ | refine J_blk_exit_ne rfl ?_ | with_reducible refine J_exit ?_
    | refine J_no rfl rfl rfl ?_ | refine J_yes rfl rfl rfl (stepA_ok hT rfl) ?_ | refine J_op rfl rfl (stepA_ok hT rfl) ?_
    | refine J_op rfl rfl (opr_lit hT rfl rfl rfl rfl) ?_ | refine J_op rfl rfl (opr_idxArr hT rfl rfl rfl rfl rfl) ?_ | refine J_op rfl rfl (opr_eqAgg hT rfl (by kernel_rfl) rfl rfl rfl rfl rfl) ?_
    | refine J_yes rfl rfl rfl (opr_lit hT rfl rfl rfl rfl) ?_ | refine J_yes rfl rfl rfl (opr_idxArr hT rfl rfl rfl rfl rfl) ?_ | refine J_yes rfl rfl rfl (opr_eqAgg hT rfl (by kernel_rfl) rfl rfl rfl rfl rfl) ?_)
  refine J_cond rfl (fun hd => ?_) (fun hd => ?_)
  · have hd1 : (i : Int) < (pieces n.toNat o n).length := of_decide_eq_true hd
    have hpos : 0 < n1 := by
      rcases Int.lt_or_eq_of_le h1 with h | h
      · exact h
      · exfalso
        have hl := congrArg List.length h3
        rw [← h] at hl
        simp [pieces] at hl
        omega
    have hp := pieces_step o1 n1 h0 hpos
    have hrow : (pieces n.toNat o n)[i]? = some (cutRow o1 n1) := by
      have hl : ((pieces n.toNat o n).drop i)[0]? = some (cutRow o1 n1) := by rw [h3, hp]; rfl
      rw [List.getElem?_drop] at hl
      simpa using hl
    repeat (first
      | with_reducible refine J_seq ?_ | with_reducible refine J_then ?_ | with_reducible refine J_then_ret ?_ | with_reducible refine J_region ?_ | with_reducible refine J_nil ?_ | with_reducible refine J_ret ?_ | with_reducible refine J_skip ?_
      | with_reducible refine J_block ?_ | with_reducible refine J_then_exit ?_ | with_reducible refine J_blk ?_ | with_reducible refine J_blk_ret ?_ | with_reducible refine J_blk_exit ?_ | refine J_blk_exit_ne rfl ?_ | with_reducible refine J_exit ?_
      | refine J_no rfl rfl rfl ?_ | refine J_yes rfl rfl rfl (stepA_ok hT rfl) ?_ | refine J_op rfl rfl (stepA_ok hT rfl) ?_
      | refine J_op rfl rfl (opr_lit hT rfl rfl rfl rfl) ?_ | refine J_op rfl rfl (opr_idxArr hT rfl rfl rfl rfl rfl) ?_ | refine J_op rfl rfl (opr_eqAgg hT rfl (by kernel_rfl) rfl rfl rfl rfl rfl) ?_
      | refine J_yes rfl rfl rfl (opr_lit hT rfl rfl rfl rfl) ?_ | refine J_yes rfl rfl rfl (opr_idxArr hT rfl rfl rfl rfl rfl) ?_ | refine J_yes rfl rfl rfl (opr_eqAgg hT rfl (by kernel_rfl) rfl rfl rfl rfl rfl) ?_)
    refine J_op rfl rfl (opr_index hT rfl rfl rfl rfl rfl (.ps _) (by omega) hd1) ?_
    refine J_op rfl rfl (opr_load_el hT rfl rfl (.ps _) (by simpa using hrow) rfl rfl) ?_
    have b1 : IntKind.i64.wrap (IntKind.i64.wrap (o1 / 64 * 64) + o1 % 64) = o1 := by rw [IntWalk.i64_in (o1 / 64 * 64) (by omega), IntWalk.i64_in _ (by omega)]; omega
    have b2 : IntKind.i64.wrap (o1 % 64 + min n1 (64 - o1 % 64)) = o1 % 64 + min n1 (64 - o1 % 64) := IntWalk.i64_in _ (by omega)
    have b3 : IntKind.i64.wrap (o1 + min n1 (64 - o1 % 64)) = o1 + min n1 (64 - o1 % 64) := IntWalk.i64_in _ (by omega)
    have b4 : IntKind.i64.wrap ((i : Int) + 1) = ((i + 1 : Nat) : Int) := by rw [IntWalk.i64_in _ (by have := h5; have := pieces_len n.toNat o n; omega)]; omega
    repeat (first
      | with_reducible refine J_seq ?_ | with_reducible refine J_then ?_ | with_reducible refine J_then_ret ?_ | with_reducible refine J_region ?_ | with_reducible refine J_nil ?_ | with_reducible refine J_ret ?_ | with_reducible refine J_skip ?_
      | with_reducible refine J_block ?_ | with_reducible refine J_then_exit ?_ | with_reducible refine J_blk ?_ | with_reducible refine J_blk_ret ?_ | with_reducible refine J_blk_exit ?_ | refine J_blk_exit_ne rfl ?_ | with_reducible refine J_exit ?_
      | refine J_no rfl rfl rfl ?_ | refine J_yes rfl rfl rfl (stepA_ok hT rfl) ?_ | refine J_op rfl rfl (stepA_ok hT rfl) ?_
      | refine J_op rfl rfl (opr_lit hT rfl rfl rfl rfl) ?_ | refine J_op rfl rfl (opr_idxArr hT rfl rfl rfl rfl rfl) ?_ | refine J_op rfl rfl (opr_eqAgg hT rfl (by kernel_rfl) rfl rfl rfl rfl rfl) ?_
      | refine J_yes rfl rfl rfl (opr_lit hT rfl rfl rfl rfl) ?_ | refine J_yes rfl rfl rfl (opr_idxArr hT rfl rfl rfl rfl rfl) ?_ | refine J_yes rfl rfl rfl (opr_eqAgg hT rfl (by kernel_rfl) rfl rfl rfl rfl rfl) ?_)
    refine J_false 50 rfl (by rw [b1]; simp) ?_
    repeat (first
      | with_reducible refine J_seq ?_ | with_reducible refine J_then ?_ | with_reducible refine J_then_ret ?_ | with_reducible refine J_region ?_ | with_reducible refine J_nil ?_ | with_reducible refine J_ret ?_ | with_reducible refine J_skip ?_
      | with_reducible refine J_block ?_ | with_reducible refine J_then_exit ?_ | with_reducible refine J_blk ?_ | with_reducible refine J_blk_ret ?_ | with_reducible refine J_blk_exit ?_ | refine J_blk_exit_ne rfl ?_ | with_reducible refine J_exit ?_
      | refine J_no rfl rfl rfl ?_ | refine J_yes rfl rfl rfl (stepA_ok hT rfl) ?_ | refine J_op rfl rfl (stepA_ok hT rfl) ?_
      | refine J_op rfl rfl (opr_lit hT rfl rfl rfl rfl) ?_ | refine J_op rfl rfl (opr_idxArr hT rfl rfl rfl rfl rfl) ?_ | refine J_op rfl rfl (opr_eqAgg hT rfl (by kernel_rfl) rfl rfl rfl rfl rfl) ?_
      | refine J_yes rfl rfl rfl (opr_lit hT rfl rfl rfl rfl) ?_ | refine J_yes rfl rfl rfl (opr_idxArr hT rfl rfl rfl rfl rfl) ?_ | refine J_yes rfl rfl rfl (opr_eqAgg hT rfl (by kernel_rfl) rfl rfl rfl rfl rfl) ?_)
    refine J_false 55 rfl (decide_eq_false (by show ¬ o1 % 64 < 0; omega)) ?_
    repeat (first
      | with_reducible refine J_seq ?_ | with_reducible refine J_then ?_ | with_reducible refine J_then_ret ?_ | with_reducible refine J_region ?_ | with_reducible refine J_nil ?_ | with_reducible refine J_ret ?_ | with_reducible refine J_skip ?_
      | with_reducible refine J_block ?_ | with_reducible refine J_then_exit ?_ | with_reducible refine J_blk ?_ | with_reducible refine J_blk_ret ?_ | with_reducible refine J_blk_exit ?_ | refine J_blk_exit_ne rfl ?_ | with_reducible refine J_exit ?_
      | refine J_no rfl rfl rfl ?_ | refine J_yes rfl rfl rfl (stepA_ok hT rfl) ?_ | refine J_op rfl rfl (stepA_ok hT rfl) ?_
      | refine J_op rfl rfl (opr_lit hT rfl rfl rfl rfl) ?_ | refine J_op rfl rfl (opr_idxArr hT rfl rfl rfl rfl rfl) ?_ | refine J_op rfl rfl (opr_eqAgg hT rfl (by kernel_rfl) rfl rfl rfl rfl rfl) ?_
      | refine J_yes rfl rfl rfl (opr_lit hT rfl rfl rfl rfl) ?_ | refine J_yes rfl rfl rfl (opr_idxArr hT rfl rfl rfl rfl rfl) ?_ | refine J_yes rfl rfl rfl (opr_eqAgg hT rfl (by kernel_rfl) rfl rfl rfl rfl rfl) ?_)
    refine J_false 60 rfl (decide_eq_false (by show ¬ min n1 (64 - o1 % 64) < 1; omega)) ?_
    repeat (first
      | with_reducible refine J_seq ?_ | with_reducible refine J_then ?_ | with_reducible refine J_then_ret ?_ | with_reducible refine J_region ?_ | with_reducible refine J_nil ?_ | with_reducible refine J_ret ?_ | with_reducible refine J_skip ?_
      | with_reducible refine J_block ?_ | with_reducible refine J_then_exit ?_ | with_reducible refine J_blk ?_ | with_reducible refine J_blk_ret ?_ | with_reducible refine J_blk_exit ?_ | refine J_blk_exit_ne rfl ?_ | with_reducible refine J_exit ?_
      | refine J_no rfl rfl rfl ?_ | refine J_yes rfl rfl rfl (stepA_ok hT rfl) ?_ | refine J_op rfl rfl (stepA_ok hT rfl) ?_
      | refine J_op rfl rfl (opr_lit hT rfl rfl rfl rfl) ?_ | refine J_op rfl rfl (opr_idxArr hT rfl rfl rfl rfl rfl) ?_ | refine J_op rfl rfl (opr_eqAgg hT rfl (by kernel_rfl) rfl rfl rfl rfl rfl) ?_
      | refine J_yes rfl rfl rfl (opr_lit hT rfl rfl rfl rfl) ?_ | refine J_yes rfl rfl rfl (opr_idxArr hT rfl rfl rfl rfl rfl) ?_ | refine J_yes rfl rfl rfl (opr_eqAgg hT rfl (by kernel_rfl) rfl rfl rfl rfl rfl) ?_)
    refine J_false 68 rfl (decide_eq_false (by rw [b2]; omega)) ?_
    repeat (first
      | with_reducible refine J_seq ?_ | with_reducible refine J_then ?_ | with_reducible refine J_then_ret ?_ | with_reducible refine J_region ?_ | with_reducible refine J_nil ?_ | with_reducible refine J_ret ?_ | with_reducible refine J_skip ?_
      | with_reducible refine J_block ?_ | with_reducible refine J_then_exit ?_ | with_reducible refine J_blk ?_ | with_reducible refine J_blk_ret ?_ | with_reducible refine J_blk_exit ?_ | refine J_blk_exit_ne rfl ?_ | with_reducible refine J_exit ?_
      | refine J_no rfl rfl rfl ?_ | refine J_yes rfl rfl rfl (stepA_ok hT rfl) ?_ | refine J_op rfl rfl (stepA_ok hT rfl) ?_
      | refine J_op rfl rfl (opr_lit hT rfl rfl rfl rfl) ?_ | refine J_op rfl rfl (opr_idxArr hT rfl rfl rfl rfl rfl) ?_ | refine J_op rfl rfl (opr_eqAgg hT rfl (by kernel_rfl) rfl rfl rfl rfl rfl) ?_
      | refine J_yes rfl rfl rfl (opr_lit hT rfl rfl rfl rfl) ?_ | refine J_yes rfl rfl rfl (opr_idxArr hT rfl rfl rfl rfl rfl) ?_ | refine J_yes rfl rfl rfl (opr_eqAgg hT rfl (by kernel_rfl) rfl rfl rfl rfl rfl) ?_)
    refine J_split 71 rfl (fun hi => ?_) (fun hi => ?_)
    · have hi1 := of_decide_eq_true hi
      repeat (first
        | with_reducible refine J_seq ?_ | with_reducible refine J_then ?_ | with_reducible refine J_then_ret ?_ | with_reducible refine J_region ?_ | with_reducible refine J_nil ?_ | with_reducible refine J_ret ?_ | with_reducible refine J_skip ?_
        | with_reducible refine J_block ?_ | with_reducible refine J_then_exit ?_ | with_reducible refine J_blk ?_ | with_reducible refine J_blk_ret ?_ | with_reducible refine J_blk_exit ?_ | refine J_blk_exit_ne rfl ?_ | with_reducible refine J_exit ?_
        | refine J_no rfl rfl rfl ?_ | refine J_yes rfl rfl rfl (stepA_ok hT rfl) ?_ | refine J_op rfl rfl (stepA_ok hT rfl) ?_
        | refine J_op rfl rfl (opr_lit hT rfl rfl rfl rfl) ?_ | refine J_op rfl rfl (opr_idxArr hT rfl rfl rfl rfl rfl) ?_ | refine J_op rfl rfl (opr_eqAgg hT rfl (by kernel_rfl) rfl rfl rfl rfl rfl) ?_
        | refine J_yes rfl rfl rfl (opr_lit hT rfl rfl rfl rfl) ?_ | refine J_yes rfl rfl rfl (opr_idxArr hT rfl rfl rfl rfl rfl) ?_ | refine J_yes rfl rfl rfl (opr_eqAgg hT rfl (by kernel_rfl) rfl rfl rfl rfl rfl) ?_)
      refine J_false 76 rfl (by
        have : o1 % 64 = 0 := by rcases h4 with h | h | h <;> omega
        show (bif true then o1 % 64 != 0 else false) = false
        rw [this]; rfl) ?_
      refine J_cond rfl (fun h => Bool.noConfusion h) (fun _ => ?_)
      repeat (first
        | with_reducible refine J_seq ?_ | with_reducible refine J_then ?_ | with_reducible refine J_then_ret ?_ | with_reducible refine J_region ?_ | with_reducible refine J_nil ?_ | with_reducible refine J_ret ?_ | with_reducible refine J_skip ?_
        | with_reducible refine J_block ?_ | with_reducible refine J_then_exit ?_ | with_reducible refine J_blk ?_ | with_reducible refine J_blk_ret ?_ | with_reducible refine J_blk_exit ?_ | refine J_blk_exit_ne rfl ?_ | with_reducible refine J_exit ?_
        | refine J_no rfl rfl rfl ?_ | refine J_yes rfl rfl rfl (stepA_ok hT rfl) ?_ | refine J_op rfl rfl (stepA_ok hT rfl) ?_
        | refine J_op rfl rfl (opr_lit hT rfl rfl rfl rfl) ?_ | refine J_op rfl rfl (opr_idxArr hT rfl rfl rfl rfl rfl) ?_ | refine J_op rfl rfl (opr_eqAgg hT rfl (by kernel_rfl) rfl rfl rfl rfl rfl) ?_
        | refine J_yes rfl rfl rfl (opr_lit hT rfl rfl rfl rfl) ?_ | refine J_yes rfl rfl rfl (opr_idxArr hT rfl rfl rfl rfl rfl) ?_ | refine J_yes rfl rfl rfl (opr_eqAgg hT rfl (by kernel_rfl) rfl rfl rfl rfl rfl) ?_)
      refine J_take 0 [(0, .p (.int .i64 o)), (1, .p (.int .i64 n)), (6, .p (.int .i64 (o1 + min n1 (64 - o1 % 64)))), (35, .p (.ps (pieces n.toNat o n))), (36, .p (.int .i64 (pieces n.toNat o n).length)), (37, .p (.int .i64 ((i + 1 : Nat) : Int)))] ⟨rfl, rfl, congrArg (fun z => TV.p (.int .i64 z)) b3, rfl, rfl, congrArg (fun z => TV.p (.int .i64 z)) b4, trivial⟩ rfl rfl ?_
      exact J_again (ι := I o n) (i := ⟨i, o1, n1, h0, h1, h2, h3, h4, h5⟩) ⟨i + 1, o1 + min n1 (64 - o1 % 64), n1 - min n1 (64 - o1 % 64), by omega, by omega, by omega, by rw [← List.drop_drop, h3, hp]; rfl, by omega, by omega⟩ (by dsimp only; omega) ⟨rfl, rfl, rfl, rfl, rfl, rfl, trivial⟩ rfl rfl
    · repeat (first
        | with_reducible refine J_seq ?_ | with_reducible refine J_then ?_ | with_reducible refine J_then_ret ?_ | with_reducible refine J_region ?_ | with_reducible refine J_nil ?_ | with_reducible refine J_ret ?_ | with_reducible refine J_skip ?_
        | with_reducible refine J_block ?_ | with_reducible refine J_then_exit ?_ | with_reducible refine J_blk ?_ | with_reducible refine J_blk_ret ?_ | with_reducible refine J_blk_exit ?_ | refine J_blk_exit_ne rfl ?_ | with_reducible refine J_exit ?_
        | refine J_no rfl rfl rfl ?_ | refine J_yes rfl rfl rfl (stepA_ok hT rfl) ?_ | refine J_op rfl rfl (stepA_ok hT rfl) ?_
        | refine J_op rfl rfl (opr_lit hT rfl rfl rfl rfl) ?_ | refine J_op rfl rfl (opr_idxArr hT rfl rfl rfl rfl rfl) ?_ | refine J_op rfl rfl (opr_eqAgg hT rfl (by kernel_rfl) rfl rfl rfl rfl rfl) ?_
        | refine J_yes rfl rfl rfl (opr_lit hT rfl rfl rfl rfl) ?_ | refine J_yes rfl rfl rfl (opr_idxArr hT rfl rfl rfl rfl rfl) ?_ | refine J_yes rfl rfl rfl (opr_eqAgg hT rfl (by kernel_rfl) rfl rfl rfl rfl rfl) ?_)
      refine J_cond rfl (fun h => Bool.noConfusion h) (fun _ => ?_)
      repeat (first
        | with_reducible refine J_seq ?_ | with_reducible refine J_then ?_ | with_reducible refine J_then_ret ?_ | with_reducible refine J_region ?_ | with_reducible refine J_nil ?_ | with_reducible refine J_ret ?_ | with_reducible refine J_skip ?_
        | with_reducible refine J_block ?_ | with_reducible refine J_then_exit ?_ | with_reducible refine J_blk ?_ | with_reducible refine J_blk_ret ?_ | with_reducible refine J_blk_exit ?_ | refine J_blk_exit_ne rfl ?_ | with_reducible refine J_exit ?_
        | refine J_no rfl rfl rfl ?_ | refine J_yes rfl rfl rfl (stepA_ok hT rfl) ?_ | refine J_op rfl rfl (stepA_ok hT rfl) ?_
        | refine J_op rfl rfl (opr_lit hT rfl rfl rfl rfl) ?_ | refine J_op rfl rfl (opr_idxArr hT rfl rfl rfl rfl rfl) ?_ | refine J_op rfl rfl (opr_eqAgg hT rfl (by kernel_rfl) rfl rfl rfl rfl rfl) ?_
        | refine J_yes rfl rfl rfl (opr_lit hT rfl rfl rfl rfl) ?_ | refine J_yes rfl rfl rfl (opr_idxArr hT rfl rfl rfl rfl rfl) ?_ | refine J_yes rfl rfl rfl (opr_eqAgg hT rfl (by kernel_rfl) rfl rfl rfl rfl rfl) ?_)
      refine J_take 0 [(0, .p (.int .i64 o)), (1, .p (.int .i64 n)), (6, .p (.int .i64 (o1 + min n1 (64 - o1 % 64)))), (35, .p (.ps (pieces n.toNat o n))), (36, .p (.int .i64 (pieces n.toNat o n).length)), (37, .p (.int .i64 ((i + 1 : Nat) : Int)))] ⟨rfl, rfl, congrArg (fun z => TV.p (.int .i64 z)) b3, rfl, rfl, congrArg (fun z => TV.p (.int .i64 z)) b4, trivial⟩ rfl rfl ?_
      exact J_again (ι := I o n) (i := ⟨i, o1, n1, h0, h1, h2, h3, h4, h5⟩) ⟨i + 1, o1 + min n1 (64 - o1 % 64), n1 - min n1 (64 - o1 % 64), by omega, by omega, by omega, by rw [← List.drop_drop, h3, hp]; rfl, by omega, by omega⟩ (by dsimp only; omega) ⟨rfl, rfl, rfl, rfl, rfl, rfl, trivial⟩ rfl rfl
  · have hd1 : ¬ (i : Int) < (pieces n.toNat o n).length := of_decide_eq_false hd
    have hz : n1 = 0 := by
      have hl := congrArg List.length h3
      rcases Int.lt_or_eq_of_le h1 with h | h
      · rw [pieces_step o1 n1 h0 h] at hl
        simp at hl
        omega
      · exact h.symm
    have c1 : IntKind.i64.wrap (o + n) = o + n := IntWalk.i64_in _ (by omega)
    repeat (first
      | with_reducible refine J_seq ?_ | with_reducible refine J_then ?_ | with_reducible refine J_then_ret ?_ | with_reducible refine J_region ?_ | with_reducible refine J_nil ?_ | with_reducible refine J_ret ?_ | with_reducible refine J_skip ?_
      | with_reducible refine J_block ?_ | with_reducible refine J_then_exit ?_ | with_reducible refine J_blk ?_ | with_reducible refine J_blk_ret ?_ | with_reducible refine J_blk_exit ?_ | refine J_blk_exit_ne rfl ?_ | with_reducible refine J_exit ?_
      | refine J_no rfl rfl rfl ?_ | refine J_yes rfl rfl rfl (stepA_ok hT rfl) ?_ | refine J_op rfl rfl (stepA_ok hT rfl) ?_
      | refine J_op rfl rfl (opr_lit hT rfl rfl rfl rfl) ?_ | refine J_op rfl rfl (opr_idxArr hT rfl rfl rfl rfl rfl) ?_ | refine J_op rfl rfl (opr_eqAgg hT rfl (by kernel_rfl) rfl rfl rfl rfl rfl) ?_
      | refine J_yes rfl rfl rfl (opr_lit hT rfl rfl rfl rfl) ?_ | refine J_yes rfl rfl rfl (opr_idxArr hT rfl rfl rfl rfl rfl) ?_ | refine J_yes rfl rfl rfl (opr_eqAgg hT rfl (by kernel_rfl) rfl rfl rfl rfl rfl) ?_)
    refine J_op rfl rfl (opr_call0 rfl rfl rfl rfl rfl (fixed15_spec [])) ?_
    repeat (first
      | with_reducible refine J_seq ?_ | with_reducible refine J_then ?_ | with_reducible refine J_then_ret ?_ | with_reducible refine J_region ?_ | with_reducible refine J_nil ?_ | with_reducible refine J_ret ?_ | with_reducible refine J_skip ?_
      | with_reducible refine J_block ?_ | with_reducible refine J_then_exit ?_ | with_reducible refine J_blk ?_ | with_reducible refine J_blk_ret ?_ | with_reducible refine J_blk_exit ?_ | refine J_blk_exit_ne rfl ?_ | with_reducible refine J_exit ?_
      | refine J_no rfl rfl rfl ?_ | refine J_yes rfl rfl rfl (stepA_ok hT rfl) ?_ | refine J_op rfl rfl (stepA_ok hT rfl) ?_
      | refine J_op rfl rfl (opr_lit hT rfl rfl rfl rfl) ?_ | refine J_op rfl rfl (opr_idxArr hT rfl rfl rfl rfl rfl) ?_ | refine J_op rfl rfl (opr_eqAgg hT rfl (by kernel_rfl) rfl rfl rfl rfl rfl) ?_
      | refine J_yes rfl rfl rfl (opr_lit hT rfl rfl rfl rfl) ?_ | refine J_yes rfl rfl rfl (opr_idxArr hT rfl rfl rfl rfl rfl) ?_ | refine J_yes rfl rfl rfl (opr_eqAgg hT rfl (by kernel_rfl) rfl rfl rfl rfl rfl) ?_)
    refine J_true 4 rfl (by show (bif true then (o1 == IntKind.i64.wrap (o + n)) else false) = true; rw [c1]; simp; omega) ?_
    exact J_done hT rfl rfl rfl
end nodeCuts
end Go.Proofs.Ytfkibkfjebppdaa

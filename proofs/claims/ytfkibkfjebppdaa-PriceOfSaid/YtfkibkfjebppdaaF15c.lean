/- What the laws of chapter 15 fix; the law NodeBlocks. -/
import Derived.Test.YtfkibkfjebppdaaGo
import Derived.Test.YtfkibkfjebppdaaF15b
-- @OLD
namespace Go.Proofs.Ytfkibkfjebppdaa
open Go.Awp
theorem cut_60 (H : List AObj) : Con Try.prog 15 [.p (.int .i64 60), .p (.int .i64 10)] H (.p (.ps [.agg [.int .i64 0, .int .i64 60, .int .i64 4], .agg [.int .i64 1, .int .i64 0, .int .i64 6]])) H [] := by
  have h := cut_spec 60 10 (by decide) (by decide) H
  have e : cutV 60 10 = .ps [.agg [.int .i64 0, .int .i64 60, .int .i64 4], .agg [.int .i64 1, .int .i64 0, .int .i64 6]] := by
    have : ¬ cutBad 60 10 := by decide
    simp only [cutV, this, if_false]
    rfl
  rw [e] at h
  exact h
theorem blocks_65 (H : List AObj) : Con Try.prog 17 [.p (.int .i64 65)] H (.p (.int .i64 2)) H [] := blocks_spec 65 (by decide) H
theorem fixed15_spec (H : List AObj) : Con Try.prog 16 [] H (.p (.bool true)) H [] := by
  refine con_of Try.func16 rfl (by kernel_rfl) rfl fun F w0 β0 => ?_
  refine go0 ?_
  refine J_op rfl rfl (opr_call0 rfl rfl rfl rfl rfl (cut_60 H)) ?_
  refine go0 ?_
  refine J_yes rfl rfl rfl (opr_index hT rfl rfl rfl rfl rfl (.ps _) (by decide) (by decide)) ?_
  refine J_yes rfl rfl rfl (opr_load_el hT rfl rfl (.ps _) rfl rfl rfl) ?_
  refine go0 ?_
  refine J_yes rfl rfl rfl (opr_index hT rfl rfl rfl rfl rfl (.ps _) (by decide) (by decide)) ?_
  refine J_yes rfl rfl rfl (opr_load_el hT rfl rfl (.ps _) rfl rfl rfl) ?_
  refine go0 ?_
  refine J_yes rfl rfl rfl (opr_call0 rfl rfl rfl rfl rfl (blocks_65 H)) ?_
  refine go0 ?_
  exact J_done hT rfl rfl rfl
end Go.Proofs.Ytfkibkfjebppdaa

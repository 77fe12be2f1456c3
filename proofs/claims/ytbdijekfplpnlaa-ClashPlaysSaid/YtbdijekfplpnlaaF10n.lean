/- The laws of layer 10: fixed. -/
import Derived.Test.YtbdijekfplpnlaaGo
import Derived.Test.YtbdijekfplpnlaaF10m
-- @D
namespace Go.Proofs.Ytbdijekfplpnlaa
set_option maxRecDepth 20000
open Go.Awp Tr
theorem fixed_parts : ∃ t1 t2 t3 : Tr, Con Try.prog 16 [W .nil, .p (.str [97]), .p (.str [])] [] (W t1) [] [] ∧ Con Try.prog 16 [W t1, .p (.str [98]), .p (.str [])] [] (W t2) [] [] ∧ Con Try.prog 18 [W t2, .p (.str [97])] [] (W t3) [] []
    ∧ Con Try.prog 20 [W t1] [] (.p (.int .i64 1)) [] [] ∧ Con Try.prog 20 [W t2] [] (.p (.int .i64 2)) [] [] ∧ Con Try.prog 20 [W t3] [] (.p (.int .i64 1)) [] [] :=
  ⟨_, _, _, tset_spec [97] [] .nil (by decide), tset_spec [98] [] _ (by decide), tcut_spec _ [97] (by decide), tlen_spec _, tlen_spec _, tlen_spec _⟩
set_option maxHeartbeats 4000000 in
theorem fixed10_spec : Con Try.prog 22 [] [] (.p (.bool true)) [] [] := by
  obtain ⟨t1, t2, t3, c1, c2, c3, c4, c5, c6⟩ := fixed_parts
  refine con_of Try.func22 rfl (by kernel_rfl) rfl fun F w0 β0 => ?_
  refine K_tell rfl ?_
  refine go ?_
  refine K_op rfl rfl (opr_callP rfl rfl (tnew_spec) rfl rfl rfl rfl) rfl ?_
  refine go ?_
  refine K_op rfl rfl (opr_callP rfl rfl (c1) rfl rfl rfl rfl) rfl ?_
  refine go ?_
  refine K_op rfl rfl (opr_callP rfl rfl (c2) rfl rfl rfl rfl) rfl ?_
  refine go ?_
  refine K_op rfl rfl (opr_callP rfl rfl (c3) rfl rfl rfl rfl) rfl ?_
  refine go ?_
  refine K_op rfl rfl (opr_callP rfl rfl (c4) rfl rfl rfl rfl) rfl ?_
  refine go ?_
  refine K_yes rfl rfl rfl (opr_callP rfl rfl (c5) rfl rfl rfl rfl) rfl ?_
  refine go ?_
  refine K_yes rfl rfl rfl (opr_callP rfl rfl (c6) rfl rfl rfl rfl) rfl ?_
  refine go ?_
  exact J_done hT rfl rfl rfl
end Go.Proofs.Ytbdijekfplpnlaa

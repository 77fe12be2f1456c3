/- The laws of layer 14: fixed. -/
import Derived.Test.YtbdijekfplpnlaaGo
import Derived.Test.YtbdijekfplpnlaaF14d
-- @D
namespace Go.Proofs.Ytbdijekfplpnlaa
set_option maxRecDepth 20000
open Go.Awp Tr
theorem fixed14_parts : ∃ (t1 : Tr) (s0 s1 s2 s3 : VS), Con Try.prog 16 [W .nil, .p (.str [97]), .p (.str [49])] [] (W t1) [] [] ∧ Con Try.prog 34 [W t1] [] (.ad (.l 0) 0) [] (vN s0)
    ∧ Con Try.prog 38 [vP, .p (.str [97])] (vH s0) (.p (.bool true)) (vH s1) [] ∧ Con Try.prog 35 [vP, .p (.str [98]), .p (.str [50])] (vH s1) (.p (.bool true)) (vH s2) []
    ∧ Con Try.prog 39 [vP, .p (.str []), .p (.str [122])] (vH s2) (.p (.ps [kvV ([98], [50])])) (vH s3) []
    ∧ Con Try.prog 36 [vP] (vH s3) (.p (.ps [pwV ([97], [], true), pwV ([98], [50], false)])) (vH s3) [] :=
  ⟨_, _, _, _, _, tset_spec [97] [49] .nil (by decide), vnew_spec _, vcut_spec _ [97] (by decide) (by decide), vset_spec _ [98] [50] (by decide) (by decide) (by decide),
    (vrange_spec _ [] [122] (by decide) (by decide)).toPs (.inl rfl), Con.freeze (vwrites_spec _ (by decide)) rfl⟩
set_option maxHeartbeats 4000000 in
theorem fixed14_spec : Con Try.prog 37 [] [] (.p (.bool true)) [] [] := by
  obtain ⟨t1, s0, s1, s2, s3, c1, c2, c3, c4, c5, c6⟩ := fixed14_parts
  refine con_of Try.func37 rfl (by kernel_rfl) rfl fun F w0 β0 => ?_
  refine K_tell rfl ?_
  refine go ?_
  refine K_op rfl rfl (opr_callP rfl rfl (tnew_spec) rfl rfl rfl rfl) rfl ?_
  refine go ?_
  refine K_op rfl rfl (opr_callP rfl rfl (c1) rfl rfl rfl rfl) rfl ?_
  refine go ?_
  refine K_op rfl rfl (opr_callP rfl rfl (c2) rfl rfl rfl rfl) rfl ?_
  refine go ?_
  refine K_op rfl rfl (opr_callS [.l 0, .l 1] rfl rfl (c3) rfl rfl rfl ⟨⟨rfl, rfl⟩, ⟨rfl, rfl⟩, trivial⟩ rfl rfl rfl rfl) rfl ?_
  refine go ?_
  refine K_op rfl rfl (opr_callS [.l 0, .l 1] rfl rfl (c4) rfl rfl rfl ⟨⟨rfl, rfl⟩, ⟨rfl, rfl⟩, trivial⟩ rfl rfl rfl rfl) rfl ?_
  refine go ?_
  refine K_op rfl rfl (opr_callS [.l 0, .l 1] rfl rfl (c5) rfl rfl rfl ⟨⟨rfl, rfl⟩, ⟨rfl, rfl⟩, trivial⟩ rfl rfl rfl rfl) rfl ?_
  refine go ?_
  refine K_op rfl rfl (opr_callS [.l 0, .l 1] rfl rfl (c6) rfl rfl rfl ⟨⟨rfl, rfl⟩, ⟨rfl, rfl⟩, trivial⟩ rfl rfl rfl rfl) rfl ?_
  refine go ?_
  refine K_yes rfl rfl rfl (opr_index hT rfl rfl rfl rfl rfl (.ps _) (by decide) (by decide)) rfl ?_
  refine go ?_
  refine K_yes rfl rfl rfl (opr_load_el hT rfl rfl (.ps _) rfl rfl rfl) rfl ?_
  refine go ?_
  refine K_yes rfl rfl rfl (opr_index hT rfl rfl rfl rfl rfl (.ps _) (by decide) (by decide)) rfl ?_
  refine go ?_
  refine K_yes rfl rfl rfl (opr_load_el hT rfl rfl (.ps _) rfl rfl rfl) rfl ?_
  refine go ?_
  refine K_yes rfl rfl rfl (opr_index hT rfl rfl rfl rfl rfl (.ps _) (by decide) (by decide)) rfl ?_
  refine go ?_
  refine K_yes rfl rfl rfl (opr_load_el hT rfl rfl (.ps _) rfl rfl rfl) rfl ?_
  refine go ?_
  refine K_yes rfl rfl rfl (opr_index hT rfl rfl rfl rfl rfl (.ps _) (by decide) (by decide)) rfl ?_
  refine go ?_
  refine K_yes rfl rfl rfl (opr_load_el hT rfl rfl (.ps _) rfl rfl rfl) rfl ?_
  refine go ?_
  refine K_yes rfl rfl rfl (opr_index hT rfl rfl rfl rfl rfl (.ps _) (by decide) (by decide)) rfl ?_
  refine go ?_
  refine K_yes rfl rfl rfl (opr_load_el hT rfl rfl (.ps _) rfl rfl rfl) rfl ?_
  refine go ?_
  exact J_done hT rfl rfl rfl
end Go.Proofs.Ytbdijekfplpnlaa

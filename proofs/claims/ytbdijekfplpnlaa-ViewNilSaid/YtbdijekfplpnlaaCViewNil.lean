/- The law ViewNil: its contract. -/
import Derived.Test.YtbdijekfplpnlaaGo
import Derived.Test.YtbdijekfplpnlaaF14f
-- @D
namespace Go.Proofs.Ytbdijekfplpnlaa
set_option maxRecDepth 20000
open Go.Awp Tr
abbrev np : TV := .p .nilp
theorem vgetN (k : List UInt8) : Con Try.prog 44 [np, .p (.str k)] [] (.tup [.p (.str []), .p (.bool false)]) [] [] := by
  refine con_of Try.func44 rfl (by kernel_rfl) rfl fun F w0 β0 => ?_
  refine K_tell rfl ?_
  refine go ?_
  exact J_done hT rfl rfl rfl
theorem vlookN (k : List UInt8) : Con Try.prog 45 [np, .p (.str k)] [] (.tup [.p (.str []), .p (.bool false)]) [] [] := by
  refine con_of Try.func45 rfl (by kernel_rfl) rfl fun F w0 β0 => ?_
  refine K_tell rfl ?_
  refine go ?_
  exact J_done hT rfl rfl rfl
theorem vrangeN (a b : List UInt8) : Con Try.prog 39 [np, .p (.str a), .p (.str b)] [] (.p .nils) [] [] := by
  refine con_of Try.func39 rfl (by kernel_rfl) rfl fun F w0 β0 => ?_
  refine K_tell rfl ?_
  refine go ?_
  exact J_done hT rfl rfl rfl
theorem vroomN (k : List UInt8) : Con Try.prog 61 [np, .p (.str k)] [] (.p (.bool false)) [] [] := by
  refine con_of Try.func61 rfl (by kernel_rfl) rfl fun F w0 β0 => ?_
  refine K_tell rfl ?_
  refine go ?_
  exact J_done hT rfl rfl rfl
theorem vsetN (k v : List UInt8) : Con Try.prog 35 [np, .p (.str k), .p (.str v)] [] (.p (.bool false)) [] [] := by
  refine con_of Try.func35 rfl (by kernel_rfl) rfl fun F w0 β0 => ?_
  refine K_tell rfl ?_
  refine go ?_
  refine K_op rfl rfl (opr_callP rfl rfl (vroomN k) rfl rfl rfl rfl) rfl ?_
  refine go ?_
  exact J_done hT rfl rfl rfl
theorem vcutN (k : List UInt8) : Con Try.prog 38 [np, .p (.str k)] [] (.p (.bool false)) [] [] := by
  refine con_of Try.func38 rfl (by kernel_rfl) rfl fun F w0 β0 => ?_
  refine K_tell rfl ?_
  refine go ?_
  refine K_op rfl rfl (opr_callP rfl rfl (vroomN k) rfl rfl rfl rfl) rfl ?_
  refine go ?_
  exact J_done hT rfl rfl rfl
theorem vwritesN : Con Try.prog 36 [np] [] (.p .nils) [] [] := by
  refine con_of Try.func36 rfl (by kernel_rfl) rfl fun F w0 β0 => ?_
  refine K_tell rfl ?_
  refine go ?_
  exact J_done hT rfl rfl rfl
theorem vreadsN : Con Try.prog 46 [np] [] (.p .nils) [] [] := by
  refine con_of Try.func46 rfl (by kernel_rfl) rfl fun F w0 β0 => ?_
  refine K_tell rfl ?_
  refine go ?_
  exact J_done hT rfl rfl rfl
theorem vrangesN : Con Try.prog 47 [np] [] (.p .nils) [] [] := by
  refine con_of Try.func47 rfl (by kernel_rfl) rfl fun F w0 β0 => ?_
  refine K_tell rfl ?_
  refine go ?_
  exact J_done hT rfl rfl rfl
theorem vcopyN : Con Try.prog 43 [np] [] np [] [] := by
  refine con_of Try.func43 rfl (by kernel_rfl) rfl fun F w0 β0 => ?_
  refine K_tell rfl ?_
  refine go ?_
  exact J_done hT rfl rfl rfl
namespace viewNil
set_option maxHeartbeats 8000000 in
theorem con {a0 : List AV} (s0 : All2 (Shp tab 8) [3, 9, 9] a0) : Con Try.prog 11 [.p (.agg a0)] [] (.p (.bool true)) [] [] := by
  obtain ⟨x, y, z, rfl, hx, hy, hz⟩ := all2_3 s0
  obtain ⟨n, rfl, hn⟩ := hx.int rfl
  obtain ⟨k, rfl, hk⟩ := hy.str rfl
  obtain ⟨v, rfl, hv⟩ := hz.str rfl
  refine con_of Try.func11 rfl (by kernel_rfl) rfl fun F w0 β0 => ?_
  refine K_tell rfl ?_
  refine go ?_
  refine K_op rfl rfl (opr_callP rfl rfl (vgetN k) rfl rfl rfl rfl) rfl ?_
  refine go ?_
  refine K_op rfl rfl (opr_callP rfl rfl (vlookN k) rfl rfl rfl rfl) rfl ?_
  refine go ?_
  refine K_op rfl rfl (opr_callP rfl rfl (fixed14_spec) rfl rfl rfl rfl) rfl ?_
  refine go ?_
  refine K_yes rfl rfl rfl (opr_callP rfl rfl (vrangeN k v) rfl rfl rfl rfl) rfl ?_
  refine go ?_
  refine K_yes rfl rfl rfl (opr_callP rfl rfl (vsetN k v) rfl rfl rfl rfl) rfl ?_
  refine go ?_
  refine K_yes rfl rfl rfl (opr_callP rfl rfl (vcutN k) rfl rfl rfl rfl) rfl ?_
  refine go ?_
  refine K_yes rfl rfl rfl (opr_callP rfl rfl (vwritesN) rfl rfl rfl rfl) rfl ?_
  refine go ?_
  refine K_yes rfl rfl rfl (opr_callP rfl rfl (vreadsN) rfl rfl rfl rfl) rfl ?_
  refine go ?_
  refine K_yes rfl rfl rfl (opr_callP rfl rfl (vrangesN) rfl rfl rfl rfl) rfl ?_
  refine go ?_
  refine K_yes rfl rfl rfl (opr_callP rfl rfl (vcopyN) rfl rfl rfl rfl) rfl ?_
  refine go ?_
  exact J_done hT rfl rfl rfl
end viewNil
end Go.Proofs.Ytbdijekfplpnlaa

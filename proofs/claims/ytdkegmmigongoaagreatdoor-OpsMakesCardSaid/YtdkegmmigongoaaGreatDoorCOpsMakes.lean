import Derived.Test.YtdkegmmigongoaaGreatDoorGo
import Derived.Test.YtdkegmmigongoaaGreatDoorM29
namespace Go.Proofs.YtdkegmmigongoaaGreatDoor
set_option maxRecDepth 20000
open Go.Awp Tr
namespace opsMakes
theorem makes4 (o : Op20) (d : AV) (hk : o.kind = 4) : Con Tryz.prog 26 [oA20 o d] [] (.p (.bool true)) [] [] := by
 obtain ⟨k, p, q, hd, fm, n, b⟩ := o
 obtain rfl : k = 4 := hk
 refine con_of Tryz.func26 rfl (by kernel_rfl) rfl fun F w0 β0 => ?_
 refine K_tell rfl ?_
 refine go ?_
 exact J_done hT rfl rfl rfl
theorem makes5 (o : Op20) (d : AV) (hk : o.kind = 5) : Con Tryz.prog 26 [oA20 o d] [] (.p (.bool true)) [] [] := by
 obtain ⟨k, p, q, hd, fm, n, b⟩ := o
 obtain rfl : k = 5 := hk
 refine con_of Tryz.func26 rfl (by kernel_rfl) rfl fun F w0 β0 => ?_
 refine K_tell rfl ?_
 refine go ?_
 exact J_done hT rfl rfl rfl
theorem makesX (o : Op20) (d : AV) (h4 : o.kind ≠ 4) (h5 : o.kind ≠ 5) : Con Tryz.prog 26 [oA20 o d] [] (.p (.bool false)) [] [] := by
 refine con_of Tryz.func26 rfl (by kernel_rfl) rfl fun F w0 β0 => ?_
 refine K_tell rfl ?_
 refine gx ?_
 refine J_false 6 rfl (by simpa using h4) ?_
 refine gx ?_
 refine J_false 2 rfl (by simpa using h5) ?_
 exact J_done hT rfl rfl rfl
theorem doNil (o : Op20) (d : AV) (i : Int) : Con Tryz.prog 15 [.p .nilp, oA20 o d, .p (.int .u32 i)] [] (resT (rs0 25) .nils .nils) [] [] := by
 have c1 := failed_spec 25
 refine con_of Tryz.func15 rfl (by kernel_rfl) rfl fun F w0 β0 => ?_
 refine K_tell rfl ?_
 refine go ?_
 refine K_op rfl rfl (opr_callP rfl rfl (c1) rfl rfl rfl rfl) rfl ?_
 refine go ?_
 exact J_done hT rfl rfl rfl
theorem viewNil20 : Con Tryz.prog 19 [.p .nilp] [] (.p .nilp) [] [] := by
 refine con_of Tryz.func19 rfl (by kernel_rfl) rfl fun F w0 β0 => ?_
 refine K_tell rfl ?_
 refine go ?_
 exact J_done hT rfl rfl rfl
theorem openNil : Con Tryz.prog 24 [.p .nilp] [] (.p .nils) [] [] := by
 refine con_of Tryz.func24 rfl (by kernel_rfl) rfl fun F w0 β0 => ?_
 refine K_tell rfl ?_
 refine go ?_
 exact J_done hT rfl rfl rfl
set_option maxHeartbeats 8000000 in
theorem con {a0 : List AV} (s0 : All2 (Shp tab 8) [5, 9, 9, 3, 3, 3, 31] a0) : Con Tryz.prog 6 [.p (.agg a0)] [] (.p (.bool true)) [] [] := by
 obtain ⟨x, hx, hxo⟩ := op_shp (n := 1) s0
 rw [hx]
 have c1 := great_spec x.o hxo.bs
 generalize great x.o = g at c1
 have cd := doNil x.o x.a 2
 cases g with
 | true =>
  refine con_of Tryz.func6 rfl (by kernel_rfl) rfl fun F w0 β0 => ?_
  refine K_tell rfl ?_
  refine go ?_
  refine K_op rfl rfl (opr_callP rfl rfl (c1) rfl rfl rfl rfl) rfl ?_
  refine go ?_
  refine K_op rfl rfl (opr_callP rfl rfl (fixed20_spec) rfl rfl rfl rfl) rfl ?_
  refine go ?_
  exact J_done hT rfl rfl rfl
 | false =>
  by_cases k4 : x.o.kind = 4
  ·have cm := makes4 x.o x.a k4
   have e : TV.p (.bool (x.o.kind == 4)) = .p (.bool true) := by rw [k4]; rfl
   refine con_of Tryz.func6 rfl (by kernel_rfl) rfl fun F w0 β0 => ?_
   refine K_tell rfl ?_
   refine go ?_
   refine K_op rfl rfl (opr_callP rfl rfl (c1) rfl rfl rfl rfl) rfl ?_
   refine go ?_
   refine J_draw [_] [] (by kernel_rfl) (by kernel_rfl) rfl ?_
   refine gd ?_
   refine T_opD rfl rfl rfl rfl rfl (opr_call0P rfl rfl fixed20_spec rfl rfl rfl) rfl ?_
   refine gd ?_
   refine T_yesD rfl rfl rfl rfl rfl rfl (opr_call0P rfl rfl cm rfl rfl rfl) rfl ?_
   iterate 2 (refine gd1 ?_)
   refine T_yesD rfl rfl rfl rfl rfl rfl (opr_at (stepN_ok hT rfl) e) rfl ?_
   refine gd ?_
   refine T_yesD rfl rfl rfl rfl rfl rfl (opr_call0P rfl rfl cd rfl rfl rfl) rfl ?_
   refine gd ?_
   refine T_yesD rfl rfl rfl rfl rfl rfl (opr_call0P rfl rfl viewNil20 rfl rfl rfl) rfl ?_
   refine gd ?_
   refine T_yesD rfl rfl rfl rfl rfl rfl (opr_call0P rfl rfl openNil rfl rfl rfl) rfl ?_
   refine gd ?_
   refine go ?_
   exact J_done hT rfl rfl rfl
  have e4 : TV.p (.bool (x.o.kind == 4)) = .p (.bool false) := by rw [show (x.o.kind == 4) = false by simpa using k4]
  by_cases k5 : x.o.kind = 5
  ·have cm := makes5 x.o x.a k5
   have e : TV.p (.bool (x.o.kind == 5)) = .p (.bool true) := by rw [k5]; rfl
   refine con_of Tryz.func6 rfl (by kernel_rfl) rfl fun F w0 β0 => ?_
   refine K_tell rfl ?_
   refine go ?_
   refine K_op rfl rfl (opr_callP rfl rfl (c1) rfl rfl rfl rfl) rfl ?_
   refine go ?_
   refine J_draw [_] [] (by kernel_rfl) (by kernel_rfl) rfl ?_
   refine gd ?_
   refine T_opD rfl rfl rfl rfl rfl (opr_call0P rfl rfl fixed20_spec rfl rfl rfl) rfl ?_
   refine gd ?_
   refine T_yesD rfl rfl rfl rfl rfl rfl (opr_call0P rfl rfl cm rfl rfl rfl) rfl ?_
   iterate 2 (refine gd1 ?_)
   refine T_yesD rfl rfl rfl rfl rfl rfl (opr_at (stepN_ok hT rfl) e4) rfl ?_
   iterate 3 (refine gd1 ?_)
   refine T_yesD rfl rfl rfl rfl rfl rfl (opr_at (stepN_ok hT rfl) e) rfl ?_
   refine gd ?_
   refine T_yesD rfl rfl rfl rfl rfl rfl (opr_call0P rfl rfl cd rfl rfl rfl) rfl ?_
   refine gd ?_
   refine T_yesD rfl rfl rfl rfl rfl rfl (opr_call0P rfl rfl viewNil20 rfl rfl rfl) rfl ?_
   refine gd ?_
   refine T_yesD rfl rfl rfl rfl rfl rfl (opr_call0P rfl rfl openNil rfl rfl rfl) rfl ?_
   refine gd ?_
   refine go ?_
   exact J_done hT rfl rfl rfl
  ·have cm := makesX x.o x.a k4 k5
   have e : TV.p (.bool (x.o.kind == 5)) = .p (.bool false) := by rw [show (x.o.kind == 5) = false by simpa using k5]
   refine con_of Tryz.func6 rfl (by kernel_rfl) rfl fun F w0 β0 => ?_
   refine K_tell rfl ?_
   refine go ?_
   refine K_op rfl rfl (opr_callP rfl rfl (c1) rfl rfl rfl rfl) rfl ?_
   refine go ?_
   refine J_draw [_] [] (by kernel_rfl) (by kernel_rfl) rfl ?_
   refine gd ?_
   refine T_opD rfl rfl rfl rfl rfl (opr_call0P rfl rfl fixed20_spec rfl rfl rfl) rfl ?_
   refine gd ?_
   refine T_yesD rfl rfl rfl rfl rfl rfl (opr_call0P rfl rfl cm rfl rfl rfl) rfl ?_
   iterate 2 (refine gd1 ?_)
   refine T_yesD rfl rfl rfl rfl rfl rfl (opr_at (stepN_ok hT rfl) e4) rfl ?_
   iterate 3 (refine gd1 ?_)
   refine T_yesD rfl rfl rfl rfl rfl rfl (opr_at (stepN_ok hT rfl) e) rfl ?_
   refine gd ?_
   refine T_yesD rfl rfl rfl rfl rfl rfl (opr_call0P rfl rfl cd rfl rfl rfl) rfl ?_
   refine gd ?_
   refine T_yesD rfl rfl rfl rfl rfl rfl (opr_call0P rfl rfl viewNil20 rfl rfl rfl) rfl ?_
   refine gd ?_
   refine T_yesD rfl rfl rfl rfl rfl rfl (opr_call0P rfl rfl openNil rfl rfl rfl) rfl ?_
   refine gd ?_
   refine go ?_
   exact J_done hT rfl rfl rfl
end opsMakes
end Go.Proofs.YtdkegmmigongoaaGreatDoor

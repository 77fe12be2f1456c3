import Derived.Test.YtdkegmmigongoaaGreatDoorGo
import Derived.Test.YtdkegmmigongoaaGreatDoorM37
namespace Go.Proofs.YtdkegmmigongoaaGreatDoor
set_option maxRecDepth 20000
open Go.Awp Tr
namespace checkClean
set_option maxHeartbeats 4000000 in
theorem con {u0 : AV} (s0 : Shp tab 8 22 u0) : Con Tryz.prog 9 [.p u0] [] (.p (.bool true)) [] [] := by
 obtain ⟨l, hs, hok, _⟩ := ops_shp20 s0
 have c1 := made_spec hs hok
 cases hm : made0 l with
 | none =>
  rw [hm] at c1
  change Con Tryz.prog _ _ _ (.tup [.p .nilp, .p .nils, .p (.bool false)]) _ _ at c1
  refine con_of Tryz.func9 rfl (by kernel_rfl) rfl fun F w0 β0 => ?_
  refine K_tell rfl ?_
  refine go ?_
  refine K_op rfl rfl (opr_callP rfl rfl (c1) rfl rfl rfl rfl) rfl ?_
  refine go ?_
  refine K_op rfl rfl (opr_callP rfl rfl (fixed27_spec) rfl rfl rfl rfl) rfl ?_
  refine go ?_
  exact J_done hT rfl rfl rfl
 | some s =>
  rw [hm] at c1
  obtain ⟨m, par, R, ha, hv⟩ := made_ok hm
  have c2 := clean_spec (tree_vj hv) (by omega)
  rw [chk_clean R ha (treeL_row hv.rs), decide_eq_true rfl] at c2
  change Con Tryz.prog _ _ _ (.tup [W (treeL s.shown.row), .p (.ps (kvs s.shown.row)), .p (.bool true)]) _ _ at c1
  generalize treeL s.shown.row = t at c1 c2
  refine con_of Tryz.func9 rfl (by kernel_rfl) rfl fun F w0 β0 => ?_
  refine K_tell rfl ?_
  refine go ?_
  refine K_op rfl rfl (opr_callP rfl rfl (c1) rfl rfl rfl rfl) rfl ?_
  refine go ?_
  refine K_op rfl rfl (opr_callP rfl rfl (fixed27_spec) rfl rfl rfl rfl) rfl ?_
  refine go ?_
  refine K_yes rfl rfl rfl (opr_callP rfl rfl (c2) rfl rfl rfl rfl) rfl ?_
  refine go ?_
  exact J_done hT rfl rfl rfl
end checkClean
end Go.Proofs.YtdkegmmigongoaaGreatDoor

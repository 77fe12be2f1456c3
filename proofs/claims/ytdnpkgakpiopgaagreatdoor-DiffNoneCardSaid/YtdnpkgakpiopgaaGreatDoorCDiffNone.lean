import Derived.Test.YtdnpkgakpiopgaaGreatDoorGo
import Derived.Test.YtdnpkgakpiopgaaGreatDoorM46
namespace Go.Proofs.YtdnpkgakpiopgaaGreatDoor
set_option maxRecDepth 20000
open Go.Awp Tr
namespace diffNone
set_option maxHeartbeats 4000000 in
theorem con {u0 : AV} (s0 : Shp tab 8 22 u0) : Con Tryz.prog 8 [.p u0] [] (.p (.bool true)) [] [] := by
 obtain ⟨l, hs, hok, _⟩ := zGr s0
 have c1 := zF7 hs hok
 cases hm : made0 l with
 | none =>
  rw [hm] at c1
  change Con Tryz.prog _ _ _ (.tup [.p .nilp, .p .nils, .p (.bool false)]) _ _ at c1
  refine zD Tryz.func8 rfl (by kernel_rfl) rfl fun F w0 β0 => ?_
  refine zE rfl ?_
  refine go ?_
  refine zH rfl rfl (zB rfl rfl (c1) rfl rfl rfl rfl) rfl ?_
  refine go ?_
  refine zH rfl rfl (zB rfl rfl (qM) rfl rfl rfl rfl) rfl ?_
  refine go ?_
  exact zC hT rfl rfl rfl
 | some s =>
  rw [hm] at c1
  obtain ⟨m, par, R, ha, hv⟩ := zT6 hm
  have hvt := zMj hv
  have htr := zA9 hv.rs
  have hsz : (treeL s.shown.row).size ≤ 10000 := hvt.zs
  have hval : ∀ x ∈ (treeL s.shown.row).row, x.1.length ≤ 100000 ∧ x.2.length ≤ 100000 := fun x hx => by
   rw [htr] at hx
   have := hv.val x hx
   omega
  have c2 := zHr (t := treeL s.shown.row) (by rw [htr]; exact R) hval (by omega)
  change Con Tryz.prog _ _ _ (.tup [W (treeL s.shown.row), .p (.ps (kvs s.shown.row)), .p (.bool true)]) _ _ at c1
  generalize treeL s.shown.row = t at c1 c2
  refine zD Tryz.func8 rfl (by kernel_rfl) rfl fun F w0 β0 => ?_
  refine zE rfl ?_
  refine go ?_
  refine zH rfl rfl (zB rfl rfl (c1) rfl rfl rfl rfl) rfl ?_
  refine go ?_
  refine zH rfl rfl (zB rfl rfl (qM) rfl rfl rfl rfl) rfl ?_
  refine go ?_
  refine zZ rfl rfl rfl (zB rfl rfl (c2) rfl rfl rfl rfl) rfl ?_
  refine go ?_
  exact zC hT rfl rfl rfl
end diffNone
end Go.Proofs.YtdnpkgakpiopgaaGreatDoor

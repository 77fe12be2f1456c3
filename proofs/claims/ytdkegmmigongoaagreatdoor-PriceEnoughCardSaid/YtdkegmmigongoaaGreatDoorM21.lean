import Derived.Test.YtdkegmmigongoaaGreatDoorGo
import Derived.Test.YtdkegmmigongoaaGreatDoorM20
namespace Go.Proofs.YtdkegmmigongoaaGreatDoor
set_option maxRecDepth 20000
open Go.Awp Tr
theorem range_all {s : VS} {n : Nat} (h : VJ s n) (hn : n ≤ 900000) {m : MF} {par : Int → Int} (R : Rel s.shown.row m par) : Con Tryz.prog 20 [vP, .p (.str []), .p (.str [255])] (vH s) (.p (.ps (kvs s.shown.row))) (vH (s.range [] [255])) [] := by
 have c := (vrange_spec s [] [255] (by have := h.zs; unfold big40; omega) (by have := h.zg; unfold big40; omega)).toPs (.inl rfl)
 rw [(based_row h R.ff).1] at c
 exact c
end Go.Proofs.YtdkegmmigongoaaGreatDoor

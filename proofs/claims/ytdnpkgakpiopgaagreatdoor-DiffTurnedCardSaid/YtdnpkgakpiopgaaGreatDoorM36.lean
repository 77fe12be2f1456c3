import Derived.Test.YtdnpkgakpiopgaaGreatDoorGo
import Derived.Test.YtdnpkgakpiopgaaGreatDoorM21
import Derived.Test.YtdnpkgakpiopgaaGreatDoorM35
import Derived.Test.YtdnpkgakpiopgaaGreatDoorM34
import Derived.Test.YtdnpkgakpiopgaaGreatDoorM14
import Derived.Test.YtdnpkgakpiopgaaGreatDoorM15
import Derived.Test.YtdnpkgakpiopgaaGreatDoorM29
namespace Go.Proofs.YtdnpkgakpiopgaaGreatDoor
set_option maxRecDepth 20000
open Go.Awp Tr
theorem zVc {s : VS} {n : Nat} (h : VJ s n) (hn : n ≤ 900000) {m : MF} {par : Int → Int} (R : Rel s.shown.row m par) : Con Tryz.prog 22 [vP, .p (.str []), .p (.str [255])] (vH s) (.p (.ps (kvs s.shown.row))) (vH (s.range [] [255])) [] := by
 have c := (zDk s [] [255] (by have := h.zs; unfold big40; omega) (by have := h.zg; unfold big40; omega)).toPs (.inl rfl)
 rw [(zGj h R.ff).1] at c
 exact c
theorem D20.next {s : VS} {l : List Int} {m : MF} {i : Nat} (d : D20 s l m (fun k => k < (2 + i : Nat)) i) (hi : i ≤ 100) (o : Op20) {q : RS × VS × List Int} (hq : sdo s l o (2 + i : Nat) = q) (he : q.1.e ≠ 21) : ∃ m', D20 q.2.1 q.2.2 m' (fun k => k < (2 + (i + 1) : Nat)) (i + 1) := by
 rcases d.step (Q := fun k => k < (2 + (i + 1) : Nat)) (by omega) o (j := (2 + i : Nat)) (by unfold U32; omega) (by omega) (by omega) (fun k h => by omega) (by omega) with h | ⟨_, _, h⟩
 ·rw [hq] at h; exact absurd h he
 ·rw [hq] at h; exact ⟨_, h⟩
theorem D20.start : D20 (VS.new .nil) noH newM (fun k => k < (2 + 0 : Nat)) 0 := D20.new (by decide)
end Go.Proofs.YtdnpkgakpiopgaaGreatDoor

/- price: Inode, Entry, File, Write. -/
import Derived.Test.YtfkibkfjebppdaaGo
import Derived.Test.YtfkibkfjebppdaaF09c
import Derived.Test.YtfkibkfjebppdaaF15d
-- @N
namespace Go.Proofs.Ytfkibkfjebppdaa
open Go.Awp
theorem pinode_spec (H : List AObj) : Con Try.prog 59 [] H (.p (.int .i64 50)) H [] := by
  refine con_of Try.func59 rfl (by kernel_rfl) rfl fun F w0 β0 => ?_
  refine goN ?_
  exact J_done hT rfl rfl rfl
theorem pentry_spec (m : List UInt8) (hm : m.length ≤ 1000000000000) (H : List AObj) : Con Try.prog 50 [.p (.str m)] H (.p (.int .i64 (41 + (m.length : Int)))) H [] := by
  have e : IntKind.i64.wrap (41 + (m.length : Int)) = 41 + (m.length : Int) := IntWalk.i64_in _ (by omega)
  refine con_of Try.func50 rfl (by kernel_rfl) rfl fun F w0 β0 => ?_
  refine goN ?_
  refine J_val 2 _ rfl (congrArg (fun z => TV.p (.int .i64 z)) e) ?_
  exact J_done hT rfl rfl rfl
theorem pfile_spec (n : Int) (h : -9223372036854775808 ≤ n ∧ n ≤ 9223372036854775807) (H : List AObj) : Con Try.prog 49 [.p (.int .i64 n)] H (.p (.int .i64 (IntKind.i64.wrap (50 + IntKind.i64.wrap (103 * blocks n))))) H [] := by
  refine con_of Try.func49 rfl (by kernel_rfl) rfl fun F w0 β0 => ?_
  refine goN ?_
  refine J_op rfl rfl (opr_call0 rfl rfl rfl rfl rfl (blocks_spec n h H)) ?_
  refine goN ?_
  exact J_done hT rfl rfl rfl
def cutN (o n : Int) : Nat := if cutBad o n then 0 else (pieces n.toNat o n).length
theorem cutN_le (o n : Int) : cutN o n ≤ 4096 := by
  unfold cutN
  split
  · omega
  · rename_i h
    have := pieces_len n.toNat o n
    unfold cutBad at h
    omega
theorem pwrite_spec (o n : Int) (ho : -9223372036854775808 ≤ o ∧ o ≤ 9223372036854775807) (hn : -9223372036854775808 ≤ n ∧ n ≤ 9223372036854775807) (H : List AObj) : Con Try.prog 51 [.p (.int .i64 o), .p (.int .i64 n)] H (.p (.int .i64 (50 + 103 * (cutN o n : Int)))) H [] := by
  have hcut := cut_spec o n ho hn H
  have hle := cutN_le o n
  refine con_of Try.func51 rfl (by kernel_rfl) rfl fun F w0 β0 => ?_
  by_cases hb : cutBad o n
  · have e : cutV o n = .nils := by simp [cutV, hb]
    have e2 : cutN o n = 0 := by simp [cutN, hb]
    rw [e] at hcut
    rw [e2]
    refine goN ?_
    refine J_op rfl rfl (opr_call0 rfl rfl rfl rfl rfl hcut) ?_
    refine goN ?_
    exact J_done hT rfl rfl rfl
  · have e : cutV o n = .ps (pieces n.toNat o n) := by simp [cutV, hb]
    have e2 : cutN o n = (pieces n.toNat o n).length := by simp [cutN, hb]
    rw [e] at hcut
    rw [e2] at hle ⊢
    have e5 : IntKind.i64.wrap (50 + IntKind.i64.wrap (103 * ((pieces n.toNat o n).length : Int))) = 50 + 103 * ((pieces n.toNat o n).length : Int) := by rw [IntWalk.i64_in (103 * _) (by omega), IntWalk.i64_in _ (by omega)]
    refine goN ?_
    refine J_op rfl rfl (opr_call0 rfl rfl rfl rfl rfl hcut) ?_
    refine goN ?_
    refine J_val 4 _ rfl (congrArg (fun z => TV.p (.int .i64 z)) e5) ?_
    exact J_done hT rfl rfl rfl
set_option maxHeartbeats 4000000 in
theorem size_spec (a b : List UInt8) (ha : a.length ≤ 48) (hb : b.length ≤ 64) (H : List AObj) : Con Try.prog 52 [.p (.str a), .p (.str b)] H (.p (.int .i64 (32 + (a.length : Int) + (b.length : Int)))) H [] := by
  have e : IntKind.i64.wrap (IntKind.i64.wrap (32 + (a.length : Int)) + (b.length : Int)) = 32 + (a.length : Int) + (b.length : Int) := by rw [IntWalk.i64_in (32 + _) (by omega), IntWalk.i64_in _ (by omega)]
  refine con_of Try.func52 rfl (by kernel_rfl) rfl fun F w0 β0 => ?_
  refine goN ?_
  refine J_false 8 rfl (decide_eq_false (by omega)) ?_
  refine goN ?_
  refine J_cond rfl (fun h => ?_) (fun _ => ?_)
  · have h1 : (b.length : Int) > 64 := of_decide_eq_true h
    omega
  refine goN ?_
  refine J_val 4 _ rfl (congrArg (fun z => TV.p (.int .i64 z)) e) ?_
  exact J_done hT rfl rfl rfl
set_option maxHeartbeats 4000000 in
theorem fixed23_spec (H : List AObj) : Con Try.prog 48 [] H (.p (.bool true)) H [] := by
  have h1 := pfile_spec 65 (by decide) H
  have h2 := pentry_spec [97, 98] (by decide) H
  have h3 := pwrite_spec 60 10 (by decide) (by decide) H
  rw [show cutN 60 10 = 2 by decide] at h3
  refine con_of Try.func48 rfl (by kernel_rfl) rfl fun F w0 β0 => ?_
  refine goN ?_
  refine J_op rfl rfl (opr_call0 rfl rfl rfl rfl rfl h1) ?_
  refine goN ?_
  refine J_yes rfl rfl rfl (opr_call0 rfl rfl rfl rfl rfl (pinode_spec H)) ?_
  refine goN ?_
  refine J_yes rfl rfl rfl (opr_call0 rfl rfl rfl rfl rfl h2) ?_
  refine goN ?_
  refine J_yes rfl rfl rfl (opr_call0 rfl rfl rfl rfl rfl h3) ?_
  refine goN ?_
  exact J_done hT rfl rfl rfl
end Go.Proofs.Ytfkibkfjebppdaa

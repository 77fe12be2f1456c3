/- node: Blocks, Cut, and what the laws of chapter 15 fix. -/
import Derived.Test.YtfkibkfjebppdaaGo
import Derived.Test.YtfkibkfjebppdaaRows
import Derived.Test.YtfkibkfjebppdaaTab
import Derived.IntWalk
-- @OLD
namespace Go.Proofs.Ytfkibkfjebppdaa
open Go.Awp
def blocks (n : Int) : Int := if n ≤ 0 then 0 else (n - 1) / 64 + 1
theorem blocks_spec (n : Int) (h : -9223372036854775808 ≤ n ∧ n ≤ 9223372036854775807) (H : List AObj) : Con Try.prog 17 [.p (.int .i64 n)] H (.p (.int .i64 (blocks n))) H [] := by
  refine con_of Try.func17 rfl (by kernel_rfl) rfl fun F w0 β0 => ?_
  refine go0 ?_
  refine J_cond rfl (fun hc => ?_) (fun hc => ?_)
  · simp only [decide_eq_true_eq] at hc
    have e : blocks n = 0 := by simp [blocks, hc]
    refine go0 ?_
    rw [e]
    exact J_done hT rfl rfl rfl
  · simp only [decide_eq_false_iff_not] at hc
    have e : IntKind.i64.wrap (IntKind.i64.wrap ((IntKind.i64.wrap (n - 1)).tdiv 64) + 1) = blocks n := by
      rw [IntWalk.i64_in (n - 1) (by omega), Int.tdiv_eq_ediv_of_nonneg (by omega), IntWalk.i64_in ((n - 1) / 64) (by omega), IntWalk.i64_in _ (by omega)]
      simp [blocks, hc]
    refine go0 ?_
    rw [← e]
    exact J_done hT rfl rfl rfl
end Go.Proofs.Ytfkibkfjebppdaa

/- node: New, Root, May. -/
import Derived.Test.YtfkibkfjebppdaaGo
import Derived.Test.YtfkibkfjebppdaaF15c
-- @OLD
namespace Go.Proofs.Ytfkibkfjebppdaa
open Go.Awp
def nodeV (k l s p : Int) : List AV := [.int .u8 k, .int .u32 l, .int .u32 s, .int .u32 p]
def newV (k p : Int) : List AV := if k = 1 then nodeV 1 1 0 0 else nodeV 2 2 0 p
def mayB (k l s p : Int) : Bool := if k = 1 then decide (l ≥ 1) && decide (l ≤ 1000) && decide (s ≤ 4096) && decide (p = 0) else if k = 2 then decide (l ≥ 2) && decide (s = 0) else false
set_option maxHeartbeats 4000000 in
theorem new_spec (k p : Int) (H : List AObj) : Con Try.prog 18 [.p (.int .u8 k), .p (.int .u32 p)] H (.agg ((newV k p).map .p)) H [] := by
  refine con_of Try.func18 rfl (by kernel_rfl) rfl fun F w0 β0 => ?_
  refine go0 ?_
  refine J_cond rfl (fun hc => ?_) (fun hc => ?_)
  · have hc1 : k = 1 := by simpa using hc
    have e : newV k p = nodeV 1 1 0 0 := by simp [newV, hc1]
    rw [e]
    refine go0 ?_
    exact J_done hT rfl rfl rfl
  · have hc1 : ¬ k = 1 := by simpa using hc
    have e : newV k p = nodeV 2 2 0 p := by simp [newV, hc1]
    rw [e]
    refine go0 ?_
    exact J_done hT rfl rfl rfl
theorem new_two (p : Int) (H : List AObj) : Con Try.prog 18 [.p (.int .u8 2), .p (.int .u32 p)] H (.agg ((nodeV 2 2 0 p).map .p)) H [] := new_spec 2 p H
theorem root_spec (H : List AObj) : Con Try.prog 19 [] H (.agg ((nodeV 2 2 0 1).map .p)) H [] := by
  refine con_of Try.func19 rfl (by kernel_rfl) rfl fun F w0 β0 => ?_
  refine go0 ?_
  refine J_op rfl rfl (opr_call0 rfl rfl rfl rfl rfl (new_two 1 H)) ?_
  refine go0 ?_
  exact J_done hT rfl rfl rfl
set_option maxHeartbeats 4000000 in
theorem may_spec (k l s p : Int) (H : List AObj) : Con Try.prog 20 [.p (.agg (nodeV k l s p))] H (.p (.bool (mayB k l s p))) H [] := by
  refine con_of Try.func20 rfl (by kernel_rfl) rfl fun F w0 β0 => ?_
  refine go0 ?_
  refine J_cond rfl (fun hc => ?_) (fun hc => ?_)
  · have hc1 : k = 1 := by simpa using hc
    refine go0 ?_
    refine J_split 10 rfl (fun h1 => ?_) (fun h1 => ?_)
    · have h1' := of_decide_eq_true h1
      refine go0 ?_
      refine J_split 15 rfl (fun h2 => ?_) (fun h2 => ?_)
      · have h2' := of_decide_eq_true h2
        refine go0 ?_
        refine J_split 20 rfl (fun h3 => ?_) (fun h3 => ?_)
        · have h3' := of_decide_eq_true h3
          refine go0 ?_
          have e : mayB k l s p = (p == 0) := by
            have e1 : (l ≥ 1) := h1'
            have e2 : (l ≤ 1000) := h2'
            have e3 : (s ≤ 4096) := h3'
            simp only [mayB, hc1, if_true, e1, e2, e3, decide_true, Bool.true_and]
            by_cases hp : p = 0 <;> simp [hp]
          rw [e]
          exact J_done hT rfl rfl rfl
        · have h3' := of_decide_eq_false h3
          refine go0 ?_
          have e : mayB k l s p = false := by
            have e3 : ¬ (s ≤ 4096) := h3'
            simp [mayB, hc1]; intros; omega
          rw [e]
          exact J_done hT rfl rfl rfl
      · have h2' := of_decide_eq_false h2
        refine go0 ?_
        have e : mayB k l s p = false := by
          have e3 : ¬ (l ≤ 1000) := h2'
          simp [mayB, hc1]; intros; omega
        rw [e]
        exact J_done hT rfl rfl rfl
    · have h1' := of_decide_eq_false h1
      refine go0 ?_
      have e : mayB k l s p = false := by
        have e3 : ¬ (l ≥ 1) := h1'
        simp [mayB, hc1]; intros; omega
      rw [e]
      exact J_done hT rfl rfl rfl
  · have hc1 : ¬ k = 1 := by simpa using hc
    refine go0 ?_
    refine J_cond rfl (fun hd => ?_) (fun hd => ?_)
    · have hd1 : k = 2 := by simpa using hd
      refine go0 ?_
      refine J_split 30 rfl (fun h1 => ?_) (fun h1 => ?_)
      · have h1' := of_decide_eq_true h1
        refine go0 ?_
        have e : mayB k l s p = (s == 0) := by
          have e1 : (l ≥ 2) := h1'
          simp only [mayB, hd1, e1, decide_true, Bool.true_and]
          by_cases hp : s = 0 <;> simp [hp]
        rw [e]
        exact J_done hT rfl rfl rfl
      · have h1' := of_decide_eq_false h1
        refine go0 ?_
        have e : mayB k l s p = false := by
          have e3 : ¬ (l ≥ 2) := h1'
          simp [mayB, hd1]; intros; omega
        rw [e]
        exact J_done hT rfl rfl rfl
    · have hd1 : ¬ k = 2 := by simpa using hd
      have e : mayB k l s p = false := by simp [mayB, hc1, hd1]
      rw [e]
      refine go0 ?_
      exact J_done hT rfl rfl rfl
end Go.Proofs.Ytfkibkfjebppdaa

/- The reference's May and Get of an inode. -/
import Derived.Test.YtfkibkfjebppdaaGo
import Derived.Test.YtfkibkfjebppdaaF15f
namespace Go.Proofs.Ytfkibkfjebppdaa
open Go.Awp
theorem rmay_spec (k l s p : Int) (hl : 0 ≤ l) : Con Try.prog 24 [.p (.agg (nodeV k l s p))] [] (.p (.bool (mayB k l s p))) [] [] := by
  refine con_of Try.func24 rfl (by kernel_rfl) rfl fun F w0 β0 => ?_
  refine K_tell rfl ?_
  refine go ?_
  refine J_cond rfl (fun hc => ?_) (fun hc => ?_)
  · have hc1 : k = 1 := by simpa using hc
    refine go ?_
    refine J_val 2 (.p (.bool (mayB k l s p))) rfl (congrArg (fun b => TV.p (.bool b)) ?_) ?_
    · rw [Bool.eq_iff_iff]; simp [mayB, hc1]; omega
    exact J_done hT rfl rfl rfl
  · have hc1 : ¬ k = 1 := by simpa using hc
    refine go ?_
    refine J_val 2 (.p (.bool (mayB k l s p))) rfl (congrArg (fun b => TV.p (.bool b)) ?_) ?_
    · rw [Bool.eq_iff_iff]; by_cases h2 : k = 2 <;> simp [mayB, hc1, h2]; omega
    exact J_done hT rfl rfl rfl
set_option maxHeartbeats 4000000 in
theorem rnget_spec (l : List UInt8) (hl : l.length ≤ 140737488355328) : Con Try.prog 25 [.p (.str l)] [] (nodeT (getNode l)) [] [] := by
  by_cases h13 : l.length = 13
  · have c1 := rget4 l 1 (by omega) hl
    have c2 := rget4 l 5 (by omega) hl
    have c3 := rget4 l 9 (by omega) hl
    have b1 := gF_bd l 1
    have b2 := gF_bd l 5
    have b3 := gF_bd l 9
    have hb : (bv l)[0]? = some (.int .u8 (b0 l)) := by rw [bv_get, nat13 h13]; rfl
    have cm := rmay_spec (b0 l) (gF l 1) (gF l 5) (gF l 9) b1.1
    have hbl : (0 : Int) < (bv l).length := by rw [bv_length]; omega
    generalize hg1 : gF l 1 = g1 at *
    generalize hg2 : gF l 5 = g2 at *
    generalize hg3 : gF l 9 = g3 at *
    have w1 : IntKind.u32.wrap g1 = g1 := u32_in _ b1
    have w2 : IntKind.u32.wrap g2 = g2 := u32_in _ b2
    have w3 : IntKind.u32.wrap g3 = g3 := u32_in _ b3
    refine con_of Try.func25 rfl (by kernel_rfl) rfl fun F w0 β0 => ?_
    refine K_tell rfl ?_
    refine go ?_
    refine J_false 17 rfl (by simp [h13]) ?_
    refine go ?_
    refine K_op rfl rfl (opr_callP rfl rfl (c1) rfl rfl rfl rfl) rfl ?_
    refine go ?_
    refine K_op rfl rfl (opr_callP rfl rfl (c2) rfl rfl rfl rfl) rfl ?_
    refine go ?_
    refine K_op rfl rfl (opr_callP rfl rfl (c3) rfl rfl rfl rfl) rfl ?_
    refine go ?_
    refine K_op rfl rfl (opr_index hT rfl rfl rfl rfl rfl (.ps _) (by decide) hbl) rfl ?_
    refine K_op rfl rfl (opr_load_el hT rfl rfl (.ps _) hb rfl rfl) rfl ?_
    refine go ?_
    rw [w1, w2, w3]
    refine K_op rfl rfl (opr_callP rfl rfl (cm) rfl rfl rfl rfl) rfl ?_
    refine go ?_
    refine J_cond rfl (fun hm => ?_) (fun hm => ?_)
    · have hm1 : mayB (b0 l) g1 g2 g3 = false := by simpa using hm
      have e : getNode l = none := by unfold getNode; rw [hg1, hg2, hg3, hm1]; simp
      rw [e]
      refine go ?_
      exact J_done hT rfl rfl rfl
    · have hm1 : mayB (b0 l) g1 g2 g3 = true := by simpa using hm
      have e : getNode l = some (b0 l, g1, g2, g3) := by unfold getNode; rw [hg1, hg2, hg3, hm1]; simp [h13]
      rw [e]
      refine go ?_
      exact J_done hT rfl rfl rfl
  · have e : getNode l = none := by unfold getNode; rw [if_neg (by omega)]
    rw [e]
    refine con_of Try.func25 rfl (by kernel_rfl) rfl fun F w0 β0 => ?_
    refine K_tell rfl ?_
    refine go ?_
    refine J_true 17 rfl (by simp; omega) ?_
    refine go ?_
    exact J_done hT rfl rfl rfl
end Go.Proofs.Ytfkibkfjebppdaa

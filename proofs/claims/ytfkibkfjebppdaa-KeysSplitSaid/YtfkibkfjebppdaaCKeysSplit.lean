/- The law KeysSplit: its contract. -/
import Derived.Test.YtfkibkfjebppdaaGo
import Derived.Test.YtfkibkfjebppdaaF09g
namespace Go.Proofs.Ytfkibkfjebppdaa
open Go.Awp
namespace keysSplit
set_option maxHeartbeats 8000000 in
theorem con {a0 : AV} (s0 : Shp tab 8 9 a0) : Con Try.prog 13 [.p a0] [] (.p (.bool true)) [] [] := by
  obtain ⟨l, rfl, hl⟩ := s0.str rfl
  unfold Go.Awp.reach at hl
  have p1 := ksplit_spec l (by omega)
  have p2 := rsplit_spec l (by omega)
  have p6 := fixed09_spec
  refine con_of Try.func13 rfl (by kernel_rfl) rfl fun F w0 β0 => ?_
  refine K_tell rfl ?_
  refine gx ?_
  refine J_cond rfl (fun hc => ?_) (fun hc => ?_)
  · refine gx ?_
    refine K_op rfl rfl (opr_callP rfl rfl (p6) rfl rfl rfl rfl) rfl ?_
    refine gx ?_
    exact J_done hT rfl rfl rfl
  rcases split_cases l with e | ⟨n, hn, e, el⟩ | ⟨n, m, hn, hm1, hm2, e, el⟩ | ⟨n, i, hn, hi, e, el⟩
  · rw [e] at p1 p2
    refine gx ?_
    refine K_op rfl rfl (opr_callP rfl rfl (p1) rfl rfl rfl rfl) rfl ?_
    refine gx ?_
    refine K_op rfl rfl (opr_callP rfl rfl (p2) rfl rfl rfl rfl) rfl ?_
    refine gx ?_
    refine K_op rfl rfl (opr_callP rfl rfl (p6) rfl rfl rfl rfl) rfl ?_
    refine gx ?_
    exact J_done hT rfl rfl rfl
  · rw [e] at p1 p2
    have p3 := kinode_spec n hn []
    rw [← el] at p3
    refine gx ?_
    refine K_op rfl rfl (opr_callP rfl rfl (p1) rfl rfl rfl rfl) rfl ?_
    refine gx ?_
    refine K_op rfl rfl (opr_callP rfl rfl (p2) rfl rfl rfl rfl) rfl ?_
    refine gx ?_
    refine J_false 36 rfl (by simp) ?_
    refine J_false 37 rfl (by simp) ?_
    refine gx ?_
    refine J_false 46 rfl (by simp) ?_
    refine gx ?_
    refine K_op rfl rfl (opr_callP rfl rfl (p6) rfl rfl rfl rfl) rfl ?_
    refine gx ?_
    refine K_yes rfl rfl rfl (opr_callP rfl rfl (p3) rfl rfl rfl rfl) rfl ?_
    refine gx ?_
    refine J_true 2 rfl (by simp) ?_
    exact J_done hT rfl rfl rfl
  · rw [e] at p1 p2
    have p3 := kentry_spec n m hn []
    rw [show entryK n m = l by unfold entryK; rw [if_neg (by omega), el]] at p3
    refine gx ?_
    refine K_op rfl rfl (opr_callP rfl rfl (p1) rfl rfl rfl rfl) rfl ?_
    refine gx ?_
    refine K_op rfl rfl (opr_callP rfl rfl (p2) rfl rfl rfl rfl) rfl ?_
    refine gx ?_
    refine J_false 37 rfl (by simp) ?_
    refine gx ?_
    refine J_false 42 rfl (by simp) ?_
    refine gx ?_
    refine J_false 46 rfl (by simp) ?_
    refine gx ?_
    refine K_op rfl rfl (opr_callP rfl rfl (p6) rfl rfl rfl rfl) rfl ?_
    refine gx ?_
    refine K_yes rfl rfl rfl (opr_callP rfl rfl (p3) rfl rfl rfl rfl) rfl ?_
    refine gx ?_
    refine J_true 2 rfl (by simp) ?_
    exact J_done hT rfl rfl rfl
  · rw [e] at p1 p2
    have p3 := kblock_spec n i hn []
    rw [show blockK n i = l by unfold blockK; rw [if_neg (by omega), el]] at p3
    refine gx ?_
    refine K_op rfl rfl (opr_callP rfl rfl (p1) rfl rfl rfl rfl) rfl ?_
    refine gx ?_
    refine K_op rfl rfl (opr_callP rfl rfl (p2) rfl rfl rfl rfl) rfl ?_
    refine gx ?_
    refine J_false 37 rfl (by simp) ?_
    refine gx ?_
    refine J_false 46 rfl (by simp) ?_
    refine gx ?_
    refine K_op rfl rfl (opr_callP rfl rfl (p6) rfl rfl rfl rfl) rfl ?_
    refine gx ?_
    refine K_yes rfl rfl rfl (opr_callP rfl rfl (p3) rfl rfl rfl rfl) rfl ?_
    refine gx ?_
    refine J_true 2 rfl (by simp) ?_
    exact J_done hT rfl rfl rfl
end keysSplit
end Go.Proofs.Ytfkibkfjebppdaa

/- The law ClashIs: its contract. -/
import Derived.Test.YtbdijekfplpnlaaGo
import Derived.Test.YtbdijekfplpnlaaF21d
-- @D
namespace Go.Proofs.Ytbdijekfplpnlaa
set_option maxRecDepth 20000
open Go.Awp Tr
namespace clashIs
set_option maxHeartbeats 8000000 in
theorem con {a0 a1 a2 : AV} (s0 : Shp tab 8 41 a0) (s1 : Shp tab 8 54 a1) (s2 : Shp tab 8 37 a2) : Con Try.prog 12 [.p a0, .p a1, .p a2] [] (.p (.bool true)) [] [] := by
  obtain ⟨l0, h0, _, m0⟩ := strs_shp s0
  obtain ⟨l1, h1, _, m1⟩ := rgs_shp s1
  obtain ⟨l2, h2, _, m2⟩ := pws_shp s2
  have n0 : (l0.map AV.str).length = l0.length := by simp
  have n1 : (l1.map rgV).length = l1.length := by simp
  have n2 : (l2.map pwV).length = l2.length := by simp
  refine con_of Try.func12 rfl (by kernel_rfl) rfl fun F w0 β0 => ?_
  refine K_tell rfl ?_
  refine go ?_
  refine K_op rfl rfl (opr_len_rd hT rfl rfl (h0.rd _ _)) rfl ?_
  rw [n0]
  refine go ?_
  refine K_opt rfl rfl rfl need1 (fun _ => opr_len_rd hT rfl rfl (h1.rd _ _)) rfl ?_
  rw [n1]
  refine go ?_
  refine K_opt rfl rfl rfl need1 (fun _ => opr_len_rd hT rfl rfl (h2.rd _ _)) rfl ?_
  rw [n2]
  refine go ?_
  refine J_cond rfl (fun hc => ?_) (fun hc => ?_)
  · refine go ?_
    refine K_op rfl rfl (opr_callP rfl rfl (fixed21_spec) rfl rfl rfl rfl) rfl ?_
    refine go ?_
    exact J_done hT rfl rfl rfl
  simp only [Bool.or_eq_false_iff, decide_eq_false_iff_not] at hc
  have r0 := fun L => h0.rd [] L
  have r1 := fun L => h1.rd [] L
  have r2 := fun L => h2.rd [] L
  have c1 := clash_spec a0 a1 a2 l0 l1 l2 r0 r1 r2 (by unfold big40; omega) (by unfold big40; omega) (by unfold big40; omega)
  have c2 := rclash_spec a0 a1 a2 l0 l1 l2 r0 r1 r2 (by unfold big40; omega) (by unfold big40; omega) (by unfold big40; omega)
  generalize clashB l0 l1 l2 = b at c1 c2
  refine go ?_
  refine K_op rfl rfl (opr_callP rfl rfl (fixed21_spec) rfl rfl rfl rfl) rfl ?_
  refine go ?_
  refine K_yes rfl rfl rfl (opr_callP rfl rfl (c1) rfl rfl rfl rfl) rfl ?_
  refine go ?_
  refine K_yes rfl rfl rfl (opr_callP rfl rfl (c2) rfl rfl rfl rfl) rfl ?_
  refine gx ?_
  rw [show (b == b) = true from beq_self_eq_true _]
  refine go ?_
  exact J_done hT rfl rfl rfl
end clashIs
end Go.Proofs.Ytbdijekfplpnlaa

/- The reference's Block. -/
import Derived.Test.YtfkibkfjebppdaaGo
import Derived.Test.YtfkibkfjebppdaaF09b
-- @N
namespace Go.Proofs.Ytfkibkfjebppdaa
open Go.Awp
set_option maxHeartbeats 4000000 in
theorem rblock_spec (n i : Int) (hn : 0 ≤ n ∧ n ≤ 4294967295) (H : List AObj) : Con Try.prog 44 [.p (.int .u32 n), .p (.int .i64 i)] H (.p (.str (blockK n i))) H [] := by
  refine con_of Try.func44 rfl (by kernel_rfl) rfl fun F w0 β0 => ?_
  refine goN ?_
  refine J_split 7 rfl (fun hc => ?_) (fun hc => ?_)
  · have hc1 : i < 0 := of_decide_eq_true hc
    have e : blockK n i = [] := by unfold blockK; rw [if_pos (.inl hc1)]
    rw [e]
    refine goN ?_
    refine J_cond rfl (fun _ => ?_) (fun h => Bool.noConfusion h)
    refine goN ?_
    exact J_done hT rfl rfl rfl
  have hc1 : ¬ i < 0 := of_decide_eq_false hc
  refine goN ?_
  refine J_cond rfl (fun hd => ?_) (fun hd => ?_)
  · have hd1 : i ≥ 65536 := of_decide_eq_true hd
    have e : blockK n i = [] := by unfold blockK; rw [if_pos (.inr (by omega))]
    rw [e]
    refine goN ?_
    exact J_done hT rfl rfl rfl
  have hd1 : ¬ i ≥ 65536 := of_decide_eq_false hd
  have e : blockK n i = keyH 68 n ++ beB 2 i := by unfold blockK; rw [if_neg (by omega)]
  have e2 : [AV.int .u8 (IntKind.u8.wrap (IntKind.i64.wrap (i.tdiv 256))), AV.int .u8 (IntKind.u8.wrap (i.tmod 256))] = bv (beB 2 i) := by
    rw [Int.tdiv_eq_ediv_of_nonneg (by omega), Int.tmod_eq_emod_of_nonneg (by omega), IntWalk.i64_in (i / 256) (by omega), byte_of (i / 256) (by omega), byte_of (i % 256) (by omega), Int.emod_emod]
    simp [beB, bv]
  rw [e]
  refine goN ?_
  refine J_weak [(0, .p (.int .u32 n)), (1, .p (.int .i64 i))] ⟨rfl, rfl, trivial⟩ ?_
  refine J_draw [[]] [] (by kernel_rfl) (by kernel_rfl) rfl ?_
  repeat (first | refine T_nil ?_ | refine T_no rfl rfl rfl rfl ?_ | refine T_yes rfl rfl rfl rfl rfl rfl (stepN_ok hT rfl) rfl ?_ | refine T_op rfl rfl rfl rfl rfl (stepN_ok hT rfl) rfl ?_)
  refine T_op rfl rfl rfl rfl rfl (opr_call0 rfl rfl rfl rfl rfl (rof_spec 68 n (by decide) hn H)) rfl ?_
  repeat (first | refine T_nil ?_ | refine T_no rfl rfl rfl rfl ?_ | refine T_yes rfl rfl rfl rfl rfl rfl (stepN_ok hT rfl) rfl ?_ | refine T_op rfl rfl rfl rfl rfl (stepN_ok hT rfl) rfl ?_)
  refine T_op rfl rfl rfl rfl rfl (opr_lit hT rfl rfl rfl rfl) rfl ?_
  refine T_op rfl rfl rfl rfl rfl (opr_to_str (l := beB 2 i) hT rfl rfl rfl rfl rfl (by rw [← e2]; exact .ps _)) rfl ?_
  refine T_op rfl rfl rfl rfl rfl (opr_cat rfl rfl rfl (by rw [keyH_len, beB_len]; decide)) rfl ?_
  repeat (first | refine T_nil ?_ | refine T_no rfl rfl rfl rfl ?_ | refine T_yes rfl rfl rfl rfl rfl rfl (stepN_ok hT rfl) rfl ?_ | refine T_op rfl rfl rfl rfl rfl (stepN_ok hT rfl) rfl ?_)
  refine goN ?_
  exact J_done hT rfl rfl rfl
end Go.Proofs.Ytfkibkfjebppdaa

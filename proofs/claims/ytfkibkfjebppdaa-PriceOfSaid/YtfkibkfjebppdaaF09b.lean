/- keys.Block and the reference's. -/
import Derived.Test.YtfkibkfjebppdaaGo
import Derived.Test.YtfkibkfjebppdaaF09
-- @N
namespace Go.Proofs.Ytfkibkfjebppdaa
open Go.Awp
def blockK (n i : Int) : List UInt8 := if i < 0 ∨ i > 65535 then [] else keyH 68 n ++ beB 2 i
set_option maxHeartbeats 4000000 in
theorem kblock_spec (n i : Int) (hn : 0 ≤ n ∧ n ≤ 4294967295) (H : List AObj) : Con Try.prog 43 [.p (.int .u32 n), .p (.int .i64 i)] H (.p (.str (blockK n i))) H [] := by
  refine con_of Try.func43 rfl (by kernel_rfl) rfl fun F w0 β0 => ?_
  refine goN ?_
  refine J_split 7 rfl (fun hc => ?_) (fun hc => ?_)
  · have hc1 : i < 0 := of_decide_eq_true hc
    have e : blockK n i = [] := by unfold blockK; rw [if_pos (.inl hc1)]
    rw [e]
    refine goN ?_
    refine J_cond rfl (fun _ => ?_) (fun h => Bool.noConfusion h)
    refine goN ?_
    exact J_done hT rfl rfl rfl
  have hc1 : ¬ i < 0 := of_decide_eq_false hc
  refine goN ?_
  refine J_cond rfl (fun hd => ?_) (fun hd => ?_)
  · have hd1 : i > 65535 := of_decide_eq_true hd
    have e : blockK n i = [] := by unfold blockK; rw [if_pos (.inr hd1)]
    rw [e]
    refine goN ?_
    exact J_done hT rfl rfl rfl
  have hd1 : ¬ i > 65535 := of_decide_eq_false hd
  have e : blockK n i = keyH 68 n ++ beB 2 i := by unfold blockK; rw [if_neg (by omega)]
  have p1 := put_spec (.ps (keyH 68 n)) 2 i (by omega) (by rw [keyH_len]; decide) H
  rw [show (wide 2).toNat = 2 by decide] at p1
  have e14 : IntKind.u64.wrap i = i := u64_in _ (by omega)
  rw [e]
  refine goN ?_
  refine J_op rfl rfl (opr_call0 rfl rfl rfl rfl rfl (kof_spec 68 n (by decide) hn H)) ?_
  refine goN ?_
  refine J_val 14 _ rfl (congrArg (fun z => TV.p (.int .u64 z)) e14) ?_
  refine J_op rfl rfl (opr_call0 rfl rfl rfl rfl rfl p1) ?_
  refine J_op rfl rfl (opr_to_str (l := keyH 68 n ++ beB 2 i) hT rfl rfl rfl rfl rfl (.ps _)) ?_
  refine goN ?_
  exact J_done hT rfl rfl rfl
end Go.Proofs.Ytfkibkfjebppdaa

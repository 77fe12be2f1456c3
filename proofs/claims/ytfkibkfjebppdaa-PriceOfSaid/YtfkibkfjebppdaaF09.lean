/- keys: of, Inode, Entry; the reference's. -/
import Derived.Test.YtfkibkfjebppdaaGo
import Derived.Test.YtfkibkfjebppdaaCPackPuts
-- @N
namespace Go.Proofs.Ytfkibkfjebppdaa
open Go.Awp
/-- A key's head: its kind and four bytes. -/
def keyH (k n : Int) : List UInt8 := UInt8.ofNat k.toNat :: beB 4 n
theorem kof_spec (k n : Int) (hk : 0 ≤ k ∧ k ≤ 255) (hn : 0 ≤ n ∧ n ≤ 4294967295) (H : List AObj) : Con Try.prog 56 [.p (.int .u8 k), .p (.int .u32 n)] H (.p (.ps (bv (keyH k n)))) H [] := by
  have p1 := put_spec (.ps [UInt8.ofNat k.toNat]) 4 n hn.1 (by unfold big; simp) H
  rw [show (wide 4).toNat = 4 by decide] at p1
  have e6 : AV.int .u8 k = .int .u8 ((UInt8.ofNat k.toNat).toNat : Int) := by
    congr 1; simp; omega
  have e8 : IntKind.u64.wrap n = n := u64_in _ (by omega)
  refine con_of Try.func56 rfl (by kernel_rfl) rfl fun F w0 β0 => ?_
  refine goN ?_
  refine J_val 8 _ rfl (congrArg (fun z => TV.p (.int .u64 z)) e8) ?_
  refine J_val 6 (.p (.ps (bv [UInt8.ofNat k.toNat]))) rfl (congrArg (fun z => TV.p (.ps [z])) e6) ?_
  refine J_op rfl rfl (opr_call0 rfl rfl rfl rfl rfl p1) ?_
  refine goN ?_
  exact J_done hT rfl rfl rfl
theorem rof_spec (k n : Int) (hk : 0 ≤ k ∧ k ≤ 255) (hn : 0 ≤ n ∧ n ≤ 4294967295) (H : List AObj) : Con Try.prog 58 [.p (.int .u8 k), .p (.int .u32 n)] H (.p (.str (keyH k n))) H [] := by
  have p1 := (rput_spec (.ps [UInt8.ofNat k.toNat]) 4 n (by omega) (by unfold big; simp) H).freeze (by simp [beB_len]; omega)
  rw [show (wide 4).toNat = 4 by decide] at p1
  have e6 : AV.int .u8 k = .int .u8 ((UInt8.ofNat k.toNat).toNat : Int) := by
    congr 1; simp; omega
  have e8 : IntKind.u64.wrap n = n := u64_in _ (by omega)
  refine con_of Try.func58 rfl (by kernel_rfl) rfl fun F w0 β0 => ?_
  refine goN ?_
  refine J_val 8 _ rfl (congrArg (fun z => TV.p (.int .u64 z)) e8) ?_
  refine J_val 6 (.p (.ps (bv [UInt8.ofNat k.toNat]))) rfl (congrArg (fun z => TV.p (.ps [z])) e6) ?_
  refine J_op rfl rfl (opr_call0 rfl rfl rfl rfl rfl p1) ?_
  refine J_op rfl rfl (opr_to_str (l := keyH k n) hT rfl rfl rfl rfl rfl (.ps _)) ?_
  refine goN ?_
  exact J_done hT rfl rfl rfl
theorem keyH_len (k n : Int) : (keyH k n).length = 5 := by simp [keyH, beB_len]
theorem kinode_spec (n : Int) (hn : 0 ≤ n ∧ n ≤ 4294967295) (H : List AObj) : Con Try.prog 39 [.p (.int .u32 n)] H (.p (.str (keyH 73 n))) H [] := by
  refine con_of Try.func39 rfl (by kernel_rfl) rfl fun F w0 β0 => ?_
  refine goN ?_
  refine J_op rfl rfl (opr_call0 rfl rfl rfl rfl rfl (kof_spec 73 n (by decide) hn H)) ?_
  refine J_op rfl rfl (opr_to_str (l := keyH 73 n) hT rfl rfl rfl rfl rfl (.ps _)) ?_
  refine goN ?_
  exact J_done hT rfl rfl rfl
theorem rinode_spec (n : Int) (hn : 0 ≤ n ∧ n ≤ 4294967295) (H : List AObj) : Con Try.prog 40 [.p (.int .u32 n)] H (.p (.str (keyH 73 n))) H [] := by
  refine con_of Try.func40 rfl (by kernel_rfl) rfl fun F w0 β0 => ?_
  refine goN ?_
  refine J_op rfl rfl (opr_call0 rfl rfl rfl rfl rfl (rof_spec 73 n (by decide) hn H)) ?_
  refine goN ?_
  exact J_done hT rfl rfl rfl
def entryK (n : Int) (m : List UInt8) : List UInt8 := if m.length > 32 then [] else keyH 69 n ++ m
theorem kentry_spec (n : Int) (m : List UInt8) (hn : 0 ≤ n ∧ n ≤ 4294967295) (H : List AObj) : Con Try.prog 41 [.p (.int .u32 n), .p (.str m)] H (.p (.str (entryK n m))) H [] := by
  refine con_of Try.func41 rfl (by kernel_rfl) rfl fun F w0 β0 => ?_
  refine goN ?_
  refine J_cond rfl (fun hc => ?_) (fun hc => ?_)
  · have hc1 : (m.length : Int) > 32 := of_decide_eq_true hc
    have e : entryK n m = [] := by unfold entryK; rw [if_pos (by omega)]
    rw [e]
    refine goN ?_
    exact J_done hT rfl rfl rfl
  · have hc1 : ¬ (m.length : Int) > 32 := of_decide_eq_false hc
    have e : entryK n m = keyH 69 n ++ m := by unfold entryK; rw [if_neg (by omega)]
    rw [e]
    refine goN ?_
    refine J_op rfl rfl (opr_call0 rfl rfl rfl rfl rfl (kof_spec 69 n (by decide) hn H)) ?_
    refine J_op rfl rfl (opr_to_str (l := keyH 69 n) hT rfl rfl rfl rfl rfl (.ps _)) ?_
    refine goN ?_
    refine J_op rfl rfl (opr_cat rfl rfl rfl (by rw [keyH_len]; omega)) ?_
    refine goN ?_
    exact J_done hT rfl rfl rfl
theorem rentry_spec (n : Int) (m : List UInt8) (hn : 0 ≤ n ∧ n ≤ 4294967295) (H : List AObj) : Con Try.prog 42 [.p (.int .u32 n), .p (.str m)] H (.p (.str (entryK n m))) H [] := by
  refine con_of Try.func42 rfl (by kernel_rfl) rfl fun F w0 β0 => ?_
  refine goN ?_
  refine J_cond rfl (fun hc => ?_) (fun hc => ?_)
  · have hc1 : (m.length : Int) > 32 := of_decide_eq_true hc
    have e : entryK n m = [] := by unfold entryK; rw [if_pos (by omega)]
    rw [e]
    refine goN ?_
    exact J_done hT rfl rfl rfl
  · have hc1 : ¬ (m.length : Int) > 32 := of_decide_eq_false hc
    have e : entryK n m = keyH 69 n ++ m := by unfold entryK; rw [if_neg (by omega)]
    rw [e]
    refine goN ?_
    refine J_op rfl rfl (opr_call0 rfl rfl rfl rfl rfl (rof_spec 69 n (by decide) hn H)) ?_
    refine goN ?_
    refine J_op rfl rfl (opr_cat rfl rfl rfl (by rw [keyH_len]; omega)) ?_
    refine goN ?_
    exact J_done hT rfl rfl rfl
end Go.Proofs.Ytfkibkfjebppdaa

/- The reference's Put of an inode. -/
import Derived.Test.YtfkibkfjebppdaaGo
import Derived.Test.YtfkibkfjebppdaaF23
-- @N
namespace Go.Proofs.Ytfkibkfjebppdaa
open Go.Awp
def nodeB (k l s p : Int) : List UInt8 := [UInt8.ofNat k.toNat] ++ beB 4 l ++ beB 4 s ++ beB 4 p
theorem rput4 {s : AV} {l : List UInt8} (hs : Bs s l) (v : Int) (hv : 0 ≤ v ∧ v ≤ 4294967295) (hl : l.length ≤ big) (H : List AObj) : Con Try.prog 33 [.p s, .p (.int .i64 4), .p (.int .u64 v)] H (.p (.ps (bv (l ++ beB 4 v)))) H [] := by
  have p1 := (rput_spec hs 4 v (by omega) hl H).freeze (by simp [beB_len])
  rwa [show (wide 4).toNat = 4 by decide] at p1
set_option maxHeartbeats 4000000 in
theorem rnput_spec (k l s p : Int) (hk : 0 ≤ k ∧ k ≤ 255) (hl : 0 ≤ l ∧ l ≤ 4294967295) (hs : 0 ≤ s ∧ s ≤ 4294967295) (hp : 0 ≤ p ∧ p ≤ 4294967295) (H : List AObj) : Con Try.prog 23 [.p (.agg (nodeV k l s p))] H (.p (.str (nodeB k l s p))) H [] := by
  have e6 : AV.int .u8 k = .int .u8 ((UInt8.ofNat k.toNat).toNat : Int) := by
    congr 1; simp; omega
  have c1 := rput4 (.ps [UInt8.ofNat k.toNat]) l hl (by unfold big; simp) H
  have c2 := rput4 (.ps ([UInt8.ofNat k.toNat] ++ beB 4 l)) s hs (by unfold big; simp [beB_len]) H
  have c3 := rput4 (.ps ([UInt8.ofNat k.toNat] ++ beB 4 l ++ beB 4 s)) p hp (by unfold big; simp [beB_len]) H
  refine con_of Try.func23 rfl (by kernel_rfl) rfl fun F w0 β0 => ?_
  refine goN ?_
  refine J_val 9 _ rfl (congrArg (fun z => TV.p (.int .u64 z)) (u64_in l (by omega))) ?_
  refine J_val 6 (.p (.ps (bv [UInt8.ofNat k.toNat]))) rfl (congrArg (fun z => TV.p (.ps [z])) e6) ?_
  refine J_op rfl rfl (opr_call0 rfl rfl rfl rfl rfl c1) ?_
  refine goN ?_
  refine J_val 14 _ rfl (congrArg (fun z => TV.p (.int .u64 z)) (u64_in s (by omega))) ?_
  refine J_op rfl rfl (opr_call0 rfl rfl rfl rfl rfl c2) ?_
  refine goN ?_
  refine J_val 19 _ rfl (congrArg (fun z => TV.p (.int .u64 z)) (u64_in p (by omega))) ?_
  refine J_op rfl rfl (opr_call0 rfl rfl rfl rfl rfl c3) ?_
  refine J_op rfl rfl (opr_to_str (l := nodeB k l s p) hT rfl rfl rfl rfl rfl (.ps _)) ?_
  refine goN ?_
  exact J_done hT rfl rfl rfl
end Go.Proofs.Ytfkibkfjebppdaa

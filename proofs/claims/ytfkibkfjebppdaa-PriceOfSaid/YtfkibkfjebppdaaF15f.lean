/- node.Put and Get of an inode; the reference's Get. -/
import Derived.Test.YtfkibkfjebppdaaGo
import Derived.Test.YtfkibkfjebppdaaF15e
namespace Go.Proofs.Ytfkibkfjebppdaa
open Go.Awp
theorem u32_in (n : Int) (h : 0 ≤ n ∧ n ≤ 4294967295) : IntKind.u32.wrap n = n := by
  unfold IntKind.wrap
  simp [IntKind.bits, IntKind.signed]
  omega
theorem put4 {s : AV} {l : List UInt8} (hs : Bs s l) (v : Int) (hv : 0 ≤ v ∧ v ≤ 4294967295) (hl : l.length ≤ big) : Con Try.prog 31 [.p s, .p (.int .i64 4), .p (.int .u64 v)] [] (.p (.ps (bv (l ++ beB 4 v)))) [] [] := by
  have p1 := put_spec hs 4 v hv.1 hl []
  rwa [show (wide 4).toNat = 4 by decide] at p1
set_option maxHeartbeats 4000000 in
theorem nput_spec (k l s p : Int) (hk : 0 ≤ k ∧ k ≤ 255) (hl : 0 ≤ l ∧ l ≤ 4294967295) (hs : 0 ≤ s ∧ s ≤ 4294967295) (hp : 0 ≤ p ∧ p ≤ 4294967295) : Con Try.prog 21 [.p (.agg (nodeV k l s p))] [] (.p (.str (nodeB k l s p))) [] [] := by
  have e6 : AV.int .u8 k = .int .u8 ((UInt8.ofNat k.toNat).toNat : Int) := by
    congr 1; simp; omega
  have c1 := put4 (.ps [UInt8.ofNat k.toNat]) l hl (by unfold big; simp)
  have c2 := put4 (.ps ([UInt8.ofNat k.toNat] ++ beB 4 l)) s hs (by unfold big; simp [beB_len])
  have c3 := put4 (.ps ([UInt8.ofNat k.toNat] ++ beB 4 l ++ beB 4 s)) p hp (by unfold big; simp [beB_len])
  refine con_of Try.func21 rfl (by kernel_rfl) rfl fun F w0 β0 => ?_
  refine K_tell rfl ?_
  refine go ?_
  refine J_val 3 (.p (.ps (bv [UInt8.ofNat k.toNat]))) rfl (congrArg (fun z => TV.p (.ps [z])) e6) ?_
  refine J_unroll 4 (J_round ?_)
  refine go ?_
  refine J_val 21 _ rfl (congrArg (fun z => TV.p (.int .u64 z)) (u64_in l (by omega))) ?_
  refine K_op rfl rfl (opr_callP rfl rfl (c1) rfl rfl rfl rfl) rfl ?_
  refine go ?_
  refine J_round ?_
  refine go ?_
  refine J_val 21 _ rfl (congrArg (fun z => TV.p (.int .u64 z)) (u64_in s (by omega))) ?_
  refine K_op rfl rfl (opr_callP rfl rfl (c2) rfl rfl rfl rfl) rfl ?_
  refine go ?_
  refine J_round ?_
  refine go ?_
  refine J_val 21 _ rfl (congrArg (fun z => TV.p (.int .u64 z)) (u64_in p (by omega))) ?_
  refine K_op rfl rfl (opr_callP rfl rfl (c3) rfl rfl rfl rfl) rfl ?_
  refine go ?_
  refine J_round ?_
  refine go ?_
  exact J_done hT rfl rfl rfl
/-- Four bytes' number. -/
def gF (l : List UInt8) (a : Nat) : Int := beV ((l.drop a).take 4)
theorem gF_bd (l : List UInt8) (a : Nat) : 0 ≤ gF l a ∧ gF l a ≤ 4294967295 := by
  obtain ⟨h1, h2⟩ := beV_bound ((l.drop a).take 4)
  have h3 : ((l.drop a).take 4).length ≤ 4 := List.length_take_le _ _
  have h4 : (256 : Nat) ^ ((l.drop a).take 4).length ≤ 256 ^ 4 := Nat.pow_le_pow_right (by decide) h3
  have h5 : ((256 ^ ((l.drop a).take 4).length : Nat) : Int) = (256 : Int) ^ ((l.drop a).take 4).length := Int.natCast_pow 256 _
  have h6 : (256 : Nat) ^ 4 = 4294967296 := by decide
  unfold gF
  rw [← h5] at h2
  rw [h6] at h4
  omega
theorem getR_at {l : List UInt8} (a : Nat) (h : a + 4 ≤ l.length) : getR l (a : Int) 4 = (gF l a, ((a + 4 : Nat) : Int), 0) := by
  unfold getR gF
  rw [if_neg (by omega), if_neg (by omega), Int.toNat_natCast]
  rfl
def b0 (l : List UInt8) : Int := ((l.headD 0).toNat : Int)
/-- What inode a text is. -/
def getNode (l : List UInt8) : Option (Int × Int × Int × Int) := if l.length = 13 ∧ mayB (b0 l) (gF l 1) (gF l 5) (gF l 9) = true then some (b0 l, gF l 1, gF l 5, gF l 9) else none
def nodeT : Option (Int × Int × Int × Int) → TV
  | some (k, a, b, c) => .tup [.agg ((nodeV k a b c).map .p), .p (.bool true)]
  | none => .tup [.agg ((nodeV 0 0 0 0).map .p), .p (.bool false)]
theorem get4 (l : List UInt8) (a : Nat) (h : a + 4 ≤ l.length) (hl : l.length ≤ 140737488355328) : Con Try.prog 27 [.p (.ps (bv l)), .p (.int .i64 (a : Int)), .p (.int .i64 4)] [] (.tup [.p (.int .u64 (gF l a)), .p (.int .i64 ((a + 4 : Nat) : Int)), .p (.int .i64 0)]) [] [] := by
  have p1 := get_spec (.ps l) (a : Int) 4 (by omega) hl []
  rw [show (wide 4).toNat = 4 by decide, getR_at a h] at p1
  exact p1
theorem rget4 (l : List UInt8) (a : Nat) (h : a + 4 ≤ l.length) (hl : l.length ≤ 140737488355328) : Con Try.prog 28 [.p (.ps (bv l)), .p (.int .i64 (a : Int)), .p (.int .i64 4)] [] (.tup [.p (.int .u64 (gF l a)), .p (.int .i64 ((a + 4 : Nat) : Int)), .p (.int .i64 0)]) [] [] := by
  have p1 := rget_spec (.ps l) (a : Int) 4 (by omega) hl []
  rw [show (wide 4).toNat = 4 by decide, getR_at a h] at p1
  exact p1
theorem nat13 {l : List UInt8} (h : l.length = 13) : l[0]? = some (l.headD 0) := by
  cases l with
  | nil => simp at h
  | cons b r => rfl
set_option maxHeartbeats 4000000 in
theorem nget_spec (l : List UInt8) (hl : l.length ≤ 140737488355328) : Con Try.prog 22 [.p (.str l)] [] (nodeT (getNode l)) [] [] := by
  by_cases h13 : l.length = 13
  · have c1 := get4 l 1 (by omega) hl
    have c2 := get4 l 5 (by omega) hl
    have c3 := get4 l 9 (by omega) hl
    have b1 := gF_bd l 1
    have b2 := gF_bd l 5
    have b3 := gF_bd l 9
    have hb := nat13 h13
    have cm := may_spec (b0 l) (gF l 1) (gF l 5) (gF l 9) []
    generalize hg1 : gF l 1 = g1 at *
    generalize hg2 : gF l 5 = g2 at *
    generalize hg3 : gF l 9 = g3 at *
    have w1 : IntKind.u32.wrap g1 = g1 := u32_in _ b1
    have w2 : IntKind.u32.wrap g2 = g2 := u32_in _ b2
    have w3 : IntKind.u32.wrap g3 = g3 := u32_in _ b3
    refine con_of Try.func22 rfl (by kernel_rfl) rfl fun F w0 β0 => ?_
    refine K_tell rfl ?_
    refine go ?_
    refine J_false 13 rfl (by simp [h13]) ?_
    refine go ?_
    refine J_unroll 4 (J_round ?_)
    refine go ?_
    refine K_op rfl rfl (opr_callP rfl rfl (c1) rfl rfl rfl rfl) rfl ?_
    refine go ?_
    refine J_round ?_
    refine go ?_
    refine K_op rfl rfl (opr_callP rfl rfl (c2) rfl rfl rfl rfl) rfl ?_
    refine go ?_
    refine J_round ?_
    refine go ?_
    refine K_op rfl rfl (opr_callP rfl rfl (c3) rfl rfl rfl rfl) rfl ?_
    refine go ?_
    refine J_round ?_
    refine go ?_
    rw [w1, w2, w3]
    refine K_only [0, 2, 3, 4] rfl ?_
    refine J_draw [[AObj.box 31 ((nodeV 0 0 0 0).map .p), AObj.box 70 [.p (.int .u32 g1), .p (.int .u32 g2), .p (.int .u32 g3)]],
      [AObj.box 31 ((nodeV 0 0 0 0).map .p), AObj.box 70 [.p (.int .u32 g1), .p (.int .u32 g2), .p (.int .u32 g3)], AObj.box 31 ((nodeV 0 0 0 0).map .p)],
      [AObj.box 31 ((nodeV 0 0 0 0).map .p), AObj.box 70 [.p (.int .u32 g1), .p (.int .u32 g2), .p (.int .u32 g3)], AObj.box 31 ((nodeV (b0 l) g1 g2 g3).map .p)]] [9, 10] (by kernel_rfl) (by kernel_rfl) rfl ?_
    repeat (first | refine T_nil ?_ | refine T_op2 rfl rfl rfl rfl rfl rfl (stepN_ok hT rfl) (stepN_ok hT rfl) rfl ?_ | refine T_op2 rfl rfl rfl rfl rfl rfl (opr_idxArr hT rfl rfl rfl rfl rfl) (opr_idxArr hT rfl rfl rfl rfl rfl) rfl ?_)
    refine T_op2 rfl rfl rfl rfl rfl rfl (opr_byte hT rfl rfl rfl rfl (by decide) hb) (opr_byte hT rfl rfl rfl rfl (by decide) hb) rfl ?_
    repeat (first | refine T_nil ?_ | refine T_op2 rfl rfl rfl rfl rfl rfl (stepN_ok hT rfl) (stepN_ok hT rfl) rfl ?_ | refine T_op2 rfl rfl rfl rfl rfl rfl (opr_idxArr hT rfl rfl rfl rfl rfl) (opr_idxArr hT rfl rfl rfl rfl rfl) rfl ?_)
    refine T_st rfl rfl rfl rfl (stepN_ok hT rfl) rfl ?_
    refine T_st rfl rfl rfl rfl (stepN_ok hT rfl) rfl ?_
    refine T_nil ?_
    refine J_then ?_
    refine K_tell rfl ?_
    refine go ?_
    refine K_op rfl rfl (opr_callP rfl rfl (cm) rfl rfl rfl rfl) rfl ?_
    refine go ?_
    refine J_cond rfl (fun hm => ?_) (fun hm => ?_)
    · have hm1 : mayB (b0 l) g1 g2 g3 = false := by simpa using hm
      have e : getNode l = none := by unfold getNode; rw [hg1, hg2, hg3, hm1]; simp
      rw [e]
      refine go ?_
      exact J_done hT rfl rfl rfl
    · have hm1 : mayB (b0 l) g1 g2 g3 = true := by simpa using hm
      have e : getNode l = some (b0 l, g1, g2, g3) := by unfold getNode; rw [hg1, hg2, hg3, hm1]; simp [h13]
      rw [e]
      refine go ?_
      exact J_done hT rfl rfl rfl
  · have e : getNode l = none := by unfold getNode; rw [if_neg (by omega)]
    rw [e]
    refine con_of Try.func22 rfl (by kernel_rfl) rfl fun F w0 β0 => ?_
    refine K_tell rfl ?_
    refine go ?_
    refine J_true 13 rfl (by simp; omega) ?_
    refine go ?_
    exact J_done hT rfl rfl rfl
end Go.Proofs.Ytfkibkfjebppdaa

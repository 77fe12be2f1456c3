/- Contracts and plain laws, several texts joined: F15d, F23, F15e, F15f, F15g, Go2, Lex, Tr1, F10. -/
import Derived.Test.YtfnpelogfcnanaaGreatDoorGo
import Derived.Test.YtfnpelogfcnanaaGreatDoorM1
import Derived.Test.YtfnpelogfcnanaaGreatDoorProg
/- node: New, Root, May. -/
-- @OLD
namespace Go.Proofs.YtfnpelogfcnanaaGreatDoor
set_option maxRecDepth 20000
open Go.Awp
def nodeV (k l s p : Int) : List AV := [.int .u8 k, .int .u32 l, .int .u32 s, .int .u32 p]
def newV (k p : Int) : List AV := if k = 1 then nodeV 1 1 0 0 else nodeV 2 2 0 p
def mayB (k l s p : Int) : Bool := if k = 1 then decide (l ≥ 1) && decide (l ≤ 1000) && decide (s ≤ 4096) && decide (p = 0) else if k = 2 then decide (l ≥ 2) && decide (s = 0) else false
set_option maxHeartbeats 4000000 in
theorem new_spec (k p : Int) (H : List AObj) : Con Tryz.prog 87 [.p (.int .u8 k), .p (.int .u32 p)] H (.agg ((newV k p).map .p)) H [] := by
  refine con_of Tryz.func87 rfl (by kernel_rfl) rfl fun F w0 β0 => ?_
  refine go0 ?_
  refine J_cond rfl (fun hc => ?_) (fun hc => ?_)
  · have hc1 : k = 1 := by simpa using hc
    have e : newV k p = nodeV 1 1 0 0 := by simp [newV, hc1]
    rw [e]
    refine go0 ?_
    exact J_done hT rfl rfl rfl
  · have hc1 : ¬ k = 1 := by simpa using hc
    have e : newV k p = nodeV 2 2 0 p := by simp [newV, hc1]
    rw [e]
    refine go0 ?_
    exact J_done hT rfl rfl rfl
theorem new_two (p : Int) (H : List AObj) : Con Tryz.prog 87 [.p (.int .u8 2), .p (.int .u32 p)] H (.agg ((nodeV 2 2 0 p).map .p)) H [] := new_spec 2 p H
theorem root_spec (H : List AObj) : Con Tryz.prog 62 [] H (.agg ((nodeV 2 2 0 1).map .p)) H [] := by
  refine con_of Tryz.func62 rfl (by kernel_rfl) rfl fun F w0 β0 => ?_
  refine go0 ?_
  refine J_op rfl rfl (opr_call0 rfl rfl rfl rfl rfl (new_two 1 H)) ?_
  refine go0 ?_
  exact J_done hT rfl rfl rfl
set_option maxHeartbeats 4000000 in
theorem may_spec (k l s p : Int) (H : List AObj) : Con Tryz.prog 103 [.p (.agg (nodeV k l s p))] H (.p (.bool (mayB k l s p))) H [] := by
  refine con_of Tryz.func103 rfl (by kernel_rfl) rfl fun F w0 β0 => ?_
  refine go0 ?_
  refine J_cond rfl (fun hc => ?_) (fun hc => ?_)
  · have hc1 : k = 1 := by simpa using hc
    refine go0 ?_
    refine J_split 10 rfl (fun h1 => ?_) (fun h1 => ?_)
    · have h1' := of_decide_eq_true h1
      refine go0 ?_
      refine J_split 15 rfl (fun h2 => ?_) (fun h2 => ?_)
      · have h2' := of_decide_eq_true h2
        refine go0 ?_
        refine J_split 20 rfl (fun h3 => ?_) (fun h3 => ?_)
        · have h3' := of_decide_eq_true h3
          refine go0 ?_
          have e : mayB k l s p = (p == 0) := by
            have e1 : (l ≥ 1) := h1'
            have e2 : (l ≤ 1000) := h2'
            have e3 : (s ≤ 4096) := h3'
            simp only [mayB, hc1, if_true, e1, e2, e3, decide_true, Bool.true_and]
            by_cases hp : p = 0 <;> simp [hp]
          rw [e]
          exact J_done hT rfl rfl rfl
        · have h3' := of_decide_eq_false h3
          refine go0 ?_
          have e : mayB k l s p = false := by
            have e3 : ¬ (s ≤ 4096) := h3'
            simp [mayB, hc1]; intros; omega
          rw [e]
          exact J_done hT rfl rfl rfl
      · have h2' := of_decide_eq_false h2
        refine go0 ?_
        have e : mayB k l s p = false := by
          have e3 : ¬ (l ≤ 1000) := h2'
          simp [mayB, hc1]; intros; omega
        rw [e]
        exact J_done hT rfl rfl rfl
    · have h1' := of_decide_eq_false h1
      refine go0 ?_
      have e : mayB k l s p = false := by
        have e3 : ¬ (l ≥ 1) := h1'
        simp [mayB, hc1]; intros; omega
      rw [e]
      exact J_done hT rfl rfl rfl
  · have hc1 : ¬ k = 1 := by simpa using hc
    refine go0 ?_
    refine J_cond rfl (fun hd => ?_) (fun hd => ?_)
    · have hd1 : k = 2 := by simpa using hd
      refine go0 ?_
      refine J_split 30 rfl (fun h1 => ?_) (fun h1 => ?_)
      · have h1' := of_decide_eq_true h1
        refine go0 ?_
        have e : mayB k l s p = (s == 0) := by
          have e1 : (l ≥ 2) := h1'
          simp only [mayB, hd1, e1, decide_true, Bool.true_and]
          by_cases hp : s = 0 <;> simp [hp]
        rw [e]
        exact J_done hT rfl rfl rfl
      · have h1' := of_decide_eq_false h1
        refine go0 ?_
        have e : mayB k l s p = false := by
          have e3 : ¬ (l ≥ 2) := h1'
          simp [mayB, hd1]; intros; omega
        rw [e]
        exact J_done hT rfl rfl rfl
    · have hd1 : ¬ k = 2 := by simpa using hd
      have e : mayB k l s p = false := by simp [mayB, hc1, hd1]
      rw [e]
      refine go0 ?_
      exact J_done hT rfl rfl rfl
end Go.Proofs.YtfnpelogfcnanaaGreatDoor

/- price: Inode, Entry, File, Write. -/
-- @N
namespace Go.Proofs.YtfnpelogfcnanaaGreatDoor
set_option maxRecDepth 20000
open Go.Awp
end Go.Proofs.YtfnpelogfcnanaaGreatDoor

/- The reference's Put of an inode. -/
-- @N
namespace Go.Proofs.YtfnpelogfcnanaaGreatDoor
set_option maxRecDepth 20000
open Go.Awp
def nodeB (k l s p : Int) : List UInt8 := [UInt8.ofNat k.toNat] ++ beB 4 l ++ beB 4 s ++ beB 4 p
end Go.Proofs.YtfnpelogfcnanaaGreatDoor

/- node.Put and Get of an inode; the reference's Get. -/
namespace Go.Proofs.YtfnpelogfcnanaaGreatDoor
set_option maxRecDepth 20000
open Go.Awp
theorem u32_in (n : Int) (h : 0 ≤ n ∧ n ≤ 4294967295) : IntKind.u32.wrap n = n := by
  unfold IntKind.wrap
  simp [IntKind.bits, IntKind.signed]
  omega
theorem put4 {s : AV} {l : List UInt8} (hs : Bs s l) (v : Int) (hv : 0 ≤ v ∧ v ≤ 4294967295) (hl : l.length ≤ big) : Con Tryz.prog 109 [.p s, .p (.int .i64 4), .p (.int .u64 v)] [] (.p (.ps (bv (l ++ beB 4 v)))) [] [] := by
  have p1 := put_spec hs 4 v hv.1 hl []
  rwa [show (wide 4).toNat = 4 by decide] at p1
set_option maxHeartbeats 4000000 in
theorem nput_spec (k l s p : Int) (hk : 0 ≤ k ∧ k ≤ 255) (hl : 0 ≤ l ∧ l ≤ 4294967295) (hs : 0 ≤ s ∧ s ≤ 4294967295) (hp : 0 ≤ p ∧ p ≤ 4294967295) : Con Tryz.prog 110 [.p (.agg (nodeV k l s p))] [] (.p (.str (nodeB k l s p))) [] [] := by
  have e6 : AV.int .u8 k = .int .u8 ((UInt8.ofNat k.toNat).toNat : Int) := by
    congr 1; simp; omega
  have c1 := put4 (.ps [UInt8.ofNat k.toNat]) l hl (by unfold big; simp)
  have c2 := put4 (.ps ([UInt8.ofNat k.toNat] ++ beB 4 l)) s hs (by unfold big; simp [beB_len])
  have c3 := put4 (.ps ([UInt8.ofNat k.toNat] ++ beB 4 l ++ beB 4 s)) p hp (by unfold big; simp [beB_len])
  refine con_of Tryz.func110 rfl (by kernel_rfl) rfl fun F w0 β0 => ?_
  refine K_tell rfl ?_
  refine go ?_
  refine J_val 3 (.p (.ps (bv [UInt8.ofNat k.toNat]))) rfl (congrArg (fun z => TV.p (.ps [z])) e6) ?_
  refine J_unroll 4 (J_round ?_)
  refine go ?_
  refine J_val 21 _ rfl (congrArg (fun z => TV.p (.int .u64 z)) (u64_in l (by omega))) ?_
  refine K_op rfl rfl (opr_callP rfl rfl (c1) rfl rfl rfl rfl) rfl ?_
  refine go ?_
  refine J_round ?_
  refine go ?_
  refine J_val 21 _ rfl (congrArg (fun z => TV.p (.int .u64 z)) (u64_in s (by omega))) ?_
  refine K_op rfl rfl (opr_callP rfl rfl (c2) rfl rfl rfl rfl) rfl ?_
  refine go ?_
  refine J_round ?_
  refine go ?_
  refine J_val 21 _ rfl (congrArg (fun z => TV.p (.int .u64 z)) (u64_in p (by omega))) ?_
  refine K_op rfl rfl (opr_callP rfl rfl (c3) rfl rfl rfl rfl) rfl ?_
  refine go ?_
  refine J_round ?_
  refine go ?_
  exact J_done hT rfl rfl rfl
/-- Four bytes' number. -/
def gF (l : List UInt8) (a : Nat) : Int := beV ((l.drop a).take 4)
theorem gF_bd (l : List UInt8) (a : Nat) : 0 ≤ gF l a ∧ gF l a ≤ 4294967295 := by
  obtain ⟨h1, h2⟩ := beV_bound ((l.drop a).take 4)
  have h3 : ((l.drop a).take 4).length ≤ 4 := List.length_take_le _ _
  have h4 : (256 : Nat) ^ ((l.drop a).take 4).length ≤ 256 ^ 4 := Nat.pow_le_pow_right (by decide) h3
  have h5 : ((256 ^ ((l.drop a).take 4).length : Nat) : Int) = (256 : Int) ^ ((l.drop a).take 4).length := Int.natCast_pow 256 _
  have h6 : (256 : Nat) ^ 4 = 4294967296 := by decide
  unfold gF
  rw [← h5] at h2
  rw [h6] at h4
  omega
theorem getR_at {l : List UInt8} (a : Nat) (h : a + 4 ≤ l.length) : getR l (a : Int) 4 = (gF l a, ((a + 4 : Nat) : Int), 0) := by
  unfold getR gF
  rw [if_neg (by omega), if_neg (by omega), Int.toNat_natCast]
  rfl
def b0 (l : List UInt8) : Int := ((l.headD 0).toNat : Int)
/-- What inode a text is. -/
def getNode (l : List UInt8) : Option (Int × Int × Int × Int) := if l.length = 13 ∧ mayB (b0 l) (gF l 1) (gF l 5) (gF l 9) = true then some (b0 l, gF l 1, gF l 5, gF l 9) else none
def nodeT : Option (Int × Int × Int × Int) → TV
  | some (k, a, b, c) => .tup [.agg ((nodeV k a b c).map .p), .p (.bool true)]
  | none => .tup [.agg ((nodeV 0 0 0 0).map .p), .p (.bool false)]
theorem get4 (l : List UInt8) (a : Nat) (h : a + 4 ≤ l.length) (hl : l.length ≤ 140737488355328) : Con Tryz.prog 60 [.p (.ps (bv l)), .p (.int .i64 (a : Int)), .p (.int .i64 4)] [] (.tup [.p (.int .u64 (gF l a)), .p (.int .i64 ((a + 4 : Nat) : Int)), .p (.int .i64 0)]) [] [] := by
  have p1 := get_spec (.ps l) (a : Int) 4 (by omega) hl []
  rw [show (wide 4).toNat = 4 by decide, getR_at a h] at p1
  exact p1
theorem rget4 (l : List UInt8) (a : Nat) (h : a + 4 ≤ l.length) (hl : l.length ≤ 140737488355328) : Con Tryz.prog 57 [.p (.ps (bv l)), .p (.int .i64 (a : Int)), .p (.int .i64 4)] [] (.tup [.p (.int .u64 (gF l a)), .p (.int .i64 ((a + 4 : Nat) : Int)), .p (.int .i64 0)]) [] [] := by
  have p1 := rget_spec (.ps l) (a : Int) 4 (by omega) hl []
  rw [show (wide 4).toNat = 4 by decide, getR_at a h] at p1
  exact p1
theorem nat13 {l : List UInt8} (h : l.length = 13) : l[0]? = some (l.headD 0) := by
  cases l with
  | nil => simp at h
  | cons b r => rfl
set_option maxHeartbeats 4000000 in
theorem nget_spec (l : List UInt8) (hl : l.length ≤ 140737488355328) : Con Tryz.prog 63 [.p (.str l)] [] (nodeT (getNode l)) [] [] := by
  by_cases h13 : l.length = 13
  · have c1 := get4 l 1 (by omega) hl
    have c2 := get4 l 5 (by omega) hl
    have c3 := get4 l 9 (by omega) hl
    have b1 := gF_bd l 1
    have b2 := gF_bd l 5
    have b3 := gF_bd l 9
    have hb := nat13 h13
    have cm := may_spec (b0 l) (gF l 1) (gF l 5) (gF l 9) []
    generalize hg1 : gF l 1 = g1 at *
    generalize hg2 : gF l 5 = g2 at *
    generalize hg3 : gF l 9 = g3 at *
    have w1 : IntKind.u32.wrap g1 = g1 := u32_in _ b1
    have w2 : IntKind.u32.wrap g2 = g2 := u32_in _ b2
    have w3 : IntKind.u32.wrap g3 = g3 := u32_in _ b3
    refine con_of Tryz.func63 rfl (by kernel_rfl) rfl fun F w0 β0 => ?_
    refine K_tell rfl ?_
    refine go ?_
    refine J_false 13 rfl (by simp [h13]) ?_
    refine go ?_
    refine J_unroll 4 (J_round ?_)
    refine go ?_
    refine K_op rfl rfl (opr_callP rfl rfl (c1) rfl rfl rfl rfl) rfl ?_
    refine go ?_
    refine J_round ?_
    refine go ?_
    refine K_op rfl rfl (opr_callP rfl rfl (c2) rfl rfl rfl rfl) rfl ?_
    refine go ?_
    refine J_round ?_
    refine go ?_
    refine K_op rfl rfl (opr_callP rfl rfl (c3) rfl rfl rfl rfl) rfl ?_
    refine go ?_
    refine J_round ?_
    refine go ?_
    rw [w1, w2, w3]
    refine K_only [0, 2, 3, 4] rfl ?_
    refine J_draw [[AObj.box 53 ((nodeV 0 0 0 0).map .p), AObj.box 169 [.p (.int .u32 g1), .p (.int .u32 g2), .p (.int .u32 g3)]],
      [AObj.box 53 ((nodeV 0 0 0 0).map .p), AObj.box 169 [.p (.int .u32 g1), .p (.int .u32 g2), .p (.int .u32 g3)], AObj.box 53 ((nodeV 0 0 0 0).map .p)],
      [AObj.box 53 ((nodeV 0 0 0 0).map .p), AObj.box 169 [.p (.int .u32 g1), .p (.int .u32 g2), .p (.int .u32 g3)], AObj.box 53 ((nodeV (b0 l) g1 g2 g3).map .p)]] [9, 10] (by kernel_rfl) (by kernel_rfl) rfl ?_
    repeat (first | refine T_nil ?_ | refine T_op2 rfl rfl rfl rfl rfl rfl (stepN_ok hT rfl) (stepN_ok hT rfl) rfl ?_ | refine T_op2 rfl rfl rfl rfl rfl rfl (opr_idxArr hT rfl rfl rfl rfl rfl) (opr_idxArr hT rfl rfl rfl rfl rfl) rfl ?_)
    refine T_op2 rfl rfl rfl rfl rfl rfl (opr_byte hT rfl rfl rfl rfl (by decide) hb) (opr_byte hT rfl rfl rfl rfl (by decide) hb) rfl ?_
    repeat (first | refine T_nil ?_ | refine T_op2 rfl rfl rfl rfl rfl rfl (stepN_ok hT rfl) (stepN_ok hT rfl) rfl ?_ | refine T_op2 rfl rfl rfl rfl rfl rfl (opr_idxArr hT rfl rfl rfl rfl rfl) (opr_idxArr hT rfl rfl rfl rfl rfl) rfl ?_)
    refine T_st rfl rfl rfl rfl (stepN_ok hT rfl) rfl ?_
    refine T_st rfl rfl rfl rfl (stepN_ok hT rfl) rfl ?_
    refine T_nil ?_
    refine J_then ?_
    refine K_tell rfl ?_
    refine go ?_
    refine K_op rfl rfl (opr_callP rfl rfl (cm) rfl rfl rfl rfl) rfl ?_
    refine go ?_
    refine J_cond rfl (fun hm => ?_) (fun hm => ?_)
    · have hm1 : mayB (b0 l) g1 g2 g3 = false := by simpa using hm
      have e : getNode l = none := by unfold getNode; rw [hg1, hg2, hg3, hm1]; simp
      rw [e]
      refine go ?_
      exact J_done hT rfl rfl rfl
    · have hm1 : mayB (b0 l) g1 g2 g3 = true := by simpa using hm
      have e : getNode l = some (b0 l, g1, g2, g3) := by unfold getNode; rw [hg1, hg2, hg3, hm1]; simp [h13]
      rw [e]
      refine go ?_
      exact J_done hT rfl rfl rfl
  · have e : getNode l = none := by unfold getNode; rw [if_neg (by omega)]
    rw [e]
    refine con_of Tryz.func63 rfl (by kernel_rfl) rfl fun F w0 β0 => ?_
    refine K_tell rfl ?_
    refine go ?_
    refine J_true 13 rfl (by simp; omega) ?_
    refine go ?_
    exact J_done hT rfl rfl rfl
end Go.Proofs.YtfnpelogfcnanaaGreatDoor

/- The reference's May and Get of an inode. -/
namespace Go.Proofs.YtfnpelogfcnanaaGreatDoor
set_option maxRecDepth 20000
open Go.Awp
theorem rmay_spec (k l s p : Int) (hl : 0 ≤ l) : Con Tryz.prog 23 [.p (.agg (nodeV k l s p))] [] (.p (.bool (mayB k l s p))) [] [] := by
  refine con_of Tryz.func23 rfl (by kernel_rfl) rfl fun F w0 β0 => ?_
  refine K_tell rfl ?_
  refine go ?_
  refine J_cond rfl (fun hc => ?_) (fun hc => ?_)
  · have hc1 : k = 1 := by simpa using hc
    refine go ?_
    refine J_val 2 (.p (.bool (mayB k l s p))) rfl (congrArg (fun b => TV.p (.bool b)) ?_) ?_
    · rw [Bool.eq_iff_iff]; simp [mayB, hc1]; omega
    exact J_done hT rfl rfl rfl
  · have hc1 : ¬ k = 1 := by simpa using hc
    refine go ?_
    refine J_val 2 (.p (.bool (mayB k l s p))) rfl (congrArg (fun b => TV.p (.bool b)) ?_) ?_
    · rw [Bool.eq_iff_iff]; by_cases h2 : k = 2 <;> simp [mayB, hc1, h2]; omega
    exact J_done hT rfl rfl rfl
end Go.Proofs.YtfnpelogfcnanaaGreatDoor

/- More rules of the walk: what an operation makes, as a value that stays. No program is named here. -/
namespace Go.Awp
open Go.RowKit
section
variable {w : World} {β : Hd → Nat} {H L : List AObj} {F : Nat → Prop}
end
section
variable {P : Program} {T : Tab} {env : Env} {H L : List AObj} {o : Oper} {x : TV}
/-- A variable that nobody will write: a struct's, or an array's. -/
theorem opr_boxP {t : TypeId} {y : Operand} {cs : List TV} {ys : List AV} (ho : o.op = .box t y) (hc : tcells (evA env y) = some cs) (hu : unpL cs = some ys) : OpR P o env H L (.p (.pp ys)) H L :=
  opr_alloc fun F w β a hS he => by
    have hv := tcells_ok (evA_ok he y) hc
    obtain ⟨u1, u2⟩ := unpL_ok (w := w) (β := β) (G := ⟨H, L, F⟩) cs hu
    refine ⟨.pointer (some ⟨w.heap.size, 0, none⟩), .cells (a.eval y).cells t, by simp [execOp, ho, Instr.box, newVar, newRow], fun hst => ?_⟩
    have hblk := alloc_new w (.cells (a.eval y).cells t)
    have hlen : (a.eval y).cells.toList.length = ys.length := by rw [hv.1, u1]
    refine .p (.pp ys ⟨w.heap.size, 0, none⟩ (fun i => (a.eval y).cells.getD i undef) (free_new hS) (by simp) (fun i hi => ?_) fun i x hx => ?_)
    · rw [Addr.add_lit, cell_of_row _ _ _ _ _ _ hblk]
      have hlt : i < (a.eval y).cells.size := by
        have : (a.eval y).cells.toList.length = (a.eval y).cells.size := by simp
        omega
      simp [Array.getD_eq_getD_getElem?, hlt]
    · obtain ⟨z, hz, hzr⟩ := u2 i x hx
      have hlt : i < (a.eval y).cells.toList.length := by rw [hlen]; exact (List.getElem?_eq_some_iff.1 hx).1
      have := hzr _ (hv.2 i z _ hz (List.getElem?_eq_getElem hlt))
      have e : (a.eval y).cells.getD i undef = (a.eval y).cells.toList[i] := by
        simp only [Array.length_toList] at hlt
        simp [Array.getD_eq_getD_getElem?, hlt]
      rw [e]
      exact this.mono hst.size hst.frame
end
/-- What reads as x reads as y, too. -/
def AVLe (x y : AV) : Prop := ∀ w N v, RepA w N x v → RepA w N y v
theorem AVLe.refl (x : AV) : AVLe x x := fun _ _ _ h => h
theorem cell_le {x : AV} (hc : cl x = true) : AVLe x (.cell x) := fun _ _ v h => .cell x v (cl_ok h hc) h
inductive AVLes : List AV → List AV → Prop
  | nil : AVLes [] []
  | cons {x y : AV} {xs ys : List AV} (h : AVLe x y) (r : AVLes xs ys) : AVLes (x :: xs) (y :: ys)
theorem AVLes.len {xs ys : List AV} (h : AVLes xs ys) : ys.length = xs.length := by
  induction h with
  | nil => rfl
  | cons _ _ ih => simp [ih]
theorem AVLes.get {xs ys : List AV} (h : AVLes xs ys) : ∀ {i : Nat} {y : AV}, ys[i]? = some y → ∃ x, xs[i]? = some x ∧ AVLe x y := by
  induction h with
  | nil => intro i y h; simp at h
  | cons h _ ih =>
    intro i y hy
    cases i with
    | zero => simp at hy; subst hy; exact ⟨_, rfl, h⟩
    | succ i => simpa using ih (by simpa using hy)
theorem pp_le {xs ys : List AV} (h : AVLes xs ys) : AVLe (.pp xs) (.pp ys) := fun w N v hr => by
  cases hr with | pp _ a vs hN hb hc hr =>
  refine .pp ys a vs hN hb (fun i hi => hc i (by rw [h.len] at hi; exact hi)) fun i y hy => ?_
  obtain ⟨x, hx, hxy⟩ := h.get hy
  exact hxy _ _ _ (hr i x hx)
section
variable {Γ : Ctx} {env : Env} {H L : List AObj} {Φ : Act → World → Prop}
theorem J_le (d : Nat) {x : AV} (y : AV) (hx : lk env d = .p x) (hc : AVLe x y) (k : J Γ ((d, .p y) :: env) H L Φ) : J Γ env H L Φ := fun a w β s =>
  k a w β ⟨s.sim, s.step, fun t => by
    rw [lk_cons]
    split
    · rename_i e
      have := s.env d
      rw [hx] at this
      rw [e]
      cases this with | p h => exact .p (hc _ _ _ h)
    · exact s.env t, s.size, s.defers⟩
end
/-! ### Calls whose answer is told by equations; what a call gathers -/
section
variable {P : Program} {Γ : Ctx} {env env' : Env} {H L : List AObj} {Q : Exit → Act → World → Prop} {ops : Array Oper} {rest : List Oper} {o : Oper}
theorem tellT_self (x : TV) : tellT x = some x := by unfold tellT; rw [frcU_eq]
theorem tellM_self (l : List AObj) : tellM l = some l := by unfold tellM; rw [frcM_eq]
theorem opr_callE {fo : Operand} {os : List Operand} {ts : Array TypeId} {f : FuncId} {caps args : List TV} {r x : TV} {news L' : List AObj}
    (ho : o.op = .call { callee := .value fo, args := os.toArray, argTypes := ts }) (hf : evA env fo = .fn f caps) (sp : Con P f args [] r [] news) (ha : TV.ren.renL [] 0 0 args = unpOr (evL env os ++ caps)) (hx : TV.clo.cloL 0 args = true)
    (h1 : r.ren [] L.length 0 = x) (h3 : L ++ renM [] L.length 0 news = L') : OpR P o env H L x H L' :=
  opr_callP ho hf sp ha hx (by rw [h1]; exact tellT_self _) (by rw [h3]; exact tellM_self _)
theorem K_opM {x : TV} {H' L' : List AObj} (hg : o.guard = none) (hd : dstOk Γ.N o.dst = true) (h : OpR P o env H L x H' L') (he : putM env o.dst x = some env') (k : J Γ env' H' L' (wpList P ops Q rest)) : J Γ env H L (wpList P ops Q (o :: rest)) :=
  J_op hg hd h (by rw [putM_eq he]; exact k)
theorem opr_mv {y : Operand} (x : TV) (ho : o.op = .move y ∨ o.op = .assign y) (he : evA env y = x) : OpR P o env H L x H L := by
  subst he
  exact opr_move ho
theorem accT_ren (n g h : Nat) (d : AV) (acc : List AV) : (accT h d acc).ren [] n g = accT (n + g + h) d acc := by cases acc <;> rfl
theorem accL_ren (n g e sz : Nat) (acc : List AV) : renM [] n g (accL e sz acc) = accL e sz acc := by cases acc <;> rfl
theorem accV_rd {d : AV} {acc : List AV} (hd : d = .nils ∨ d = .cz) : Rd H L (.p (accV d acc)) acc := by
  cases acc with
  | nil => exact hd.elim (fun e => by subst e; exact .nils) fun e => by subst e; exact .cz
  | cons r rs => exact .ps _
theorem accV_str {d : AV} {acc : List AV} (hd : d = .nils ∨ d = .cz) : false = true ↔ ∃ l, TV.p (accV d acc) = .p (.str l) := by
  cases acc with
  | nil => rcases hd with rfl | rfl <;> simp [accV]
  | cons r rs => simp [accV]
/-- What a callee gathered, as a value that stays. -/
theorem Con.frzAcc {f : FuncId} {args : List TV} {e sz : Nat} {d : AV} {acc : List AV} (h : Con P f args H (accT 0 d acc) H (accL e sz acc)) : Con P f args H (.p (accV d acc)) H [] := by
  cases acc with
  | nil => exact h
  | cons r rs => exact Con.freeze h rfl
end
/-! ### Drawn regions, values told out -/
def snocD (l : List TV) (x : TV) : Option (List TV) := frcD x fun x' => tellL (l ++ [x']) some
theorem snocD_eq {l l' : List TV} {x : TV} (h : snocD l x = some l') : snocN l x = some l' := by
  unfold snocD at h
  rw [frcD_eq] at h
  exact h
section
variable {P : Program} {ops : List Oper} {env0 : Env} {H : List AObj} {Ls : List (List AObj)} {ss : List Nat} {xs : List TV}
theorem T_opD {K : List TV → Prop} {o : Oper} {rest : List Oper} {i k : Nat} {x : TV} {L : List AObj} (hg : o.guard = none) (hp : posn ss 0 i = none) (hk : loK o ss 0 0 = k) (hk2 : Nat.beq (hiK ops i ss 0 - k) 0 = true) (hL : Ls.getD k [] = L)
    (h : OpR P o (RdE ops env0 xs o) H L x H L) {xs' : List TV} (hxs : snocD xs x = some xs') (kk : Tele P ops env0 (fun _ => H) Ls ss K rest (i + 1) xs') : Tele P ops env0 (fun _ => H) Ls ss K (o :: rest) i xs :=
  T_op hg hp hk hk2 hL h (snocD_eq hxs) kk
theorem T_yesD {K : List TV → Prop} {o : Oper} {rest : List Oper} {i k g : Nat} {b : Bool} {x : TV} {L : List AObj} (hg : o.guard = some (g, b)) (hb : gA ops.toArray (RdE ops env0 xs o) g = some b) (hp : posn ss 0 i = none) (hk : loK o ss 0 0 = k)
    (hk2 : Nat.beq (hiK ops i ss 0 - k) 0 = true) (hL : Ls.getD k [] = L) (h : OpR P o (RdE ops env0 xs o) H L x H L) {xs' : List TV} (hxs : snocD xs x = some xs') (kk : Tele P ops env0 (fun _ => H) Ls ss K rest (i + 1) xs') : Tele P ops env0 (fun _ => H) Ls ss K (o :: rest) i xs :=
  T_yes hg hb hp hk hk2 hL h (snocD_eq hxs) kk
theorem T_op2D {K : List TV → Prop} {o : Oper} {rest : List Oper} {i k : Nat} {x : TV} {L L2 : List AObj} (hg : o.guard = none) (hp : posn ss 0 i = none) (hk : loK o ss 0 0 = k) (hk2 : Nat.beq (hiK ops i ss 0 - k) 1 = true) (hL : Ls.getD k [] = L) (hL2 : Ls.getD (k + 1) [] = L2)
    (h : OpR P o (RdE ops env0 xs o) H L x H L) (h2 : OpR P o (RdE ops env0 xs o) H L2 x H L2) {xs' : List TV} (hxs : snocD xs x = some xs') (kk : Tele P ops env0 (fun _ => H) Ls ss K rest (i + 1) xs') : Tele P ops env0 (fun _ => H) Ls ss K (o :: rest) i xs :=
  T_op2 hg hp hk hk2 hL hL2 h h2 (snocD_eq hxs) kk
theorem T_gate {K : List TV → Prop} {d : Option Nat} {op : Op} {t : TypeId} {pos : String} {af : Array Edge} {rest : List Oper} {i : Nat} (h : Tele P ops env0 (fun _ => H) Ls ss K ({ dst := d, op := op, type := t, pos := pos, after := af, guard := none } :: rest) i xs) : Tele P ops env0 (fun _ => H) Ls ss K ({ dst := d, op := op, type := t, pos := pos, after := af, guard := none } :: rest) i xs := h
theorem T_gateG {K : List TV → Prop} {d : Option Nat} {op : Op} {t : TypeId} {pos : String} {af : Array Edge} {g : Nat × Bool} {rest : List Oper} {i : Nat} (h : Tele P ops env0 (fun _ => H) Ls ss K ({ dst := d, op := op, type := t, pos := pos, after := af, guard := some g } :: rest) i xs) : Tele P ops env0 (fun _ => H) Ls ss K ({ dst := d, op := op, type := t, pos := pos, after := af, guard := some g } :: rest) i xs := h
end
/-- A drawn region, as far as the environment tells. -/
theorem gd {φ ψ : Prop} (k : ψ) (h : ψ → φ := by
  intro k
  repeat (first
    | with_reducible refine T_nil ?_
    | ((with_reducible refine T_gateG ?_); first | refine T_no rfl rfl rfl rfl ?_ | refine T_yesD rfl rfl rfl rfl rfl rfl (stepN_ok hT rfl) rfl ?_ | refine T_yesD rfl rfl rfl rfl rfl rfl (stepW_ok hT rfl) rfl ?_ | refine T_yesD rfl rfl rfl rfl rfl rfl (stepG_ok hT rfl) rfl ?_ | refine T_yesD rfl rfl rfl rfl rfl rfl (stepA_ok hT rfl) rfl ?_ | refine T_yesD rfl rfl rfl rfl rfl rfl (opr_boxP rfl rfl rfl) rfl ?_)
    | ((with_reducible refine T_gate ?_); first | refine T_opD rfl rfl rfl rfl rfl (stepN_ok hT rfl) rfl ?_ | refine T_opD rfl rfl rfl rfl rfl (stepW_ok hT rfl) rfl ?_ | refine T_opD rfl rfl rfl rfl rfl (stepG_ok hT rfl) rfl ?_ | refine T_opD rfl rfl rfl rfl rfl (stepA_ok hT rfl) rfl ?_ | refine T_opD rfl rfl rfl rfl rfl (opr_boxP rfl rfl rfl) rfl ?_))
  exact k) : φ := h k
/-- Where one operation more may have come between. -/
theorem gd2 {φ ψ : Prop} (k : ψ) (h : ψ → φ := by
  intro k
  repeat (first
    | ((with_reducible refine T_gate ?_); first | refine T_op2D rfl rfl rfl rfl rfl rfl (stepN_ok hT rfl) (stepN_ok hT rfl) rfl ?_ | refine T_op2D rfl rfl rfl rfl rfl rfl (stepW_ok hT rfl) (stepW_ok hT rfl) rfl ?_ | refine T_op2D rfl rfl rfl rfl rfl rfl (stepA_ok hT rfl) (stepA_ok hT rfl) rfl ?_))
  exact k) : φ := h k
end Go.Awp

/- The order of texts, in plain Lean; what stands behind those that begin so. -/
namespace Go.Proofs.YtfnpelogfcnanaaGreatDoor
set_option maxRecDepth 20000
open Go.Awp
theorem bl_irrefl : ∀ (a : List UInt8), Op.bytesLess a a = false
  | [] => rfl
  | x :: a => by simp [Op.bytesLess, bl_irrefl a]
theorem bl_nil (a : List UInt8) : Op.bytesLess a [] = false := by cases a <;> rfl
theorem bl_trans : ∀ {a b c : List UInt8}, Op.bytesLess a b = true → Op.bytesLess b c = true → Op.bytesLess a c = true
  | a, b, [], _, h => by rw [bl_nil] at h; cases h
  | a, [], z :: c, h, _ => by rw [bl_nil] at h; cases h
  | [], y :: b, z :: c, _, _ => rfl
  | x :: a, y :: b, z :: c, h1, h2 => by
    simp only [Op.bytesLess, Bool.or_eq_true, Bool.and_eq_true, beq_iff_eq, decide_eq_true_eq] at h1 h2 ⊢
    simp only [UInt8.lt_iff_toNat_lt, ← UInt8.toNat_inj] at h1 h2 ⊢
    rcases h1 with h1 | ⟨h1, h1'⟩ <;> rcases h2 with h2 | ⟨h2, h2'⟩
    · exact .inl (by omega)
    · exact .inl (by omega)
    · exact .inl (by omega)
    · exact .inr ⟨by omega, bl_trans h1' h2'⟩
theorem bl_asymm {a b : List UInt8} (h : Op.bytesLess a b = true) : Op.bytesLess b a = false := by
  cases h2 : Op.bytesLess b a with
  | false => rfl
  | true => have := bl_trans h h2; rw [bl_irrefl] at this; cases this
theorem bl_total : ∀ {a b : List UInt8}, Op.bytesLess a b = false → Op.bytesLess b a = false → a = b
  | [], [], _, _ => rfl
  | [], y :: b, h, _ => by simp [Op.bytesLess] at h
  | x :: a, [], _, h => by simp [Op.bytesLess] at h
  | x :: a, y :: b, h1, h2 => by
    simp only [Op.bytesLess, Bool.or_eq_false_iff, Bool.and_eq_false_iff, beq_eq_false_iff_ne, decide_eq_false_iff_not] at h1 h2
    simp only [UInt8.lt_iff_toNat_lt, ne_eq, ← UInt8.toNat_inj] at h1 h2
    have hxy : x = y := UInt8.toNat_inj.1 (by omega)
    subst hxy
    have e1 : Op.bytesLess a b = false := h1.2.resolve_left (fun h => h rfl)
    have e2 : Op.bytesLess b a = false := h2.2.resolve_left (fun h => h rfl)
    rw [bl_total e1 e2]
/-- Ahead of all that stands behind those that begin so; nothing, if all is 255. -/
def beh : List UInt8 → List UInt8
  | [] => []
  | b :: l => match beh l with
    | [] => if b = 255 then [] else [b + 1]
    | c :: r => b :: c :: r
theorem beh_nil : ∀ {l : List UInt8}, beh l = [] → ∀ k, Op.bytesLess k l = false ↔ l <+: k
  | [], _, k => by simp [bl_nil]
  | b :: l, h, k => by
    simp only [beh] at h
    split at h
    · rename_i hl
      split at h
      · rename_i hb
        subst hb
        cases k with
        | nil => simp [Op.bytesLess]
        | cons x k =>
          have hx := x.toNat_lt
          simp only [Op.bytesLess, List.cons_prefix_cons, Bool.or_eq_false_iff, Bool.and_eq_false_iff, beq_eq_false_iff_ne, decide_eq_false_iff_not, UInt8.lt_iff_toNat_lt, ne_eq, ← UInt8.toNat_inj]
          rw [← beh_nil hl k]
          have : (255 : UInt8).toNat = 255 := rfl
          constructor
          · rintro ⟨h1, h2⟩
            refine ⟨by omega, ?_⟩
            rcases h2 with h2 | h2
            · omega
            · exact h2
          · rintro ⟨h1, h2⟩
            exact ⟨by omega, .inr h2⟩
      · cases h
    · cases h
theorem beh_iff : ∀ {l : List UInt8}, beh l ≠ [] → ∀ k, (Op.bytesLess k l = false ∧ Op.bytesLess k (beh l) = true) ↔ l <+: k
  | [], h, _ => by simp [beh] at h
  | b :: l, h, k => by
    simp only [beh] at h ⊢
    split
    · rename_i hl
      rw [hl] at h
      simp only [] at h
      split
      · rename_i hb; rw [if_pos hb] at h; simp at h
      · rename_i hb
        have hbt := b.toNat_lt
        have hb1 : (b + 1).toNat = b.toNat + 1 := by
          have h2 : b.toNat ≠ 255 := fun e => hb (UInt8.toNat_inj.1 e)
          rw [UInt8.toNat_add]
          have : (1 : UInt8).toNat = 1 := rfl
          omega
        cases k with
        | nil => simp [Op.bytesLess]
        | cons x k =>
          simp only [Op.bytesLess, bl_nil, Bool.and_false, Bool.or_false, List.cons_prefix_cons, Bool.or_eq_false_iff, Bool.and_eq_false_iff, beq_eq_false_iff_ne, decide_eq_false_iff_not, decide_eq_true_eq, UInt8.lt_iff_toNat_lt, ne_eq, ← UInt8.toNat_inj, hb1]
          rw [← beh_nil hl k]
          constructor
          · rintro ⟨⟨h1, h2⟩, h3⟩
            refine ⟨by omega, ?_⟩
            rcases h2 with h2 | h2
            · omega
            · exact h2
          · rintro ⟨h1, h2⟩
            exact ⟨⟨by omega, .inr h2⟩, by omega⟩
    · rename_i c r hl
      cases k with
      | nil => simp [Op.bytesLess]
      | cons x k =>
        have ih := beh_iff (l := l) (by rw [hl]; simp) k
        rw [hl] at ih
        simp only [Op.bytesLess, List.cons_prefix_cons, Bool.or_eq_false_iff, Bool.and_eq_false_iff, beq_eq_false_iff_ne, decide_eq_false_iff_not, Bool.or_eq_true, Bool.and_eq_true, beq_iff_eq, decide_eq_true_eq, UInt8.lt_iff_toNat_lt, ne_eq, ← UInt8.toNat_inj]
        rw [← ih]
        constructor
        · rintro ⟨⟨h1, h2⟩, h3⟩
          have hbx : b.toNat = x.toNat := by omega
          refine ⟨hbx, ?_, ?_⟩
          · rcases h2 with h2 | h2
            · omega
            · exact h2
          · rcases h3 with h3 | h3
            · omega
            · exact h3.2
        · rintro ⟨h1, h2, h3⟩
          exact ⟨⟨by omega, .inr h2⟩, .inr ⟨by omega, h3⟩⟩
theorem beh_rep : ∀ (m : Nat), beh (List.replicate m 255) = []
  | 0 => rfl
  | m + 1 => by simp [List.replicate_succ, beh, beh_rep m]
theorem beh_at : ∀ (p : List UInt8) (b : UInt8) (m : Nat), b ≠ 255 → beh (p ++ b :: List.replicate m 255) = p ++ [b + 1]
  | [], b, m, hb => by simp [beh, beh_rep, hb]
  | x :: p, b, m, hb => by
    have := beh_at p b m hb
    simp only [List.cons_append, beh, this]
    cases p <;> rfl
/-- From where to where. -/
def inR (k a b : List UInt8) : Bool := !Op.bytesLess k a && Op.bytesLess k b
end Go.Proofs.YtfnpelogfcnanaaGreatDoor

/- Trees: what they are, and what is made of them, in plain Lean. -/
namespace Go.Proofs.YtfnpelogfcnanaaGreatDoor
set_option maxRecDepth 20000
open Go.Awp
/-- A version of a tree. -/
inductive Tr where
  | nil
  | node (k v : List UInt8) (l r : Tr)
  deriving Inhabited
namespace Tr
def size : Tr → Nat
  | nil => 0
  | node _ _ l r => 1 + l.size + r.size
def high : Tr → Nat
  | nil => 0
  | node _ _ l r => 1 + max l.high r.high
theorem high_le : ∀ (t : Tr), t.high ≤ t.size
  | nil => Nat.le_refl _
  | node _ _ l r => by have := high_le l; have := high_le r; simp only [high, size]; omega
def av : Tr → AV
  | nil => .nilp
  | node k v l r => .pp [.str k, .str v, .cell l.av, .cell r.av, .int .i64 ((1 + l.size + r.size : Nat) : Int), .int .i64 ((1 + max l.high r.high : Nat) : Int)]
/-- The tree as a value that is handed on. -/
abbrev W (t : Tr) : TV := .p (.cell t.av)
def rotR : Tr → Tr
  | node k v (node k2 v2 a b) c => node k2 v2 a (node k v b c)
  | t => t
def rotL : Tr → Tr
  | node k v a (node k2 v2 b c) => node k2 v2 (node k v a b) c
  | t => t
def lean : Tr → Int
  | nil => 0
  | node _ _ l r => (l.high : Int) - (r.high : Int)
def join (k v : List UInt8) (l r : Tr) : Tr :=
  if (node k v l r).lean > 1 then rotR (if l.lean < 0 then node k v (rotL l) r else node k v l r)
  else if (node k v l r).lean < -1 then rotL (if r.lean > 0 then node k v l (rotR r) else node k v l r)
  else node k v l r
theorem rotR_size (t : Tr) : t.rotR.size = t.size := by
  unfold rotR; split
  · simp only [size]; omega
  · rfl
theorem rotL_size (t : Tr) : t.rotL.size = t.size := by
  unfold rotL; split
  · simp only [size]; omega
  · rfl
theorem join_size (k v : List UInt8) (l r : Tr) : (join k v l r).size = 1 + l.size + r.size := by
  unfold join
  split
  · rw [rotR_size]; split <;> simp only [size, rotL_size]
  · split
    · rw [rotL_size]; split <;> simp only [size, rotR_size]
    · rfl
end Tr
end Go.Proofs.YtfnpelogfcnanaaGreatDoor

/- tree: Len, High, with, turnRight, turnLeft, lean, join. -/
-- @D
namespace Go.Proofs.YtfnpelogfcnanaaGreatDoor
set_option maxRecDepth 20000
open Go.Awp Tr
theorem tnew_spec : Con Tryz.prog 12 [] [] (W .nil) [] [] := by
  refine con_of Tryz.func12 rfl (by kernel_rfl) rfl fun F w0 β0 => ?_
  refine K_tell rfl ?_
  refine go ?_
  refine J_wrap 0 rfl rfl ?_
  exact J_done hT rfl rfl rfl
theorem tlen_spec (t : Tr) : Con Tryz.prog 113 [W t] [] (.p (.int .i64 (t.size : Int))) [] [] := by
  cases t with
  | nil =>
    refine con_of Tryz.func113 rfl (by kernel_rfl) rfl fun F w0 β0 => ?_
    refine K_tell rfl ?_
    refine go ?_
    exact J_done hT rfl rfl rfl
  | node k v l r =>
    refine con_of Tryz.func113 rfl (by kernel_rfl) rfl fun F w0 β0 => ?_
    refine K_tell rfl ?_
    refine go ?_
    exact J_done hT rfl rfl rfl
theorem thigh_spec (t : Tr) : Con Tryz.prog 141 [W t] [] (.p (.int .i64 (t.high : Int))) [] [] := by
  cases t with
  | nil =>
    refine con_of Tryz.func141 rfl (by kernel_rfl) rfl fun F w0 β0 => ?_
    refine K_tell rfl ?_
    refine go ?_
    exact J_done hT rfl rfl rfl
  | node k v l r =>
    refine con_of Tryz.func141 rfl (by kernel_rfl) rfl fun F w0 β0 => ?_
    refine K_tell rfl ?_
    refine go ?_
    exact J_done hT rfl rfl rfl
theorem tmax (a b : Nat) : mmA .max (a : Int) (b : Int) = ((max a b : Nat) : Int) := by unfold mmA; simp only []; split <;> omega
def big40 : Nat := 1099511627776
set_option maxHeartbeats 4000000 in
theorem twith_spec (k v : List UInt8) (l0 r0 l r : Tr) (hl : l.size ≤ big40) (hr : r.size ≤ big40) : Con Tryz.prog 123 [W (node k v l0 r0), W l, W r] [] (W (node k v l r)) [] [] := by
  unfold big40 at hl hr
  have h1 := high_le l
  have h2 := high_le r
  have e22 : IntKind.i64.wrap (IntKind.i64.wrap (1 + (l.size : Int)) + (r.size : Int)) = ((1 + l.size + r.size : Nat) : Int) := by rw [IntWalk.i64_in (1 + _) (by omega), IntWalk.i64_in _ (by omega)]; omega
  have e28 : IntKind.i64.wrap (1 + mmA .max (l.high : Int) (r.high : Int)) = ((1 + max l.high r.high : Nat) : Int) := by rw [tmax, IntWalk.i64_in _ (by omega)]; omega
  have ex : AV.pp [.str k, .str v, .cell l.av, .cell r.av, .int .i64 (IntKind.i64.wrap (IntKind.i64.wrap (1 + (l.size : Int)) + (r.size : Int))), .int .i64 (IntKind.i64.wrap (1 + mmA .max (l.high : Int) (r.high : Int)))] = (node k v l r).av := by rw [e22, e28]; rfl
  have c1 := tlen_spec l
  have c2 := tlen_spec r
  have c3 := thigh_spec l
  have c4 := thigh_spec r
  refine con_of Tryz.func123 rfl (by kernel_rfl) rfl fun F w0 β0 => ?_
  refine K_tell rfl ?_
  refine go ?_
  refine J_draw [[]] [] (by kernel_rfl) (by kernel_rfl) rfl ?_
  refine gd ?_
  refine T_opD rfl rfl rfl rfl rfl (opr_call0P rfl rfl (c1) rfl rfl rfl) rfl ?_
  refine gd ?_
  refine T_opD rfl rfl rfl rfl rfl (opr_call0P rfl rfl (c2) rfl rfl rfl) rfl ?_
  refine gd ?_
  refine T_opD rfl rfl rfl rfl rfl (opr_call0P rfl rfl (c3) rfl rfl rfl) rfl ?_
  refine gd ?_
  refine T_opD rfl rfl rfl rfl rfl (opr_call0P rfl rfl (c4) rfl rfl rfl) rfl ?_
  refine gd ?_
  refine J_then ?_
  refine K_tell rfl ?_
  refine go ?_
  refine J_val 6 _ rfl (congrArg TV.p ex) ?_
  refine J_wrap 6 rfl rfl ?_
  exact J_done hT rfl rfl rfl
theorem tlean_spec (k v : List UInt8) (l r : Tr) (hl : l.size ≤ big40) (hr : r.size ≤ big40) : Con Tryz.prog 124 [W (node k v l r)] [] (.p (.int .i64 (node k v l r).lean)) [] [] := by
  unfold big40 at hl hr
  have h1 := high_le l
  have h2 := high_le r
  have c3 := thigh_spec l
  have c4 := thigh_spec r
  have e : IntKind.i64.wrap ((l.high : Int) - (r.high : Int)) = (l.high : Int) - (r.high : Int) := IntWalk.i64_in _ (by omega)
  refine con_of Tryz.func124 rfl (by kernel_rfl) rfl fun F w0 β0 => ?_
  refine K_tell rfl ?_
  refine go ?_
  refine J_draw [[]] [] (by kernel_rfl) (by kernel_rfl) rfl ?_
  refine gd ?_
  refine T_opD rfl rfl rfl rfl rfl (opr_call0P rfl rfl (c3) rfl rfl rfl) rfl ?_
  refine gd ?_
  refine T_opD rfl rfl rfl rfl rfl (opr_call0P rfl rfl (c4) rfl rfl rfl) rfl ?_
  refine gd ?_
  refine J_then ?_
  refine K_tell rfl ?_
  refine go ?_
  refine J_val 2 _ rfl (congrArg (fun z => TV.p (.int .i64 z)) e) ?_
  exact J_done hT rfl rfl rfl
set_option maxHeartbeats 4000000 in
theorem trotL_spec (k v : List UInt8) (a : Tr) (k2 v2 : List UInt8) (b c : Tr) (h : (node k v a (node k2 v2 b c)).size ≤ big40) : Con Tryz.prog 125 [W (node k v a (node k2 v2 b c))] [] (W (node k2 v2 (node k v a b) c)) [] [] := by
  simp only [Tr.size] at h
  have c1 := twith_spec k v a (node k2 v2 b c) a b (by omega) (by omega)
  have c2 := twith_spec k2 v2 b c (node k v a b) c (by simp only [Tr.size]; omega) (by omega)
  refine con_of Tryz.func125 rfl (by kernel_rfl) rfl fun F w0 β0 => ?_
  refine K_tell rfl ?_
  refine go ?_
  refine J_draw [[]] [] (by kernel_rfl) (by kernel_rfl) rfl ?_
  refine gd ?_
  refine T_opD rfl rfl rfl rfl rfl (opr_call0P rfl rfl (c1) rfl rfl rfl) rfl ?_
  refine gd ?_
  refine T_opD rfl rfl rfl rfl rfl (opr_call0P rfl rfl (c2) rfl rfl rfl) rfl ?_
  refine gd ?_
  refine J_then ?_
  refine K_tell rfl ?_
  refine go ?_
  exact J_done hT rfl rfl rfl
set_option maxHeartbeats 4000000 in
theorem trotR_spec (k v : List UInt8) (k2 v2 : List UInt8) (a b c : Tr) (h : (node k v (node k2 v2 a b) c).size ≤ big40) : Con Tryz.prog 126 [W (node k v (node k2 v2 a b) c)] [] (W (node k2 v2 a (node k v b c))) [] [] := by
  simp only [Tr.size] at h
  have c1 := twith_spec k v (node k2 v2 a b) c b c (by omega) (by omega)
  have c2 := twith_spec k2 v2 a b a (node k v b c) (by omega) (by simp only [Tr.size]; omega)
  refine con_of Tryz.func126 rfl (by kernel_rfl) rfl fun F w0 β0 => ?_
  refine K_tell rfl ?_
  refine go ?_
  refine J_draw [[]] [] (by kernel_rfl) (by kernel_rfl) rfl ?_
  refine gd ?_
  refine T_opD rfl rfl rfl rfl rfl (opr_call0P rfl rfl (c1) rfl rfl rfl) rfl ?_
  refine gd ?_
  refine T_opD rfl rfl rfl rfl rfl (opr_call0P rfl rfl (c2) rfl rfl rfl) rfl ?_
  refine gd ?_
  refine J_then ?_
  refine K_tell rfl ?_
  refine go ?_
  exact J_done hT rfl rfl rfl
end Go.Proofs.YtfnpelogfcnanaaGreatDoor

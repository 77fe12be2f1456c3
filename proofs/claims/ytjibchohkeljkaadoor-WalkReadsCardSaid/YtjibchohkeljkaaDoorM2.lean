/- Contracts and plain laws, several texts joined: F15b, F15c, F15d, F23, F15e, F15f, F15g, CNodePuts, CNodeGets, Go2, Lex. -/
import Derived.Test.YtjibchohkeljkaaDoorGo
import Derived.Test.YtjibchohkeljkaaDoorM1
/- node.Cut. -/
-- @OLD
namespace Go.Proofs.YtjibchohkeljkaaDoor
set_option maxRecDepth 20000
open Go.Awp
def cutRow (o n : Int) : AV := .agg [.int .i64 (o / 64), .int .i64 (o % 64), .int .i64 (min n (64 - o % 64))]
def pieces : Nat → Int → Int → List AV
  | 0, _, _ => []
  | f + 1, o, n => if n ≤ 0 then [] else cutRow o n :: pieces f (o + min n (64 - o % 64)) (n - min n (64 - o % 64))
def cutBad (o n : Int) : Prop := o < 0 ∨ n ≤ 0 ∨ o > 4096 ∨ n > 4096 - o
instance (o n : Int) : Decidable (cutBad o n) := by unfold cutBad; infer_instance
def cutV (o n : Int) : AV := if cutBad o n then .nils else .ps (pieces n.toNat o n)
theorem pieces_more : ∀ (f : Nat) (o n : Int), 0 ≤ o → n.toNat ≤ f → pieces f o n = pieces n.toNat o n
  | 0, o, n, _, h => by rw [show n.toNat = 0 by omega]
  | f + 1, o, n, ho, h => by
    by_cases hn : n ≤ 0
    · rw [show n.toNat = 0 by omega]; simp [pieces, hn]
    · obtain ⟨g, hg⟩ : ∃ g, n.toNat = g + 1 := ⟨n.toNat - 1, by omega⟩
      rw [hg]
      simp only [pieces, if_neg hn]
      rw [pieces_more f _ _ (by omega) (by omega), pieces_more g _ _ (by omega) (by omega)]
theorem pieces_step (o n : Int) (ho : 0 ≤ o) (hn : 0 < n) : pieces n.toNat o n = cutRow o n :: pieces (n - min n (64 - o % 64)).toNat (o + min n (64 - o % 64)) (n - min n (64 - o % 64)) := by
  obtain ⟨g, hg⟩ : ∃ g, n.toNat = g + 1 := ⟨n.toNat - 1, by omega⟩
  rw [hg]
  simp only [pieces, if_neg (show ¬ n ≤ 0 by omega)]
  rw [pieces_more g _ _ (by omega) (by omega)]
theorem cutRow_cl {o n : Int} : clR [cutRow o n] := by
  intro r hr x hx
  simp at hr
  subst hr
  simp [cellsOf, cutRow] at hx
  rcases hx with rfl | rfl | rfl <;> rfl
theorem cutRow_size {o n : Int} : ∀ r ∈ [cutRow o n], (cellsOf r).length = 3 := by
  intro r hr
  simp at hr
  subst hr
  rfl
theorem pieces_len : ∀ (f : Nat) (o n : Int), (pieces f o n).length ≤ f
  | 0, _, _ => by simp [pieces]
  | f + 1, o, n => by
    simp only [pieces]
    split
    · simp
    · have := pieces_len f (o + min n (64 - o % 64)) (n - min n (64 - o % 64))
      simp; omega
structure CutI (o0 n0 : Int) where
  o : Int
  n : Int
  acc : List AV
  h0 : 0 ≤ o
  h1 : 0 ≤ n
  h2 : o + n ≤ 4096
  h3 : acc.length ≤ 4096 - n
  h4 : acc ++ pieces n.toNat o n = pieces n0.toNat o0 n0
  h5 : n = n0 ∨ acc ≠ []
def cutT (acc : List AV) : TV := match acc with
  | [] => .p .nils
  | _ => .sl (.l 0) acc.length 0 acc.length
end Go.Proofs.YtjibchohkeljkaaDoor

/- What the laws of chapter 15 fix; the law NodeBlocks. -/
-- @OLD
namespace Go.Proofs.YtjibchohkeljkaaDoor
set_option maxRecDepth 20000
open Go.Awp
end Go.Proofs.YtjibchohkeljkaaDoor

/- node: New, Root, May. -/
-- @OLD
namespace Go.Proofs.YtjibchohkeljkaaDoor
set_option maxRecDepth 20000
open Go.Awp
def nodeV (k l s p : Int) : List AV := [.int .u8 k, .int .u32 l, .int .u32 s, .int .u32 p]
def newV (k p : Int) : List AV := if k = 1 then nodeV 1 1 0 0 else nodeV 2 2 0 p
def mayB (k l s p : Int) : Bool := if k = 1 then decide (l ≥ 1) && decide (l ≤ 1000) && decide (s ≤ 4096) && decide (p = 0) else if k = 2 then decide (l ≥ 2) && decide (s = 0) else false
set_option maxHeartbeats 4000000 in
theorem new_spec (k p : Int) (H : List AObj) : Con Tryd.prog 86 [.p (.int .u8 k), .p (.int .u32 p)] H (.agg ((newV k p).map .p)) H [] := by
  refine con_of Tryd.func86 rfl (by kernel_rfl) rfl fun F w0 β0 => ?_
  refine go0 ?_
  refine J_cond rfl (fun hc => ?_) (fun hc => ?_)
  · have hc1 : k = 1 := by simpa using hc
    have e : newV k p = nodeV 1 1 0 0 := by simp [newV, hc1]
    rw [e]
    refine go0 ?_
    exact J_done hT rfl rfl rfl
  · have hc1 : ¬ k = 1 := by simpa using hc
    have e : newV k p = nodeV 2 2 0 p := by simp [newV, hc1]
    rw [e]
    refine go0 ?_
    exact J_done hT rfl rfl rfl
theorem new_two (p : Int) (H : List AObj) : Con Tryd.prog 86 [.p (.int .u8 2), .p (.int .u32 p)] H (.agg ((nodeV 2 2 0 p).map .p)) H [] := new_spec 2 p H
theorem root_spec (H : List AObj) : Con Tryd.prog 65 [] H (.agg ((nodeV 2 2 0 1).map .p)) H [] := by
  refine con_of Tryd.func65 rfl (by kernel_rfl) rfl fun F w0 β0 => ?_
  refine go0 ?_
  refine J_op rfl rfl (opr_call0 rfl rfl rfl rfl rfl (new_two 1 H)) ?_
  refine go0 ?_
  exact J_done hT rfl rfl rfl
set_option maxHeartbeats 4000000 in
theorem may_spec (k l s p : Int) (H : List AObj) : Con Tryd.prog 87 [.p (.agg (nodeV k l s p))] H (.p (.bool (mayB k l s p))) H [] := by
  refine con_of Tryd.func87 rfl (by kernel_rfl) rfl fun F w0 β0 => ?_
  refine go0 ?_
  refine J_cond rfl (fun hc => ?_) (fun hc => ?_)
  · have hc1 : k = 1 := by simpa using hc
    refine go0 ?_
    refine J_split 10 rfl (fun h1 => ?_) (fun h1 => ?_)
    · have h1' := of_decide_eq_true h1
      refine go0 ?_
      refine J_split 15 rfl (fun h2 => ?_) (fun h2 => ?_)
      · have h2' := of_decide_eq_true h2
        refine go0 ?_
        refine J_split 20 rfl (fun h3 => ?_) (fun h3 => ?_)
        · have h3' := of_decide_eq_true h3
          refine go0 ?_
          have e : mayB k l s p = (p == 0) := by
            have e1 : (l ≥ 1) := h1'
            have e2 : (l ≤ 1000) := h2'
            have e3 : (s ≤ 4096) := h3'
            simp only [mayB, hc1, if_true, e1, e2, e3, decide_true, Bool.true_and]
            by_cases hp : p = 0 <;> simp [hp]
          rw [e]
          exact J_done hT rfl rfl rfl
        · have h3' := of_decide_eq_false h3
          refine go0 ?_
          have e : mayB k l s p = false := by
            have e3 : ¬ (s ≤ 4096) := h3'
            simp [mayB, hc1]; intros; omega
          rw [e]
          exact J_done hT rfl rfl rfl
      · have h2' := of_decide_eq_false h2
        refine go0 ?_
        have e : mayB k l s p = false := by
          have e3 : ¬ (l ≤ 1000) := h2'
          simp [mayB, hc1]; intros; omega
        rw [e]
        exact J_done hT rfl rfl rfl
    · have h1' := of_decide_eq_false h1
      refine go0 ?_
      have e : mayB k l s p = false := by
        have e3 : ¬ (l ≥ 1) := h1'
        simp [mayB, hc1]; intros; omega
      rw [e]
      exact J_done hT rfl rfl rfl
  · have hc1 : ¬ k = 1 := by simpa using hc
    refine go0 ?_
    refine J_cond rfl (fun hd => ?_) (fun hd => ?_)
    · have hd1 : k = 2 := by simpa using hd
      refine go0 ?_
      refine J_split 30 rfl (fun h1 => ?_) (fun h1 => ?_)
      · have h1' := of_decide_eq_true h1
        refine go0 ?_
        have e : mayB k l s p = (s == 0) := by
          have e1 : (l ≥ 2) := h1'
          simp only [mayB, hd1, e1, decide_true, Bool.true_and]
          by_cases hp : s = 0 <;> simp [hp]
        rw [e]
        exact J_done hT rfl rfl rfl
      · have h1' := of_decide_eq_false h1
        refine go0 ?_
        have e : mayB k l s p = false := by
          have e3 : ¬ (l ≥ 2) := h1'
          simp [mayB, hd1]; intros; omega
        rw [e]
        exact J_done hT rfl rfl rfl
    · have hd1 : ¬ k = 2 := by simpa using hd
      have e : mayB k l s p = false := by simp [mayB, hc1, hd1]
      rw [e]
      refine go0 ?_
      exact J_done hT rfl rfl rfl
end Go.Proofs.YtjibchohkeljkaaDoor

/- price: Inode, Entry, File, Write. -/
-- @N
namespace Go.Proofs.YtjibchohkeljkaaDoor
set_option maxRecDepth 20000
open Go.Awp
def cutP (o n : Int) : Nat := if cutBad o n then 0 else (pieces n.toNat o n).length
theorem cutP_le (o n : Int) : cutP o n ≤ 4096 := by
  unfold cutP
  split
  · omega
  · rename_i h
    have := pieces_len n.toNat o n
    unfold cutBad at h
    omega
end Go.Proofs.YtjibchohkeljkaaDoor

/- The reference's Put of an inode. -/
-- @N
namespace Go.Proofs.YtjibchohkeljkaaDoor
set_option maxRecDepth 20000
open Go.Awp
def nodeB (k l s p : Int) : List UInt8 := [UInt8.ofNat k.toNat] ++ beB 4 l ++ beB 4 s ++ beB 4 p
theorem rput4 {s : AV} {l : List UInt8} (hs : Bs s l) (v : Int) (hv : 0 ≤ v ∧ v ≤ 4294967295) (hl : l.length ≤ big) (H : List AObj) : Con Tryd.prog 62 [.p s, .p (.int .i64 4), .p (.int .u64 v)] H (.p (.ps (bv (l ++ beB 4 v)))) H [] := by
  have p1 := (rput_spec hs 4 v (by omega) hl H).freeze (by simp [beB_len])
  rwa [show (wide 4).toNat = 4 by decide] at p1
set_option maxHeartbeats 4000000 in
theorem rnput_spec (k l s p : Int) (hk : 0 ≤ k ∧ k ≤ 255) (hl : 0 ≤ l ∧ l ≤ 4294967295) (hs : 0 ≤ s ∧ s ≤ 4294967295) (hp : 0 ≤ p ∧ p ≤ 4294967295) (H : List AObj) : Con Tryd.prog 61 [.p (.agg (nodeV k l s p))] H (.p (.str (nodeB k l s p))) H [] := by
  have e6 : AV.int .u8 k = .int .u8 ((UInt8.ofNat k.toNat).toNat : Int) := by
    congr 1; simp; omega
  have c1 := rput4 (.ps [UInt8.ofNat k.toNat]) l hl (by unfold big; simp) H
  have c2 := rput4 (.ps ([UInt8.ofNat k.toNat] ++ beB 4 l)) s hs (by unfold big; simp [beB_len]) H
  have c3 := rput4 (.ps ([UInt8.ofNat k.toNat] ++ beB 4 l ++ beB 4 s)) p hp (by unfold big; simp [beB_len]) H
  refine con_of Tryd.func61 rfl (by kernel_rfl) rfl fun F w0 β0 => ?_
  refine goN ?_
  refine J_val 9 _ rfl (congrArg (fun z => TV.p (.int .u64 z)) (u64_in l (by omega))) ?_
  refine J_val 6 (.p (.ps (bv [UInt8.ofNat k.toNat]))) rfl (congrArg (fun z => TV.p (.ps [z])) e6) ?_
  refine J_op rfl rfl (opr_call0 rfl rfl rfl rfl rfl c1) ?_
  refine goN ?_
  refine J_val 14 _ rfl (congrArg (fun z => TV.p (.int .u64 z)) (u64_in s (by omega))) ?_
  refine J_op rfl rfl (opr_call0 rfl rfl rfl rfl rfl c2) ?_
  refine goN ?_
  refine J_val 19 _ rfl (congrArg (fun z => TV.p (.int .u64 z)) (u64_in p (by omega))) ?_
  refine J_op rfl rfl (opr_call0 rfl rfl rfl rfl rfl c3) ?_
  refine J_op rfl rfl (opr_to_str (l := nodeB k l s p) hT rfl rfl rfl rfl rfl (.ps _)) ?_
  refine goN ?_
  exact J_done hT rfl rfl rfl
end Go.Proofs.YtjibchohkeljkaaDoor

/- node.Put and Get of an inode; the reference's Get. -/
namespace Go.Proofs.YtjibchohkeljkaaDoor
set_option maxRecDepth 20000
open Go.Awp
theorem u32_in (n : Int) (h : 0 ≤ n ∧ n ≤ 4294967295) : IntKind.u32.wrap n = n := by
  unfold IntKind.wrap
  simp [IntKind.bits, IntKind.signed]
  omega
theorem put4 {s : AV} {l : List UInt8} (hs : Bs s l) (v : Int) (hv : 0 ≤ v ∧ v ≤ 4294967295) (hl : l.length ≤ big) : Con Tryd.prog 45 [.p s, .p (.int .i64 4), .p (.int .u64 v)] [] (.p (.ps (bv (l ++ beB 4 v)))) [] [] := by
  have p1 := put_spec hs 4 v hv.1 hl []
  rwa [show (wide 4).toNat = 4 by decide] at p1
set_option maxHeartbeats 4000000 in
theorem nput_spec (k l s p : Int) (hk : 0 ≤ k ∧ k ≤ 255) (hl : 0 ≤ l ∧ l ≤ 4294967295) (hs : 0 ≤ s ∧ s ≤ 4294967295) (hp : 0 ≤ p ∧ p ≤ 4294967295) : Con Tryd.prog 60 [.p (.agg (nodeV k l s p))] [] (.p (.str (nodeB k l s p))) [] [] := by
  have e6 : AV.int .u8 k = .int .u8 ((UInt8.ofNat k.toNat).toNat : Int) := by
    congr 1; simp; omega
  have c1 := put4 (.ps [UInt8.ofNat k.toNat]) l hl (by unfold big; simp)
  have c2 := put4 (.ps ([UInt8.ofNat k.toNat] ++ beB 4 l)) s hs (by unfold big; simp [beB_len])
  have c3 := put4 (.ps ([UInt8.ofNat k.toNat] ++ beB 4 l ++ beB 4 s)) p hp (by unfold big; simp [beB_len])
  refine con_of Tryd.func60 rfl (by kernel_rfl) rfl fun F w0 β0 => ?_
  refine K_tell rfl ?_
  refine go ?_
  refine J_val 3 (.p (.ps (bv [UInt8.ofNat k.toNat]))) rfl (congrArg (fun z => TV.p (.ps [z])) e6) ?_
  refine J_unroll 4 (J_round ?_)
  refine go ?_
  refine J_val 21 _ rfl (congrArg (fun z => TV.p (.int .u64 z)) (u64_in l (by omega))) ?_
  refine K_op rfl rfl (opr_callP rfl rfl (c1) rfl rfl rfl rfl) rfl ?_
  refine go ?_
  refine J_round ?_
  refine go ?_
  refine J_val 21 _ rfl (congrArg (fun z => TV.p (.int .u64 z)) (u64_in s (by omega))) ?_
  refine K_op rfl rfl (opr_callP rfl rfl (c2) rfl rfl rfl rfl) rfl ?_
  refine go ?_
  refine J_round ?_
  refine go ?_
  refine J_val 21 _ rfl (congrArg (fun z => TV.p (.int .u64 z)) (u64_in p (by omega))) ?_
  refine K_op rfl rfl (opr_callP rfl rfl (c3) rfl rfl rfl rfl) rfl ?_
  refine go ?_
  refine J_round ?_
  refine go ?_
  exact J_done hT rfl rfl rfl
/-- Four bytes' number. -/
def gF (l : List UInt8) (a : Nat) : Int := beV ((l.drop a).take 4)
theorem gF_bd (l : List UInt8) (a : Nat) : 0 ≤ gF l a ∧ gF l a ≤ 4294967295 := by
  obtain ⟨h1, h2⟩ := beV_bound ((l.drop a).take 4)
  have h3 : ((l.drop a).take 4).length ≤ 4 := List.length_take_le _ _
  have h4 : (256 : Nat) ^ ((l.drop a).take 4).length ≤ 256 ^ 4 := Nat.pow_le_pow_right (by decide) h3
  have h5 : ((256 ^ ((l.drop a).take 4).length : Nat) : Int) = (256 : Int) ^ ((l.drop a).take 4).length := Int.natCast_pow 256 _
  have h6 : (256 : Nat) ^ 4 = 4294967296 := by decide
  unfold gF
  rw [← h5] at h2
  rw [h6] at h4
  omega
theorem getR_at {l : List UInt8} (a : Nat) (h : a + 4 ≤ l.length) : getR l (a : Int) 4 = (gF l a, ((a + 4 : Nat) : Int), 0) := by
  unfold getR gF
  rw [if_neg (by omega), if_neg (by omega), Int.toNat_natCast]
  rfl
def b0 (l : List UInt8) : Int := ((l.headD 0).toNat : Int)
/-- What inode a text is. -/
def getNode (l : List UInt8) : Option (Int × Int × Int × Int) := if l.length = 13 ∧ mayB (b0 l) (gF l 1) (gF l 5) (gF l 9) = true then some (b0 l, gF l 1, gF l 5, gF l 9) else none
def nodeT : Option (Int × Int × Int × Int) → TV
  | some (k, a, b, c) => .tup [.agg ((nodeV k a b c).map .p), .p (.bool true)]
  | none => .tup [.agg ((nodeV 0 0 0 0).map .p), .p (.bool false)]
theorem get4 (l : List UInt8) (a : Nat) (h : a + 4 ≤ l.length) (hl : l.length ≤ 140737488355328) : Con Tryd.prog 47 [.p (.ps (bv l)), .p (.int .i64 (a : Int)), .p (.int .i64 4)] [] (.tup [.p (.int .u64 (gF l a)), .p (.int .i64 ((a + 4 : Nat) : Int)), .p (.int .i64 0)]) [] [] := by
  have p1 := get_spec (.ps l) (a : Int) 4 (by omega) hl []
  rw [show (wide 4).toNat = 4 by decide, getR_at a h] at p1
  exact p1
theorem rget4 (l : List UInt8) (a : Nat) (h : a + 4 ≤ l.length) (hl : l.length ≤ 140737488355328) : Con Tryd.prog 77 [.p (.ps (bv l)), .p (.int .i64 (a : Int)), .p (.int .i64 4)] [] (.tup [.p (.int .u64 (gF l a)), .p (.int .i64 ((a + 4 : Nat) : Int)), .p (.int .i64 0)]) [] [] := by
  have p1 := rget_spec (.ps l) (a : Int) 4 (by omega) hl []
  rw [show (wide 4).toNat = 4 by decide, getR_at a h] at p1
  exact p1
theorem nat13 {l : List UInt8} (h : l.length = 13) : l[0]? = some (l.headD 0) := by
  cases l with
  | nil => simp at h
  | cons b r => rfl
set_option maxHeartbeats 4000000 in
theorem nget_spec (l : List UInt8) (hl : l.length ≤ 140737488355328) : Con Tryd.prog 66 [.p (.str l)] [] (nodeT (getNode l)) [] [] := by
  by_cases h13 : l.length = 13
  · have c1 := get4 l 1 (by omega) hl
    have c2 := get4 l 5 (by omega) hl
    have c3 := get4 l 9 (by omega) hl
    have b1 := gF_bd l 1
    have b2 := gF_bd l 5
    have b3 := gF_bd l 9
    have hb := nat13 h13
    have cm := may_spec (b0 l) (gF l 1) (gF l 5) (gF l 9) []
    generalize hg1 : gF l 1 = g1 at *
    generalize hg2 : gF l 5 = g2 at *
    generalize hg3 : gF l 9 = g3 at *
    have w1 : IntKind.u32.wrap g1 = g1 := u32_in _ b1
    have w2 : IntKind.u32.wrap g2 = g2 := u32_in _ b2
    have w3 : IntKind.u32.wrap g3 = g3 := u32_in _ b3
    refine con_of Tryd.func66 rfl (by kernel_rfl) rfl fun F w0 β0 => ?_
    refine K_tell rfl ?_
    refine go ?_
    refine J_false 13 rfl (by simp [h13]) ?_
    refine go ?_
    refine J_unroll 4 (J_round ?_)
    refine go ?_
    refine K_op rfl rfl (opr_callP rfl rfl (c1) rfl rfl rfl rfl) rfl ?_
    refine go ?_
    refine J_round ?_
    refine go ?_
    refine K_op rfl rfl (opr_callP rfl rfl (c2) rfl rfl rfl rfl) rfl ?_
    refine go ?_
    refine J_round ?_
    refine go ?_
    refine K_op rfl rfl (opr_callP rfl rfl (c3) rfl rfl rfl rfl) rfl ?_
    refine go ?_
    refine J_round ?_
    refine go ?_
    rw [w1, w2, w3]
    refine K_only [0, 2, 3, 4] rfl ?_
    refine J_draw [[AObj.box 45 ((nodeV 0 0 0 0).map .p), AObj.box 127 [.p (.int .u32 g1), .p (.int .u32 g2), .p (.int .u32 g3)]],
      [AObj.box 45 ((nodeV 0 0 0 0).map .p), AObj.box 127 [.p (.int .u32 g1), .p (.int .u32 g2), .p (.int .u32 g3)], AObj.box 45 ((nodeV 0 0 0 0).map .p)],
      [AObj.box 45 ((nodeV 0 0 0 0).map .p), AObj.box 127 [.p (.int .u32 g1), .p (.int .u32 g2), .p (.int .u32 g3)], AObj.box 45 ((nodeV (b0 l) g1 g2 g3).map .p)]] [9, 10] (by kernel_rfl) (by kernel_rfl) rfl ?_
    repeat (first | refine T_nil ?_ | refine T_op2 rfl rfl rfl rfl rfl rfl (stepN_ok hT rfl) (stepN_ok hT rfl) rfl ?_ | refine T_op2 rfl rfl rfl rfl rfl rfl (opr_idxArr hT rfl rfl rfl rfl rfl) (opr_idxArr hT rfl rfl rfl rfl rfl) rfl ?_)
    refine T_op2 rfl rfl rfl rfl rfl rfl (opr_byte hT rfl rfl rfl rfl (by decide) hb) (opr_byte hT rfl rfl rfl rfl (by decide) hb) rfl ?_
    repeat (first | refine T_nil ?_ | refine T_op2 rfl rfl rfl rfl rfl rfl (stepN_ok hT rfl) (stepN_ok hT rfl) rfl ?_ | refine T_op2 rfl rfl rfl rfl rfl rfl (opr_idxArr hT rfl rfl rfl rfl rfl) (opr_idxArr hT rfl rfl rfl rfl rfl) rfl ?_)
    refine T_st rfl rfl rfl rfl (stepN_ok hT rfl) rfl ?_
    refine T_st rfl rfl rfl rfl (stepN_ok hT rfl) rfl ?_
    refine T_nil ?_
    refine J_then ?_
    refine K_tell rfl ?_
    refine go ?_
    refine K_op rfl rfl (opr_callP rfl rfl (cm) rfl rfl rfl rfl) rfl ?_
    refine go ?_
    refine J_cond rfl (fun hm => ?_) (fun hm => ?_)
    · have hm1 : mayB (b0 l) g1 g2 g3 = false := by simpa using hm
      have e : getNode l = none := by unfold getNode; rw [hg1, hg2, hg3, hm1]; simp
      rw [e]
      refine go ?_
      exact J_done hT rfl rfl rfl
    · have hm1 : mayB (b0 l) g1 g2 g3 = true := by simpa using hm
      have e : getNode l = some (b0 l, g1, g2, g3) := by unfold getNode; rw [hg1, hg2, hg3, hm1]; simp [h13]
      rw [e]
      refine go ?_
      exact J_done hT rfl rfl rfl
  · have e : getNode l = none := by unfold getNode; rw [if_neg (by omega)]
    rw [e]
    refine con_of Tryd.func66 rfl (by kernel_rfl) rfl fun F w0 β0 => ?_
    refine K_tell rfl ?_
    refine go ?_
    refine J_true 13 rfl (by simp; omega) ?_
    refine go ?_
    exact J_done hT rfl rfl rfl
end Go.Proofs.YtjibchohkeljkaaDoor

/- The reference's May and Get of an inode. -/
namespace Go.Proofs.YtjibchohkeljkaaDoor
set_option maxRecDepth 20000
open Go.Awp
end Go.Proofs.YtjibchohkeljkaaDoor

/- The law NodePuts: its contract. -/
namespace Go.Proofs.YtjibchohkeljkaaDoor
set_option maxRecDepth 20000
open Go.Awp
theorem beV_be4 (v : Int) (h : 0 ≤ v ∧ v ≤ 4294967295) : beV (beB 4 v) = v := by
  obtain ⟨x, rfl⟩ : ∃ x : Nat, v = x := ⟨v.toNat, by omega⟩
  rw [beV_beB, Nat.mod_eq_of_lt (by omega)]
theorem nodeB_len (k l s p : Int) : (nodeB k l s p).length = 13 := by simp [nodeB, beB_len]
theorem gF_node (k l s p : Int) (hl : 0 ≤ l ∧ l ≤ 4294967295) (hs : 0 ≤ s ∧ s ≤ 4294967295) (hp : 0 ≤ p ∧ p ≤ 4294967295) :
    gF (nodeB k l s p) 1 = l ∧ gF (nodeB k l s p) 5 = s ∧ gF (nodeB k l s p) 9 = p := by
  refine ⟨?_, ?_, ?_⟩
  · unfold gF nodeB
    rw [List.append_assoc, List.append_assoc, List.drop_append_of_le_length (by simp), List.drop_of_length_le (by simp), List.nil_append, List.take_append_of_le_length (by simp [beB_len]), List.take_of_length_le (by simp [beB_len]), beV_be4 l hl]
  · unfold gF nodeB
    rw [List.append_assoc, List.drop_append, List.drop_of_length_le (by simp [beB_len]), List.nil_append, show 5 - ([UInt8.ofNat k.toNat] ++ beB 4 l).length = 0 by simp [beB_len], List.drop_zero, List.take_append_of_le_length (by simp [beB_len]), List.take_of_length_le (by simp [beB_len]), beV_be4 s hs]
  · unfold gF nodeB
    rw [List.drop_append, List.drop_of_length_le (by simp [beB_len]), List.nil_append, show 9 - ([UInt8.ofNat k.toNat] ++ beB 4 l ++ beB 4 s).length = 0 by simp [beB_len], List.drop_zero, List.take_of_length_le (by simp [beB_len]), beV_be4 p hp]
theorem b0_node (k l s p : Int) (hk : 0 ≤ k ∧ k ≤ 255) : b0 (nodeB k l s p) = k := by
  simp [b0, nodeB]; omega
theorem getNode_put (k l s p : Int) (hk : 0 ≤ k ∧ k ≤ 255) (hl : 0 ≤ l ∧ l ≤ 4294967295) (hs : 0 ≤ s ∧ s ≤ 4294967295) (hp : 0 ≤ p ∧ p ≤ 4294967295) :
    getNode (nodeB k l s p) = if mayB k l s p = true then some (k, l, s, p) else none := by
  obtain ⟨h1, h2, h3⟩ := gF_node k l s p hl hs hp
  unfold getNode
  rw [h1, h2, h3, b0_node k l s p hk]
  simp [nodeB_len]
namespace nodePuts
end nodePuts
end Go.Proofs.YtjibchohkeljkaaDoor

/- The law NodeGets: its contract. -/
namespace Go.Proofs.YtjibchohkeljkaaDoor
set_option maxRecDepth 20000
open Go.Awp
theorem cons_of (b : UInt8) (l : List UInt8) : beV (b :: l) = (b.toNat : Int) * 256 ^ l.length + beV l := by
  have key : ∀ (l : List UInt8) (a : Int), l.foldl (fun a b => 256 * a + (b.toNat : Int)) a = a * 256 ^ l.length + beV l := by
    intro l
    induction l with
    | nil => intro a; simp [beV]
    | cons c l ih =>
      intro a
      have h0 := ih (c.toNat : Int)
      unfold beV
      simp only [List.foldl_cons, List.length_cons]
      rw [ih, show (256 * 0 + (c.toNat : Int)) = (c.toNat : Int) by omega, h0, Int.pow_succ, Int.add_mul]
      have : 256 * a * 256 ^ l.length = a * (256 ^ l.length * 256) := by
        rw [Int.mul_comm 256 a, Int.mul_assoc, Int.mul_comm 256]
      omega
  have := key l (b.toNat : Int)
  unfold beV at this ⊢
  simp only [List.foldl_cons]
  rw [show (256 * 0 + (b.toNat : Int)) = (b.toNat : Int) by omega]
  exact this
theorem beB_beV : ∀ (l : List UInt8), beB l.length (beV l) = l := by
  have key : ∀ (r : List UInt8), beB r.reverse.length (beV r.reverse) = r.reverse := by
    intro r
    induction r with
    | nil => rfl
    | cons b r ih =>
      rw [List.reverse_cons, List.length_append, beV_snoc]
      show beB (r.reverse.length + 1) _ = _
      rw [beB_snoc]
      have hb := b.toNat_lt
      have h1 : (256 * beV r.reverse + (b.toNat : Int)) / 256 = beV r.reverse := by omega
      have h2 : (256 * beV r.reverse + (b.toNat : Int)) % 256 = (b.toNat : Int) := by omega
      rw [h1, h2, ih, Int.toNat_natCast]
      simp
  intro l
  have := key l.reverse
  rwa [List.reverse_reverse] at this
theorem nodeB_get {l : List UInt8} (h : l.length = 13) : nodeB (b0 l) (gF l 1) (gF l 5) (gF l 9) = l := by
  have e4 : ∀ a, a + 4 ≤ 13 → beB 4 (gF l a) = (l.drop a).take 4 := fun a ha => by
    have := beB_beV ((l.drop a).take 4)
    rwa [show ((l.drop a).take 4).length = 4 by simp; omega] at this
  unfold nodeB
  rw [e4 1 (by omega), e4 5 (by omega), e4 9 (by omega)]
  match l, h with
  | [x0, x1, x2, x3, x4, x5, x6, x7, x8, x9, x10, x11, x12], _ => simp [b0]
theorem b0_bd (l : List UInt8) : 0 ≤ b0 l ∧ b0 l ≤ 255 := by
  have := (l.headD 0).toNat_lt
  unfold b0
  omega
theorem getNode_some {l : List UInt8} {k a b c : Int} (h : getNode l = some (k, a, b, c)) : l.length = 13 ∧ mayB k a b c = true ∧ k = b0 l ∧ a = gF l 1 ∧ b = gF l 5 ∧ c = gF l 9 := by
  unfold getNode at h
  split at h
  · rename_i hc
    simp only [Option.some.injEq, Prod.mk.injEq] at h
    obtain ⟨rfl, rfl, rfl, rfl⟩ := h
    exact ⟨hc.1, hc.2, rfl, rfl, rfl, rfl⟩
  · cases h
namespace nodeGets
end nodeGets
end Go.Proofs.YtjibchohkeljkaaDoor

/- More rules of the walk: what an operation makes, as a value that stays. No program is named here. -/
namespace Go.Awp
open Go.RowKit
section
variable {w : World} {β : Hd → Nat} {H L : List AObj} {F : Nat → Prop}
/-- An own array's slice, when nobody writes it any more. -/
theorem freeze_rep {i : Nat} {Ty : TypeId} {b : Bool} {e n st len : Nat} {rows : List AV} {v : Value} (hS : Sim w β ⟨H, L, F⟩) (hi : L[i]? = some (.arr Ty b e rows)) (hn : rows.length = n) (hr : RepT w β ⟨H, L, F⟩ (.sl (.l i) n st len) v) :
    RepT w β ⟨H, L.set i .dead, F⟩ (.p (.ps ((rows.drop st).take len))) v := by
  obtain ⟨h1, h2⟩ := kill i hS
  cases hr with | sl _ _ _ _ _ _ _ hv =>
  have hsl := hv _ _ _ _ hi hn
  have hle := hsl.le
  obtain ⟨ao, cap, rfl, hc1, hc2, hao⟩ := hsl.val
  have hlen : ((rows.drop st).take len).length = len := by simp; omega
  by_cases h0 : len = 0
  · subst h0
    simpa using RepT.p (RepA.psE ao cap)
  · have hao := hao (by omega)
    have hon : (AObj.arr Ty b e rows).off = false := AObj.off_arr.2 fun _ => by omega
    obtain ⟨cs, fr, g1, g2, g3, g4, g5, g6, g7⟩ := (hS.objs (.l i) _ hi).2 hon
    subst hao
    have hlive : (⟨H, L, F⟩ : Hp).live (.l i) := ⟨_, hi, hon⟩
    have hfree : Free β ⟨H, L.set i .dead, F⟩ (β (.l i)) := cells_live hS hi hon
    have key := RepA.ps (w := w) (N := Free β ⟨H, L.set i .dead, F⟩) ((rows.drop st).take len) ⟨β (.l i), st * e, none⟩ cap e (fun p q => cs.getD ((st + p) * e + q) undef) hfree (hS.lt hlive)
      (fun r hr => g6 r (List.mem_of_mem_drop (List.mem_of_mem_take hr)))
      (fun p q hp hq => by
        rw [hlen] at hp
        have hr : (rows[st + p]?) = some rows[st + p] := List.getElem?_eq_getElem (by omega)
        have hq' : q < (cellsOf rows[st + p]).length := by rw [g6 _ (List.getElem_mem _)]; exact hq
        obtain ⟨v, hv, _⟩ := g7 (st + p) q _ _ hr (List.getElem?_eq_getElem hq')
        rw [Addr.add_lit, cell_of_row _ _ _ _ _ _ g1, show st * e + (p * e + q) = (st + p) * e + q by rw [Nat.add_mul]; omega]
        simp only [Array.getD_eq_getD_getElem?, hv, Option.getD_some])
      (fun p q r x hp hq => by
        rw [List.getElem?_take] at hp
        split at hp
        · rw [List.getElem?_drop] at hp
          obtain ⟨v, hv, hr⟩ := g7 (st + p) q r x hp hq
          simp only [Array.getD_eq_getD_getElem?, hv, Option.getD_some]
          exact hr.mono h2.size h2.frame
        · cases hp) (by rw [hlen]; exact hc1)
    rw [hlen] at key
    exact .p key
end
section
variable {P : Program} {T : Tab} {env : Env} {H L : List AObj} {o : Oper} {x : TV}
theorem set_take (L : List AObj) (x : AObj) : ((L ++ [x]).set L.length .dead).take L.length = L := by
  rw [List.set_append_right _ _ (Nat.le_refl _), List.take_append_of_le_length (Nat.le_refl _), List.take_length]
/-- What an operation makes, as a value that stays. -/
theorem opr_frz {Ty : TypeId} {b : Bool} {e n : Nat} {rows : List AV} (h : OpR P o env H L (.sl (.l L.length) n 0 n) H (L ++ [.arr Ty b e rows])) (hn : rows.length = n) (ho : okAll L.length L = true) : OpR P o env H L (.p (.ps rows)) H L := by
  intro F w β a next Q hS he hnx
  refine h F w β a next Q hS he fun w' β' u hS' hst hr => ?_
  have hi : (L ++ [AObj.arr Ty b e rows])[L.length]? = some (.arr Ty b e rows) := by simp
  obtain ⟨k1, k2⟩ := kill L.length hS'
  have hr2 := freeze_rep hS' hi hn hr
  rw [List.drop_zero, List.take_of_length_le (by omega)] at hr2
  have t1 := sim_take (n := L.length) k1 (by rw [set_take]; exact ho)
  have t2 := take_rep (n := L.length) hr2 rfl
  rw [set_take] at t1 t2
  have st2 := hst.trans k2
  refine hnx w' β' u t1 ⟨st2.os, st2.tape, st2.output, st2.size, fun b hb hf => ⟨(st2.frame b hb hf).1, ?_⟩, st2.fr, rfl, fun k ob hk => ?_⟩ t2
  · have := free_take (n := L.length) (st2.frame b hb hf).2
    rwa [set_take] at this
  · obtain ⟨o', h1, h2⟩ := st2.obj k ob hk
    have hkl : k.okL L.length = true := by
      cases k with
      | o j => rfl
      | l j => simpa [Hd.okL] using (List.getElem?_eq_some_iff.1 (show L[j]? = some ob from hk)).1
    have h3 := get_take (H := H) (L := (L ++ [AObj.arr Ty b e rows]).set L.length .dead) (F := F) hkl
    rw [set_take] at h3
    exact ⟨o', h3.trans h1, h2⟩
/-- A variable that nobody will write: a struct's, or an array's. -/
theorem opr_boxP {t : TypeId} {y : Operand} {cs : List TV} {ys : List AV} (ho : o.op = .box t y) (hc : tcells (evA env y) = some cs) (hu : unpL cs = some ys) : OpR P o env H L (.p (.pp ys)) H L :=
  opr_alloc fun F w β a hS he => by
    have hv := tcells_ok (evA_ok he y) hc
    obtain ⟨u1, u2⟩ := unpL_ok (w := w) (β := β) (G := ⟨H, L, F⟩) cs hu
    refine ⟨.pointer (some ⟨w.heap.size, 0, none⟩), .cells (a.eval y).cells t, by simp [execOp, ho, Instr.box, newVar, newRow], fun hst => ?_⟩
    have hblk := alloc_new w (.cells (a.eval y).cells t)
    have hlen : (a.eval y).cells.toList.length = ys.length := by rw [hv.1, u1]
    refine .p (.pp ys ⟨w.heap.size, 0, none⟩ (fun i => (a.eval y).cells.getD i undef) (free_new hS) (by simp) (fun i hi => ?_) fun i x hx => ?_)
    · rw [Addr.add_lit, cell_of_row _ _ _ _ _ _ hblk]
      have hlt : i < (a.eval y).cells.size := by
        have : (a.eval y).cells.toList.length = (a.eval y).cells.size := by simp
        omega
      simp [Array.getD_eq_getD_getElem?, hlt]
    · obtain ⟨z, hz, hzr⟩ := u2 i x hx
      have hlt : i < (a.eval y).cells.toList.length := by rw [hlen]; exact (List.getElem?_eq_some_iff.1 hx).1
      have := hzr _ (hv.2 i z _ hz (List.getElem?_eq_getElem hlt))
      have e : (a.eval y).cells.getD i undef = (a.eval y).cells.toList[i] := by
        simp only [Array.length_toList] at hlt
        simp [Array.getD_eq_getD_getElem?, hlt]
      rw [e]
      exact this.mono hst.size hst.frame
end
/-- What reads as x reads as y, too. -/
def AVLe (x y : AV) : Prop := ∀ w N v, RepA w N x v → RepA w N y v
theorem AVLe.refl (x : AV) : AVLe x x := fun _ _ _ h => h
theorem cell_le {x : AV} (hc : cl x = true) : AVLe x (.cell x) := fun _ _ v h => .cell x v (cl_ok h hc) h
inductive AVLes : List AV → List AV → Prop
  | nil : AVLes [] []
  | cons {x y : AV} {xs ys : List AV} (h : AVLe x y) (r : AVLes xs ys) : AVLes (x :: xs) (y :: ys)
theorem AVLes.len {xs ys : List AV} (h : AVLes xs ys) : ys.length = xs.length := by
  induction h with
  | nil => rfl
  | cons _ _ ih => simp [ih]
theorem AVLes.get {xs ys : List AV} (h : AVLes xs ys) : ∀ {i : Nat} {y : AV}, ys[i]? = some y → ∃ x, xs[i]? = some x ∧ AVLe x y := by
  induction h with
  | nil => intro i y h; simp at h
  | cons h _ ih =>
    intro i y hy
    cases i with
    | zero => simp at hy; subst hy; exact ⟨_, rfl, h⟩
    | succ i => simpa using ih (by simpa using hy)
theorem pp_le {xs ys : List AV} (h : AVLes xs ys) : AVLe (.pp xs) (.pp ys) := fun w N v hr => by
  cases hr with | pp _ a vs hN hb hc hr =>
  refine .pp ys a vs hN hb (fun i hi => hc i (by rw [h.len] at hi; exact hi)) fun i y hy => ?_
  obtain ⟨x, hx, hxy⟩ := h.get hy
  exact hxy _ _ _ (hr i x hx)
section
variable {Γ : Ctx} {env : Env} {H L : List AObj} {Φ : Act → World → Prop}
theorem J_le (d : Nat) {x : AV} (y : AV) (hx : lk env d = .p x) (hc : AVLe x y) (k : J Γ ((d, .p y) :: env) H L Φ) : J Γ env H L Φ := fun a w β s =>
  k a w β ⟨s.sim, s.step, fun t => by
    rw [lk_cons]
    split
    · rename_i e
      have := s.env d
      rw [hx] at this
      rw [e]
      cases this with | p h => exact .p (hc _ _ _ h)
    · exact s.env t, s.size, s.defers⟩
end
/-! ### Calls whose answer is told by equations; what a call gathers -/
section
variable {P : Program} {Γ : Ctx} {env env' : Env} {H L : List AObj} {Q : Exit → Act → World → Prop} {ops : Array Oper} {rest : List Oper} {o : Oper}
theorem tellT_self (x : TV) : tellT x = some x := by unfold tellT; rw [frcU_eq]
theorem tellM_self (l : List AObj) : tellM l = some l := by unfold tellM; rw [frcM_eq]
theorem opr_callE {fo : Operand} {os : List Operand} {ts : Array TypeId} {f : FuncId} {caps args : List TV} {r x : TV} {news L' : List AObj}
    (ho : o.op = .call { callee := .value fo, args := os.toArray, argTypes := ts }) (hf : evA env fo = .fn f caps) (sp : Con P f args [] r [] news) (ha : TV.ren.renL [] 0 0 args = unpOr (evL env os ++ caps)) (hx : TV.clo.cloL 0 args = true)
    (h1 : r.ren [] L.length 0 = x) (h3 : L ++ renM [] L.length 0 news = L') : OpR P o env H L x H L' :=
  opr_callP ho hf sp ha hx (by rw [h1]; exact tellT_self _) (by rw [h3]; exact tellM_self _)
theorem K_opM {x : TV} {H' L' : List AObj} (hg : o.guard = none) (hd : dstOk Γ.N o.dst = true) (h : OpR P o env H L x H' L') (he : putM env o.dst x = some env') (k : J Γ env' H' L' (wpList P ops Q rest)) : J Γ env H L (wpList P ops Q (o :: rest)) :=
  J_op hg hd h (by rw [putM_eq he]; exact k)
theorem opr_mv {y : Operand} (x : TV) (ho : o.op = .move y ∨ o.op = .assign y) (he : evA env y = x) : OpR P o env H L x H L := by
  subst he
  exact opr_move ho
theorem accT_ren (n g h : Nat) (d : AV) (acc : List AV) : (accT h d acc).ren [] n g = accT (n + g + h) d acc := by cases acc <;> rfl
theorem accL_ren (n g e sz : Nat) (acc : List AV) : renM [] n g (accL e sz acc) = accL e sz acc := by cases acc <;> rfl
theorem accV_rd {d : AV} {acc : List AV} (hd : d = .nils ∨ d = .cz) : Rd H L (.p (accV d acc)) acc := by
  cases acc with
  | nil => exact hd.elim (fun e => by subst e; exact .nils) fun e => by subst e; exact .cz
  | cons r rs => exact .ps _
theorem accV_str {d : AV} {acc : List AV} (hd : d = .nils ∨ d = .cz) : false = true ↔ ∃ l, TV.p (accV d acc) = .p (.str l) := by
  cases acc with
  | nil => rcases hd with rfl | rfl <;> simp [accV]
  | cons r rs => simp [accV]
/-- What a callee gathered, as a value that stays. -/
theorem Con.frzAcc {f : FuncId} {args : List TV} {e sz : Nat} {d : AV} {acc : List AV} (h : Con P f args H (accT 0 d acc) H (accL e sz acc)) : Con P f args H (.p (accV d acc)) H [] := by
  cases acc with
  | nil => exact h
  | cons r rs => exact Con.freeze h rfl
end
/-! ### Drawn regions, values told out -/
def snocD (l : List TV) (x : TV) : Option (List TV) := frcD x fun x' => tellL (l ++ [x']) some
theorem snocD_eq {l l' : List TV} {x : TV} (h : snocD l x = some l') : snocN l x = some l' := by
  unfold snocD at h
  rw [frcD_eq] at h
  exact h
section
variable {P : Program} {ops : List Oper} {env0 : Env} {H : List AObj} {Ls : List (List AObj)} {ss : List Nat} {xs : List TV}
theorem T_opD {K : List TV → Prop} {o : Oper} {rest : List Oper} {i k : Nat} {x : TV} {L : List AObj} (hg : o.guard = none) (hp : posn ss 0 i = none) (hk : loK o ss 0 0 = k) (hk2 : Nat.beq (hiK ops i ss 0 - k) 0 = true) (hL : Ls.getD k [] = L)
    (h : OpR P o (RdE ops env0 xs o) H L x H L) {xs' : List TV} (hxs : snocD xs x = some xs') (kk : Tele P ops env0 (fun _ => H) Ls ss K rest (i + 1) xs') : Tele P ops env0 (fun _ => H) Ls ss K (o :: rest) i xs :=
  T_op hg hp hk hk2 hL h (snocD_eq hxs) kk
theorem T_yesD {K : List TV → Prop} {o : Oper} {rest : List Oper} {i k g : Nat} {b : Bool} {x : TV} {L : List AObj} (hg : o.guard = some (g, b)) (hb : gA ops.toArray (RdE ops env0 xs o) g = some b) (hp : posn ss 0 i = none) (hk : loK o ss 0 0 = k)
    (hk2 : Nat.beq (hiK ops i ss 0 - k) 0 = true) (hL : Ls.getD k [] = L) (h : OpR P o (RdE ops env0 xs o) H L x H L) {xs' : List TV} (hxs : snocD xs x = some xs') (kk : Tele P ops env0 (fun _ => H) Ls ss K rest (i + 1) xs') : Tele P ops env0 (fun _ => H) Ls ss K (o :: rest) i xs :=
  T_yes hg hb hp hk hk2 hL h (snocD_eq hxs) kk
theorem T_op2D {K : List TV → Prop} {o : Oper} {rest : List Oper} {i k : Nat} {x : TV} {L L2 : List AObj} (hg : o.guard = none) (hp : posn ss 0 i = none) (hk : loK o ss 0 0 = k) (hk2 : Nat.beq (hiK ops i ss 0 - k) 1 = true) (hL : Ls.getD k [] = L) (hL2 : Ls.getD (k + 1) [] = L2)
    (h : OpR P o (RdE ops env0 xs o) H L x H L) (h2 : OpR P o (RdE ops env0 xs o) H L2 x H L2) {xs' : List TV} (hxs : snocD xs x = some xs') (kk : Tele P ops env0 (fun _ => H) Ls ss K rest (i + 1) xs') : Tele P ops env0 (fun _ => H) Ls ss K (o :: rest) i xs :=
  T_op2 hg hp hk hk2 hL hL2 h h2 (snocD_eq hxs) kk
theorem T_gate {K : List TV → Prop} {d : Option Nat} {op : Op} {t : TypeId} {pos : String} {af : Array Edge} {rest : List Oper} {i : Nat} (h : Tele P ops env0 (fun _ => H) Ls ss K ({ dst := d, op := op, type := t, pos := pos, after := af, guard := none } :: rest) i xs) : Tele P ops env0 (fun _ => H) Ls ss K ({ dst := d, op := op, type := t, pos := pos, after := af, guard := none } :: rest) i xs := h
theorem T_gateG {K : List TV → Prop} {d : Option Nat} {op : Op} {t : TypeId} {pos : String} {af : Array Edge} {g : Nat × Bool} {rest : List Oper} {i : Nat} (h : Tele P ops env0 (fun _ => H) Ls ss K ({ dst := d, op := op, type := t, pos := pos, after := af, guard := some g } :: rest) i xs) : Tele P ops env0 (fun _ => H) Ls ss K ({ dst := d, op := op, type := t, pos := pos, after := af, guard := some g } :: rest) i xs := h
end
/-- A drawn region, as far as the environment tells. -/
theorem gd {φ ψ : Prop} (k : ψ) (h : ψ → φ := by
  intro k
  repeat (first
    | with_reducible refine T_nil ?_
    | ((with_reducible refine T_gateG ?_); first | refine T_no rfl rfl rfl rfl ?_ | refine T_yesD rfl rfl rfl rfl rfl rfl (stepN_ok hT rfl) rfl ?_ | refine T_yesD rfl rfl rfl rfl rfl rfl (stepW_ok hT rfl) rfl ?_ | refine T_yesD rfl rfl rfl rfl rfl rfl (stepG_ok hT rfl) rfl ?_ | refine T_yesD rfl rfl rfl rfl rfl rfl (stepA_ok hT rfl) rfl ?_ | refine T_yesD rfl rfl rfl rfl rfl rfl (opr_boxP rfl rfl rfl) rfl ?_)
    | ((with_reducible refine T_gate ?_); first | refine T_opD rfl rfl rfl rfl rfl (stepN_ok hT rfl) rfl ?_ | refine T_opD rfl rfl rfl rfl rfl (stepW_ok hT rfl) rfl ?_ | refine T_opD rfl rfl rfl rfl rfl (stepG_ok hT rfl) rfl ?_ | refine T_opD rfl rfl rfl rfl rfl (stepA_ok hT rfl) rfl ?_ | refine T_opD rfl rfl rfl rfl rfl (opr_boxP rfl rfl rfl) rfl ?_))
  exact k) : φ := h k
/-- One step of a drawn region. -/
theorem gd1 {φ ψ : Prop} (k : ψ) (h : ψ → φ := by
  intro k
  (first
    | with_reducible refine T_nil ?_
    | ((with_reducible refine T_gateG ?_); first | refine T_no rfl rfl rfl rfl ?_ | refine T_yesD rfl rfl rfl rfl rfl rfl (stepN_ok hT rfl) rfl ?_ | refine T_yesD rfl rfl rfl rfl rfl rfl (stepW_ok hT rfl) rfl ?_ | refine T_yesD rfl rfl rfl rfl rfl rfl (stepG_ok hT rfl) rfl ?_ | refine T_yesD rfl rfl rfl rfl rfl rfl (stepA_ok hT rfl) rfl ?_ | refine T_yesD rfl rfl rfl rfl rfl rfl (opr_boxP rfl rfl rfl) rfl ?_)
    | ((with_reducible refine T_gate ?_); first | refine T_opD rfl rfl rfl rfl rfl (stepN_ok hT rfl) rfl ?_ | refine T_opD rfl rfl rfl rfl rfl (stepW_ok hT rfl) rfl ?_ | refine T_opD rfl rfl rfl rfl rfl (stepG_ok hT rfl) rfl ?_ | refine T_opD rfl rfl rfl rfl rfl (stepA_ok hT rfl) rfl ?_ | refine T_opD rfl rfl rfl rfl rfl (opr_boxP rfl rfl rfl) rfl ?_))
  exact k) : φ := h k
/-- Where one operation more may have come between. -/
theorem gd2 {φ ψ : Prop} (k : ψ) (h : ψ → φ := by
  intro k
  repeat (first
    | ((with_reducible refine T_gate ?_); first | refine T_op2D rfl rfl rfl rfl rfl rfl (stepN_ok hT rfl) (stepN_ok hT rfl) rfl ?_ | refine T_op2D rfl rfl rfl rfl rfl rfl (stepW_ok hT rfl) (stepW_ok hT rfl) rfl ?_ | refine T_op2D rfl rfl rfl rfl rfl rfl (stepA_ok hT rfl) (stepA_ok hT rfl) rfl ?_))
  exact k) : φ := h k
end Go.Awp

/- The order of texts, in plain Lean; what stands behind those that begin so. -/
namespace Go.Proofs.YtjibchohkeljkaaDoor
set_option maxRecDepth 20000
open Go.Awp
theorem bl_irrefl : ∀ (a : List UInt8), Op.bytesLess a a = false
  | [] => rfl
  | x :: a => by simp [Op.bytesLess, bl_irrefl a]
theorem bl_nil (a : List UInt8) : Op.bytesLess a [] = false := by cases a <;> rfl
theorem bl_trans : ∀ {a b c : List UInt8}, Op.bytesLess a b = true → Op.bytesLess b c = true → Op.bytesLess a c = true
  | a, b, [], _, h => by rw [bl_nil] at h; cases h
  | a, [], z :: c, h, _ => by rw [bl_nil] at h; cases h
  | [], y :: b, z :: c, _, _ => rfl
  | x :: a, y :: b, z :: c, h1, h2 => by
    simp only [Op.bytesLess, Bool.or_eq_true, Bool.and_eq_true, beq_iff_eq, decide_eq_true_eq] at h1 h2 ⊢
    simp only [UInt8.lt_iff_toNat_lt, ← UInt8.toNat_inj] at h1 h2 ⊢
    rcases h1 with h1 | ⟨h1, h1'⟩ <;> rcases h2 with h2 | ⟨h2, h2'⟩
    · exact .inl (by omega)
    · exact .inl (by omega)
    · exact .inl (by omega)
    · exact .inr ⟨by omega, bl_trans h1' h2'⟩
theorem bl_asymm {a b : List UInt8} (h : Op.bytesLess a b = true) : Op.bytesLess b a = false := by
  cases h2 : Op.bytesLess b a with
  | false => rfl
  | true => have := bl_trans h h2; rw [bl_irrefl] at this; cases this
theorem bl_total : ∀ {a b : List UInt8}, Op.bytesLess a b = false → Op.bytesLess b a = false → a = b
  | [], [], _, _ => rfl
  | [], y :: b, h, _ => by simp [Op.bytesLess] at h
  | x :: a, [], _, h => by simp [Op.bytesLess] at h
  | x :: a, y :: b, h1, h2 => by
    simp only [Op.bytesLess, Bool.or_eq_false_iff, Bool.and_eq_false_iff, beq_eq_false_iff_ne, decide_eq_false_iff_not] at h1 h2
    simp only [UInt8.lt_iff_toNat_lt, ne_eq, ← UInt8.toNat_inj] at h1 h2
    have hxy : x = y := UInt8.toNat_inj.1 (by omega)
    subst hxy
    have e1 : Op.bytesLess a b = false := h1.2.resolve_left (fun h => h rfl)
    have e2 : Op.bytesLess b a = false := h2.2.resolve_left (fun h => h rfl)
    rw [bl_total e1 e2]
/-- Ahead of all that stands behind those that begin so; nothing, if all is 255. -/
def beh : List UInt8 → List UInt8
  | [] => []
  | b :: l => match beh l with
    | [] => if b = 255 then [] else [b + 1]
    | c :: r => b :: c :: r
theorem beh_nil : ∀ {l : List UInt8}, beh l = [] → ∀ k, Op.bytesLess k l = false ↔ l <+: k
  | [], _, k => by simp [bl_nil]
  | b :: l, h, k => by
    simp only [beh] at h
    split at h
    · rename_i hl
      split at h
      · rename_i hb
        subst hb
        cases k with
        | nil => simp [Op.bytesLess]
        | cons x k =>
          have hx := x.toNat_lt
          simp only [Op.bytesLess, List.cons_prefix_cons, Bool.or_eq_false_iff, Bool.and_eq_false_iff, beq_eq_false_iff_ne, decide_eq_false_iff_not, UInt8.lt_iff_toNat_lt, ne_eq, ← UInt8.toNat_inj]
          rw [← beh_nil hl k]
          have : (255 : UInt8).toNat = 255 := rfl
          constructor
          · rintro ⟨h1, h2⟩
            refine ⟨by omega, ?_⟩
            rcases h2 with h2 | h2
            · omega
            · exact h2
          · rintro ⟨h1, h2⟩
            exact ⟨by omega, .inr h2⟩
      · cases h
    · cases h
theorem beh_iff : ∀ {l : List UInt8}, beh l ≠ [] → ∀ k, (Op.bytesLess k l = false ∧ Op.bytesLess k (beh l) = true) ↔ l <+: k
  | [], h, _ => by simp [beh] at h
  | b :: l, h, k => by
    simp only [beh] at h ⊢
    split
    · rename_i hl
      rw [hl] at h
      simp only [] at h
      split
      · rename_i hb; rw [if_pos hb] at h; simp at h
      · rename_i hb
        have hbt := b.toNat_lt
        have hb1 : (b + 1).toNat = b.toNat + 1 := by
          have h2 : b.toNat ≠ 255 := fun e => hb (UInt8.toNat_inj.1 e)
          rw [UInt8.toNat_add]
          have : (1 : UInt8).toNat = 1 := rfl
          omega
        cases k with
        | nil => simp [Op.bytesLess]
        | cons x k =>
          simp only [Op.bytesLess, bl_nil, Bool.and_false, Bool.or_false, List.cons_prefix_cons, Bool.or_eq_false_iff, Bool.and_eq_false_iff, beq_eq_false_iff_ne, decide_eq_false_iff_not, decide_eq_true_eq, UInt8.lt_iff_toNat_lt, ne_eq, ← UInt8.toNat_inj, hb1]
          rw [← beh_nil hl k]
          constructor
          · rintro ⟨⟨h1, h2⟩, h3⟩
            refine ⟨by omega, ?_⟩
            rcases h2 with h2 | h2
            · omega
            · exact h2
          · rintro ⟨h1, h2⟩
            exact ⟨⟨by omega, .inr h2⟩, by omega⟩
    · rename_i c r hl
      cases k with
      | nil => simp [Op.bytesLess]
      | cons x k =>
        have ih := beh_iff (l := l) (by rw [hl]; simp) k
        rw [hl] at ih
        simp only [Op.bytesLess, List.cons_prefix_cons, Bool.or_eq_false_iff, Bool.and_eq_false_iff, beq_eq_false_iff_ne, decide_eq_false_iff_not, Bool.or_eq_true, Bool.and_eq_true, beq_iff_eq, decide_eq_true_eq, UInt8.lt_iff_toNat_lt, ne_eq, ← UInt8.toNat_inj]
        rw [← ih]
        constructor
        · rintro ⟨⟨h1, h2⟩, h3⟩
          have hbx : b.toNat = x.toNat := by omega
          refine ⟨hbx, ?_, ?_⟩
          · rcases h2 with h2 | h2
            · omega
            · exact h2
          · rcases h3 with h3 | h3
            · omega
            · exact h3.2
        · rintro ⟨h1, h2, h3⟩
          exact ⟨⟨by omega, .inr h2⟩, .inr ⟨by omega, h3⟩⟩
theorem beh_rep : ∀ (m : Nat), beh (List.replicate m 255) = []
  | 0 => rfl
  | m + 1 => by simp [List.replicate_succ, beh, beh_rep m]
theorem beh_at : ∀ (p : List UInt8) (b : UInt8) (m : Nat), b ≠ 255 → beh (p ++ b :: List.replicate m 255) = p ++ [b + 1]
  | [], b, m, hb => by simp [beh, beh_rep, hb]
  | x :: p, b, m, hb => by
    have := beh_at p b m hb
    simp only [List.cons_append, beh, this]
    cases p <;> rfl
/-- From where to where. -/
def inR (k a b : List UInt8) : Bool := !Op.bytesLess k a && Op.bytesLess k b
end Go.Proofs.YtjibchohkeljkaaDoor

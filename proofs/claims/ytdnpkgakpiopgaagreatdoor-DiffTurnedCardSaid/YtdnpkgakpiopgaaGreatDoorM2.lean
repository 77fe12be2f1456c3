import Derived.Test.YtdnpkgakpiopgaaGreatDoorGo
import Derived.Test.YtdnpkgakpiopgaaGreatDoorM1
import Derived.Test.YtdnpkgakpiopgaaGreatDoorRows
import Derived.Test.YtdnpkgakpiopgaaGreatDoorTab
import Derived.IntWalk
namespace Go.Proofs.YtdnpkgakpiopgaaGreatDoor
set_option maxRecDepth 20000
open Go.Awp
def keyH (k n : Int) : List UInt8 := UInt8.ofNat k.toNat :: beB 4 n
theorem zDu (k n : Int) (hk : 0 ≤ k ∧ k ≤ 255) (hn : 0 ≤ n ∧ n ≤ 4294967295) (H : List AObj) : Con Tryz.prog 146 [.p (.int .u8 k), .p (.int .u32 n)] H (.p (.ps (bv (keyH k n)))) H [] := by
 have p1 := zJa (.ps [UInt8.ofNat k.toNat]) 4 n hn.1 (by unfold big; simp) H
 rw [show (wide 4).toNat = 4 by decide] at p1
 have e6 : AV.int .u8 k = .int .u8 ((UInt8.ofNat k.toNat).toNat : Int) := by
  congr 1; simp; omega
 have e8 : IntKind.u64.wrap n = n := u64_in _ (by omega)
 refine zD Tryz.func146 rfl (by kernel_rfl) rfl fun F w0 β0 => ?_
 refine goN ?_
 refine yH 8 _ rfl (congrArg (fun z => TV.p (.int .u64 z)) e8) ?_
 refine yH 6 (.p (.ps (bv [UInt8.ofNat k.toNat]))) rfl (congrArg (fun z => TV.p (.ps [z])) e6) ?_
 refine zBv rfl rfl (jP rfl rfl rfl rfl rfl p1) ?_
 refine goN ?_
 exact zC hT rfl rfl rfl
theorem qC (k n : Int) : (keyH k n).length = 5 := by simp [keyH, yD]
theorem zC4 (n : Int) (hn : 0 ≤ n ∧ n ≤ 4294967295) (H : List AObj) : Con Tryz.prog 112 [.p (.int .u32 n)] H (.p (.str (keyH 73 n))) H [] := by
 refine zD Tryz.func112 rfl (by kernel_rfl) rfl fun F w0 β0 => ?_
 refine goN ?_
 refine zBv rfl rfl (jP rfl rfl rfl rfl rfl (zDu 73 n (by decide) hn H)) ?_
 refine zBv rfl rfl (z4 (l := keyH 73 n) hT rfl rfl rfl rfl rfl (.ps _)) ?_
 refine goN ?_
 exact zC hT rfl rfl rfl
def entryK (n : Int) (m : List UInt8) : List UInt8 := if m.length > 32 then [] else keyH 69 n ++ m
theorem zDd (n : Int) (m : List UInt8) (hn : 0 ≤ n ∧ n ≤ 4294967295) (H : List AObj) : Con Tryz.prog 110 [.p (.int .u32 n), .p (.str m)] H (.p (.str (entryK n m))) H [] := by
 refine zD Tryz.func110 rfl (by kernel_rfl) rfl fun F w0 β0 => ?_
 refine goN ?_
 refine yU rfl (fun hc => ?_) (fun hc => ?_)
 ·have hc1 : (m.length : Int) > 32 := of_decide_eq_true hc
  have e : entryK n m = [] := by unfold entryK; rw [if_pos (by omega)]
  rw [e]
  refine goN ?_
  exact zC hT rfl rfl rfl
 ·have hc1 : ¬ (m.length : Int) > 32 := of_decide_eq_false hc
  have e : entryK n m = keyH 69 n ++ m := by unfold entryK; rw [if_neg (by omega)]
  rw [e]
  refine goN ?_
  refine zBv rfl rfl (jP rfl rfl rfl rfl rfl (zDu 69 n (by decide) hn H)) ?_
  refine zBv rfl rfl (z4 (l := keyH 69 n) hT rfl rfl rfl rfl rfl (.ps _)) ?_
  refine goN ?_
  refine zBv rfl rfl (zB3 rfl rfl rfl (by rw [qC]; omega)) ?_
  refine goN ?_
  exact zC hT rfl rfl rfl
def blockK (n i : Int) : List UInt8 := if i < 0 ∨ i > 65535 then [] else keyH 68 n ++ beB 2 i
set_option maxHeartbeats 4000000 in
theorem zDf (n i : Int) (hn : 0 ≤ n ∧ n ≤ 4294967295) (H : List AObj) : Con Tryz.prog 184 [.p (.int .u32 n), .p (.int .i64 i)] H (.p (.str (blockK n i))) H [] := by
 refine zD Tryz.func184 rfl (by kernel_rfl) rfl fun F w0 β0 => ?_
 refine goN ?_
 refine zAp 7 rfl (fun hc => ?_) (fun hc => ?_)
 ·have hc1 : i < 0 := of_decide_eq_true hc
  have e : blockK n i = [] := by unfold blockK; rw [if_pos (.inl hc1)]
  rw [e]
  refine goN ?_
  refine yU rfl (fun _ => ?_) (fun h => Bool.noConfusion h)
  refine goN ?_
  exact zC hT rfl rfl rfl
 have hc1 : ¬ i < 0 := of_decide_eq_false hc
 refine goN ?_
 refine yU rfl (fun hd => ?_) (fun hd => ?_)
 ·have hd1 : i > 65535 := of_decide_eq_true hd
  have e : blockK n i = [] := by unfold blockK; rw [if_pos (.inr hd1)]
  rw [e]
  refine goN ?_
  exact zC hT rfl rfl rfl
 have hd1 : ¬ i > 65535 := of_decide_eq_false hd
 have e : blockK n i = keyH 68 n ++ beB 2 i := by unfold blockK; rw [if_neg (by omega)]
 have p1 := zJa (.ps (keyH 68 n)) 2 i (by omega) (by rw [qC]; decide) H
 rw [show (wide 2).toNat = 2 by decide] at p1
 have e14 : IntKind.u64.wrap i = i := u64_in _ (by omega)
 rw [e]
 refine goN ?_
 refine zBv rfl rfl (jP rfl rfl rfl rfl rfl (zDu 68 n (by decide) hn H)) ?_
 refine goN ?_
 refine yH 14 _ rfl (congrArg (fun z => TV.p (.int .u64 z)) e14) ?_
 refine zBv rfl rfl (jP rfl rfl rfl rfl rfl p1) ?_
 refine zBv rfl rfl (z4 (l := keyH 68 n ++ beB 2 i) hT rfl rfl rfl rfl rfl (.ps _)) ?_
 refine goN ?_
 exact zC hT rfl rfl rfl
def blocks (n : Int) : Int := if n ≤ 0 then 0 else (n - 1) / 64 + 1
theorem zNp (n : Int) (h : -9223372036854775808 ≤ n ∧ n ≤ 9223372036854775807) (H : List AObj) : Con Tryz.prog 187 [.p (.int .i64 n)] H (.p (.int .i64 (blocks n))) H [] := by
 refine zD Tryz.func187 rfl (by kernel_rfl) rfl fun F w0 β0 => ?_
 refine go0 ?_
 refine yU rfl (fun hc => ?_) (fun hc => ?_)
 ·simp only [decide_eq_true_eq] at hc
  have e : blocks n = 0 := by simp [blocks, hc]
  refine go0 ?_
  rw [e]
  exact zC hT rfl rfl rfl
 ·simp only [decide_eq_false_iff_not] at hc
  have e : IntKind.i64.wrap (IntKind.i64.wrap ((IntKind.i64.wrap (n - 1)).tdiv 64) + 1) = blocks n := by
   rw [IntWalk.i64_in (n - 1) (by omega), Int.tdiv_eq_ediv_of_nonneg (by omega), IntWalk.i64_in ((n - 1) / 64) (by omega), IntWalk.i64_in _ (by omega)]
   simp [blocks, hc]
  refine go0 ?_
  rw [← e]
  exact zC hT rfl rfl rfl
def cutRow (o n : Int) : AV := .agg [.int .i64 (o / 64), .int .i64 (o % 64), .int .i64 (min n (64 - o % 64))]
def pieces : Nat → Int → Int → List AV
 | 0, _, _ => []
 | f + 1, o, n => if n ≤ 0 then [] else cutRow o n :: pieces f (o + min n (64 - o % 64)) (n - min n (64 - o % 64))
def cutBad (o n : Int) : Prop := o < 0 ∨ n ≤ 0 ∨ o > 4096 ∨ n > 4096 - o
instance (o n : Int) : Decidable (cutBad o n) := by unfold cutBad; infer_instance
def cutV (o n : Int) : AV := if cutBad o n then .nils else .ps (pieces n.toNat o n)
theorem zC3 : ∀ (f : Nat) (o n : Int), 0 ≤ o → n.toNat ≤ f → pieces f o n = pieces n.toNat o n
 | 0, o, n, _, h => by rw [show n.toNat = 0 by omega]
 | f + 1, o, n, ho, h => by
  by_cases hn : n ≤ 0
  ·rw [show n.toNat = 0 by omega]; simp [pieces, hn]
  ·obtain ⟨g, hg⟩ : ∃ g, n.toNat = g + 1 := ⟨n.toNat - 1, by omega⟩
   rw [hg]
   simp only [pieces, if_neg hn]
   rw [zC3 f _ _ (by omega) (by omega), zC3 g _ _ (by omega) (by omega)]
theorem zM7 (o n : Int) (ho : 0 ≤ o) (hn : 0 < n) : pieces n.toNat o n = cutRow o n :: pieces (n - min n (64 - o % 64)).toNat (o + min n (64 - o % 64)) (n - min n (64 - o % 64)) := by
 obtain ⟨g, hg⟩ : ∃ g, n.toNat = g + 1 := ⟨n.toNat - 1, by omega⟩
 rw [hg]
 simp only [pieces, if_neg (show ¬ n ≤ 0 by omega)]
 rw [zC3 g _ _ (by omega) (by omega)]
theorem zK1 {o n : Int} : clR [cutRow o n] := by
 intro r hr x hx
 simp at hr
 subst hr
 simp [cellsOf, cutRow] at hx
 rcases hx with rfl | rfl | rfl <;> rfl
theorem zFz {o n : Int} : ∀ r ∈ [cutRow o n], (cellsOf r).length = 3 := by
 intro r hr
 simp at hr
 subst hr
 rfl
structure CutI (o0 n0 : Int) where
 o : Int
 n : Int
 acc : List AV
 h0 : 0 ≤ o
 h1 : 0 ≤ n
 h2 : o + n ≤ 4096
 h3 : acc.length ≤ 4096 - n
 h4 : acc ++ pieces n.toNat o n = pieces n0.toNat o0 n0
 h5 : n = n0 ∨ acc ≠ []
def cutT (acc : List AV) : TV := match acc with
 | [] => .p .nils
 | _ => .sl (.l 0) acc.length 0 acc.length
def cutL (acc : List AV) : List AObj := match acc with
 | [] => []
 | _ => [.arr 242 true 3 acc]
theorem zOw (o n : Int) (ho : -9223372036854775808 ≤ o ∧ o ≤ 9223372036854775807) (hn : -9223372036854775808 ≤ n ∧ n ≤ 9223372036854775807) (H : List AObj) : Con Tryz.prog 165 [.p (.int .i64 o), .p (.int .i64 n)] H (.p (cutV o n)) H [] := by
 refine zD Tryz.func165 rfl (by kernel_rfl) rfl fun F w0 β0 => ?_
 refine go0 ?_
 refine zAp 10 rfl (fun hc => ?_) (fun hc => ?_)
 ·have e : cutV o n = .nils := by simp at hc; simp [cutV, cutBad, hc]
  rw [e]
  refine go0 ?_
  refine yU rfl (fun _ => ?_) (fun h => Bool.noConfusion h)
  refine go0 ?_
  exact zC hT rfl rfl rfl
 refine go0 ?_
 refine zAp 14 rfl (fun hc1 => ?_) (fun hc1 => ?_)
 ·have e : cutV o n = .nils := by simp at hc1; simp [cutV, cutBad, hc1]
  rw [e]
  refine go0 ?_
  refine yU rfl (fun _ => ?_) (fun h => Bool.noConfusion h)
  refine go0 ?_
  exact zC hT rfl rfl rfl
 refine go0 ?_
 refine zAp 18 rfl (fun hc2 => ?_) (fun hc2 => ?_)
 ·have e : cutV o n = .nils := by simp at hc2; simp [cutV, cutBad, hc2]
  rw [e]
  refine go0 ?_
  refine yU rfl (fun _ => ?_) (fun h => Bool.noConfusion h)
  refine go0 ?_
  exact zC hT rfl rfl rfl
 refine go0 ?_
 simp at hc hc1 hc2
 have e1 : IntKind.i64.wrap (4096 - o) = 4096 - o := IntWalk.i64_in _ (by omega)
 refine yU rfl (fun hc3 => ?_) (fun hc3 => ?_)
 ·have e : cutV o n = .nils := by
   have hc4 := of_decide_eq_true hc3
   rw [e1] at hc4
   simp [cutV, cutBad]; omega
  rw [e]
  refine go0 ?_
  exact zC hT rfl rfl rfl
 have hc4 := of_decide_eq_false hc3
 rw [e1] at hc4
 have e : cutV o n = .ps (pieces n.toNat o n) := by
  simp [cutV, cutBad]; omega
 rw [e]
 refine go0 ?_
 refine z9 (ι := CutI o n) (fun i => [(0, .p (.int .i64 i.o)), (1, .p (.int .i64 i.n)), (5, cutT i.acc)]) (fun _ => H) (fun i => cutL i.acc) (fun i => i.n.toNat) ⟨o, n, [], hc, by omega, by omega, by simp; omega, by simp, .inl rfl⟩ ⟨rfl, rfl, rfl, trivial⟩ rfl rfl fun i => ?_
 obtain ⟨o1, n1, acc, h0, h1, h2, h3, h4, h5⟩ := i
 dsimp only
 refine go0 ?_
 refine yU rfl (fun hd => ?_) (fun hd => ?_)
 ·have hd1 := of_decide_eq_true hd
  refine go0 ?_
  have a1 : o1.tmod 64 = o1 % 64 := Int.tmod_eq_emod_of_nonneg h0
  have a2 : mmA .min n1 (IntKind.i64.wrap (64 - o1.tmod 64)) = min n1 (64 - o1 % 64) := by rw [a1, IntWalk.i64_in _ (by omega)]; unfold mmA; simp only []; omega
  have a3 : IntKind.i64.wrap (o1.tdiv 64) = o1 / 64 := by rw [Int.tdiv_eq_ediv_of_nonneg h0, IntWalk.i64_in _ (by omega)]
  have a4 : AV.agg [.int .i64 (IntKind.i64.wrap (o1.tdiv 64)), .int .i64 (o1.tmod 64), .int .i64 (mmA .min n1 (IntKind.i64.wrap (64 - o1.tmod 64)))] = cutRow o1 n1 := by rw [a2, a3, a1]; rfl
  have a5 : IntKind.i64.wrap (o1 + min n1 (64 - o1 % 64)) = o1 + min n1 (64 - o1 % 64) := IntWalk.i64_in _ (by omega)
  have a6 : IntKind.i64.wrap (n1 - min n1 (64 - o1 % 64)) = n1 - min n1 (64 - o1 % 64) := IntWalk.i64_in _ (by omega)
  have hp := zM7 o1 n1 h0 hd1
  refine zH7 [(0, .p (.int .i64 o1)), (1, .p (.int .i64 n1)), (7, .p (.int .i64 (min n1 (64 - o1 % 64)))), (32, cutT acc), (38, .p (.ps [cutRow o1 n1]))] ⟨rfl, rfl, congrArg (fun z => TV.p (.int .i64 z)) a2, rfl, congrArg (fun z => TV.p (.ps [z])) a4, trivial⟩ ?_
  cases acc with
  | nil =>
   refine zBv rfl rfl (zC5 hT rfl rfl (.inl rfl) rfl (.rd (.ps _)) jQ zK1 zFz (by decide) (by decide) (Nat.le_of_ble_eq_true rfl) (Nat.le_of_ble_eq_true rfl)) ?_
   refine go0 ?_
   exact zR (ι := CutI o n) (i := ⟨o1, n1, [], h0, h1, h2, h3, h4, h5⟩) ⟨o1 + min n1 (64 - o1 % 64), n1 - min n1 (64 - o1 % 64), [cutRow o1 n1], by omega, by omega, by omega, by simp; omega, by rw [← h4, hp]; rfl, .inr (by simp)⟩ (by dsimp only; omega) ⟨congrArg (fun z => TV.p (.int .i64 z)) a5, congrArg (fun z => TV.p (.int .i64 z)) a6, rfl, trivial⟩ rfl rfl
  | cons r acc =>
   refine zBv rfl rfl (yW hT rfl rfl rfl rfl rfl rfl rfl (.rd (.ps _)) jQ zK1 zFz (by decide) (by simp at h3 ⊢; omega)) ?_
   refine go0 ?_
   exact zR (ι := CutI o n) (i := ⟨o1, n1, r :: acc, h0, h1, h2, h3, h4, h5⟩) ⟨o1 + min n1 (64 - o1 % 64), n1 - min n1 (64 - o1 % 64), r :: acc ++ [cutRow o1 n1], by omega, by omega, by omega, by simp at h3 ⊢; omega, by rw [← h4, hp]; simp, .inr (by simp)⟩ (by dsimp only; omega) ⟨congrArg (fun z => TV.p (.int .i64 z)) a5, congrArg (fun z => TV.p (.int .i64 z)) a6, by simp [cutT]; rfl, trivial⟩ rfl (by simp [cutL])
 ·have hd1 := of_decide_eq_false hd
  have hz : n1 = 0 := by omega
  subst hz
  simp [pieces] at h4
  cases acc with
  | nil => exfalso; rcases h5 with h5 | h5 <;> simp_all
  | cons r acc =>
   rw [← h4]
   refine go0 ?_
   refine zAj 4 0 rfl rfl rfl ?_
   exact zC hT rfl rfl rfl
def nodeV (k l s p : Int) : List AV := [.int .u8 k, .int .u32 l, .int .u32 s, .int .u32 p]
def newV (k p : Int) : List AV := if k = 1 then nodeV 1 1 0 0 else nodeV 2 2 0 p
def mayB (k l s p : Int) : Bool := if k = 1 then decide (l ≥ 1) && decide (l ≤ 1000) && decide (s ≤ 4096) && decide (p = 0) else if k = 2 then decide (l ≥ 2) && decide (s = 0) else false
set_option maxHeartbeats 4000000 in
theorem zOj (k p : Int) (H : List AObj) : Con Tryz.prog 150 [.p (.int .u8 k), .p (.int .u32 p)] H (.agg ((newV k p).map .p)) H [] := by
 refine zD Tryz.func150 rfl (by kernel_rfl) rfl fun F w0 β0 => ?_
 refine go0 ?_
 refine yU rfl (fun hc => ?_) (fun hc => ?_)
 ·have hc1 : k = 1 := by simpa using hc
  have e : newV k p = nodeV 1 1 0 0 := by simp [newV, hc1]
  rw [e]
  refine go0 ?_
  exact zC hT rfl rfl rfl
 ·have hc1 : ¬ k = 1 := by simpa using hc
  have e : newV k p = nodeV 2 2 0 p := by simp [newV, hc1]
  rw [e]
  refine go0 ?_
  exact zC hT rfl rfl rfl
theorem new_two (p : Int) (H : List AObj) : Con Tryz.prog 150 [.p (.int .u8 2), .p (.int .u32 p)] H (.agg ((nodeV 2 2 0 p).map .p)) H [] := zOj 2 p H
theorem zSb (H : List AObj) : Con Tryz.prog 113 [] H (.agg ((nodeV 2 2 0 1).map .p)) H [] := by
 refine zD Tryz.func113 rfl (by kernel_rfl) rfl fun F w0 β0 => ?_
 refine go0 ?_
 refine zBv rfl rfl (jP rfl rfl rfl rfl rfl (new_two 1 H)) ?_
 refine go0 ?_
 exact zC hT rfl rfl rfl
set_option maxHeartbeats 4000000 in
theorem may_spec (k l s p : Int) (H : List AObj) : Con Tryz.prog 151 [.p (.agg (nodeV k l s p))] H (.p (.bool (mayB k l s p))) H [] := by
 refine zD Tryz.func151 rfl (by kernel_rfl) rfl fun F w0 β0 => ?_
 refine go0 ?_
 refine yU rfl (fun hc => ?_) (fun hc => ?_)
 ·have hc1 : k = 1 := by simpa using hc
  refine go0 ?_
  refine zAp 10 rfl (fun h1 => ?_) (fun h1 => ?_)
  ·have h1' := of_decide_eq_true h1
   refine go0 ?_
   refine zAp 15 rfl (fun h2 => ?_) (fun h2 => ?_)
   ·have h2' := of_decide_eq_true h2
    refine go0 ?_
    refine zAp 20 rfl (fun h3 => ?_) (fun h3 => ?_)
    ·have h3' := of_decide_eq_true h3
     refine go0 ?_
     have e : mayB k l s p = (p == 0) := by
      have e1 : (l ≥ 1) := h1'
      have e2 : (l ≤ 1000) := h2'
      have e3 : (s ≤ 4096) := h3'
      simp only [mayB, hc1, if_true, e1, e2, e3, decide_true, Bool.true_and]
      by_cases hp : p = 0 <;> simp [hp]
     rw [e]
     exact zC hT rfl rfl rfl
    ·have h3' := of_decide_eq_false h3
     refine go0 ?_
     have e : mayB k l s p = false := by
      have e3 : ¬ (s ≤ 4096) := h3'
      simp [mayB, hc1]; intros; omega
     rw [e]
     exact zC hT rfl rfl rfl
   ·have h2' := of_decide_eq_false h2
    refine go0 ?_
    have e : mayB k l s p = false := by
     have e3 : ¬ (l ≤ 1000) := h2'
     simp [mayB, hc1]; intros; omega
    rw [e]
    exact zC hT rfl rfl rfl
  ·have h1' := of_decide_eq_false h1
   refine go0 ?_
   have e : mayB k l s p = false := by
    have e3 : ¬ (l ≥ 1) := h1'
    simp [mayB, hc1]; intros; omega
   rw [e]
   exact zC hT rfl rfl rfl
 ·have hc1 : ¬ k = 1 := by simpa using hc
  refine go0 ?_
  refine yU rfl (fun hd => ?_) (fun hd => ?_)
  ·have hd1 : k = 2 := by simpa using hd
   refine go0 ?_
   refine zAp 30 rfl (fun h1 => ?_) (fun h1 => ?_)
   ·have h1' := of_decide_eq_true h1
    refine go0 ?_
    have e : mayB k l s p = (s == 0) := by
     have e1 : (l ≥ 2) := h1'
     simp only [mayB, hd1, e1, decide_true, Bool.true_and]
     by_cases hp : s = 0 <;> simp [hp]
    rw [e]
    exact zC hT rfl rfl rfl
   ·have h1' := of_decide_eq_false h1
    refine go0 ?_
    have e : mayB k l s p = false := by
     have e3 : ¬ (l ≥ 2) := h1'
     simp [mayB, hd1]; intros; omega
    rw [e]
    exact zC hT rfl rfl rfl
  ·have hd1 : ¬ k = 2 := by simpa using hd
   have e : mayB k l s p = false := by simp [mayB, hc1, hd1]
   rw [e]
   refine go0 ?_
   exact zC hT rfl rfl rfl
def nodeB (k l s p : Int) : List UInt8 := [UInt8.ofNat k.toNat] ++ beB 4 l ++ beB 4 s ++ beB 4 p
theorem zC2 (n : Int) (h : 0 ≤ n ∧ n ≤ 4294967295) : IntKind.u32.wrap n = n := by
 unfold IntKind.wrap
 simp [IntKind.bits, IntKind.signed]
 omega
theorem put4 {s : AV} {l : List UInt8} (hs : Bs s l) (v : Int) (hv : 0 ≤ v ∧ v ≤ 4294967295) (hl : l.length ≤ big) : Con Tryz.prog 117 [.p s, .p (.int .i64 4), .p (.int .u64 v)] [] (.p (.ps (bv (l ++ beB 4 v)))) [] [] := by
 have p1 := zJa hs 4 v hv.1 hl []
 rwa [show (wide 4).toNat = 4 by decide] at p1
set_option maxHeartbeats 4000000 in
theorem zUk (k l s p : Int) (hk : 0 ≤ k ∧ k ≤ 255) (hl : 0 ≤ l ∧ l ≤ 4294967295) (hs : 0 ≤ s ∧ s ≤ 4294967295) (hp : 0 ≤ p ∧ p ≤ 4294967295) : Con Tryz.prog 182 [.p (.agg (nodeV k l s p))] [] (.p (.str (nodeB k l s p))) [] [] := by
 have e6 : AV.int .u8 k = .int .u8 ((UInt8.ofNat k.toNat).toNat : Int) := by
  congr 1; simp; omega
 have c1 := put4 (.ps [UInt8.ofNat k.toNat]) l hl (by unfold big; simp)
 have c2 := put4 (.ps ([UInt8.ofNat k.toNat] ++ beB 4 l)) s hs (by unfold big; simp [yD])
 have c3 := put4 (.ps ([UInt8.ofNat k.toNat] ++ beB 4 l ++ beB 4 s)) p hp (by unfold big; simp [yD])
 refine zD Tryz.func182 rfl (by kernel_rfl) rfl fun F w0 β0 => ?_
 refine zE rfl ?_
 refine go ?_
 refine yH 3 (.p (.ps (bv [UInt8.ofNat k.toNat]))) rfl (congrArg (fun z => TV.p (.ps [z])) e6) ?_
 refine zP1 4 (zBx ?_)
 refine go ?_
 refine yH 21 _ rfl (congrArg (fun z => TV.p (.int .u64 z)) (u64_in l (by omega))) ?_
 refine zH rfl rfl (zB rfl rfl (c1) rfl rfl rfl rfl) rfl ?_
 refine go ?_
 refine zBx ?_
 refine go ?_
 refine yH 21 _ rfl (congrArg (fun z => TV.p (.int .u64 z)) (u64_in s (by omega))) ?_
 refine zH rfl rfl (zB rfl rfl (c2) rfl rfl rfl rfl) rfl ?_
 refine go ?_
 refine zBx ?_
 refine go ?_
 refine yH 21 _ rfl (congrArg (fun z => TV.p (.int .u64 z)) (u64_in p (by omega))) ?_
 refine zH rfl rfl (zB rfl rfl (c3) rfl rfl rfl rfl) rfl ?_
 refine go ?_
 refine zBx ?_
 refine go ?_
 exact zC hT rfl rfl rfl
def gF (l : List UInt8) (a : Nat) : Int := beV ((l.drop a).take 4)
theorem zLo (l : List UInt8) (a : Nat) : 0 ≤ gF l a ∧ gF l a ≤ 4294967295 := by
 obtain ⟨h1, h2⟩ := zEh ((l.drop a).take 4)
 have h3 : ((l.drop a).take 4).length ≤ 4 := List.length_take_le _ _
 have h4 : (256 : Nat) ^ ((l.drop a).take 4).length ≤ 256 ^ 4 := Nat.pow_le_pow_right (by decide) h3
 have h5 : ((256 ^ ((l.drop a).take 4).length : Nat) : Int) = (256 : Int) ^ ((l.drop a).take 4).length := Int.natCast_pow 256 _
 have h6 : (256 : Nat) ^ 4 = 4294967296 := by decide
 unfold gF
 rw [← h5] at h2
 rw [h6] at h4
 omega
theorem getR_at {l : List UInt8} (a : Nat) (h : a + 4 ≤ l.length) : getR l (a : Int) 4 = (gF l a, ((a + 4 : Nat) : Int), 0) := by
 unfold getR gF
 rw [if_neg (by omega), if_neg (by omega), Int.toNat_natCast]
 rfl
def b0 (l : List UInt8) : Int := ((l.headD 0).toNat : Int)
def getNode (l : List UInt8) : Option (Int × Int × Int × Int) := if l.length = 13 ∧ mayB (b0 l) (gF l 1) (gF l 5) (gF l 9) = true then some (b0 l, gF l 1, gF l 5, gF l 9) else none
def nodeT : Option (Int × Int × Int × Int) → TV
 | some (k, a, b, c) => .tup [.agg ((nodeV k a b c).map .p), .p (.bool true)]
 | none => .tup [.agg ((nodeV 0 0 0 0).map .p), .p (.bool false)]
theorem get4 (l : List UInt8) (a : Nat) (h : a + 4 ≤ l.length) (hl : l.length ≤ 140737488355328) : Con Tryz.prog 111 [.p (.ps (bv l)), .p (.int .i64 (a : Int)), .p (.int .i64 4)] [] (.tup [.p (.int .u64 (gF l a)), .p (.int .i64 ((a + 4 : Nat) : Int)), .p (.int .i64 0)]) [] [] := by
 have p1 := zOy (.ps l) (a : Int) 4 (by omega) hl []
 rw [show (wide 4).toNat = 4 by decide, getR_at a h] at p1
 exact p1
theorem nat13 {l : List UInt8} (h : l.length = 13) : l[0]? = some (l.headD 0) := by
 cases l with
 | nil => simp at h
 | cons b r => rfl
set_option maxHeartbeats 4000000 in
theorem zLa (l : List UInt8) (hl : l.length ≤ 140737488355328) : Con Tryz.prog 114 [.p (.str l)] [] (nodeT (getNode l)) [] [] := by
 by_cases h13 : l.length = 13
 ·have c1 := get4 l 1 (by omega) hl
  have c2 := get4 l 5 (by omega) hl
  have c3 := get4 l 9 (by omega) hl
  have b1 := zLo l 1
  have b2 := zLo l 5
  have b3 := zLo l 9
  have hb := nat13 h13
  have cm := may_spec (b0 l) (gF l 1) (gF l 5) (gF l 9) []
  generalize hg1 : gF l 1 = g1 at *
  generalize hg2 : gF l 5 = g2 at *
  generalize hg3 : gF l 9 = g3 at *
  have w1 : IntKind.u32.wrap g1 = g1 := zC2 _ b1
  have w2 : IntKind.u32.wrap g2 = g2 := zC2 _ b2
  have w3 : IntKind.u32.wrap g3 = g3 := zC2 _ b3
  refine zD Tryz.func114 rfl (by kernel_rfl) rfl fun F w0 β0 => ?_
  refine zE rfl ?_
  refine go ?_
  refine zN1 13 rfl (by simp [h13]) ?_
  refine go ?_
  refine zP1 4 (zBx ?_)
  refine go ?_
  refine zH rfl rfl (zB rfl rfl (c1) rfl rfl rfl rfl) rfl ?_
  refine go ?_
  refine zBx ?_
  refine go ?_
  refine zH rfl rfl (zB rfl rfl (c2) rfl rfl rfl rfl) rfl ?_
  refine go ?_
  refine zBx ?_
  refine go ?_
  refine zH rfl rfl (zB rfl rfl (c3) rfl rfl rfl rfl) rfl ?_
  refine go ?_
  refine zBx ?_
  refine go ?_
  rw [w1, w2, w3]
  refine K_only [0, 2, 3, 4] rfl ?_
  refine yE [[AObj.box 50 ((nodeV 0 0 0 0).map .p), AObj.box 219 [.p (.int .u32 g1), .p (.int .u32 g2), .p (.int .u32 g3)]],
   [AObj.box 50 ((nodeV 0 0 0 0).map .p), AObj.box 219 [.p (.int .u32 g1), .p (.int .u32 g2), .p (.int .u32 g3)], AObj.box 50 ((nodeV 0 0 0 0).map .p)],
   [AObj.box 50 ((nodeV 0 0 0 0).map .p), AObj.box 219 [.p (.int .u32 g1), .p (.int .u32 g2), .p (.int .u32 g3)], AObj.box 50 ((nodeV (b0 l) g1 g2 g3).map .p)]] [9, 10] (by kernel_rfl) (by kernel_rfl) rfl ?_
  repeat (first | refine zJf ?_ | refine zR9 rfl rfl rfl rfl rfl rfl (zK hT rfl) (zK hT rfl) rfl ?_ | refine zR9 rfl rfl rfl rfl rfl rfl (zT hT rfl rfl rfl rfl rfl) (zT hT rfl rfl rfl rfl rfl) rfl ?_)
  refine zR9 rfl rfl rfl rfl rfl rfl (j2 hT rfl rfl rfl rfl (by decide) hb) (j2 hT rfl rfl rfl rfl (by decide) hb) rfl ?_
  repeat (first | refine zJf ?_ | refine zR9 rfl rfl rfl rfl rfl rfl (zK hT rfl) (zK hT rfl) rfl ?_ | refine zR9 rfl rfl rfl rfl rfl rfl (zT hT rfl rfl rfl rfl rfl) (zT hT rfl rfl rfl rfl rfl) rfl ?_)
  refine T_st rfl rfl rfl rfl (zK hT rfl) rfl ?_
  refine T_st rfl rfl rfl rfl (zK hT rfl) rfl ?_
  refine zJf ?_
  refine jT ?_
  refine zE rfl ?_
  refine go ?_
  refine zH rfl rfl (zB rfl rfl (cm) rfl rfl rfl rfl) rfl ?_
  refine go ?_
  refine yU rfl (fun hm => ?_) (fun hm => ?_)
  ·have hm1 : mayB (b0 l) g1 g2 g3 = false := by simpa using hm
   have e : getNode l = none := by unfold getNode; rw [hg1, hg2, hg3, hm1]; simp
   rw [e]
   refine go ?_
   exact zC hT rfl rfl rfl
  ·have hm1 : mayB (b0 l) g1 g2 g3 = true := by simpa using hm
   have e : getNode l = some (b0 l, g1, g2, g3) := by unfold getNode; rw [hg1, hg2, hg3, hm1]; simp [h13]
   rw [e]
   refine go ?_
   exact zC hT rfl rfl rfl
 ·have e : getNode l = none := by unfold getNode; rw [if_neg (by omega)]
  rw [e]
  refine zD Tryz.func114 rfl (by kernel_rfl) rfl fun F w0 β0 => ?_
  refine zE rfl ?_
  refine go ?_
  refine zSw 13 rfl (by simp; omega) ?_
  refine go ?_
  exact zC hT rfl rfl rfl
theorem yM (v : Int) (h : 0 ≤ v ∧ v ≤ 4294967295) : beV (beB 4 v) = v := by
 obtain ⟨x, rfl⟩ : ∃ x : Nat, v = x := ⟨v.toNat, by omega⟩
 rw [zMo, Nat.mod_eq_of_lt (by omega)]
theorem gF_node (k l s p : Int) (hl : 0 ≤ l ∧ l ≤ 4294967295) (hs : 0 ≤ s ∧ s ≤ 4294967295) (hp : 0 ≤ p ∧ p ≤ 4294967295) :
  gF (nodeB k l s p) 1 = l ∧ gF (nodeB k l s p) 5 = s ∧ gF (nodeB k l s p) 9 = p := by
 refine ⟨?_, ?_, ?_⟩
 ·unfold gF nodeB
  rw [List.append_assoc, List.append_assoc, List.drop_append_of_le_length (by simp), List.drop_of_length_le (by simp), List.nil_append, List.take_append_of_le_length (by simp [yD]), List.take_of_length_le (by simp [yD]), yM l hl]
 ·unfold gF nodeB
  rw [List.append_assoc, List.drop_append, List.drop_of_length_le (by simp [yD]), List.nil_append, show 5 - ([UInt8.ofNat k.toNat] ++ beB 4 l).length = 0 by simp [yD], List.drop_zero, List.take_append_of_le_length (by simp [yD]), List.take_of_length_le (by simp [yD]), yM s hs]
 ·unfold gF nodeB
  rw [List.drop_append, List.drop_of_length_le (by simp [yD]), List.nil_append, show 9 - ([UInt8.ofNat k.toNat] ++ beB 4 l ++ beB 4 s).length = 0 by simp [yD], List.drop_zero, List.take_of_length_le (by simp [yD]), yM p hp]
theorem b0_node (k l s p : Int) (hk : 0 ≤ k ∧ k ≤ 255) : b0 (nodeB k l s p) = k := by
 simp [b0, nodeB]; omega
namespace nodePuts
end nodePuts
end Go.Proofs.YtdnpkgakpiopgaaGreatDoor
namespace Go.Proofs.YtdnpkgakpiopgaaGreatDoor
set_option maxRecDepth 20000
open Go.Awp
theorem beB_beV : ∀ (l : List UInt8), beB l.length (beV l) = l := by
 have key : ∀ (r : List UInt8), beB r.reverse.length (beV r.reverse) = r.reverse := by
  intro r
  induction r with
  | nil => rfl
  | cons b r ih =>
   rw [List.reverse_cons, List.length_append, zFn]
   show beB (r.reverse.length + 1) _ = _
   rw [zPx]
   have hb := b.toNat_lt
   have h1 : (256 * beV r.reverse + (b.toNat : Int)) / 256 = beV r.reverse := by omega
   have h2 : (256 * beV r.reverse + (b.toNat : Int)) % 256 = (b.toNat : Int) := by omega
   rw [h1, h2, ih, Int.toNat_natCast]
   simp
 intro l
 have := key l.reverse
 rwa [List.reverse_reverse] at this
namespace nodeGets
end nodeGets
end Go.Proofs.YtdnpkgakpiopgaaGreatDoor
namespace Go.Proofs.YtdnpkgakpiopgaaGreatDoor
set_option maxRecDepth 20000
open Go.Awp
theorem zA6 : ∀ (a : List UInt8), Op.bytesLess a a = false
 | [] => rfl
 | x :: a => by simp [Op.bytesLess, zA6 a]
theorem zHy (a : List UInt8) : Op.bytesLess a [] = false := by cases a <;> rfl
theorem zFu : ∀ {a b c : List UInt8}, Op.bytesLess a b = true → Op.bytesLess b c = true → Op.bytesLess a c = true
 | a, b, [], _, h => by rw [zHy] at h; cases h
 | a, [], z :: c, h, _ => by rw [zHy] at h; cases h
 | [], y :: b, z :: c, _, _ => rfl
 | x :: a, y :: b, z :: c, h1, h2 => by
  simp only [Op.bytesLess, Bool.or_eq_true, Bool.and_eq_true, beq_iff_eq, decide_eq_true_eq] at h1 h2 ⊢
  simp only [UInt8.lt_iff_toNat_lt, ← UInt8.toNat_inj] at h1 h2 ⊢
  rcases h1 with h1 | ⟨h1, h1'⟩ <;> rcases h2 with h2 | ⟨h2, h2'⟩
  ·exact .inl (by omega)
  ·exact .inl (by omega)
  ·exact .inl (by omega)
  ·exact .inr ⟨by omega, zFu h1' h2'⟩
theorem bl_asymm {a b : List UInt8} (h : Op.bytesLess a b = true) : Op.bytesLess b a = false := by
 cases h2 : Op.bytesLess b a with
 | false => rfl
 | true => have := zFu h h2; rw [zA6] at this; cases this
theorem zFw : ∀ {a b : List UInt8}, Op.bytesLess a b = false → Op.bytesLess b a = false → a = b
 | [], [], _, _ => rfl
 | [], y :: b, h, _ => by simp [Op.bytesLess] at h
 | x :: a, [], _, h => by simp [Op.bytesLess] at h
 | x :: a, y :: b, h1, h2 => by
  simp only [Op.bytesLess, Bool.or_eq_false_iff, Bool.and_eq_false_iff, beq_eq_false_iff_ne, decide_eq_false_iff_not] at h1 h2
  simp only [UInt8.lt_iff_toNat_lt, ne_eq, ← UInt8.toNat_inj] at h1 h2
  have hxy : x = y := UInt8.toNat_inj.1 (by omega)
  subst hxy
  have e1 : Op.bytesLess a b = false := h1.2.resolve_left (fun h => h rfl)
  have e2 : Op.bytesLess b a = false := h2.2.resolve_left (fun h => h rfl)
  rw [zFw e1 e2]
def beh : List UInt8 → List UInt8
 | [] => []
 | b :: l => match beh l with
  | [] => if b = 255 then [] else [b + 1]
  | c :: r => b :: c :: r
theorem zSp : ∀ {l : List UInt8}, beh l = [] → ∀ k, Op.bytesLess k l = false ↔ l <+: k
 | [], _, k => by simp [zHy]
 | b :: l, h, k => by
  simp only [beh] at h
  split at h
  ·rename_i hl
   split at h
   ·rename_i hb
    subst hb
    cases k with
    | nil => simp [Op.bytesLess]
    | cons x k =>
     have hx := x.toNat_lt
     simp only [Op.bytesLess, List.cons_prefix_cons, Bool.or_eq_false_iff, Bool.and_eq_false_iff, beq_eq_false_iff_ne, decide_eq_false_iff_not, UInt8.lt_iff_toNat_lt, ne_eq, ← UInt8.toNat_inj]
     rw [← zSp hl k]
     have : (255 : UInt8).toNat = 255 := rfl
     constructor
     ·rintro ⟨h1, h2⟩
      refine ⟨by omega, ?_⟩
      rcases h2 with h2 | h2
      ·omega
      ·exact h2
     ·rintro ⟨h1, h2⟩
      exact ⟨by omega, .inr h2⟩
   ·cases h
  ·cases h
theorem zGq : ∀ {l : List UInt8}, beh l ≠ [] → ∀ k, (Op.bytesLess k l = false ∧ Op.bytesLess k (beh l) = true) ↔ l <+: k
 | [], h, _ => by simp [beh] at h
 | b :: l, h, k => by
  simp only [beh] at h ⊢
  split
  ·rename_i hl
   rw [hl] at h
   simp only [] at h
   split
   ·rename_i hb; rw [if_pos hb] at h; simp at h
   ·rename_i hb
    have hbt := b.toNat_lt
    have hb1 : (b + 1).toNat = b.toNat + 1 := by
     have h2 : b.toNat ≠ 255 := fun e => hb (UInt8.toNat_inj.1 e)
     rw [UInt8.toNat_add]
     have : (1 : UInt8).toNat = 1 := rfl
     omega
    cases k with
    | nil => simp [Op.bytesLess]
    | cons x k =>
     simp only [Op.bytesLess, zHy, Bool.and_false, Bool.or_false, List.cons_prefix_cons, Bool.or_eq_false_iff, Bool.and_eq_false_iff, beq_eq_false_iff_ne, decide_eq_false_iff_not, decide_eq_true_eq, UInt8.lt_iff_toNat_lt, ne_eq, ← UInt8.toNat_inj, hb1]
     rw [← zSp hl k]
     constructor
     ·rintro ⟨⟨h1, h2⟩, h3⟩
      refine ⟨by omega, ?_⟩
      rcases h2 with h2 | h2
      ·omega
      ·exact h2
     ·rintro ⟨h1, h2⟩
      exact ⟨⟨by omega, .inr h2⟩, by omega⟩
  ·rename_i c r hl
   cases k with
   | nil => simp [Op.bytesLess]
   | cons x k =>
    have ih := zGq (l := l) (by rw [hl]; simp) k
    rw [hl] at ih
    simp only [Op.bytesLess, List.cons_prefix_cons, Bool.or_eq_false_iff, Bool.and_eq_false_iff, beq_eq_false_iff_ne, decide_eq_false_iff_not, Bool.or_eq_true, Bool.and_eq_true, beq_iff_eq, decide_eq_true_eq, UInt8.lt_iff_toNat_lt, ne_eq, ← UInt8.toNat_inj]
    rw [← ih]
    constructor
    ·rintro ⟨⟨h1, h2⟩, h3⟩
     have hbx : b.toNat = x.toNat := by omega
     refine ⟨hbx, ?_, ?_⟩
     ·rcases h2 with h2 | h2
      ·omega
      ·exact h2
     ·rcases h3 with h3 | h3
      ·omega
      ·exact h3.2
    ·rintro ⟨h1, h2, h3⟩
     exact ⟨⟨by omega, .inr h2⟩, .inr ⟨by omega, h3⟩⟩
theorem zMv : ∀ (m : Nat), beh (List.replicate m 255) = []
 | 0 => rfl
 | m + 1 => by simp [List.replicate_succ, beh, zMv m]
theorem beh_at : ∀ (p : List UInt8) (b : UInt8) (m : Nat), b ≠ 255 → beh (p ++ b :: List.replicate m 255) = p ++ [b + 1]
 | [], b, m, hb => by simp [beh, zMv, hb]
 | x :: p, b, m, hb => by
  have := beh_at p b m hb
  simp only [List.cons_append, beh, this]
  cases p <;> rfl
def inR (k a b : List UInt8) : Bool := !Op.bytesLess k a && Op.bytesLess k b
end Go.Proofs.YtdnpkgakpiopgaaGreatDoor

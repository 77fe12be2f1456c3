import Derived.Test.YtdnpkgakpiopgaaGreatDoorGo
import Derived.Test.YtdnpkgakpiopgaaGreatDoorM46
namespace Go.Proofs.YtdnpkgakpiopgaaGreatDoor
set_option maxRecDepth 20000
open Go.Awp Tr
namespace diffTurned
structure I (A : List Chg9) where
 i : Nat
 h : i ≤ A.length
set_option maxHeartbeats 16000000 in
theorem con {u0 u1 : AV} (s0 : Shp tab 8 22 u0) (s1 : Shp tab 8 22 u1) : Con Tryz.prog 7 [.p u0, .p u1] [] (.p (.bool true)) [] [] := by
 obtain ⟨l, hs, hok, _⟩ := zGr s0
 obtain ⟨l', hs', hok', _⟩ := zGr s1
 have c1 := zF7 hs hok
 have c1' := zF7 hs' hok'
 cases hm : made0 l with
 | none =>
  rw [hm] at c1
  change Con Tryz.prog _ _ _ (.tup [.p .nilp, .p .nils, .p (.bool false)]) _ _ at c1
  obtain ⟨a, b, d, e1⟩ : ∃ a b d, madeT (made0 l') = .tup [a, b, .p (.bool d)] := by
   cases made0 l' with
   | none => exact ⟨_, _, _, rfl⟩
   | some s => exact ⟨_, _, _, rfl⟩
  cases hm' : made0 l' with
  | none =>
   rw [hm'] at c1'
   change Con Tryz.prog _ _ _ (.tup [.p .nilp, .p .nils, .p (.bool false)]) _ _ at c1'
   refine zD Tryz.func7 rfl (by kernel_rfl) rfl fun F w0 β0 => ?_
   refine zE rfl ?_
   refine go ?_
   refine zH rfl rfl (zB rfl rfl (c1) rfl rfl rfl rfl) rfl ?_
   refine go ?_
   refine zH rfl rfl (zB rfl rfl (c1') rfl rfl rfl rfl) rfl ?_
   refine go ?_
   refine zH rfl rfl (zB rfl rfl (qM) rfl rfl rfl rfl) rfl ?_
   refine go ?_
   exact zC hT rfl rfl rfl
  | some s' =>
   rw [hm'] at c1'
   change Con Tryz.prog _ _ _ (.tup [W (treeL s'.shown.row), .p (.ps (kvs s'.shown.row)), .p (.bool true)]) _ _ at c1'
   generalize treeL s'.shown.row = t at c1'
   refine zD Tryz.func7 rfl (by kernel_rfl) rfl fun F w0 β0 => ?_
   refine zE rfl ?_
   refine go ?_
   refine zH rfl rfl (zB rfl rfl (c1) rfl rfl rfl rfl) rfl ?_
   refine go ?_
   refine zH rfl rfl (zB rfl rfl (c1') rfl rfl rfl rfl) rfl ?_
   refine go ?_
   refine zH rfl rfl (zB rfl rfl (qM) rfl rfl rfl rfl) rfl ?_
   refine go ?_
   exact zC hT rfl rfl rfl
 | some s =>
  rw [hm] at c1
  change Con Tryz.prog _ _ _ (.tup [W (treeL s.shown.row), .p (.ps (kvs s.shown.row)), .p (.bool true)]) _ _ at c1
  cases hm' : made0 l' with
  | none =>
   rw [hm'] at c1'
   change Con Tryz.prog _ _ _ (.tup [.p .nilp, .p .nils, .p (.bool false)]) _ _ at c1'
   generalize treeL s.shown.row = t at c1
   refine zD Tryz.func7 rfl (by kernel_rfl) rfl fun F w0 β0 => ?_
   refine zE rfl ?_
   refine go ?_
   refine zH rfl rfl (zB rfl rfl (c1) rfl rfl rfl rfl) rfl ?_
   refine go ?_
   refine zH rfl rfl (zB rfl rfl (c1') rfl rfl rfl rfl) rfl ?_
   refine go ?_
   refine zH rfl rfl (zB rfl rfl (qM) rfl rfl rfl rfl) rfl ?_
   refine go ?_
   exact zC hT rfl rfl rfl
  | some s' =>
   rw [hm'] at c1'
   change Con Tryz.prog _ _ _ (.tup [W (treeL s'.shown.row), .p (.ps (kvs s'.shown.row)), .p (.bool true)]) _ _ at c1'
   obtain ⟨L, c2, h2⟩ := zQi hm
   obtain ⟨M, c3, h3⟩ := zQi hm'
   have c4 := zEn L M (by omega) c2 c3
   have c5 := zEn M L (by omega) c3 c2
   have hml := zPq _ L M (Nat.le_refl _)
   rw [zT5 _ L M (Nat.le_refl _)] at c5
   generalize mrgD L M = A at c4 c5 hml
   generalize treeL s.shown.row = t at c1 c4 c5
   generalize treeL s'.shown.row = t' at c1' c4 c5
   have hl1 : (A.map chgA).length = A.length := by simp
   have hl2 : ((A.map turnC).map chgA).length = A.length := by simp
   refine zD Tryz.func7 rfl (by kernel_rfl) rfl fun F w0 β0 => ?_
   refine zE rfl ?_
   refine go ?_
   refine zH rfl rfl (zB rfl rfl (c1) rfl rfl rfl rfl) rfl ?_
   refine go ?_
   refine zH rfl rfl (zB rfl rfl (c1') rfl rfl rfl rfl) rfl ?_
   refine go ?_
   refine zH rfl rfl (zB rfl rfl (c4) rfl rfl rfl rfl) rfl ?_
   refine go ?_
   refine zH rfl rfl (zB rfl rfl (c5) rfl rfl rfl rfl) rfl ?_
   refine go ?_
   refine zF rfl (by rw [hl1, hl2]; simp) ?_
   refine go ?_
   refine z9 (fun q : I A => [(11, .p (.ps (A.map chgA))), (12, .p (.ps ((A.map turnC).map chgA))), (46, .p (.int .i64 (A.length : Int))), (47, .p (.int .i64 (q.i : Int)))]) (fun _ => []) (fun _ => []) (fun q => A.length - q.i) ⟨0, Nat.zero_le _⟩ ⟨rfl, rfl, by show TV.p (.int .i64 _) = _; rw [hl1], rfl, trivial⟩ rfl rfl (fun q => ?_)
   have hq := q.h
   by_cases h : q.i < A.length
   ·have hx : A[q.i]? = some A[q.i] := List.getElem?_eq_getElem h
    generalize A[q.i] = x at hx
    have hx1 : (A.map chgA)[((q.i : Nat) : Int).toNat]? = some (chgA x) := by rw [Int.toNat_natCast, List.getElem?_map, hx]; rfl
    have hx2 : ((A.map turnC).map chgA)[((q.i : Nat) : Int).toNat]? = some (chgA (turnC x)) := by rw [Int.toNat_natCast, List.getElem?_map, List.getElem?_map, hx]; rfl
    have hwi : IntKind.i64.wrap ((q.i : Int) + 1) = ((q.i + 1 : Nat) : Int) := by rw [IntWalk.i64_in _ (by omega)]; rfl
    obtain ⟨p, k⟩ := x
    refine go ?_
    refine zG rfl (decide_eq_true (by omega)) ?_
    refine go ?_
    refine zH rfl rfl (zJ hT rfl rfl rfl rfl rfl (.ps _) (by omega) (by rw [hl1]; omega)) rfl ?_
    refine go ?_
    refine zH rfl rfl (zI hT rfl rfl (.ps _) hx1 rfl rfl) rfl ?_
    refine go ?_
    by_cases k1 : k = 43
    ·subst k1
     change _ = some (AV.agg [.int .u8 45, .str p]) at hx2
     refine zG rfl rfl ?_
     refine go ?_
     refine yE [_] [] (by kernel_rfl) (by kernel_rfl) rfl ?_
     refine gd ?_
     refine zS rfl rfl rfl rfl rfl (zJ hT rfl rfl rfl rfl rfl (.ps _) (by omega) (by rw [hl2]; omega)) rfl ?_
     refine gd ?_
     refine zS rfl rfl rfl rfl rfl (zI hT rfl rfl (.ps _) hx2 rfl rfl) rfl ?_
     refine gd ?_
     refine zS rfl rfl rfl rfl rfl (zJ hT rfl rfl rfl rfl rfl (.ps _) (by omega) (by rw [hl1]; omega)) rfl ?_
     refine gd ?_
     refine zS rfl rfl rfl rfl rfl (zI hT rfl rfl (.ps _) hx1 rfl rfl) rfl ?_
     refine gd ?_
     refine zS rfl rfl rfl rfl rfl (yF hT rfl (by kernel_rfl) rfl rfl rfl rfl rfl) rfl ?_
     refine gd ?_
     refine go ?_
     refine zF rfl (by simp) ?_
     refine go ?_
     refine zY 0 [(11, .p (.ps (A.map chgA))), (12, .p (.ps ((A.map turnC).map chgA))), (46, .p (.int .i64 (A.length : Int))), (47, .p (.int .i64 (IntKind.i64.wrap ((q.i : Int) + 1))))] ⟨rfl, rfl, rfl, rfl, trivial⟩ rfl rfl ?_
     refine zR ⟨q.i + 1, by omega⟩ (by show A.length - (q.i + 1) < A.length - q.i; omega) ⟨rfl, rfl, rfl, congrArg (fun z => TV.p (.int .i64 z)) hwi, trivial⟩ rfl rfl
    refine zF rfl (by
     have hk : ¬ k.toNat = 43 := fun e => k1 (UInt8.toNat_inj.1 e)
     simp
     omega) ?_
    refine go ?_
    by_cases k2 : k = 45
    ·subst k2
     change _ = some (AV.agg [.int .u8 43, .str p]) at hx2
     refine zG rfl rfl ?_
     refine go ?_
     refine yE [_] [] (by kernel_rfl) (by kernel_rfl) rfl ?_
     refine gd ?_
     refine zS rfl rfl rfl rfl rfl (zJ hT rfl rfl rfl rfl rfl (.ps _) (by omega) (by rw [hl2]; omega)) rfl ?_
     refine gd ?_
     refine zS rfl rfl rfl rfl rfl (zI hT rfl rfl (.ps _) hx2 rfl rfl) rfl ?_
     refine gd ?_
     refine zS rfl rfl rfl rfl rfl (zJ hT rfl rfl rfl rfl rfl (.ps _) (by omega) (by rw [hl1]; omega)) rfl ?_
     refine gd ?_
     refine zS rfl rfl rfl rfl rfl (zI hT rfl rfl (.ps _) hx1 rfl rfl) rfl ?_
     refine gd ?_
     refine zS rfl rfl rfl rfl rfl (yF hT rfl (by kernel_rfl) rfl rfl rfl rfl rfl) rfl ?_
     refine gd ?_
     refine go ?_
     refine zF rfl (by simp) ?_
     refine go ?_
     refine zY 0 [(11, .p (.ps (A.map chgA))), (12, .p (.ps ((A.map turnC).map chgA))), (46, .p (.int .i64 (A.length : Int))), (47, .p (.int .i64 (IntKind.i64.wrap ((q.i : Int) + 1))))] ⟨rfl, rfl, rfl, rfl, trivial⟩ rfl rfl ?_
     refine zR ⟨q.i + 1, by omega⟩ (by show A.length - (q.i + 1) < A.length - q.i; omega) ⟨rfl, rfl, rfl, congrArg (fun z => TV.p (.int .i64 z)) hwi, trivial⟩ rfl rfl
    refine zF rfl (by
     have hk : ¬ k.toNat = 45 := fun e => k2 (UInt8.toNat_inj.1 e)
     simp
     omega) ?_
    have et : turnC (p, k) = (p, k) := by unfold turnC; rw [if_neg k1, if_neg k2]
    rw [et] at hx2
    refine go ?_
    refine yE [_] [] (by kernel_rfl) (by kernel_rfl) rfl ?_
    refine gd ?_
    refine zS rfl rfl rfl rfl rfl (zJ hT rfl rfl rfl rfl rfl (.ps _) (by omega) (by rw [hl2]; omega)) rfl ?_
    refine gd ?_
    refine zS rfl rfl rfl rfl rfl (zI hT rfl rfl (.ps _) hx2 rfl rfl) rfl ?_
    refine gd ?_
    refine zS rfl rfl rfl rfl rfl (zJ hT rfl rfl rfl rfl rfl (.ps _) (by omega) (by rw [hl1]; omega)) rfl ?_
    refine gd ?_
    refine zS rfl rfl rfl rfl rfl (zI hT rfl rfl (.ps _) hx1 rfl rfl) rfl ?_
    refine gd ?_
    refine zS rfl rfl rfl rfl rfl (yF hT rfl (by kernel_rfl) rfl rfl rfl rfl rfl) rfl ?_
    refine gd ?_
    refine go ?_
    refine zF rfl (by simp) ?_
    refine go ?_
    refine zY 0 [(11, .p (.ps (A.map chgA))), (12, .p (.ps ((A.map turnC).map chgA))), (46, .p (.int .i64 (A.length : Int))), (47, .p (.int .i64 (IntKind.i64.wrap ((q.i : Int) + 1))))] ⟨rfl, rfl, rfl, rfl, trivial⟩ rfl rfl ?_
    refine zR ⟨q.i + 1, by omega⟩ (by show A.length - (q.i + 1) < A.length - q.i; omega) ⟨rfl, rfl, rfl, congrArg (fun z => TV.p (.int .i64 z)) hwi, trivial⟩ rfl rfl
   ·refine go ?_
    refine zF rfl (decide_eq_false (by omega)) ?_
    refine go ?_
    refine zH rfl rfl (zB rfl rfl (qM) rfl rfl rfl rfl) rfl ?_
    refine go ?_
    exact zC hT rfl rfl rfl
end diffTurned
end Go.Proofs.YtdnpkgakpiopgaaGreatDoor

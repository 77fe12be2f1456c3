import Derived.Test.YtdkegmmigongoaaGreatDoorGo
import Derived.Test.YtdkegmmigongoaaGreatDoorRows
import Derived.Test.YtdkegmmigongoaaGreatDoorTab
import Derived.IntWalk
namespace Go.Proofs.YtdkegmmigongoaaGreatDoor
set_option maxRecDepth 20000
open Go.Awp
def big : Nat := 140737488355000
inductive Bs : AV → List UInt8 → Prop
 | ps (l) : Bs (.ps (bv l)) l
 | nils : Bs .nils []
 | cz : Bs .cz []
theorem Bs.rd {s : AV} {l : List UInt8} {H L : List AObj} (h : Bs s l) : Rd H L (.p s) (bv l) := by
 cases h with
 | ps => exact .ps _
 | nils => exact .nils
 | cz => exact .cz
theorem Bs.not {s : AV} {l : List UInt8} (h : Bs s l) : false = true ↔ ∃ m, TV.p s = .p (.str m) := by
 cases h <;> simp
theorem Bs.ext {s : AV} : TV.ext.extL [.p s] = true := rfl
def wide (n : Int) : Int := min (max n 1) 8
theorem wide_spec (n : Int) (H : List AObj) : Con Tryz.prog 133 [.p (.int .i64 n)] H (.p (.int .i64 (wide n))) H [] := by
 have e : mmA .min (mmA .max n 1) 8 = wide n := by unfold mmA wide; simp only []; omega
 refine con_of Tryz.func133 rfl (by kernel_rfl) rfl fun F w0 β0 => ?_
 refine goN ?_
 rw [← e]
 exact J_done hT rfl rfl rfl
set_option maxHeartbeats 4000000 in
theorem own_spec {s : AV} {l : List UInt8} (hs : Bs s l) (n : Nat) (hl : l.length + n ≤ 140737488355328) (H : List AObj) :
  Con Tryz.prog 165 [.p s, .p (.int .i64 n)] H (.sl (.l 0) (l.length + n) 0 (l.length + n)) H [.arr 5 true 1 (bv (l ++ List.replicate n 0))] := by
 refine con_of Tryz.func165 rfl (by kernel_rfl) rfl fun F w0 β0 => ?_
 refine goN ?_
 refine J_op rfl rfl (opr_len_rd hT rfl rfl hs.rd) ?_
 rw [bv_length]
 refine goN ?_
 have e9 : IntKind.i64.wrap ((l.length : Int) + (n : Int)) = ((l.length + n : Nat) : Int) := by rw [IntWalk.i64_in _ (by omega)]; rfl
 refine J_val 9 (.p (.int .i64 ((l.length + n : Nat) : Int))) rfl (congrArg (fun z => TV.p (.int .i64 z)) e9) ?_
 refine J_op rfl rfl (opr_make hT rfl rfl rfl rfl rfl rfl rfl rfl rfl (by show _ * 1 ≤ _; omega)) ?_
 refine goN ?_
 refine J_op rfl rfl (opr_copy hT rfl rfl rfl rfl (by simp) rfl (.rd hs.rd) hs.not (bv_cl l) (bv_size l) (by simp) (.inr (.inl rfl))) ?_
 refine goN ?_
 have e : (List.replicate (l.length + n) (zrow ⟨.int .u8, 1, 1, [.int .u8 0]⟩)).take 0 ++ bv l ++ (List.replicate (l.length + n) (zrow ⟨.int .u8, 1, 1, [.int .u8 0]⟩)).drop (0 + (bv l).length) = bv (l ++ List.replicate n 0) := by
  rw [bv_append, bv_replicate, List.take_zero, List.nil_append, Nat.zero_add, bv_length, List.drop_replicate, Nat.add_sub_cancel_left]
  rfl
 rw [← e]
 exact J_give hT rfl rfl
def beB : Nat → Int → List UInt8
 | 0, _ => []
 | i + 1, v => UInt8.ofNat (v / 256 ^ i % 256).toNat :: beB i v
theorem beB_len : ∀ (i : Nat) (v : Int), (beB i v).length = i
 | 0, _ => rfl
 | i + 1, v => by simp [beB, beB_len i v]
theorem byte_of (x : Int) (_ : 0 ≤ x) : IntKind.u8.wrap x = ((UInt8.ofNat (x % 256).toNat).toNat : Int) := by
 have e : IntKind.u8.wrap x = x % 256 := by
  simp [IntKind.wrap, IntKind.bits, IntKind.signed]
 rw [e]
 simp
 omega
theorem shr_div (v : Int) (i : Nat) (h : 8 * i ≤ 64) : v.fdiv (2 ^ min (8 * i) 64) = v / 256 ^ i := by
 rw [Nat.min_eq_left h, Int.pow_mul]
 exact Int.fdiv_eq_ediv_of_nonneg _ (Int.le_of_lt (Int.pow_pos (by decide)))
structure PutI (n : Nat) where
 i : Nat
 h : i ≤ n
set_option maxHeartbeats 4000000 in
theorem put_own {s : AV} {l : List UInt8} (hs : Bs s l) (w v : Int) (hv : 0 ≤ v) (hl : l.length ≤ big) (H : List AObj) :
  Con Tryz.prog 138 [.p s, .p (.int .i64 w), .p (.int .u64 v)] H (.sl (.l 0) (l.length + (wide w).toNat) 0 (l.length + (wide w).toNat)) H [.arr 5 true 1 (bv (l ++ beB (wide w).toNat v))] := by
 obtain ⟨n, hn⟩ : ∃ n : Nat, wide w = n := ⟨(wide w).toNat, by unfold wide; omega⟩
 have hn8 : n ≤ 8 := by unfold wide at hn; omega
 have hw : Con Tryz.prog 133 [.p (.int .i64 w)] H (.p (.int .i64 n)) H [] := by rw [← hn]; exact wide_spec w H
 unfold big at hl
 rw [hn]
 refine con_of Tryz.func138 rfl (by kernel_rfl) rfl fun F w0 β0 => ?_
 refine go0 ?_
 refine J_op rfl rfl (opr_call0 rfl rfl rfl rfl rfl hw) ?_
 refine go0 ?_
 refine J_op rfl rfl (opr_call rfl rfl rfl rfl (own_spec hs n (by omega) H)) ?_
 refine go0 ?_
 refine J_loop (ι := PutI n) (fun i => [(2, .p (.int .u64 v)), (7, .sl (.l 0) (l.length + n) 0 (l.length + n)), (14, .p (.int .i64 n)), (15, .p (.int .i64 i.i))]) (fun _ => H) (fun i => [.arr 5 true 1 (bv (l ++ (List.replicate (n - i.i) 0 ++ beB i.i v)))]) (fun i => n - i.i) ⟨0, by omega⟩ ⟨rfl, rfl, rfl, rfl, trivial⟩ rfl (by simp [beB]; rfl) fun i => ?_
 obtain ⟨i, hi⟩ := i
 dsimp only
 refine go0 ?_
 refine J_cond rfl (fun hd => ?_) (fun hd => ?_)
 ·have hd1 : (i : Int) < n := of_decide_eq_true hd
  obtain ⟨d, hd2⟩ : ∃ d, n = i + d + 1 := ⟨n - i - 1, by omega⟩
  have hlen : (bv (l ++ (List.replicate (n - i) 0 ++ beB i v))).length = l.length + n := by simp [beB_len]; omega
  have hrd : Rd H [.arr 5 true 1 (bv (l ++ (List.replicate (n - i) 0 ++ beB i v)))] (.sl (.l 0) (l.length + n) 0 (l.length + n)) (bv (l ++ (List.replicate (n - i) 0 ++ beB i v))) := Rd.full rfl hlen
  have e20 : (((bv (l ++ (List.replicate (n - i) 0 ++ beB i v))).length : Nat) : Int) = ((l.length + n : Nat) : Int) := by rw [hlen]
  have e23 : IntKind.i64.wrap (IntKind.i64.wrap (((l.length + n : Nat) : Int) - 1) - i) = ((l.length + d : Nat) : Int) := by rw [IntWalk.i64_in (((l.length + n : Nat) : Int) - 1) (by omega), IntWalk.i64_in _ (by omega)]; omega
  have e26 : IntKind.i64.wrap (8 * (i : Int)) = Int.ofNat (8 * i) := by rw [IntWalk.i64_in _ (by omega)]; rfl
  have e28 : IntKind.u8.wrap (v.fdiv (2 ^ min (8 * i) 64)) = ((UInt8.ofNat (v / 256 ^ i % 256).toNat).toNat : Int) := by
   rw [shr_div v i (by omega)]
   exact byte_of _ (Int.ediv_nonneg hv (Int.le_of_lt (Int.pow_pos (by decide))))
  refine go0 ?_
  refine J_op rfl rfl (opr_len_rd hT rfl rfl hrd) ?_
  refine J_val 20 _ rfl (congrArg (fun z => TV.p (.int .i64 z)) e20) ?_
  refine go0 ?_
  refine J_val 23 _ rfl (congrArg (fun z => TV.p (.int .i64 z)) e23) ?_
  refine go0 ?_
  refine J_val 26 _ rfl (congrArg (fun z => TV.p (.int .i64 z)) e26) ?_
  refine go0 ?_
  refine J_val 28 _ rfl (congrArg (fun z => TV.p (.int .u8 z)) e28) ?_
  have hk : ((bv (l ++ (List.replicate (n - i) 0 ++ beB i v))))[0 + (l.length + d)]? = some (.int .u8 0) := by
   rw [bv_get, Nat.zero_add, List.getElem?_append_right (by omega), List.getElem?_append_left (by simp; omega), List.getElem?_replicate, if_pos (by omega)]
   rfl
  refine J_op rfl rfl (opr_index hT rfl rfl rfl rfl rfl hrd (by omega) (by rw [hlen]; omega)) ?_
  refine J_op rfl rfl (opr_storeEl hT rfl rfl rfl hlen rfl rfl rfl hk rfl (Nat.le_of_ble_eq_true rfl) (by simp [cl]) (fun _ => rfl)) ?_
  refine go0 ?_
  have e16 : IntKind.i64.wrap ((i : Int) + 1) = ((i + 1 : Nat) : Int) := by rw [IntWalk.i64_in _ (by omega)]; rfl
  have eL : (bv (l ++ (List.replicate (n - i) 0 ++ beB i v))).set (0 + (l.length + d)) (.int .u8 ((UInt8.ofNat (v / 256 ^ i % 256).toNat).toNat : Int)) = bv (l ++ (List.replicate (n - (i + 1)) 0 ++ beB (i + 1) v)) := by
   rw [bv_set, Nat.zero_add, List.set_append_right _ _ (by omega), Nat.add_sub_cancel_left]
   congr 2
   rw [show n - i = d + 1 by omega, show n - (i + 1) = d by omega, List.replicate_succ', List.append_assoc, List.set_append_right _ _ (by simp)]
   simp [beB]
  exact J_again (ι := PutI n) (i := ⟨i, hi⟩) ⟨i + 1, by omega⟩ (by dsimp only; omega) ⟨rfl, rfl, rfl, congrArg (fun z => TV.p (.int .i64 z)) e16, trivial⟩ rfl (by dsimp only; rw [← eL]; rfl)
 ·have hd1 : ¬ (i : Int) < n := of_decide_eq_false hd
  obtain rfl : i = n := by omega
  refine go0 ?_
  have e : l ++ beB ((i : Int).toNat) v = l ++ (List.replicate (i - i) 0 ++ beB i v) := by simp
  rw [e]
  exact J_give hT rfl rfl
theorem put_spec {s : AV} {l : List UInt8} (hs : Bs s l) (w v : Int) (hv : 0 ≤ v) (hl : l.length ≤ big) (H : List AObj) :
  Con Tryz.prog 138 [.p s, .p (.int .i64 w), .p (.int .u64 v)] H (.p (.ps (bv (l ++ beB (wide w).toNat v)))) H [] :=
 (put_own hs w v hv hl H).freeze (by simp [beB_len])
theorem rwide_spec (n : Int) (H : List AObj) : Con Tryz.prog 113 [.p (.int .i64 n)] H (.p (.int .i64 (wide n))) H [] := by
 refine con_of Tryz.func113 rfl (by kernel_rfl) rfl fun F w0 β0 => ?_
 refine go0 ?_
 refine J_cond rfl (fun hc => ?_) (fun hc => ?_)
 ·have hc1 : n < 1 := of_decide_eq_true hc
  have e : wide n = 1 := by unfold wide; omega
  rw [e]
  refine go0 ?_
  exact J_done hT rfl rfl rfl
 ·have hc1 : ¬ n < 1 := of_decide_eq_false hc
  refine go0 ?_
  refine J_cond rfl (fun hd => ?_) (fun hd => ?_)
  ·have hd1 : n > 8 := of_decide_eq_true hd
   have e : wide n = 8 := by unfold wide; omega
   rw [e]
   refine go0 ?_
   exact J_done hT rfl rfl rfl
  ·have hd1 : ¬ n > 8 := of_decide_eq_false hd
   have e : wide n = n := by unfold wide; omega
   rw [e]
   refine go0 ?_
   exact J_done hT rfl rfl rfl
def leB3 : Nat → Int → List UInt8
 | 0, _ => []
 | i + 1, v => UInt8.ofNat (v % 256).toNat :: leB3 i (v / 256)
theorem leB_len : ∀ (i : Nat) (v : Int), (leB3 i v).length = i
 | 0, _ => rfl
 | i + 1, v => by simp [leB3, leB_len i (v / 256)]
theorem leB_snoc : ∀ (i : Nat) (v : Int), leB3 (i + 1) v = leB3 i v ++ [UInt8.ofNat (v / 256 ^ i % 256).toNat]
 | 0, v => by simp [leB3]
 | i + 1, v => by
  have ih := leB_snoc i (v / 256)
  rw [leB3, ih, leB3]
  have e : v / 256 / 256 ^ i = v / 256 ^ (i + 1) := by
   rw [Int.pow_succ, Int.mul_comm, ← Int.ediv_ediv_of_nonneg (by decide)]
  rw [e]
  rfl
theorem leB_rev : ∀ (i : Nat) (v : Int), (leB3 i v).reverse = beB i v
 | 0, _ => rfl
 | i + 1, v => by
  rw [leB_snoc, List.reverse_append, leB_rev i v]
  rfl
theorem u64_in (n : Int) (h : 0 ≤ n ∧ n ≤ 18446744073709551615) : IntKind.u64.wrap n = n := by
 simp [IntKind.wrap, IntKind.bits, IntKind.signed]
 omega
structure RP1 (n : Nat) (v : Int) where
 i : Nat
 h : i ≤ n
set_option maxHeartbeats 4000000 in
theorem rput_spec {s : AV} {l : List UInt8} (hs : Bs s l) (w v : Int) (hv : 0 ≤ v ∧ v ≤ 18446744073709551615) (hl : l.length ≤ big) (H : List AObj) :
  Con Tryz.prog 143 [.p s, .p (.int .i64 w), .p (.int .u64 v)] H (.sl (.l 0) (l.length + (wide w).toNat) 0 (l.length + (wide w).toNat)) H [.arr 5 true 1 (bv (l ++ beB (wide w).toNat v))] := by
 obtain ⟨n, hn⟩ : ∃ n : Nat, wide w = n := ⟨(wide w).toNat, by unfold wide; omega⟩
 have hn8 : 1 ≤ n ∧ n ≤ 8 := by unfold wide at hn; omega
 have hw : Con Tryz.prog 113 [.p (.int .i64 w)] H (.p (.int .i64 n)) H [] := by rw [← hn]; exact rwide_spec w H
 unfold big at hl
 rw [hn]
 refine con_of Tryz.func143 rfl (by kernel_rfl) rfl fun F w0 β0 => ?_
 refine go0 ?_
 refine J_op rfl rfl (opr_lit0 hT rfl rfl rfl) ?_
 refine go0 ?_
 refine J_op rfl rfl (opr_app_acc (L0 := []) (acc := []) hT rfl rfl rfl (.inr rfl) rfl rfl (.rd hs.rd) hs.not (bv_cl l) (bv_size l) (by decide) (by decide) (by simp; omega)) ?_
 refine go0 ?_
 refine J_op rfl rfl (opr_lit0 hT rfl rfl rfl) ?_
 refine go0 ?_
 refine J_loop (ι := RP1 n v) (fun i => [(1, .p (.int .i64 w)), (2, .p (.int .u64 (v / 256 ^ i.i))), (7, accT 0 .cz (bv l)), (8, accT (accL 5 1 (bv l)).length .cz (bv (leB3 i.i v))), (9, .p (.int .i64 i.i))]) (fun _ => H) (fun i => accL 5 1 (bv l) ++ accL 5 1 (bv (leB3 i.i v))) (fun i => n - i.i) ⟨0, by omega⟩ ⟨rfl, by simp; rfl, rfl, rfl, rfl, trivial⟩ rfl (by simp [leB3, bv, accL]) fun i => ?_
 obtain ⟨i, hi⟩ := i
 dsimp only
 refine go0 ?_
 refine J_op rfl rfl (opr_call0 rfl rfl rfl rfl rfl hw) ?_
 refine go0 ?_
 refine J_cond rfl (fun hd => ?_) (fun hd => ?_)
 ·have hd1 : (i : Int) < n := of_decide_eq_true hd
  have hq0 : 0 ≤ v / 256 ^ i := Int.ediv_nonneg hv.1 (Int.le_of_lt (Int.pow_pos (by decide)))
  have hq1 : v / 256 ^ i ≤ v := Int.ediv_le_self _ hv.1
  have e25 : IntKind.u8.wrap ((v / 256 ^ i).tmod 256) = ((UInt8.ofNat (v / 256 ^ i % 256).toNat).toNat : Int) := by
   rw [Int.tmod_eq_emod_of_nonneg hq0, byte_of _ (by omega), Int.emod_emod]
  refine go0 ?_
  refine J_weak [(1, .p (.int .i64 w)), (2, .p (.int .u64 (v / 256 ^ i))), (7, accT 0 .cz (bv l)), (9, .p (.int .i64 i)), (22, accT (accL 5 1 (bv l)).length .cz (bv (leB3 i v))), (26, .p (.ps (bv [UInt8.ofNat (v / 256 ^ i % 256).toNat])))] ⟨rfl, rfl, rfl, rfl, rfl, congrArg (fun z => TV.p (.ps [.int .u8 z])) e25, trivial⟩ ?_
  refine J_op rfl rfl (opr_app_acc (L0 := accL 5 1 (bv l)) (acc := bv (leB3 i v)) hT rfl rfl rfl (.inr rfl) rfl rfl (.rd (.ps _)) hbs_ps (bv_cl _) (bv_size _) (by decide) (by decide) (by simp [leB_len]; omega)) ?_
  refine go0 ?_
  have e29 : IntKind.u64.wrap ((v / 256 ^ i).tdiv 256) = v / 256 ^ (i + 1) := by
   have e : v / 256 ^ (i + 1) = v / 256 ^ i / 256 := by rw [Int.pow_succ, ← Int.ediv_ediv_of_nonneg (Int.le_of_lt (Int.pow_pos (by decide)))]
   rw [Int.tdiv_eq_ediv_of_nonneg hq0, u64_in _ (by omega), e]
  have e21 : IntKind.i64.wrap ((i : Int) + 1) = ((i + 1 : Nat) : Int) := by rw [IntWalk.i64_in _ (by omega)]; rfl
  have eb : bv (leB3 i v) ++ bv [UInt8.ofNat (v / 256 ^ i % 256).toNat] = bv (leB3 (i + 1) v) := by rw [leB_snoc, bv_append]
  exact J_again (ι := RP1 n v) (i := ⟨i, hi⟩) ⟨i + 1, by omega⟩ (by dsimp only; omega) ⟨rfl, congrArg (fun z => TV.p (.int .u64 z)) e29, rfl, congrArg (fun z => accT (accL 5 1 (bv l)).length .cz z) eb, congrArg (fun z => TV.p (.int .i64 z)) e21, trivial⟩ rfl (by dsimp only; rw [← eb])
 ·have hd1 : ¬ (i : Int) < n := of_decide_eq_false hd
  obtain rfl : i = n := by omega
  refine go0 ?_
  refine J_op rfl rfl (opr_len_rd hT rfl rfl (Rd.acc0 (e := 5) (sz := 1) (.inr rfl))) ?_
  refine go0 ?_
  have e32 : IntKind.i64.wrap (((bv (leB3 i v)).length : Int) - 1) = (i : Int) - 1 - ((0 : Nat) : Int) := by rw [bv_length, leB_len, IntWalk.i64_in _ (by omega)]; omega
  refine J_freeze_acc0 8 (L0 := accL 5 1 (bv l)) (acc := bv (leB3 i v)) rfl rfl ?_
  have e8 : accV .cz (bv (leB3 i v)) = .ps (bv (leB3 i v)) := by
   obtain ⟨j, rfl⟩ : ∃ j, i = j + 1 := ⟨i - 1, by omega⟩
   rfl
  refine J_take (accL 5 1 (bv l)).length [(7, accT 0 .cz (bv l)), (8, .p (.ps (bv (leB3 i v)))), (10, .p (.int .i64 ((i : Int) - 1 - ((0 : Nat) : Int))))] ⟨rfl, congrArg TV.p e8, congrArg (fun z => TV.p (.int .i64 z)) e32, trivial⟩
   (by simp only [okEnv, TV.okL, Bool.and_true]; exact accT_okL fun h => accL_pos h) (by rw [List.take_left]; exact accL_okAll ..) ?_
  rw [List.take_left]
  refine J_loop (ι := RP1 i v) (fun j => [(7, accT 0 .cz (bv (l ++ (beB i v).take j.i))), (8, .p (.ps (bv (leB3 i v)))), (10, .p (.int .i64 ((i : Int) - 1 - (j.i : Int))))]) (fun _ => H) (fun j => accL 5 1 (bv (l ++ (beB i v).take j.i))) (fun j => i - j.i) ⟨0, by omega⟩ ⟨by simp; rfl, rfl, rfl, trivial⟩ rfl (by simp) fun j => ?_
  obtain ⟨j, hj⟩ := j
  dsimp only
  refine go0 ?_
  refine J_cond rfl (fun hd => ?_) (fun hd => ?_)
  ·have hd2 : (i : Int) - 1 - j ≥ 0 := of_decide_eq_true hd
   obtain ⟨q, hq⟩ : ∃ q : Nat, (i : Int) - 1 - j = q := ⟨i - 1 - j, by omega⟩
   obtain ⟨b, hb⟩ : ∃ b, (leB3 i v)[q]? = some b := ⟨(leB3 i v)[q]'(by rw [leB_len]; omega), List.getElem?_eq_getElem _⟩
   have hb2 : (beB i v)[j]? = some b := by
    rw [← leB_rev, List.getElem?_reverse (by rw [leB_len]; omega), leB_len, show i - 1 - j = q by omega]
    exact hb
   have htk : (beB i v).take (j + 1) = (beB i v).take j ++ [b] := by rw [List.take_add_one, hb2]; rfl
   refine go0 ?_
   refine J_val 39 _ rfl (congrArg (fun z => TV.p (.int .i64 z)) hq) ?_
   refine J_op rfl rfl (opr_index hT rfl rfl rfl rfl rfl (.ps _) (by omega) (by rw [bv_length, leB_len]; omega)) ?_
   refine J_op rfl rfl (opr_load_el hT rfl rfl (.ps _) (by rw [bv_get, Int.toNat_natCast, hb]; rfl) rfl rfl) ?_
   refine go0 ?_
   refine J_op rfl rfl (opr_app_acc (L0 := []) (acc := bv (l ++ (beB i v).take j)) (rows := bv [b]) hT rfl rfl rfl (.inr rfl) rfl rfl (.rd (.ps _)) hbs_ps (bv_cl [b]) (bv_size [b]) (by decide) (by decide) (by simp [beB_len]; omega)) ?_
   refine go0 ?_
   have eb : bv (l ++ (beB i v).take j) ++ bv [b] = bv (l ++ (beB i v).take (j + 1)) := by rw [htk, ← List.append_assoc, bv_append (l ++ _)]
   have e36 : IntKind.i64.wrap ((i : Int) - 1 - j - 1) = (i : Int) - 1 - ((j + 1 : Nat) : Int) := by rw [IntWalk.i64_in _ (by omega)]; omega
   exact J_again (ι := RP1 i v) (i := ⟨j, hj⟩) ⟨j + 1, by omega⟩ (by dsimp only; omega) ⟨congrArg (fun z => accT 0 .cz z) eb, rfl, congrArg (fun z => TV.p (.int .i64 z)) e36, trivial⟩ rfl (by dsimp only; rw [← eb]; rfl)
  ·have hd2 : ¬ (i : Int) - 1 - j ≥ 0 := of_decide_eq_false hd
   obtain rfl : j = i := by omega
   refine go0 ?_
   have et : (beB j v).take j = beB j v := List.take_of_length_le (by rw [beB_len]; exact Nat.le_refl _)
   have hne : bv (l ++ beB j v) ≠ [] := by
    intro h
    have := congrArg List.length h
    simp [beB_len] at this
    omega
   rw [et]
   have e6 : accT 0 .cz (bv (l ++ beB j v)) = .sl (.l 0) (l.length + ((j : Int)).toNat) 0 (l.length + ((j : Int)).toNat) := by
    rw [accT_ne hne, Int.toNat_natCast]; simp [beB_len]
   rw [← e6]
   have e7 : accL 5 1 (bv (l ++ beB j v)) = [.arr 5 true 1 (bv (l ++ beB ((j : Int)).toNat v))] := by
    rw [accL_ne hne, Int.toNat_natCast]
   rw [← e7]
   exact J_give hT rfl rfl
def beV (l : List UInt8) : Int := l.foldl (fun a b => 256 * a + (b.toNat : Int)) 0
theorem beV_snoc (l : List UInt8) (b : UInt8) : beV (l ++ [b]) = 256 * beV l + (b.toNat : Int) := by simp [beV]
theorem beV_bound : ∀ (l : List UInt8), 0 ≤ beV l ∧ beV l < 256 ^ l.length := by
 intro l
 have key : ∀ (r : List UInt8), 0 ≤ beV r.reverse ∧ beV r.reverse < 256 ^ r.length := by
  intro r
  induction r with
  | nil => simp [beV]
  | cons b r ih =>
   rw [List.reverse_cons, beV_snoc, List.length_cons, Int.pow_succ]
   have := b.toNat_lt
   omega
 have := key l.reverse
 rwa [List.reverse_reverse, List.length_reverse] at this
theorem beV_7 {l : List UInt8} (h : l.length ≤ 7) : beV l < 72057594037927936 := by
 obtain ⟨h0, h1⟩ := beV_bound l
 have h2 : 256 ^ l.length ≤ 256 ^ 7 := Nat.pow_le_pow_right (by decide) h
 have h3 : ((256 ^ l.length : Nat) : Int) = (256 : Int) ^ l.length := Int.natCast_pow 256 l.length
 have h4 : (256 : Nat) ^ 7 = 72057594037927936 := by decide
 rw [h4] at h2
 rw [← h3] at h1
 omega
def getR (l : List UInt8) (a : Int) (n : Nat) : Int × Int × Int :=
 if a < 0 ∨ a > l.length then (0, 0, 1) else if (l.length : Int) - a < n then (0, 0, 3) else (beV ((l.drop a.toNat).take n), a + n, 0)
def getT3 (r : Int × Int × Int) : TV := .tup [.p (.int .u64 r.1), .p (.int .i64 r.2.1), .p (.int .i64 r.2.2)]
theorem or_add (x b : Nat) (hx : x < 72057594037927936) (hb : b < 256) : IntKind.u64.wrap (((BitVec.ofInt 64 ((x : Int) * 256) ||| BitVec.ofInt 64 (b : Int)).toNat : Nat) : Int) = 256 * (x : Int) + (b : Int) := by
 have h1 : (BitVec.ofInt 64 ((x : Int) * 256)).toNat = x <<< 8 := by
  rw [BitVec.toNat_ofInt, Nat.shiftLeft_eq]
  omega
 have h2 : (BitVec.ofInt 64 (b : Int)).toNat = b := by
  rw [BitVec.toNat_ofInt]
  omega
 rw [BitVec.toNat_or, h1, h2, ← Nat.shiftLeft_add_eq_or_of_lt (by omega), Nat.shiftLeft_eq, u64_in _ (by omega)]
 omega
theorem Bs.cut {s : AV} {l : List UInt8} (h : Bs s l) (i j : Nat) : cutA i j (.p s) = .p (.ps (bv ((l.drop i).take (j - i)))) := by
 cases h with
 | ps => simp [cutA, bv_drop, bv_take]
 | nils => simp [cutA, bv]
 | cz => simp [cutA, bv]
structure GetI (m : List UInt8) where
 i : Nat
 h : i ≤ m.length
set_option maxHeartbeats 4000000 in
theorem get_spec {s : AV} {l : List UInt8} (hs : Bs s l) (a w : Int) (ha : -9223372036854775808 ≤ a ∧ a ≤ 9223372036854775807) (hl : l.length ≤ 140737488355328) (H : List AObj) :
  Con Tryz.prog 104 [.p s, .p (.int .i64 a), .p (.int .i64 w)] H (getT3 (getR l a (wide w).toNat)) H [] := by
 obtain ⟨n, hn⟩ : ∃ n : Nat, wide w = n := ⟨(wide w).toNat, by unfold wide; omega⟩
 have hn8 : 1 ≤ n ∧ n ≤ 8 := by unfold wide at hn; omega
 have hw : Con Tryz.prog 133 [.p (.int .i64 w)] H (.p (.int .i64 n)) H [] := by rw [← hn]; exact wide_spec w H
 rw [hn, Int.toNat_natCast]
 refine con_of Tryz.func104 rfl (by kernel_rfl) rfl fun F w0 β0 => ?_
 refine go0 ?_
 refine J_op rfl rfl (opr_call0 rfl rfl rfl rfl rfl hw) ?_
 refine go0 ?_
 refine J_split 17 rfl (fun hc => ?_) (fun hc => ?_)
 ·have hc1 : a < 0 := of_decide_eq_true hc
  have e : getR l a n = (0, 0, 1) := by simp [getR, hc1]
  rw [e]
  refine go0 ?_
  refine J_cond rfl (fun _ => ?_) (fun h => Bool.noConfusion h)
  refine go0 ?_
  exact J_done hT rfl rfl rfl
 have hc1 : ¬ a < 0 := of_decide_eq_false hc
 refine go0 ?_
 refine J_yes rfl rfl rfl (opr_len_rd hT rfl rfl hs.rd) ?_
 rw [bv_length]
 refine go0 ?_
 refine J_cond rfl (fun hd => ?_) (fun hd => ?_)
 ·have hd1 : a > (l.length : Int) := of_decide_eq_true hd
  have e : getR l a n = (0, 0, 1) := by simp [getR, hd1]
  rw [e]
  refine go0 ?_
  exact J_done hT rfl rfl rfl
 have hd1 : ¬ a > (l.length : Int) := of_decide_eq_false hd
 refine go0 ?_
 refine J_op rfl rfl (opr_len_rd hT rfl rfl hs.rd) ?_
 rw [bv_length]
 have e27 : IntKind.i64.wrap ((l.length : Int) - a) = (l.length : Int) - a := IntWalk.i64_in _ (by omega)
 refine go0 ?_
 refine J_cond rfl (fun he => ?_) (fun he => ?_)
 ·have he1 := of_decide_eq_true he
  rw [e27] at he1
  have e : getR l a n = (0, 0, 3) := by simp only [getR]; rw [if_neg (by omega), if_pos he1]
  rw [e]
  refine go0 ?_
  exact J_done hT rfl rfl rfl
 have he1 := of_decide_eq_false he
 rw [e27] at he1
 have e34 : IntKind.i64.wrap (a + (n : Int)) = a + (n : Int) := IntWalk.i64_in _ (by omega)
 have e : getR l a n = (beV ((l.drop a.toNat).take n), a + n, 0) := by simp only [getR]; rw [if_neg (by omega), if_neg (by omega)]
 rw [e]
 have hml : ((l.drop a.toNat).take n).length = n := by simp; omega
 generalize hm : (l.drop a.toNat).take n = m at hml ⊢
 refine go0 ?_
 refine J_val 34 _ rfl (congrArg (fun z => TV.p (.int .i64 z)) e34) ?_
 refine J_op rfl rfl (opr_cut hT rfl rfl rfl rfl hs.rd rfl rfl (by omega) (by omega) (by rw [bv_length]; omega) (bv_size _)) ?_
 have e35 : cutA a.toNat (a + (n : Int)).toNat (.p s) = .p (.ps (bv m)) := by
  rw [hs.cut, ← hm, show (a + (n : Int)).toNat - a.toNat = n by omega]
 refine J_val 35 _ rfl e35 ?_
 refine go0 ?_
 refine J_loop (ι := GetI m) (fun i => [(1, .p (.int .i64 a)), (2, .p (.int .i64 n)), (9, .p (.int .u64 (beV (m.take i.i)))), (35, .p (.ps (bv m))), (36, .p (.int .i64 n)), (37, .p (.int .i64 i.i))]) (fun _ => H) (fun _ => []) (fun i => m.length - i.i) ⟨0, Nat.zero_le _⟩ ⟨rfl, rfl, by simp [beV]; rfl, rfl, congrArg (fun z : Nat => TV.p (.int .i64 (z : Int))) (by rw [bv_length, hml]), rfl, trivial⟩ rfl rfl fun i => ?_
 obtain ⟨i, hi⟩ := i
 dsimp only
 refine go0 ?_
 refine J_cond rfl (fun hf => ?_) (fun hf => ?_)
 ·have hf1 : (i : Int) < n := of_decide_eq_true hf
  have hb : m[i]? = some m[i] := List.getElem?_eq_getElem (by omega)
  generalize m[i] = b at hb
  have htk : m.take (i + 1) = m.take i ++ [b] := by rw [List.take_add_one, hb]; rfl
  have hbd := beV_bound (m.take i)
  have hlt : beV (m.take i) < 72057594037927936 := beV_7 (by simp; omega)
  obtain ⟨x, hx⟩ : ∃ x : Nat, beV (m.take i) = x := ⟨(beV (m.take i)).toNat, by omega⟩
  have e45 : IntKind.u64.wrap (((BitVec.ofInt 64 (IntKind.u64.wrap (beV (m.take i) * 2 ^ min 8 64)) ||| BitVec.ofInt 64 (IntKind.u64.wrap (b.toNat : Int))).toNat : Nat) : Int) = beV (m.take (i + 1)) := by
   have hb2 := b.toNat_lt
   rw [htk, beV_snoc, hx, u64_in (b.toNat : Int) (by omega), show (2 : Int) ^ min 8 64 = 256 by decide, u64_in ((x : Int) * 256) (by omega)]
   exact or_add x b.toNat (by omega) (by omega)
  refine go0 ?_
  refine J_op rfl rfl (opr_index hT rfl rfl rfl rfl rfl (.ps _) (by omega) (by rw [bv_length]; omega)) ?_
  refine J_op rfl rfl (opr_load_el hT rfl rfl (.ps _) (by rw [bv_get, Int.toNat_natCast, hb]; rfl) rfl rfl) ?_
  refine go0 ?_
  have e46 : IntKind.i64.wrap ((i : Int) + 1) = ((i + 1 : Nat) : Int) := by rw [IntWalk.i64_in _ (by omega)]; rfl
  exact J_again (ι := GetI m) (i := ⟨i, hi⟩) ⟨i + 1, by omega⟩ (by dsimp only; omega) ⟨rfl, rfl, congrArg (fun z => TV.p (.int .u64 z)) e45, rfl, rfl, congrArg (fun z => TV.p (.int .i64 z)) e46, trivial⟩ rfl rfl
 ·have hf1 : ¬ (i : Int) < n := of_decide_eq_false hf
  have et : m.take i = m := List.take_of_length_le (by omega)
  refine go0 ?_
  refine J_val 7 _ rfl (congrArg (fun z => TV.p (.int .i64 z)) e34) ?_
  refine J_val 6 _ rfl (congrArg (fun z => TV.p (.int .u64 (beV z))) et) ?_
  exact J_done hT rfl rfl rfl
structure RGetI (l : List UInt8) (a : Int) (n : Nat) where
 i : Nat
 h : i ≤ n
 h2 : a + i ≤ l.length
set_option maxHeartbeats 4000000 in
theorem rget_spec {s : AV} {l : List UInt8} (hs : Bs s l) (a w : Int) (ha : -9223372036854775808 ≤ a ∧ a ≤ 9223372036854775807) (hl : l.length ≤ 140737488355328) (H : List AObj) :
  Con Tryz.prog 68 [.p s, .p (.int .i64 a), .p (.int .i64 w)] H (getT3 (getR l a (wide w).toNat)) H [] := by
 obtain ⟨n, hn⟩ : ∃ n : Nat, wide w = n := ⟨(wide w).toNat, by unfold wide; omega⟩
 have hn8 : 1 ≤ n ∧ n ≤ 8 := by unfold wide at hn; omega
 have hw : Con Tryz.prog 113 [.p (.int .i64 w)] H (.p (.int .i64 n)) H [] := by rw [← hn]; exact rwide_spec w H
 rw [hn, Int.toNat_natCast]
 refine con_of Tryz.func68 rfl (by kernel_rfl) rfl fun F w0 β0 => ?_
 refine go0 ?_
 refine J_split 13 rfl (fun hc => ?_) (fun hc => ?_)
 ·have hc1 : a < 0 := of_decide_eq_true hc
  have e : getR l a n = (0, 0, 1) := by simp [getR, hc1]
  rw [e]
  refine go0 ?_
  refine J_cond rfl (fun _ => ?_) (fun h => Bool.noConfusion h)
  refine go0 ?_
  exact J_done hT rfl rfl rfl
 have hc1 : ¬ a < 0 := of_decide_eq_false hc
 refine go0 ?_
 refine J_yes rfl rfl rfl (opr_len_rd hT rfl rfl hs.rd) ?_
 rw [bv_length]
 refine go0 ?_
 refine J_cond rfl (fun hd => ?_) (fun hd => ?_)
 ·have hd1 : a > (l.length : Int) := of_decide_eq_true hd
  have e : getR l a n = (0, 0, 1) := by simp [getR, hd1]
  rw [e]
  refine go0 ?_
  exact J_done hT rfl rfl rfl
 have hd1 : ¬ a > (l.length : Int) := of_decide_eq_false hd
 refine go0 ?_
 refine J_loop (ι := RGetI l a n) (fun i => [(0, .p s), (1, .p (.int .i64 a)), (2, .p (.int .i64 w)), (9, .p (.int .u64 (beV ((l.drop a.toNat).take i.i)))), (10, .p (.int .i64 i.i))]) (fun _ => H) (fun _ => []) (fun i => n - i.i) ⟨0, by omega, by omega⟩ ⟨rfl, rfl, rfl, by simp [beV]; rfl, rfl, trivial⟩ rfl rfl fun i => ?_
 obtain ⟨i, hi, hi2⟩ := i
 dsimp only
 refine go0 ?_
 refine J_op rfl rfl (opr_call0 rfl rfl rfl rfl rfl hw) ?_
 refine go0 ?_
 refine J_cond rfl (fun hf => ?_) (fun hf => ?_)
 ·have hf1 : (i : Int) < n := of_decide_eq_true hf
  have e27 : IntKind.i64.wrap (a + (i : Int)) = a + (i : Int) := IntWalk.i64_in _ (by omega)
  refine go0 ?_
  refine J_op rfl rfl (opr_len_rd hT rfl rfl hs.rd) ?_
  rw [bv_length]
  refine go0 ?_
  refine J_cond rfl (fun hg => ?_) (fun hg => ?_)
  ·have hg1 := of_decide_eq_true hg
   rw [e27] at hg1
   have e : getR l a n = (0, 0, 3) := by simp only [getR]; rw [if_neg (by omega), if_pos (by omega)]
   rw [e]
   refine go0 ?_
   exact J_done hT rfl rfl rfl
  ·have hg1 := of_decide_eq_false hg
   rw [e27] at hg1
   have hk : l[(a + (i : Int)).toNat]? = some (l[(a + (i : Int)).toNat]'(by omega)) := List.getElem?_eq_getElem _
   generalize l[(a + (i : Int)).toNat]'(by omega) = b at hk
   have htk : (l.drop a.toNat).take (i + 1) = (l.drop a.toNat).take i ++ [b] := by
    rw [List.take_add_one, List.getElem?_drop, show a.toNat + i = (a + (i : Int)).toNat by omega, hk]; rfl
   have hbd := beV_bound ((l.drop a.toNat).take i)
   have hlt : beV ((l.drop a.toNat).take i) < 72057594037927936 := beV_7 (by simp; omega)
   have hb2 := b.toNat_lt
   have e40 : IntKind.u64.wrap (IntKind.u64.wrap (256 * beV ((l.drop a.toNat).take i)) + IntKind.u64.wrap (b.toNat : Int)) = beV ((l.drop a.toNat).take (i + 1)) := by
    rw [htk, beV_snoc, u64_in (b.toNat : Int) (by omega), u64_in (256 * beV ((l.drop a.toNat).take i)) (by omega), u64_in _ (by omega)]
   refine go0 ?_
   refine J_val 36 _ rfl (congrArg (fun z => TV.p (.int .i64 z)) e27) ?_
   refine J_op rfl rfl (opr_index hT rfl rfl rfl rfl rfl hs.rd (by omega) (by rw [bv_length]; omega)) ?_
   refine J_op rfl rfl (opr_load_el hT rfl rfl hs.rd (by rw [bv_get, hk]; rfl) rfl rfl) ?_
   refine go0 ?_
   have e24 : IntKind.i64.wrap ((i : Int) + 1) = ((i + 1 : Nat) : Int) := by rw [IntWalk.i64_in _ (by omega)]; rfl
   exact J_again (ι := RGetI l a n) (i := ⟨i, hi, hi2⟩) ⟨i + 1, by omega, by omega⟩ (by dsimp only; omega) ⟨rfl, rfl, rfl, congrArg (fun z => TV.p (.int .u64 z)) e40, congrArg (fun z => TV.p (.int .i64 z)) e24, trivial⟩ rfl rfl
 ·have hf1 : ¬ (i : Int) < n := of_decide_eq_false hf
  obtain rfl : i = n := by omega
  have e : getR l a i = (beV ((l.drop a.toNat).take i), a + i, 0) := by simp only [getR]; rw [if_neg (by omega), if_neg (by omega)]
  have e45 : IntKind.i64.wrap (a + (i : Int)) = a + (i : Int) := IntWalk.i64_in _ (by omega)
  rw [e]
  refine go0 ?_
  refine J_op rfl rfl (opr_call0 rfl rfl rfl rfl rfl hw) ?_
  refine go0 ?_
  refine J_val 7 _ rfl (congrArg (fun z => TV.p (.int .i64 z)) e45) ?_
  exact J_done hT rfl rfl rfl
structure RTxtI (l : List UInt8) (p v : Int) where
 i : Nat
 h : (i : Int) ≤ v
 h2 : p + i ≤ l.length
namespace packGets
end packGets
end Go.Proofs.YtdkegmmigongoaaGreatDoor
namespace Go.Proofs.YtdkegmmigongoaaGreatDoor
set_option maxRecDepth 20000
open Go.Awp
namespace packPuts
end packPuts
end Go.Proofs.YtdkegmmigongoaaGreatDoor
namespace Go.Proofs.YtdkegmmigongoaaGreatDoor
set_option maxRecDepth 20000
open Go.Awp
def keyH (k n : Int) : List UInt8 := UInt8.ofNat k.toNat :: beB 4 n
theorem kof_spec (k n : Int) (hk : 0 ≤ k ∧ k ≤ 255) (hn : 0 ≤ n ∧ n ≤ 4294967295) (H : List AObj) : Con Tryz.prog 136 [.p (.int .u8 k), .p (.int .u32 n)] H (.p (.ps (bv (keyH k n)))) H [] := by
 have p1 := put_spec (.ps [UInt8.ofNat k.toNat]) 4 n hn.1 (by unfold big; simp) H
 rw [show (wide 4).toNat = 4 by decide] at p1
 have e6 : AV.int .u8 k = .int .u8 ((UInt8.ofNat k.toNat).toNat : Int) := by
  congr 1; simp; omega
 have e8 : IntKind.u64.wrap n = n := u64_in _ (by omega)
 refine con_of Tryz.func136 rfl (by kernel_rfl) rfl fun F w0 β0 => ?_
 refine goN ?_
 refine J_val 8 _ rfl (congrArg (fun z => TV.p (.int .u64 z)) e8) ?_
 refine J_val 6 (.p (.ps (bv [UInt8.ofNat k.toNat]))) rfl (congrArg (fun z => TV.p (.ps [z])) e6) ?_
 refine J_op rfl rfl (opr_call0 rfl rfl rfl rfl rfl p1) ?_
 refine goN ?_
 exact J_done hT rfl rfl rfl
theorem rof_spec (k n : Int) (hk : 0 ≤ k ∧ k ≤ 255) (hn : 0 ≤ n ∧ n ≤ 4294967295) (H : List AObj) : Con Tryz.prog 112 [.p (.int .u8 k), .p (.int .u32 n)] H (.p (.str (keyH k n))) H [] := by
 have p1 := (rput_spec (.ps [UInt8.ofNat k.toNat]) 4 n (by omega) (by unfold big; simp) H).freeze (by simp [beB_len]; omega)
 rw [show (wide 4).toNat = 4 by decide] at p1
 have e6 : AV.int .u8 k = .int .u8 ((UInt8.ofNat k.toNat).toNat : Int) := by
  congr 1; simp; omega
 have e8 : IntKind.u64.wrap n = n := u64_in _ (by omega)
 refine con_of Tryz.func112 rfl (by kernel_rfl) rfl fun F w0 β0 => ?_
 refine goN ?_
 refine J_val 8 _ rfl (congrArg (fun z => TV.p (.int .u64 z)) e8) ?_
 refine J_val 6 (.p (.ps (bv [UInt8.ofNat k.toNat]))) rfl (congrArg (fun z => TV.p (.ps [z])) e6) ?_
 refine J_op rfl rfl (opr_call0 rfl rfl rfl rfl rfl p1) ?_
 refine J_op rfl rfl (opr_to_str (l := keyH k n) hT rfl rfl rfl rfl rfl (.ps _)) ?_
 refine goN ?_
 exact J_done hT rfl rfl rfl
theorem keyH_len (k n : Int) : (keyH k n).length = 5 := by simp [keyH, beB_len]
theorem kinode_spec (n : Int) (hn : 0 ≤ n ∧ n ≤ 4294967295) (H : List AObj) : Con Tryz.prog 107 [.p (.int .u32 n)] H (.p (.str (keyH 73 n))) H [] := by
 refine con_of Tryz.func107 rfl (by kernel_rfl) rfl fun F w0 β0 => ?_
 refine goN ?_
 refine J_op rfl rfl (opr_call0 rfl rfl rfl rfl rfl (kof_spec 73 n (by decide) hn H)) ?_
 refine J_op rfl rfl (opr_to_str (l := keyH 73 n) hT rfl rfl rfl rfl rfl (.ps _)) ?_
 refine goN ?_
 exact J_done hT rfl rfl rfl
def entryK (n : Int) (m : List UInt8) : List UInt8 := if m.length > 32 then [] else keyH 69 n ++ m
theorem kentry_spec (n : Int) (m : List UInt8) (hn : 0 ≤ n ∧ n ≤ 4294967295) (H : List AObj) : Con Tryz.prog 163 [.p (.int .u32 n), .p (.str m)] H (.p (.str (entryK n m))) H [] := by
 refine con_of Tryz.func163 rfl (by kernel_rfl) rfl fun F w0 β0 => ?_
 refine goN ?_
 refine J_cond rfl (fun hc => ?_) (fun hc => ?_)
 ·have hc1 : (m.length : Int) > 32 := of_decide_eq_true hc
  have e : entryK n m = [] := by unfold entryK; rw [if_pos (by omega)]
  rw [e]
  refine goN ?_
  exact J_done hT rfl rfl rfl
 ·have hc1 : ¬ (m.length : Int) > 32 := of_decide_eq_false hc
  have e : entryK n m = keyH 69 n ++ m := by unfold entryK; rw [if_neg (by omega)]
  rw [e]
  refine goN ?_
  refine J_op rfl rfl (opr_call0 rfl rfl rfl rfl rfl (kof_spec 69 n (by decide) hn H)) ?_
  refine J_op rfl rfl (opr_to_str (l := keyH 69 n) hT rfl rfl rfl rfl rfl (.ps _)) ?_
  refine goN ?_
  refine J_op rfl rfl (opr_cat rfl rfl rfl (by rw [keyH_len]; omega)) ?_
  refine goN ?_
  exact J_done hT rfl rfl rfl
def blockK (n i : Int) : List UInt8 := if i < 0 ∨ i > 65535 then [] else keyH 68 n ++ beB 2 i
set_option maxHeartbeats 4000000 in
theorem kblock_spec (n i : Int) (hn : 0 ≤ n ∧ n ≤ 4294967295) (H : List AObj) : Con Tryz.prog 170 [.p (.int .u32 n), .p (.int .i64 i)] H (.p (.str (blockK n i))) H [] := by
 refine con_of Tryz.func170 rfl (by kernel_rfl) rfl fun F w0 β0 => ?_
 refine goN ?_
 refine J_split 7 rfl (fun hc => ?_) (fun hc => ?_)
 ·have hc1 : i < 0 := of_decide_eq_true hc
  have e : blockK n i = [] := by unfold blockK; rw [if_pos (.inl hc1)]
  rw [e]
  refine goN ?_
  refine J_cond rfl (fun _ => ?_) (fun h => Bool.noConfusion h)
  refine goN ?_
  exact J_done hT rfl rfl rfl
 have hc1 : ¬ i < 0 := of_decide_eq_false hc
 refine goN ?_
 refine J_cond rfl (fun hd => ?_) (fun hd => ?_)
 ·have hd1 : i > 65535 := of_decide_eq_true hd
  have e : blockK n i = [] := by unfold blockK; rw [if_pos (.inr hd1)]
  rw [e]
  refine goN ?_
  exact J_done hT rfl rfl rfl
 have hd1 : ¬ i > 65535 := of_decide_eq_false hd
 have e : blockK n i = keyH 68 n ++ beB 2 i := by unfold blockK; rw [if_neg (by omega)]
 have p1 := put_spec (.ps (keyH 68 n)) 2 i (by omega) (by rw [keyH_len]; decide) H
 rw [show (wide 2).toNat = 2 by decide] at p1
 have e14 : IntKind.u64.wrap i = i := u64_in _ (by omega)
 rw [e]
 refine goN ?_
 refine J_op rfl rfl (opr_call0 rfl rfl rfl rfl rfl (kof_spec 68 n (by decide) hn H)) ?_
 refine goN ?_
 refine J_val 14 _ rfl (congrArg (fun z => TV.p (.int .u64 z)) e14) ?_
 refine J_op rfl rfl (opr_call0 rfl rfl rfl rfl rfl p1) ?_
 refine J_op rfl rfl (opr_to_str (l := keyH 68 n ++ beB 2 i) hT rfl rfl rfl rfl rfl (.ps _)) ?_
 refine goN ?_
 exact J_done hT rfl rfl rfl
set_option maxHeartbeats 4000000 in
theorem rblock_spec (n i : Int) (hn : 0 ≤ n ∧ n ≤ 4294967295) (H : List AObj) : Con Tryz.prog 67 [.p (.int .u32 n), .p (.int .i64 i)] H (.p (.str (blockK n i))) H [] := by
 refine con_of Tryz.func67 rfl (by kernel_rfl) rfl fun F w0 β0 => ?_
 refine goN ?_
 refine J_split 7 rfl (fun hc => ?_) (fun hc => ?_)
 ·have hc1 : i < 0 := of_decide_eq_true hc
  have e : blockK n i = [] := by unfold blockK; rw [if_pos (.inl hc1)]
  rw [e]
  refine goN ?_
  refine J_cond rfl (fun _ => ?_) (fun h => Bool.noConfusion h)
  refine goN ?_
  exact J_done hT rfl rfl rfl
 have hc1 : ¬ i < 0 := of_decide_eq_false hc
 refine goN ?_
 refine J_cond rfl (fun hd => ?_) (fun hd => ?_)
 ·have hd1 : i ≥ 65536 := of_decide_eq_true hd
  have e : blockK n i = [] := by unfold blockK; rw [if_pos (.inr (by omega))]
  rw [e]
  refine goN ?_
  exact J_done hT rfl rfl rfl
 have hd1 : ¬ i ≥ 65536 := of_decide_eq_false hd
 have e : blockK n i = keyH 68 n ++ beB 2 i := by unfold blockK; rw [if_neg (by omega)]
 have e2 : [AV.int .u8 (IntKind.u8.wrap (IntKind.i64.wrap (i.tdiv 256))), AV.int .u8 (IntKind.u8.wrap (i.tmod 256))] = bv (beB 2 i) := by
  rw [Int.tdiv_eq_ediv_of_nonneg (by omega), Int.tmod_eq_emod_of_nonneg (by omega), IntWalk.i64_in (i / 256) (by omega), byte_of (i / 256) (by omega), byte_of (i % 256) (by omega), Int.emod_emod]
  simp [beB, bv]
 rw [e]
 refine goN ?_
 refine J_weak [(0, .p (.int .u32 n)), (1, .p (.int .i64 i))] ⟨rfl, rfl, trivial⟩ ?_
 refine J_draw [[]] [] (by kernel_rfl) (by kernel_rfl) rfl ?_
 repeat (first | refine T_nil ?_ | refine T_no rfl rfl rfl rfl ?_ | refine T_yes rfl rfl rfl rfl rfl rfl (stepN_ok hT rfl) rfl ?_ | refine T_op rfl rfl rfl rfl rfl (stepN_ok hT rfl) rfl ?_)
 refine T_op rfl rfl rfl rfl rfl (opr_call0 rfl rfl rfl rfl rfl (rof_spec 68 n (by decide) hn H)) rfl ?_
 repeat (first | refine T_nil ?_ | refine T_no rfl rfl rfl rfl ?_ | refine T_yes rfl rfl rfl rfl rfl rfl (stepN_ok hT rfl) rfl ?_ | refine T_op rfl rfl rfl rfl rfl (stepN_ok hT rfl) rfl ?_)
 refine T_op rfl rfl rfl rfl rfl (opr_lit hT rfl rfl rfl rfl) rfl ?_
 refine T_op rfl rfl rfl rfl rfl (opr_to_str (l := beB 2 i) hT rfl rfl rfl rfl rfl (by rw [← e2]; exact .ps _)) rfl ?_
 refine T_op rfl rfl rfl rfl rfl (opr_cat rfl rfl rfl (by rw [keyH_len, beB_len]; decide)) rfl ?_
 repeat (first | refine T_nil ?_ | refine T_no rfl rfl rfl rfl ?_ | refine T_yes rfl rfl rfl rfl rfl rfl (stepN_ok hT rfl) rfl ?_ | refine T_op rfl rfl rfl rfl rfl (stepN_ok hT rfl) rfl ?_)
 refine goN ?_
 exact J_done hT rfl rfl rfl
end Go.Proofs.YtdkegmmigongoaaGreatDoor

/- The reference of chapter 03: wide, Put, PutText. -/
import Derived.Test.YtfkibkfjebppdaaGo
import Derived.Test.YtfkibkfjebppdaaF03c
-- @OLD
namespace Go.Proofs.Ytfkibkfjebppdaa
open Go.Awp
theorem rwide_spec (n : Int) (H : List AObj) : Con Try.prog 54 [.p (.int .i64 n)] H (.p (.int .i64 (wide n))) H [] := by
  refine con_of Try.func54 rfl (by kernel_rfl) rfl fun F w0 β0 => ?_
  refine go0 ?_
  refine J_cond rfl (fun hc => ?_) (fun hc => ?_)
  · have hc1 : n < 1 := of_decide_eq_true hc
    have e : wide n = 1 := by unfold wide; omega
    rw [e]
    refine go0 ?_
    exact J_done hT rfl rfl rfl
  · have hc1 : ¬ n < 1 := of_decide_eq_false hc
    refine go0 ?_
    refine J_cond rfl (fun hd => ?_) (fun hd => ?_)
    · have hd1 : n > 8 := of_decide_eq_true hd
      have e : wide n = 8 := by unfold wide; omega
      rw [e]
      refine go0 ?_
      exact J_done hT rfl rfl rfl
    · have hd1 : ¬ n > 8 := of_decide_eq_false hd
      have e : wide n = n := by unfold wide; omega
      rw [e]
      refine go0 ?_
      exact J_done hT rfl rfl rfl
/-- So many bytes of a number, the lowest first. -/
def leB : Nat → Int → List UInt8
  | 0, _ => []
  | i + 1, v => UInt8.ofNat (v % 256).toNat :: leB i (v / 256)
theorem leB_len : ∀ (i : Nat) (v : Int), (leB i v).length = i
  | 0, _ => rfl
  | i + 1, v => by simp [leB, leB_len i (v / 256)]
theorem leB_snoc : ∀ (i : Nat) (v : Int), leB (i + 1) v = leB i v ++ [UInt8.ofNat (v / 256 ^ i % 256).toNat]
  | 0, v => by simp [leB]
  | i + 1, v => by
    have ih := leB_snoc i (v / 256)
    rw [leB, ih, leB]
    have e : v / 256 / 256 ^ i = v / 256 ^ (i + 1) := by
      rw [Int.pow_succ, Int.mul_comm, ← Int.ediv_ediv_of_nonneg (by decide)]
    rw [e]
    rfl
theorem leB_rev : ∀ (i : Nat) (v : Int), (leB i v).reverse = beB i v
  | 0, _ => rfl
  | i + 1, v => by
    rw [leB_snoc, List.reverse_append, leB_rev i v]
    rfl
theorem u64_in (n : Int) (h : 0 ≤ n ∧ n ≤ 18446744073709551615) : IntKind.u64.wrap n = n := by
  simp [IntKind.wrap, IntKind.bits, IntKind.signed]
  omega
structure RP1 (n : Nat) (v : Int) where
  i : Nat
  h : i ≤ n
set_option maxHeartbeats 4000000 in
theorem rput_spec {s : AV} {l : List UInt8} (hs : Bs s l) (w v : Int) (hv : 0 ≤ v ∧ v ≤ 18446744073709551615) (hl : l.length ≤ big) (H : List AObj) :
    Con Try.prog 33 [.p s, .p (.int .i64 w), .p (.int .u64 v)] H (.sl (.l 0) (l.length + (wide w).toNat) 0 (l.length + (wide w).toNat)) H [.arr 5 true 1 (bv (l ++ beB (wide w).toNat v))] := by
  obtain ⟨n, hn⟩ : ∃ n : Nat, wide w = n := ⟨(wide w).toNat, by unfold wide; omega⟩
  have hn8 : 1 ≤ n ∧ n ≤ 8 := by unfold wide at hn; omega
  have hw : Con Try.prog 54 [.p (.int .i64 w)] H (.p (.int .i64 n)) H [] := by rw [← hn]; exact rwide_spec w H
  unfold big at hl
  rw [hn]
  refine con_of Try.func33 rfl (by kernel_rfl) rfl fun F w0 β0 => ?_
  refine go0 ?_
  refine J_op rfl rfl (opr_lit0 hT rfl rfl rfl) ?_
  refine go0 ?_
  refine J_op rfl rfl (opr_app_acc (L0 := []) (acc := []) hT rfl rfl rfl (.inr rfl) rfl rfl (.rd hs.rd) hs.not (bv_cl l) (bv_size l) (by decide) (by decide) (by simp; omega)) ?_
  refine go0 ?_
  refine J_op rfl rfl (opr_lit0 hT rfl rfl rfl) ?_
  refine go0 ?_
  refine J_loop (ι := RP1 n v) (fun i => [(1, .p (.int .i64 w)), (2, .p (.int .u64 (v / 256 ^ i.i))), (7, accT 0 .cz (bv l)), (8, accT (accL 5 1 (bv l)).length .cz (bv (leB i.i v))), (9, .p (.int .i64 i.i))]) (fun _ => H) (fun i => accL 5 1 (bv l) ++ accL 5 1 (bv (leB i.i v))) (fun i => n - i.i) ⟨0, by omega⟩ ⟨rfl, by simp; rfl, rfl, rfl, rfl, trivial⟩ rfl (by simp [leB, bv, accL]) fun i => ?_
  obtain ⟨i, hi⟩ := i
  dsimp only
  refine go0 ?_
  refine J_op rfl rfl (opr_call0 rfl rfl rfl rfl rfl hw) ?_
  refine go0 ?_
  refine J_cond rfl (fun hd => ?_) (fun hd => ?_)
  · have hd1 : (i : Int) < n := of_decide_eq_true hd
    have hq0 : 0 ≤ v / 256 ^ i := Int.ediv_nonneg hv.1 (Int.le_of_lt (Int.pow_pos (by decide)))
    have hq1 : v / 256 ^ i ≤ v := Int.ediv_le_self _ hv.1
    have e25 : IntKind.u8.wrap ((v / 256 ^ i).tmod 256) = ((UInt8.ofNat (v / 256 ^ i % 256).toNat).toNat : Int) := by
      rw [Int.tmod_eq_emod_of_nonneg hq0, byte_of _ (by omega), Int.emod_emod]
    refine go0 ?_
    refine J_weak [(1, .p (.int .i64 w)), (2, .p (.int .u64 (v / 256 ^ i))), (7, accT 0 .cz (bv l)), (9, .p (.int .i64 i)), (22, accT (accL 5 1 (bv l)).length .cz (bv (leB i v))), (26, .p (.ps (bv [UInt8.ofNat (v / 256 ^ i % 256).toNat])))] ⟨rfl, rfl, rfl, rfl, rfl, congrArg (fun z => TV.p (.ps [.int .u8 z])) e25, trivial⟩ ?_
    refine J_op rfl rfl (opr_app_acc (L0 := accL 5 1 (bv l)) (acc := bv (leB i v)) hT rfl rfl rfl (.inr rfl) rfl rfl (.rd (.ps _)) hbs_ps (bv_cl _) (bv_size _) (by decide) (by decide) (by simp [leB_len]; omega)) ?_
    refine go0 ?_
    have e29 : IntKind.u64.wrap ((v / 256 ^ i).tdiv 256) = v / 256 ^ (i + 1) := by
      have e : v / 256 ^ (i + 1) = v / 256 ^ i / 256 := by rw [Int.pow_succ, ← Int.ediv_ediv_of_nonneg (Int.le_of_lt (Int.pow_pos (by decide)))]
      rw [Int.tdiv_eq_ediv_of_nonneg hq0, u64_in _ (by omega), e]
    have e21 : IntKind.i64.wrap ((i : Int) + 1) = ((i + 1 : Nat) : Int) := by rw [IntWalk.i64_in _ (by omega)]; rfl
    have eb : bv (leB i v) ++ bv [UInt8.ofNat (v / 256 ^ i % 256).toNat] = bv (leB (i + 1) v) := by rw [leB_snoc, bv_append]
    exact J_again (ι := RP1 n v) (i := ⟨i, hi⟩) ⟨i + 1, by omega⟩ (by dsimp only; omega) ⟨rfl, congrArg (fun z => TV.p (.int .u64 z)) e29, rfl, congrArg (fun z => accT (accL 5 1 (bv l)).length .cz z) eb, congrArg (fun z => TV.p (.int .i64 z)) e21, trivial⟩ rfl (by dsimp only; rw [← eb])
  · have hd1 : ¬ (i : Int) < n := of_decide_eq_false hd
    obtain rfl : i = n := by omega
    refine go0 ?_
    refine J_op rfl rfl (opr_len_rd hT rfl rfl (Rd.acc0 (e := 5) (sz := 1) (.inr rfl))) ?_
    refine go0 ?_
    have e32 : IntKind.i64.wrap (((bv (leB i v)).length : Int) - 1) = (i : Int) - 1 - ((0 : Nat) : Int) := by rw [bv_length, leB_len, IntWalk.i64_in _ (by omega)]; omega
    refine J_freeze_acc0 8 (L0 := accL 5 1 (bv l)) (acc := bv (leB i v)) rfl rfl ?_
    have e8 : accV .cz (bv (leB i v)) = .ps (bv (leB i v)) := by
      obtain ⟨j, rfl⟩ : ∃ j, i = j + 1 := ⟨i - 1, by omega⟩
      rfl
    refine J_take (accL 5 1 (bv l)).length [(7, accT 0 .cz (bv l)), (8, .p (.ps (bv (leB i v)))), (10, .p (.int .i64 ((i : Int) - 1 - ((0 : Nat) : Int))))] ⟨rfl, congrArg TV.p e8, congrArg (fun z => TV.p (.int .i64 z)) e32, trivial⟩
      (by simp only [okEnv, TV.okL, Bool.and_true]; exact accT_okL fun h => accL_pos h) (by rw [List.take_left]; exact accL_okAll ..) ?_
    rw [List.take_left]
    refine J_loop (ι := RP1 i v) (fun j => [(7, accT 0 .cz (bv (l ++ (beB i v).take j.i))), (8, .p (.ps (bv (leB i v)))), (10, .p (.int .i64 ((i : Int) - 1 - (j.i : Int))))]) (fun _ => H) (fun j => accL 5 1 (bv (l ++ (beB i v).take j.i))) (fun j => i - j.i) ⟨0, by omega⟩ ⟨by simp; rfl, rfl, rfl, trivial⟩ rfl (by simp) fun j => ?_
    obtain ⟨j, hj⟩ := j
    dsimp only
    refine go0 ?_
    refine J_cond rfl (fun hd => ?_) (fun hd => ?_)
    · have hd2 : (i : Int) - 1 - j ≥ 0 := of_decide_eq_true hd
      obtain ⟨q, hq⟩ : ∃ q : Nat, (i : Int) - 1 - j = q := ⟨i - 1 - j, by omega⟩
      obtain ⟨b, hb⟩ : ∃ b, (leB i v)[q]? = some b := ⟨(leB i v)[q]'(by rw [leB_len]; omega), List.getElem?_eq_getElem _⟩
      have hb2 : (beB i v)[j]? = some b := by
        rw [← leB_rev, List.getElem?_reverse (by rw [leB_len]; omega), leB_len, show i - 1 - j = q by omega]
        exact hb
      have htk : (beB i v).take (j + 1) = (beB i v).take j ++ [b] := by rw [List.take_add_one, hb2]; rfl
      refine go0 ?_
      refine J_val 39 _ rfl (congrArg (fun z => TV.p (.int .i64 z)) hq) ?_
      refine J_op rfl rfl (opr_index hT rfl rfl rfl rfl rfl (.ps _) (by omega) (by rw [bv_length, leB_len]; omega)) ?_
      refine J_op rfl rfl (opr_load_el hT rfl rfl (.ps _) (by rw [bv_get, Int.toNat_natCast, hb]; rfl) rfl rfl) ?_
      refine go0 ?_
      refine J_op rfl rfl (opr_app_acc (L0 := []) (acc := bv (l ++ (beB i v).take j)) (rows := bv [b]) hT rfl rfl rfl (.inr rfl) rfl rfl (.rd (.ps _)) hbs_ps (bv_cl [b]) (bv_size [b]) (by decide) (by decide) (by simp [beB_len]; omega)) ?_
      refine go0 ?_
      have eb : bv (l ++ (beB i v).take j) ++ bv [b] = bv (l ++ (beB i v).take (j + 1)) := by rw [htk, ← List.append_assoc, bv_append (l ++ _)]
      have e36 : IntKind.i64.wrap ((i : Int) - 1 - j - 1) = (i : Int) - 1 - ((j + 1 : Nat) : Int) := by rw [IntWalk.i64_in _ (by omega)]; omega
      exact J_again (ι := RP1 i v) (i := ⟨j, hj⟩) ⟨j + 1, by omega⟩ (by dsimp only; omega) ⟨congrArg (fun z => accT 0 .cz z) eb, rfl, congrArg (fun z => TV.p (.int .i64 z)) e36, trivial⟩ rfl (by dsimp only; rw [← eb]; rfl)
    · have hd2 : ¬ (i : Int) - 1 - j ≥ 0 := of_decide_eq_false hd
      obtain rfl : j = i := by omega
      refine go0 ?_
      have et : (beB j v).take j = beB j v := List.take_of_length_le (by rw [beB_len]; exact Nat.le_refl _)
      have hne : bv (l ++ beB j v) ≠ [] := by
        intro h
        have := congrArg List.length h
        simp [beB_len] at this
        omega
      rw [et]
      have e6 : accT 0 .cz (bv (l ++ beB j v)) = .sl (.l 0) (l.length + ((j : Int)).toNat) 0 (l.length + ((j : Int)).toNat) := by
        rw [accT_ne hne, Int.toNat_natCast]; simp [beB_len]
      rw [← e6]
      have e7 : accL 5 1 (bv (l ++ beB j v)) = [.arr 5 true 1 (bv (l ++ beB ((j : Int)).toNat v))] := by
        rw [accL_ne hne, Int.toNat_natCast]
      rw [← e7]
      exact J_give hT rfl rfl
set_option maxHeartbeats 4000000 in
theorem rputtext_spec {s : AV} {l : List UInt8} (hs : Bs s l) (m : List UInt8) (hl : l.length ≤ big) (hm : m.length ≤ 9223372036854775807) (H : List AObj) :
    Con Try.prog 34 [.p s, .p (.str m)] H (.p (.ps (bv (l ++ txt m)))) H [] := by
  refine con_of Try.func34 rfl (by kernel_rfl) rfl fun F w0 β0 => ?_
  refine go0 ?_
  have h1 : (wide 1).toNat = 1 := by decide
  -- the text, cut
  obtain ⟨k, hk⟩ : ∃ k, k = min m.length 255 := ⟨_, rfl⟩
  have hkl : (m.take k).length = k := by simp; omega
  have fin : ∀ b : UInt8, b = UInt8.ofNat k → bv (l ++ [b]) ++ (m.take k).map (fun b => AV.int .u8 b.toNat) = bv (l ++ txt m) := fun b hb => by
    rw [show (m.take k).map (fun b => AV.int .u8 b.toNat) = bv (m.take k) from rfl, ← bv_append]
    simp [txt, ← hk, hb]
  refine J_join [(0, .p s), (1, .p (.str (m.take k)))] H [] ?_ ?_
  · refine J_cond rfl (fun hc => ?_) (fun hc => ?_)
    · have hc1 : (m.length : Int) > 255 := of_decide_eq_true hc
      refine go0 ?_
      refine J_op rfl rfl (opr_cut_str hT rfl rfl rfl rfl rfl (by omega) (by omega) (by omega)) ?_
      refine go0 ?_
      have e10 : (m.drop (0 : Int).toNat).take ((255 : Int).toNat - (0 : Int).toNat) = m.take k := by
        rw [show k = 255 by omega]; rfl
      exact J_at ⟨rfl, congrArg (fun z => TV.p (.str z)) e10, trivial⟩ rfl rfl
    · have hc1 : ¬ (m.length : Int) > 255 := of_decide_eq_false hc
      refine go0 ?_
      have e10 : m = m.take k := by rw [List.take_of_length_le (by omega)]
      exact J_at ⟨rfl, congrArg (fun z => TV.p (.str z)) e10, trivial⟩ rfl rfl
  · refine go0 ?_
    have e14 : IntKind.u64.wrap (((m.take k).length : Nat) : Int) = (k : Int) := by rw [hkl, u64_in _ (by omega)]
    refine J_val 14 _ rfl (congrArg (fun z => TV.p (.int .u64 z)) e14) ?_
    refine J_op rfl rfl (opr_call rfl rfl rfl rfl (rput_spec hs 1 (k : Int) (by omega) hl H)) ?_
    refine go0 ?_
    have hb : beB (wide 1).toNat (k : Int) = [UInt8.ofNat k] := by
      rw [h1]
      simp [beB]
      rw [show ((k : Int) % 256).toNat = k by omega]
    refine J_op rfl rfl (opr_app_own hT rfl rfl rfl rfl (by rw [hb, h1]; simp) rfl rfl (.str (m.take k)) hbs_str (bv_cl _) (bv_size _) (by decide) (by rw [List.length_map, hkl, h1]; unfold big at hl; show _ * 1 ≤ _; omega)) ?_
    refine go0 ?_
    refine J_freeze_all 4 0 rfl rfl (by rw [hb, h1]; simp) ?_
    rw [← fin _ rfl, ← hb]
    exact J_done hT rfl rfl rfl
end Go.Proofs.Ytfkibkfjebppdaa

/- pack: Put. -/
import Derived.Test.YtfkibkfjebppdaaGo
import Derived.Test.YtfkibkfjebppdaaF03
-- @OLD
namespace Go.Proofs.Ytfkibkfjebppdaa
open Go.Awp
/-- So many bytes of a number, the highest first. -/
def beB : Nat → Int → List UInt8
  | 0, _ => []
  | i + 1, v => UInt8.ofNat (v / 256 ^ i % 256).toNat :: beB i v
theorem beB_len : ∀ (i : Nat) (v : Int), (beB i v).length = i
  | 0, _ => rfl
  | i + 1, v => by simp [beB, beB_len i v]
theorem byte_of (x : Int) (_ : 0 ≤ x) : IntKind.u8.wrap x = ((UInt8.ofNat (x % 256).toNat).toNat : Int) := by
  have e : IntKind.u8.wrap x = x % 256 := by
    simp [IntKind.wrap, IntKind.bits, IntKind.signed]
  rw [e]
  simp
  omega
theorem shr_div (v : Int) (i : Nat) (h : 8 * i ≤ 64) : v.fdiv (2 ^ min (8 * i) 64) = v / 256 ^ i := by
  rw [Nat.min_eq_left h, Int.pow_mul]
  exact Int.fdiv_eq_ediv_of_nonneg _ (Int.le_of_lt (Int.pow_pos (by decide)))
structure PutI (n : Nat) where
  i : Nat
  h : i ≤ n
set_option maxHeartbeats 4000000 in
theorem put_own {s : AV} {l : List UInt8} (hs : Bs s l) (w v : Int) (hv : 0 ≤ v) (hl : l.length ≤ big) (H : List AObj) :
    Con Try.prog 31 [.p s, .p (.int .i64 w), .p (.int .u64 v)] H (.sl (.l 0) (l.length + (wide w).toNat) 0 (l.length + (wide w).toNat)) H [.arr 5 true 1 (bv (l ++ beB (wide w).toNat v))] := by
  obtain ⟨n, hn⟩ : ∃ n : Nat, wide w = n := ⟨(wide w).toNat, by unfold wide; omega⟩
  have hn8 : n ≤ 8 := by unfold wide at hn; omega
  have hw : Con Try.prog 53 [.p (.int .i64 w)] H (.p (.int .i64 n)) H [] := by rw [← hn]; exact wide_spec w H
  unfold big at hl
  rw [hn]
  refine con_of Try.func31 rfl (by kernel_rfl) rfl fun F w0 β0 => ?_
  refine go0 ?_
  refine J_op rfl rfl (opr_call0 rfl rfl rfl rfl rfl hw) ?_
  refine go0 ?_
  refine J_op rfl rfl (opr_call rfl rfl rfl rfl (own_spec hs n (by omega) H)) ?_
  refine go0 ?_
  refine J_loop (ι := PutI n) (fun i => [(2, .p (.int .u64 v)), (7, .sl (.l 0) (l.length + n) 0 (l.length + n)), (14, .p (.int .i64 n)), (15, .p (.int .i64 i.i))]) (fun _ => H) (fun i => [.arr 5 true 1 (bv (l ++ (List.replicate (n - i.i) 0 ++ beB i.i v)))]) (fun i => n - i.i) ⟨0, by omega⟩ ⟨rfl, rfl, rfl, rfl, trivial⟩ rfl (by simp [beB]; rfl) fun i => ?_
  obtain ⟨i, hi⟩ := i
  dsimp only
  refine go0 ?_
  refine J_cond rfl (fun hd => ?_) (fun hd => ?_)
  · have hd1 : (i : Int) < n := of_decide_eq_true hd
    obtain ⟨d, hd2⟩ : ∃ d, n = i + d + 1 := ⟨n - i - 1, by omega⟩
    have hlen : (bv (l ++ (List.replicate (n - i) 0 ++ beB i v))).length = l.length + n := by simp [beB_len]; omega
    have hrd : Rd H [.arr 5 true 1 (bv (l ++ (List.replicate (n - i) 0 ++ beB i v)))] (.sl (.l 0) (l.length + n) 0 (l.length + n)) (bv (l ++ (List.replicate (n - i) 0 ++ beB i v))) := Rd.full rfl hlen
    have e20 : (((bv (l ++ (List.replicate (n - i) 0 ++ beB i v))).length : Nat) : Int) = ((l.length + n : Nat) : Int) := by rw [hlen]
    have e23 : IntKind.i64.wrap (IntKind.i64.wrap (((l.length + n : Nat) : Int) - 1) - i) = ((l.length + d : Nat) : Int) := by rw [IntWalk.i64_in (((l.length + n : Nat) : Int) - 1) (by omega), IntWalk.i64_in _ (by omega)]; omega
    have e26 : IntKind.i64.wrap (8 * (i : Int)) = Int.ofNat (8 * i) := by rw [IntWalk.i64_in _ (by omega)]; rfl
    have e28 : IntKind.u8.wrap (v.fdiv (2 ^ min (8 * i) 64)) = ((UInt8.ofNat (v / 256 ^ i % 256).toNat).toNat : Int) := by
      rw [shr_div v i (by omega)]
      exact byte_of _ (Int.ediv_nonneg hv (Int.le_of_lt (Int.pow_pos (by decide))))
    refine go0 ?_
    refine J_op rfl rfl (opr_len_rd hT rfl rfl hrd) ?_
    refine J_val 20 _ rfl (congrArg (fun z => TV.p (.int .i64 z)) e20) ?_
    refine go0 ?_
    refine J_val 23 _ rfl (congrArg (fun z => TV.p (.int .i64 z)) e23) ?_
    refine go0 ?_
    refine J_val 26 _ rfl (congrArg (fun z => TV.p (.int .i64 z)) e26) ?_
    refine go0 ?_
    refine J_val 28 _ rfl (congrArg (fun z => TV.p (.int .u8 z)) e28) ?_
    have hk : ((bv (l ++ (List.replicate (n - i) 0 ++ beB i v))))[0 + (l.length + d)]? = some (.int .u8 0) := by
      rw [bv_get, Nat.zero_add, List.getElem?_append_right (by omega), List.getElem?_append_left (by simp; omega), List.getElem?_replicate, if_pos (by omega)]
      rfl
    refine J_op rfl rfl (opr_index hT rfl rfl rfl rfl rfl hrd (by omega) (by rw [hlen]; omega)) ?_
    refine J_op rfl rfl (opr_storeEl hT rfl rfl rfl hlen rfl rfl rfl hk rfl (Nat.le_of_ble_eq_true rfl) (by simp [cl]) (fun _ => rfl)) ?_
    refine go0 ?_
    have e16 : IntKind.i64.wrap ((i : Int) + 1) = ((i + 1 : Nat) : Int) := by rw [IntWalk.i64_in _ (by omega)]; rfl
    have eL : (bv (l ++ (List.replicate (n - i) 0 ++ beB i v))).set (0 + (l.length + d)) (.int .u8 ((UInt8.ofNat (v / 256 ^ i % 256).toNat).toNat : Int)) = bv (l ++ (List.replicate (n - (i + 1)) 0 ++ beB (i + 1) v)) := by
      rw [bv_set, Nat.zero_add, List.set_append_right _ _ (by omega), Nat.add_sub_cancel_left]
      congr 2
      rw [show n - i = d + 1 by omega, show n - (i + 1) = d by omega, List.replicate_succ', List.append_assoc, List.set_append_right _ _ (by simp)]
      simp [beB]
    exact J_again (ι := PutI n) (i := ⟨i, hi⟩) ⟨i + 1, by omega⟩ (by dsimp only; omega) ⟨rfl, rfl, rfl, congrArg (fun z => TV.p (.int .i64 z)) e16, trivial⟩ rfl (by dsimp only; rw [← eL]; rfl)
  · have hd1 : ¬ (i : Int) < n := of_decide_eq_false hd
    obtain rfl : i = n := by omega
    refine go0 ?_
    have e : l ++ beB ((i : Int).toNat) v = l ++ (List.replicate (i - i) 0 ++ beB i v) := by simp
    rw [e]
    exact J_give hT rfl rfl
theorem put_spec {s : AV} {l : List UInt8} (hs : Bs s l) (w v : Int) (hv : 0 ≤ v) (hl : l.length ≤ big) (H : List AObj) :
    Con Try.prog 31 [.p s, .p (.int .i64 w), .p (.int .u64 v)] H (.p (.ps (bv (l ++ beB (wide w).toNat v)))) H [] :=
  (put_own hs w v hv hl H).freeze (by simp [beB_len])
end Go.Proofs.Ytfkibkfjebppdaa

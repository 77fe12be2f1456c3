/- pack: PutText. -/
import Derived.Test.YtfkibkfjebppdaaGo
import Derived.Test.YtfkibkfjebppdaaF03b
-- @OLD
namespace Go.Proofs.Ytfkibkfjebppdaa
open Go.Awp
/-- A text behind its length, of 255 bytes at most. -/
def txt (m : List UInt8) : List UInt8 := UInt8.ofNat (min m.length 255) :: m.take (min m.length 255)
set_option maxHeartbeats 4000000 in
theorem puttext_own {s : AV} {l : List UInt8} (hs : Bs s l) (m : List UInt8) (hl : l.length ≤ big) (hm : m.length ≤ 9223372036854775807) (H : List AObj) :
    Con Try.prog 32 [.p s, .p (.str m)] H (.sl (.l 0) (l.length + (1 + min m.length 255)) 0 (l.length + (1 + min m.length 255))) H [.arr 5 true 1 (bv (l ++ txt m))] := by
  unfold big at hl
  obtain ⟨k, hk⟩ : ∃ k, k = min m.length 255 := ⟨_, rfl⟩
  have e9 : mmA .min (m.length : Int) 255 = ((k : Nat) : Int) := by unfold mmA; simp only []; omega
  have hkl : (m.take k).length = k := by simp; omega
  refine con_of Try.func32 rfl (by kernel_rfl) rfl fun F w0 β0 => ?_
  refine go0 ?_
  refine J_val 9 _ rfl (congrArg (fun z => TV.p (.int .i64 z)) e9) ?_
  refine J_op rfl rfl (opr_cut_str hT rfl rfl rfl rfl rfl (by omega) (by omega) (by omega)) ?_
  have e10 : (m.drop (0 : Int).toNat).take (((k : Nat) : Int).toNat - (0 : Int).toNat) = m.take k := by simp
  refine J_val 10 (.p (.str (m.take k))) rfl (congrArg (fun z => TV.p (.str z)) e10) ?_
  refine go0 ?_
  have e14 : IntKind.i64.wrap (1 + ((m.take k).length : Int)) = ((1 + k : Nat) : Int) := by rw [hkl, IntWalk.i64_in _ (by omega)]; omega
  refine J_val 14 _ rfl (congrArg (fun z => TV.p (.int .i64 z)) e14) ?_
  refine J_op rfl rfl (opr_call rfl rfl rfl rfl (own_spec hs (1 + k) (by omega) H)) ?_
  refine go0 ?_
  have hlen : (bv (l ++ List.replicate (1 + k) 0)).length = l.length + (1 + k) := by simp
  have hrd : Rd H [.arr 5 true 1 (bv (l ++ List.replicate (1 + k) 0))] (.sl (.l 0) (l.length + (1 + k)) 0 (l.length + (1 + k))) (bv (l ++ List.replicate (1 + k) 0)) := Rd.full rfl hlen
  refine J_op rfl rfl (opr_len_rd hT rfl rfl hs.rd) ?_
  rw [bv_length]
  refine go0 ?_
  have e21 : IntKind.u8.wrap (((m.take k).length : Nat) : Int) = ((UInt8.ofNat k).toNat : Int) := by
    have := byte_of (k : Int) (by omega)
    rw [hkl, this, show ((k : Int) % 256).toNat = k by omega]
  refine J_val 21 _ rfl (congrArg (fun z => TV.p (.int .u8 z)) e21) ?_
  refine J_op rfl rfl (opr_index hT rfl rfl rfl rfl rfl hrd (by omega) (by rw [hlen]; omega)) ?_
  have hg : (bv (l ++ List.replicate (1 + k) 0))[0 + l.length]? = some (.int .u8 0) := by
    rw [bv_get, Nat.zero_add, List.getElem?_append_right (by omega), List.getElem?_replicate, if_pos (by omega)]
    rfl
  refine J_op rfl rfl (opr_storeEl hT rfl rfl rfl hlen rfl rfl rfl hg rfl (Nat.le_of_ble_eq_true rfl) (by simp [cl]) (fun _ => rfl)) ?_
  have eL : (bv (l ++ List.replicate (1 + k) 0)).set (0 + l.length) (.int .u8 ((UInt8.ofNat k).toNat : Int)) = bv (l ++ (UInt8.ofNat k :: List.replicate k 0)) := by
    rw [bv_set, Nat.zero_add, List.set_append_right _ _ (by omega), Nat.sub_self, Nat.add_comm 1 k, List.replicate_succ]
    rfl
  refine J_weak [(0, .p s), (1, .p (.str (m.take k))), (5, .sl (.l 0) (l.length + (1 + k)) 0 (l.length + (1 + k)))] ⟨rfl, rfl, rfl, trivial⟩ ?_
  have hlen2 : (bv (l ++ (UInt8.ofNat k :: List.replicate k 0))).length = l.length + (1 + k) := by simp; omega
  have hrd2 : Rd H [.arr 5 true 1 (bv (l ++ (UInt8.ofNat k :: List.replicate k 0)))] (.sl (.l 0) (l.length + (1 + k)) 0 (l.length + (1 + k))) (bv (l ++ (UInt8.ofNat k :: List.replicate k 0))) := Rd.full rfl hlen2
  have eLL : [AObj.arr 5 true 1 (bv (l ++ List.replicate (1 + k) 0))].set 0 (.arr 5 true 1 ((bv (l ++ List.replicate (1 + k) 0)).set (0 + l.length) (rowSet (.int .u8 0) 0 [.int .u8 ((UInt8.ofNat k).toNat : Int)]))) = [.arr 5 true 1 (bv (l ++ (UInt8.ofNat k :: List.replicate k 0)))] := by
    rw [← eL]; rfl
  change J _ _ _ ([AObj.arr 5 true 1 (bv (l ++ List.replicate (1 + k) 0))].set 0 (.arr 5 true 1 ((bv (l ++ List.replicate (1 + k) 0)).set (0 + l.length) (rowSet (.int .u8 0) 0 [.int .u8 ((UInt8.ofNat k).toNat : Int)])))) _
  rw [eLL]
  refine go0 ?_
  refine J_op rfl rfl (opr_len_rd hT rfl rfl hs.rd) ?_
  rw [bv_length]
  refine go0 ?_
  have e26 : IntKind.i64.wrap ((l.length : Int) + 1) = ((l.length + 1 : Nat) : Int) := by rw [IntWalk.i64_in _ (by omega)]; rfl
  refine J_val 26 _ rfl (congrArg (fun z => TV.p (.int .i64 z)) e26) ?_
  refine J_op rfl rfl (opr_cut hT rfl rfl rfl rfl hrd2 rfl rfl (by omega) (by rw [hlen2]; omega) (by omega) (bv_size _)) ?_
  have e27 : cutA (((l.length + 1 : Nat) : Int)).toNat (((bv (l ++ (UInt8.ofNat k :: List.replicate k 0))).length : Int)).toNat (.sl (.l 0) (l.length + (1 + k)) 0 (l.length + (1 + k))) = .sl (.l 0) (l.length + (1 + k)) (l.length + 1) k := by
    rw [hlen2]
    simp only [cutA, Int.toNat_natCast, Nat.zero_add]
    congr 1
    omega
  refine J_val 27 _ rfl e27 ?_
  refine go0 ?_
  refine J_op rfl rfl (opr_copy hT rfl rfl rfl rfl hlen2 rfl (.str (m.take k)) hbs_str (bv_cl _) (bv_size _) (by rw [List.length_map, hkl]; exact Nat.le_refl _) ?_) ?_
  · rcases Nat.eq_zero_or_pos k with h | h
    · exact .inr (.inr (by rw [h]; rfl))
    · exact .inl h
  refine go0 ?_
  have eF : (bv (l ++ (UInt8.ofNat k :: List.replicate k 0))).take (l.length + 1) ++ bv (m.take k) ++ (bv (l ++ (UInt8.ofNat k :: List.replicate k 0))).drop (l.length + 1 + (bv (m.take k)).length) = bv (l ++ txt m) := by
    rw [bv_take, bv_drop, bv_length, hkl, ← bv_append, ← bv_append]
    congr 1
    rw [List.take_append, List.drop_append, List.take_of_length_le (show l.length ≤ l.length + 1 by omega), List.drop_of_length_le (show l.length ≤ l.length + 1 + k by omega)]
    rw [show l.length + 1 - l.length = 1 by omega, show l.length + 1 + k - l.length = k + 1 by omega, List.drop_of_length_le (by simp)]
    simp [txt, ← hk]
  rw [← eF, ← hk]
  exact J_give hT rfl rfl
theorem puttext_spec {s : AV} {l : List UInt8} (hs : Bs s l) (m : List UInt8) (hl : l.length ≤ big) (hm : m.length ≤ 9223372036854775807) (H : List AObj) :
    Con Try.prog 32 [.p s, .p (.str m)] H (.p (.ps (bv (l ++ txt m)))) H [] :=
  (puttext_own hs m hl hm H).freeze (by simp [txt]; omega)
end Go.Proofs.Ytfkibkfjebppdaa

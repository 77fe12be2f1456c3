/- The law PackBack: its contract (under way: the numbers). -/
import Derived.Test.YtfkibkfjebppdaaGo
import Derived.Test.YtfkibkfjebppdaaCPackPuts
-- @N
namespace Go.Proofs.Ytfkibkfjebppdaa
open Go.Awp
theorem beB_snoc (n : Nat) (v : Int) : beB (n + 1) v = beB n (v / 256) ++ [UInt8.ofNat (v % 256).toNat] := by
  rw [← leB_rev, leB, List.reverse_cons, leB_rev]
theorem beV_beB : ∀ (n x : Nat), beV (beB n (x : Int)) = ((x % 256 ^ n : Nat) : Int)
  | 0, x => by simp [beB, beV, Nat.mod_one]
  | n + 1, x => by
    have ih := beV_beB n (x / 256)
    rw [beB_snoc, beV_snoc, show (x : Int) / 256 = ((x / 256 : Nat) : Int) by omega, ih, Nat.pow_succ, Nat.mul_comm (256 ^ n) 256, Nat.mod_mul]
    have hb : ((UInt8.ofNat ((x : Int) % 256).toNat).toNat : Int) = ((x % 256 : Nat) : Int) := by simp; omega
    rw [hb]
    simp only [Int.natCast_add, Int.natCast_mul]
    omega
theorem getR_back (l m : List UInt8) (n : Nat) (v : Nat) (hv : v < 256 ^ n) : getR (l ++ beB n (v : Int) ++ m) (l.length : Int) n = ((v : Int), (l.length : Int) + n, 0) := by
  have e1 : ((l ++ beB n (v : Int) ++ m).drop l.length).take n = beB n (v : Int) := by
    rw [List.append_assoc, List.drop_left, List.take_append_of_le_length (by rw [beB_len]; exact Nat.le_refl _), List.take_of_length_le (by rw [beB_len]; exact Nat.le_refl _)]
  unfold getR
  rw [if_neg (by simp [beB_len]; omega), if_neg (by simp [beB_len]; omega), Int.toNat_natCast, e1, beV_beB, Nat.mod_eq_of_lt hv]
theorem getText_back (l m : List UInt8) (hm : m.length ≤ 255) : getTextR (l ++ txt m) (l.length : Int) 255 = (m, ((l ++ txt m).length : Int), 0) := by
  have ht : txt m = UInt8.ofNat m.length :: m := by
    simp [txt, Nat.min_eq_left hm]
  have e0 : beB 1 ((m.length : Nat) : Int) = [UInt8.ofNat m.length] := by
    simp [beB]
    rw [show ((m.length : Int) % 256).toNat = m.length by omega]
  have hr : getR (l ++ txt m) (l.length : Int) 1 = ((m.length : Int), (l.length : Int) + 1, 0) := by
    have := getR_back l m 1 m.length (by omega)
    rw [e0, List.append_assoc] at this
    rw [ht]
    exact this
  unfold getTextR
  rw [hr]
  have e2 : ((l ++ txt m).drop (l.length + 1)).take m.length = m := by
    rw [ht, List.drop_append, List.drop_of_length_le (show l.length ≤ l.length + 1 by omega), show l.length + 1 - l.length = 1 by omega]
    simp
  have e3 : ((l.length : Int) + 1).toNat = l.length + 1 := by omega
  have e4 : (l ++ txt m).length = l.length + 1 + m.length := by rw [ht]; simp; omega
  simp only []
  rw [if_neg (by simp), if_neg (by omega), if_neg (by rw [e4]; omega), e3, Int.toNat_natCast, e2, e4]
  simp only [Prod.mk.injEq, true_and, and_true]
  omega
theorem shl_rem (x n : Nat) (h0 : 1 ≤ n) (h : n < 8) : (x : Int).tmod (IntKind.u64.wrap (1 * 2 ^ min (8 * n) 64)) = ((x % 256 ^ n : Nat) : Int) := by
  have hc : n = 1 ∨ n = 2 ∨ n = 3 ∨ n = 4 ∨ n = 5 ∨ n = 6 ∨ n = 7 := by omega
  have e : IntKind.u64.wrap (1 * 2 ^ min (8 * n) 64) = ((256 ^ n : Nat) : Int) := by
    rcases hc with rfl | rfl | rfl | rfl | rfl | rfl | rfl <;> decide
  rw [e, Int.tmod_eq_emod_of_nonneg (by omega)]
  rfl
namespace packBack
set_option maxHeartbeats 8000000 in
theorem con {a0 a1 a2 a3 : AV} (s0 : Shp tab 8 40 a0) (s1 : Shp tab 8 5 a1) (s2 : Shp tab 8 41 a2) (s3 : Shp tab 8 9 a3) : Con Try.prog 10 [.p a0, .p a1, .p a2, .p a3] [] (.p (.bool true)) [] [] := by
  obtain ⟨l, hs, hl⟩ := shp_bytes s0
  obtain ⟨k, rfl, hk⟩ := s1.int rfl
  obtain ⟨v, rfl, hv⟩ := s2.int rfl
  obtain ⟨m, rfl, _⟩ := s3.str rfl
  change 0 ≤ k ∧ k ≤ 255 at hk
  change 0 ≤ v ∧ v ≤ 18446744073709551615 at hv
  obtain ⟨x, rfl⟩ : ∃ x : Nat, v = x := ⟨v.toNat, by omega⟩
  obtain ⟨n, hn⟩ : ∃ n : Nat, (n : Int) = 1 + k % 8 := ⟨(1 + k % 8).toNat, by omega⟩
  have hn8 : 1 ≤ n ∧ n ≤ 8 := by omega
  have e29 : IntKind.i64.wrap (1 + IntKind.i64.wrap (k.tmod 8)) = (n : Int) := by
    rw [Int.tmod_eq_emod_of_nonneg hk.1, IntWalk.i64_in (k % 8) (by omega), IntWalk.i64_in _ (by omega)]; omega
  refine con_of Try.func10 rfl (by kernel_rfl) rfl fun F w0 β0 => ?_
  refine goN ?_
  refine J_op rfl rfl (opr_len_rd hT rfl rfl hs.rd) ?_
  refine goN ?_
  refine J_split 20 rfl (fun hc => ?_) (fun hc => ?_)
  · refine goN ?_
    refine J_cond rfl (fun _ => ?_) (fun h => Bool.noConfusion h)
    refine goN ?_
    refine J_op rfl rfl (opr_call0 rfl rfl rfl rfl rfl (fixed03_spec [])) ?_
    refine goN ?_
    exact J_done hT rfl rfl rfl
  refine goN ?_
  refine J_cond rfl (fun hd => ?_) (fun hd => ?_)
  · refine goN ?_
    refine J_op rfl rfl (opr_call0 rfl rfl rfl rfl rfl (fixed03_spec [])) ?_
    refine goN ?_
    exact J_done hT rfl rfl rfl
  have hm : ¬ (m.length : Int) > 255 := of_decide_eq_false hd
  have hm' : m.length ≤ 255 := by omega
  refine goN ?_
  refine J_join [(0, .p a0), (2, .p (.int .u64 ((x % 256 ^ n : Nat) : Int))), (3, .p (.str m)), (9, .p (.int .i64 n))] [] [] ?_ ?_
  · refine J_cond rfl (fun hf => ?_) (fun hf => ?_)
    · have hf1 := of_decide_eq_true hf
      rw [e29] at hf1
      have h8 : n < 8 := by omega
      have e35 := shl_rem x n hn8.1 h8
      refine J_weak [(0, .p a0), (2, .p (.int .u64 (x : Int))), (3, .p (.str m)), (9, .p (.int .i64 n))] ⟨rfl, rfl, rfl, congrArg (fun z => TV.p (.int .i64 z)) e29, trivial⟩ ?_
      clear e29 hn hf hf1
      have hc : n = 1 ∨ n = 2 ∨ n = 3 ∨ n = 4 ∨ n = 5 ∨ n = 6 ∨ n = 7 := by omega
      rcases hc with rfl | rfl | rfl | rfl | rfl | rfl | rfl
      all_goals
        refine goN ?_
        exact J_at ⟨rfl, congrArg (fun z => TV.p (.int .u64 z)) e35, rfl, rfl, trivial⟩ rfl rfl
    · have hf1 := of_decide_eq_false hf
      rw [e29] at hf1
      have h8 : n = 8 := by omega
      have ex : ((x : Nat) : Int) = ((x % 256 ^ n : Nat) : Int) := by
        rw [h8, Nat.mod_eq_of_lt (by omega)]
      refine goN ?_
      exact J_at ⟨rfl, congrArg (fun z => TV.p (.int .u64 z)) ex, rfl, congrArg (fun z => TV.p (.int .i64 z)) e29, trivial⟩ rfl rfl
  have hy : x % 256 ^ n < 256 ^ n := Nat.mod_lt _ (Nat.pow_pos (by decide))
  generalize x % 256 ^ n = y at hy
  have hwn : (wide (n : Int)).toNat = n := by unfold wide; omega
  have p1 := put_spec hs (n : Int) (y : Int) (by omega) (by unfold big; omega) []
  rw [hwn] at p1
  have hl2 : (l ++ beB n (y : Int)).length = l.length + n := by simp [beB_len]
  have p2 := puttext_spec (.ps (l ++ beB n (y : Int))) m (by rw [hl2]; unfold big; omega) (by omega) []
  have hl3 : (l ++ beB n (y : Int) ++ txt m).length ≤ 140737488355328 := by rw [List.length_append, hl2]; simp [txt]; omega
  have p3 := get_spec (.ps (l ++ beB n (y : Int) ++ txt m)) (l.length : Int) (n : Int) (by omega) hl3 []
  rw [hwn, getR_back l (txt m) n y hy] at p3
  have p4 := gettext_spec (.ps (l ++ beB n (y : Int) ++ txt m)) ((l.length : Int) + n) 255 (by omega) hl3 []
  have g4 := getText_back (l ++ beB n (y : Int)) m hm'
  rw [hl2, show ((l.length + n : Nat) : Int) = (l.length : Int) + n by omega] at g4
  rw [g4] at p4
  generalize l ++ beB n (y : Int) = B at p1 p2 p3 p4
  refine goN ?_
  refine J_op rfl rfl (opr_call0 rfl rfl rfl rfl rfl p1) ?_
  refine goN ?_
  refine J_op rfl rfl (opr_call0 rfl rfl rfl rfl rfl p2) ?_
  refine goN ?_
  refine J_op rfl rfl (opr_len_rd hT rfl rfl hs.rd) ?_
  rw [bv_length]
  refine goN ?_
  refine J_op rfl rfl (opr_call0 rfl rfl rfl rfl rfl p3) ?_
  refine goN ?_
  refine J_op rfl rfl (opr_call0 rfl rfl rfl rfl rfl p4) ?_
  refine goN ?_
  refine J_op rfl rfl (opr_call0 rfl rfl rfl rfl rfl (fixed03_spec [])) ?_
  refine goN ?_
  refine J_true 65 rfl (by simp) ?_
  refine goN ?_
  refine J_true 74 rfl (by simp) ?_
  refine goN ?_
  refine J_true 8 rfl (by simp) ?_
  exact J_done hT rfl rfl rfl
end packBack
end Go.Proofs.Ytfkibkfjebppdaa

/- The law PriceOf: its contract. -/
import Derived.Test.YtfkibkfjebppdaaF23
import Derived.Test.YtfkibkfjebppdaaF15e
import Derived.Test.YtfkibkfjebppdaaGo2
import Derived.Test.YtfkibkfjebppdaaF15f
namespace Go.Proofs.Ytfkibkfjebppdaa
open Go.Awp
namespace priceOf
theorem len_pieces : ∀ (f : Nat) (o n : Int), n.toNat ≤ f → 0 ≤ o → 0 < n → ((pieces n.toNat o n).length : Int) = (o + n - 1) / 64 - o / 64 + 1
  | 0, o, n, h, _, h2 => by omega
  | f + 1, o, n, h, ho, hn => by
    rw [pieces_step o n ho hn]
    by_cases hs : n ≤ 64 - o % 64
    · rw [show n - min n (64 - o % 64) = 0 by omega]
      simp [pieces]
      omega
    · have ih := len_pieces f (o + min n (64 - o % 64)) (n - min n (64 - o % 64)) (by omega) (by omega) (by omega)
      rw [List.length_cons]
      omega
theorem cutN_good (o n : Int) (h : ¬ cutBad o n) : (cutN o n : Int) = (o + n - 1) / 64 - o / 64 + 1 := by
  unfold cutN
  rw [if_neg h]
  unfold cutBad at h
  exact len_pieces n.toNat o n (Nat.le_refl _) (by omega) (by omega)
set_option maxHeartbeats 8000000 in
theorem con {a0 a1 a2 a3 : AV} (s0 : Shp tab 8 3 a0) (s1 : Shp tab 8 3 a1) (s2 : Shp tab 8 3 a2) (s3 : Shp tab 8 9 a3) : Con Try.prog 14 [.p a0, .p a1, .p a2, .p a3] [] (.p (.bool true)) [] [] := by
  obtain ⟨size, rfl, hs⟩ := s0.int rfl
  obtain ⟨o, rfl, ho⟩ := s1.int rfl
  obtain ⟨n, rfl, hn⟩ := s2.int rfl
  obtain ⟨l, rfl, hl⟩ := s3.str rfl
  change -9223372036854775808 ≤ size ∧ size ≤ 9223372036854775807 at hs
  change -9223372036854775808 ≤ o ∧ o ≤ 9223372036854775807 at ho
  change -9223372036854775808 ≤ n ∧ n ≤ 9223372036854775807 at hn
  have p6 := fixed23_spec []
  have p1 := pfile_spec size hs []
  have p3 := pwrite_spec o n ho hn []
  have p4 := rinode_spec 7 (by decide) []
  have p5 := rnput_spec 1 1 0 0 (by decide) (by decide) (by decide) (by decide) []
  have p7 := size_spec (keyH 73 7) (nodeB 1 1 0 0) (by decide) (by decide) []
  have p8 := rblock_spec 7 1 (by decide) []
  have p9 := size_spec (blockK 7 1) (List.replicate 64 0) (by decide) (by decide) []
  rw [show (32 + ((keyH 73 7).length : Int) + ((nodeB 1 1 0 0).length : Int)) = 50 by decide] at p7
  rw [show (32 + ((blockK 7 1).length : Int) + ((List.replicate 64 (0 : UInt8)).length : Int)) = 103 by decide] at p9
  generalize keyH 73 7 = k1 at p4 p7
  generalize nodeB 1 1 0 0 = k2 at p5 p7
  generalize blockK 7 1 = k3 at p8 p9
  refine con_of Try.func14 rfl (by kernel_rfl) rfl fun F w0 β0 => ?_
  refine K_tell rfl ?_
  refine gx ?_
  refine J_cond rfl (fun hc => ?_) (fun hc => ?_)
  · refine gx ?_
    refine K_op rfl rfl (opr_callP rfl rfl (p6) rfl rfl rfl rfl) rfl ?_
    refine gx ?_
    exact J_done hT rfl rfl rfl
  have hl3 : ¬ (l.length : Int) > 3000 := of_decide_eq_false hc
  have p2 := pentry_spec l (by omega) []
  refine gx ?_
  refine J_join [(0, .p (.int .i64 size)), (1, .p (.int .i64 o)), (2, .p (.int .i64 n)), (3, .p (.str l)), (9, .p (.int .i64 (blocks size)))] [] [] ?_ ?_
  · refine J_cond rfl (fun hz => ?_) (fun hz => ?_)
    · have h0 : size > 0 := of_decide_eq_true hz
      refine gx ?_
      exact J_at ⟨rfl, rfl, rfl, rfl, congrArg (fun z => TV.p (.int .i64 z)) (by
        rw [IntWalk.i64_in (size - 1) (by omega), Int.tdiv_eq_ediv_of_nonneg (by omega), IntWalk.i64_in ((size - 1) / 64) (by omega), IntWalk.i64_in _ (by omega)]
        unfold blocks
        rw [if_neg (by omega)]), trivial⟩ rfl rfl
    · have h0 : ¬ size > 0 := of_decide_eq_false hz
      refine gx ?_
      exact J_at ⟨rfl, rfl, rfl, rfl, congrArg (fun z => TV.p (.int .i64 z)) (by
        unfold blocks
        rw [if_pos (by omega)]), trivial⟩ rfl rfl
  refine gx ?_
  have e36 : IntKind.i64.wrap (41 + (l.length : Int)) = 41 + (l.length : Int) := IntWalk.i64_in _ (by omega)
  iterate 1 (refine g1 ?_)
  refine K_opt rfl rfl rfl need1 (fun _ => opr_callP rfl rfl (p1) rfl rfl rfl rfl) rfl ?_
  iterate 6 (refine g1 ?_)
  refine J_false 32 rfl (by simp) ?_
  refine gx ?_
  refine K_yes rfl rfl rfl (opr_callP rfl rfl (p2) rfl rfl rfl rfl) rfl ?_
  refine gx ?_
  refine J_false 39 rfl (by rw [e36]; simp) ?_
  refine gx ?_
  refine K_only [1, 2, 10, 42] rfl ?_
  refine go ?_
  refine J_join [(1, .p (.int .i64 o)), (2, .p (.int .i64 n)), (10, .p (.int .i64 (cutN o n : Int)))] [] [] ?_ ?_
  · refine J_cond rfl (fun hz => ?_) (fun hz => ?_)
    · simp only [Bool.and_eq_true, decide_eq_true_eq] at hz
      have hw : IntKind.i64.wrap (4096 - o) = 4096 - o := IntWalk.i64_in _ (by omega)
      rw [hw] at hz
      have hg : ¬ cutBad o n := by unfold cutBad; omega
      refine gx ?_
      exact J_at ⟨rfl, rfl, congrArg (fun z => TV.p (.int .i64 z)) (by
        rw [cutN_good o n hg, IntWalk.i64_in (o + n) (by omega), IntWalk.i64_in (o + n - 1) (by omega), Int.tdiv_eq_ediv_of_nonneg (by omega), Int.tdiv_eq_ediv_of_nonneg (by omega), IntWalk.i64_in ((o + n - 1) / 64) (by omega), IntWalk.i64_in (o / 64) (by omega), IntWalk.i64_in (_ - _) (by omega), IntWalk.i64_in _ (by omega)]), trivial⟩ rfl rfl
    · have hg : cutBad o n := by
        refine Decidable.byContradiction fun h => ?_
        unfold cutBad at h
        have hw : IntKind.i64.wrap (4096 - o) = 4096 - o := IntWalk.i64_in _ (by omega)
        rw [hw] at hz
        have h1 : o ≥ 0 := by omega
        have h2 : n > 0 := by omega
        have h3 : o ≤ 4096 := by omega
        have h4 : n ≤ 4096 - o := by omega
        simp [h1, h2, h3, h4] at hz
      refine gx ?_
      exact J_at ⟨rfl, rfl, congrArg (fun z => TV.p (.int .i64 z)) (show (0 : Int) = _ by unfold cutN; rw [if_pos hg]; rfl), trivial⟩ rfl rfl
  have hle := cutN_le o n
  have ew : IntKind.i64.wrap (50 + IntKind.i64.wrap (103 * (cutN o n : Int))) = 50 + 103 * (cutN o n : Int) := by rw [IntWalk.i64_in (103 * _) (by omega), IntWalk.i64_in _ (by omega)]
  refine gx ?_
  refine K_only [1, 2, 10, 11] rfl ?_
  refine J_draw [[AObj.box 31 ((nodeV 1 1 0 0).map .p)]] [] (by kernel_rfl) (by kernel_rfl) rfl ?_
  refine T_op rfl rfl rfl rfl rfl (opr_call0P rfl rfl (p6) rfl rfl rfl) rfl ?_
  repeat (first | refine T_nil ?_ | refine T_no rfl rfl rfl rfl ?_ | refine T_yes rfl rfl rfl rfl rfl rfl (stepN_ok hT rfl) rfl ?_ | refine T_op rfl rfl rfl rfl rfl (stepN_ok hT rfl) rfl ?_)
  refine T_yes rfl rfl rfl rfl rfl rfl (opr_call0P rfl rfl (p3) rfl rfl rfl) rfl ?_
  repeat (first | refine T_nil ?_ | refine T_no rfl rfl rfl rfl ?_ | refine T_yes rfl rfl rfl rfl rfl rfl (stepN_ok hT rfl) rfl ?_ | refine T_op rfl rfl rfl rfl rfl (stepN_ok hT rfl) rfl ?_)
  refine T_true 10 rfl (by rw [ew]; simp) rfl ?_
  repeat (first | refine T_nil ?_ | refine T_no rfl rfl rfl rfl ?_ | refine T_yes rfl rfl rfl rfl rfl rfl (stepN_ok hT rfl) rfl ?_ | refine T_op rfl rfl rfl rfl rfl (stepN_ok hT rfl) rfl ?_)
  refine T_yes rfl rfl rfl rfl rfl rfl (opr_call0P rfl rfl (p4) rfl rfl rfl) rfl ?_
  repeat (first | refine T_nil ?_ | refine T_no rfl rfl rfl rfl ?_ | refine T_yes rfl rfl rfl rfl rfl rfl (stepN_ok hT rfl) rfl ?_ | refine T_op rfl rfl rfl rfl rfl (stepN_ok hT rfl) rfl ?_)
  refine T_yes rfl rfl rfl rfl rfl rfl (opr_call0P rfl rfl (p5) rfl rfl rfl) rfl ?_
  repeat (first | refine T_nil ?_ | refine T_no rfl rfl rfl rfl ?_ | refine T_yes rfl rfl rfl rfl rfl rfl (stepN_ok hT rfl) rfl ?_ | refine T_op rfl rfl rfl rfl rfl (stepN_ok hT rfl) rfl ?_)
  refine T_yes rfl rfl rfl rfl rfl rfl (opr_call0P rfl rfl (p7) rfl rfl rfl) rfl ?_
  repeat (first | refine T_nil ?_ | refine T_no rfl rfl rfl rfl ?_ | refine T_yes rfl rfl rfl rfl rfl rfl (stepN_ok hT rfl) rfl ?_ | refine T_op rfl rfl rfl rfl rfl (stepN_ok hT rfl) rfl ?_)
  refine T_true 17 rfl (by simp) rfl ?_
  repeat (first | refine T_nil ?_ | refine T_no rfl rfl rfl rfl ?_ | refine T_yes rfl rfl rfl rfl rfl rfl (stepN_ok hT rfl) rfl ?_ | refine T_op rfl rfl rfl rfl rfl (stepN_ok hT rfl) rfl ?_)
  refine T_yes rfl rfl rfl rfl rfl rfl (opr_call0P rfl rfl (p8) rfl rfl rfl) rfl ?_
  repeat (first | refine T_nil ?_ | refine T_no rfl rfl rfl rfl ?_ | refine T_yes rfl rfl rfl rfl rfl rfl (stepN_ok hT rfl) rfl ?_ | refine T_op rfl rfl rfl rfl rfl (stepN_ok hT rfl) rfl ?_)
  refine T_yes rfl rfl rfl rfl rfl rfl (opr_frz (opr_make (n := 64) hT rfl rfl rfl rfl rfl rfl rfl rfl rfl (by decide)) List.length_replicate rfl) rfl ?_
  refine T_yes rfl rfl rfl rfl rfl rfl (opr_to_str (l := List.replicate 64 0) hT rfl rfl rfl rfl rfl (show Rd _ _ (.p (.ps (List.replicate 64 (.int .u8 0)))) (bv (List.replicate 64 0)) from .ps _)) rfl ?_
  refine T_yes rfl rfl rfl rfl rfl rfl (opr_call0P rfl rfl (p9) rfl rfl rfl) rfl ?_
  repeat (first | refine T_nil ?_ | refine T_no rfl rfl rfl rfl ?_ | refine T_yes rfl rfl rfl rfl rfl rfl (stepN_ok hT rfl) rfl ?_ | refine T_op rfl rfl rfl rfl rfl (stepN_ok hT rfl) rfl ?_)
  refine J_then ?_
  refine K_tell rfl ?_
  refine gx ?_
  refine J_true 8 rfl (by simp) ?_
  exact J_done hT rfl rfl rfl
end priceOf
end Go.Proofs.Ytfkibkfjebppdaa

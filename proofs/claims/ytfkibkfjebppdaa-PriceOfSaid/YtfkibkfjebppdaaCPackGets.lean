/- The law PackGets: its contract. -/
import Derived.Test.YtfkibkfjebppdaaGo
import Derived.Test.YtfkibkfjebppdaaF03g
-- @N
namespace Go.Proofs.Ytfkibkfjebppdaa
open Go.Awp
theorem shp_bytes {a : AV} (h : Shp tab 8 40 a) : ∃ l, Bs a l ∧ l.length ≤ 140737488351232 := by
  rcases h.slice rfl with rfl | ⟨rows, te, ls, rfl, hte, hls, hlen, hrows⟩
  · exact ⟨[], .nils, by simp⟩
  · obtain rfl := Option.some.inj (hte.symm.trans (show tlk tab 5 = some ⟨.int .u8, 1, 1, [.int .u8 0]⟩ from rfl))
    obtain rfl := Option.some.inj (hls.symm.trans (show leaves tab 7 5 = some [5] from rfl))
    have key : ∀ rows : List AV, (∀ r ∈ rows, All2 (Shp tab 7) [5] (cellsOf r) ∧ (∀ y, isAggD (TyD.int .u8) = some false → cellsOf r = [y] → r = y) ∧ (isAggD (TyD.int .u8) = some true → ∃ cs, r = .agg cs)) → ∃ l, rows = bv l := by
      intro rows
      induction rows with
      | nil => intro _; exact ⟨[], rfl⟩
      | cons r rs ih =>
        intro hr
        obtain ⟨l, hl⟩ := ih fun r' h' => hr r' (by simp [h'])
        obtain ⟨h1, h2, _⟩ := hr r (by simp)
        match hc : cellsOf r, h1 with
        | [y], h1 =>
          obtain ⟨n, rfl, hn⟩ := h1.1.int rfl
          change 0 ≤ n ∧ n ≤ 255 at hn
          have hry := h2 _ rfl hc
          subst hry
          refine ⟨UInt8.ofNat n.toNat :: l, ?_⟩
          rw [hl]
          show _ = AV.int .u8 ((UInt8.ofNat n.toNat).toNat : Int) :: bv l
          rw [show ((UInt8.ofNat n.toNat).toNat : Int) = n by simp; omega]
    obtain ⟨l, rfl⟩ := key rows hrows
    refine ⟨l, .ps l, ?_⟩
    rw [bv_length] at hlen
    unfold Go.Awp.reach at hlen
    simpa using hlen
namespace packGets
set_option maxHeartbeats 8000000 in
theorem con {a0 a1 a2 a3 : AV} (s0 : Shp tab 8 40 a0) (s1 : Shp tab 8 3 a1) (s2 : Shp tab 8 3 a2) (s3 : Shp tab 8 3 a3) : Con Try.prog 8 [.p a0, .p a1, .p a2, .p a3] [] (.p (.bool true)) [] [] := by
  obtain ⟨l, hs, hl⟩ := shp_bytes s0
  obtain ⟨a, rfl, ha⟩ := s1.int rfl
  obtain ⟨w, rfl, _⟩ := s2.int rfl
  obtain ⟨b, rfl, _⟩ := s3.int rfl
  change -9223372036854775808 ≤ a ∧ a ≤ 9223372036854775807 at ha
  have g1 := get_spec hs a w ha (by omega) []
  have g2 := rget_spec hs a w ha (by omega) []
  have g3 := gettext_spec hs a b ha (by omega) []
  have g4 := rgettext_spec hs a b ha (by omega) []
  generalize getR l a (wide w).toNat = r at g1 g2
  generalize getTextR l a b = q at g3 g4
  obtain ⟨r1, r2, r3⟩ := r
  obtain ⟨q1, q2, q3⟩ := q
  refine con_of Try.func8 rfl (by kernel_rfl) rfl fun F w0 β0 => ?_
  refine goN ?_
  refine J_op rfl rfl (opr_len_rd hT rfl rfl hs.rd) ?_
  refine goN ?_
  refine J_cond rfl (fun hc => ?_) (fun hc => ?_)
  · refine goN ?_
    refine J_op rfl rfl (opr_call0 rfl rfl rfl rfl rfl (fixed03_spec [])) ?_
    refine goN ?_
    exact J_done hT rfl rfl rfl
  refine goN ?_
  refine J_op rfl rfl (opr_call0 rfl rfl rfl rfl rfl g1) ?_
  refine goN ?_
  refine J_op rfl rfl (opr_call0 rfl rfl rfl rfl rfl g2) ?_
  refine goN ?_
  refine J_op rfl rfl (opr_call0 rfl rfl rfl rfl rfl g3) ?_
  refine goN ?_
  refine J_op rfl rfl (opr_call0 rfl rfl rfl rfl rfl g4) ?_
  refine goN ?_
  refine J_weak [(9, .p (.int .u64 r1)), (10, .p (.int .i64 r2)), (11, .p (.int .i64 r3)), (12, .p (.int .u64 r1)), (13, .p (.int .i64 r2)), (14, .p (.int .i64 r3)), (15, .p (.str q1)), (16, .p (.int .i64 q2)), (17, .p (.int .i64 q3)), (18, .p (.str q1)), (19, .p (.int .i64 q2)), (20, .p (.int .i64 q3))] ⟨rfl, rfl, rfl, rfl, rfl, rfl, rfl, rfl, rfl, rfl, rfl, rfl, trivial⟩ ?_
  refine J_op rfl rfl (opr_call0 rfl rfl rfl rfl rfl (fixed03_spec [])) ?_
  refine goN ?_
  refine J_true 63 rfl (by simp) ?_
  refine goN ?_
  refine J_true 68 rfl (by simp) ?_
  refine goN ?_
  refine J_true 73 rfl (by simp) ?_
  refine goN ?_
  refine J_true 78 rfl (by simp) ?_
  refine goN ?_
  refine J_true 83 rfl (by simp) ?_
  refine goN ?_
  refine J_true 8 rfl (by simp) ?_
  exact J_done hT rfl rfl rfl
end packGets
end Go.Proofs.Ytfkibkfjebppdaa

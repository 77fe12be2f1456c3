/- The law FilesBack: its contract. -/
import Derived.Test.YtfnpelogfcnanaaGreatDoorGo
import Derived.Test.YtfnpelogfcnanaaGreatDoorM26
-- @D
namespace Go.Proofs.YtfnpelogfcnanaaGreatDoor
set_option maxRecDepth 20000
open Go.Awp Tr
namespace filesBack
structure St (l : List FOp) where
  i : Nat
  h : i ≤ l.length
  s : VS
  m : MF
  d : D19 s m i
  w : s.writes.size = 0
set_option maxHeartbeats 32000000 in
theorem con {a0 a1 a2 : AV} (s0 : Shp tab 8 73 a0) (s1 : Shp tab 8 3 a1) (s2 : Shp tab 8 77 a2) : Con Tryz.prog 9 [.p a0, .p a1, .p a2] [] (.p (.bool true)) [] [] := by
  obtain ⟨lo, hlo, hok, hlo2⟩ := fops_shp s0
  obtain ⟨fr, rfl, hfr⟩ := s1.int rfl
  have hfr : -9223372036854775808 ≤ fr ∧ fr ≤ 9223372036854775807 := hfr
  obtain ⟨b, hbs, hbl⟩ := shp_bytes s2
  obtain ⟨o', ho', c1⟩ := cut19_spec hlo hok hlo2
  have l60 := fops_cut (l := lo)
  have hok : ∀ x ∈ lo.take (cuF lo 0 0), x.ok := fun x hx => hok x (List.mem_of_mem_take hx)
  generalize lo.take (cuF lo 0 0) = l at ho' l60 hok
  have hrd := ho'.rd
  have hlen : (l.map fopV).length = l.length := by simp
  have c0 := begin_spec
  have d0 := D19.begin
  have w0' : s19.writes.size = 0 := rfl
  generalize s19 = s0' at c0 d0 w0'
  generalize bm3 = m0 at c0 d0
  refine con_of Tryz.func9 rfl (by kernel_rfl) rfl fun F w0 β0 => ?_
  refine K_tell rfl ?_
  refine J_le 2 (.ps (bv b)) rfl (bs_ps hbs) ?_
  refine go ?_
  refine K_op rfl rfl (opr_callP rfl rfl (c0) rfl rfl rfl rfl) rfl ?_
  refine go ?_
  refine K_op rfl rfl (opr_callP rfl rfl (c1) rfl rfl rfl rfl) rfl ?_
  refine go ?_
  refine K_op rfl rfl (opr_len_rd hT rfl rfl (hrd _ _)) rfl ?_
  rw [hlen]
  refine go ?_
  refine J_pick [0, 1, 3] [(1, .p (.int .i64 fr)), (2, .p (.ps (bv b))), (7, .ad (.l 0) 0), (8, .ad (.l 2) 0), (29, .p o'), (30, .p (.int .i64 (l.length : Int))), (31, .p (.int .i64 0))] [vB (.l 1) s0'.base s0'.shown s0'.writes s0'.reads s0'.ranges.length, vR s0'.ranges, fB m0] ⟨rfl, rfl, rfl, rfl, rfl, rfl, rfl, trivial⟩ rfl rfl ⟨⟨rfl, rfl⟩, ⟨rfl, rfl⟩, ⟨rfl, rfl⟩, trivial⟩ ?_
  refine J_loop (fun q : St l => [(1, .p (.int .i64 fr)), (2, .p (.ps (bv b))), (7, .ad (.l 0) 0), (8, .ad (.l 2) 0), (29, .p o'), (30, .p (.int .i64 (l.length : Int))), (31, .p (.int .i64 (q.i : Int)))]) (fun _ => []) (fun q => [vB (.l 1) q.s.base q.s.shown q.s.writes q.s.reads q.s.ranges.length, vR q.s.ranges, fB q.m]) (fun q => l.length - q.i) ⟨0, by omega, s0', m0, d0, w0'⟩ ⟨rfl, rfl, rfl, rfl, rfl, rfl, rfl, trivial⟩ rfl rfl (fun q => ?_)
  have hi := q.h
  have d := q.d
  have hw := q.w
  obtain ⟨hu1, hu2⟩ := d.u
  refine go ?_
  by_cases h : q.i < l.length
  · have hx : l[q.i]? = some l[q.i] := List.getElem?_eq_getElem h
    have hxo := hok _ (List.getElem_mem h)
    generalize l[q.i] = x at hx hxo
    have hxk : (l.map fopV)[((q.i : Nat) : Int).toNat]? = some (fopV x) := by rw [Int.toNat_natCast, List.getElem?_map, hx]; rfl
    have hxo2 : FOp.ok ⟨x.kind, x.ino, x.from_, x.n, .ps (bv x.b), x.b⟩ := ⟨.ps _, hxo.u, hxo.f, hxo.n, hxo.l⟩
    have c2 := do19_spec d.v (by omega) hu1 (fun y hy => by have := hu2 y hy; omega) _ hxo2
    have hst := d.step _ hxo2
    generalize doT19 q.s q.m ⟨x.kind, x.ino, x.from_, x.n, .ps (bv x.b), x.b⟩ = R at c2 hst
    obtain ⟨⟨ok, m1, full⟩, s'⟩ := R
    dsimp only at c2 hst
    refine K_condT rfl (decide_eq_true (by omega)) ?_
    refine go ?_
    refine K_op rfl rfl (opr_index hT rfl rfl rfl rfl rfl (hrd _ _) (by omega) (by rw [hlen]; omega)) rfl ?_
    refine go ?_
    refine K_op rfl rfl (opr_load_el hT rfl rfl (hrd _ _) hxk rfl rfl) rfl ?_
    refine J_rep 34 (opT19 x) rfl (agg_rep 4 rfl (bs_ps hxo.bs)) ?_
    refine go ?_
    refine K_op rfl rfl (opr_callS [.l 0, .l 1] rfl rfl (c2) rfl rfl rfl ⟨⟨rfl, rfl⟩, ⟨rfl, rfl⟩, trivial⟩ rfl rfl rfl rfl) rfl ?_
    rcases hst with rfl | ⟨rfl, rfl, d'⟩
    · cases ok with
      | true =>
        refine go ?_
        refine K_yes rfl rfl rfl (opr_callP rfl rfl (fixed19_spec) rfl rfl rfl rfl) rfl ?_
        refine go ?_
        exact J_done hT rfl rfl rfl
      | false =>
        refine go ?_
        refine K_yes rfl rfl rfl (opr_callP rfl rfl (fixed19_spec) rfl rfl rfl rfl) rfl ?_
        refine go ?_
        exact J_done hT rfl rfl rfl
    obtain ⟨d2, _⟩ := d'.based
    have c3 := based19_spec d'.v (by omega)
    refine go ?_
    refine K_op rfl rfl (opr_callS [.l 0, .l 1] rfl rfl (c3) rfl rfl rfl ⟨⟨rfl, rfl⟩, ⟨rfl, rfl⟩, trivial⟩ rfl rfl rfl rfl) rfl ?_
    refine go ?_
    refine J_pick [5, 6, 2] [(1, .p (.int .i64 fr)), (2, .p (.ps (bv b))), (7, .ad (.l 0) 0), (8, .ad (.l 2) 0), (29, .p o'), (30, .p (.int .i64 (l.length : Int))), (31, .p (.int .i64 (IntKind.i64.wrap ((q.i : Int) + 1))))] [vB (.l 1) (VS.new (basedT s')).base (VS.new (basedT s')).shown (VS.new (basedT s')).writes (VS.new (basedT s')).reads (VS.new (basedT s')).ranges.length, vR (VS.new (basedT s')).ranges, fB m1] ⟨rfl, rfl, rfl, rfl, rfl, rfl, rfl, trivial⟩ rfl rfl ⟨⟨rfl, rfl⟩, ⟨rfl, rfl⟩, ⟨rfl, rfl⟩, trivial⟩ ?_
    refine J_again ⟨q.i + 1, by omega, VS.new (basedT s'), m1, d2, rfl⟩ (by show l.length - (q.i + 1) < l.length - q.i; omega) ⟨rfl, rfl, rfl, rfl, rfl, rfl, congrArg (fun z => TV.p (.int .i64 z)) (by rw [IntWalk.i64_in _ (by omega)]; rfl), trivial⟩ rfl rfl
  refine K_condF rfl (decide_eq_false (by omega)) ?_
  refine go ?_
  rw [bv_length]
  generalize q.m = m at d hu1 hu2
  generalize q.s = s at d hw
  obtain ⟨x, hx⟩ := d.f 3 (.inl rfl)
  obtain ⟨par, R⟩ := d.r
  by_cases hbad : (b.length : Int) > 1024 ∨ fr < 0 ∨ fr > 4096 - b.length
  · refine K_condT rfl ?_ ?_
    · by_cases b1 : (b.length : Int) > 1024
      · rw [decide_eq_true b1]; rfl
      · rw [decide_eq_false b1]
        by_cases b2 : fr < 0
        · rw [decide_eq_true b2]; rfl
        · rw [decide_eq_false b2]
          exact decide_eq_true (by rw [IntWalk.i64_in _ (by omega)]; omega)
    refine go ?_
    refine K_op rfl rfl (opr_callP rfl rfl (fixed19_spec) rfl rfl rfl rfl) rfl ?_
    refine go ?_
    exact J_done hT rfl rfl rfl
  obtain ⟨p1, p2, p3, p4, v1, v2, v3⟩ := back_parts d.v R hw hx (show U32 3 by decide) (o := fr) (b := b) (by omega) (by omega) (by omega)
  have c2 := fall_spec d.v (by omega) 3 (by decide)
  have c3 := fwrite_ps v1 (by omega) 3 (by decide) fr hfr b (by omega)
  have c4 := fall_spec v2 (by omega) 3 (by decide)
  have c5 := fread_spec v3 (by omega) 3 (by decide) fr (b.length : Int) hfr (by omega)
  rw [p1] at c2
  rw [p2] at c3
  rw [p3] at c4
  rw [p4] at c5
  change Con _ _ _ _ (.tup [.p (.ps (bv x.b)), .p (.int .i64 0)]) _ _ at c2
  change Con _ _ _ _ (.tup [.p (.ps (bv (bkB x.b fr.toNat b))), .p (.int .i64 0)]) _ _ at c4
  change Con _ _ _ _ (.tup [.p (.ps (bv b)), .p (.int .i64 0)]) _ _ at c5
  have hbz := bkB_bz x.b fr.toNat b
  have hnl := bkB_len x.b fr.toNat b
  have hxl := hu2 x (at_mem (file_at hx).1).1
  generalize bkB x.b fr.toNat b = nb at c4 hbz hnl
  generalize ((((s.fall 3).2.fwrite 3 fr b).2.fall 3).2.fread 3 fr (b.length : Int)).2 = s5 at c5
  generalize (((s.fall 3).2.fwrite 3 fr b).2.fall 3).2 = s4 at c4 c5
  generalize ((s.fall 3).2.fwrite 3 fr b).2 = s3 at c3 c4
  generalize (s.fall 3).2 = s2 at c2 c3
  generalize x.b = d at c2 hbz hnl hxl
  have hnb : nb.length ≤ 8192 := by split at hnl <;> omega
  refine K_condF rfl ?_ ?_
  · rw [decide_eq_false (show ¬ (b.length : Int) > 1024 by omega), decide_eq_false (show ¬ fr < 0 by omega)]
    exact decide_eq_false (by rw [IntWalk.i64_in _ (by omega)]; omega)
  refine go ?_
  refine K_op rfl rfl (opr_callS [.l 0, .l 1] rfl rfl (c2) rfl rfl rfl ⟨⟨rfl, rfl⟩, ⟨rfl, rfl⟩, trivial⟩ rfl rfl rfl rfl) rfl ?_
  refine go ?_
  refine K_op rfl rfl (opr_callS [.l 0, .l 1] rfl rfl (c3) rfl rfl rfl ⟨⟨rfl, rfl⟩, ⟨rfl, rfl⟩, trivial⟩ rfl rfl rfl rfl) rfl ?_
  refine go ?_
  refine K_op rfl rfl (opr_callS [.l 0, .l 1] rfl rfl (c4) rfl rfl rfl ⟨⟨rfl, rfl⟩, ⟨rfl, rfl⟩, trivial⟩ rfl rfl rfl rfl) rfl ?_
  refine go ?_
  rw [bv_length]
  refine K_op rfl rfl (opr_callS [.l 0, .l 1] rfl rfl (c5) rfl rfl rfl ⟨⟨rfl, rfl⟩, ⟨rfl, rfl⟩, trivial⟩ rfl rfl rfl rfl) rfl ?_
  refine go ?_
  refine K_condF rfl (by simp) ?_
  refine go ?_
  rw [bv_length]
  refine J_take 0 [(1, .p (.int .i64 fr)), (2, .p (.ps (bv b))), (14, .p (.ps (bv d))), (16, .p (.ps (bv nb))), (103, .p (.ps (bv nb))), (104, .p (.int .i64 (nb.length : Int))), (105, .p (.int .i64 0))] ⟨rfl, rfl, rfl, rfl, rfl, rfl, rfl, trivial⟩ rfl rfl ?_
  refine J_loop (fun q : Ix nb.length => [(1, .p (.int .i64 fr)), (2, .p (.ps (bv b))), (14, .p (.ps (bv d))), (16, .p (.ps (bv nb))), (103, .p (.ps (bv nb))), (104, .p (.int .i64 (nb.length : Int))), (105, .p (.int .i64 (q.i : Int)))]) (fun _ => []) (fun _ => []) (fun q => nb.length - q.i) ⟨0, by omega⟩ ⟨rfl, rfl, rfl, rfl, rfl, rfl, rfl, trivial⟩ rfl rfl (fun q => ?_)
  have hi := q.h
  refine go ?_
  by_cases h : q.i < nb.length
  · have hx : nb[q.i]? = some (bz nb q.i) := bz_in h
    have hxk : (bv nb)[((q.i : Nat) : Int).toNat]? = some (.int .u8 (bz nb q.i).toNat) := by rw [Int.toNat_natCast]; unfold bv; rw [List.getElem?_map, hx]; rfl
    have hz := hbz q.i
    generalize bz nb q.i = c at hx hxk hz
    have hcond : ∀ old : Int, old = ((bz d q.i).toNat : Int) → ((decide ((q.i : Int) < fr) || decide ((q.i : Int) ≥ IntKind.i64.wrap (fr + (b.length : Int)))) && ((c.toNat : Int) != old)) = false := fun old ho => by
      rw [IntWalk.i64_in _ (by omega)]
      unfold wrF at hz
      by_cases hin : fr.toNat ≤ q.i ∧ q.i < fr.toNat + b.length
      · rw [decide_eq_false (show ¬ (q.i : Int) < fr by omega), decide_eq_false (show ¬ (q.i : Int) ≥ fr + (b.length : Int) by omega)]; rfl
      · rw [if_neg hin] at hz
        rw [ho, hz]; simp
    refine K_condT rfl (decide_eq_true (by omega)) ?_
    refine go ?_
    refine K_op rfl rfl (opr_index hT rfl rfl rfl rfl rfl (.ps _) (by omega) (by rw [bv_length]; omega)) rfl ?_
    refine go ?_
    refine K_op rfl rfl (opr_load_el hT rfl rfl (.ps _) hxk rfl rfl) rfl ?_
    refine go ?_
    rw [bv_length]
    by_cases hd : q.i < d.length
    · have hdk : (bv d)[((q.i : Nat) : Int).toNat]? = some (.int .u8 (bz d q.i).toNat) := by rw [Int.toNat_natCast]; unfold bv; rw [List.getElem?_map, bz_in hd]; rfl
      refine K_condT rfl (decide_eq_true (by omega)) ?_
      refine go ?_
      refine K_op rfl rfl (opr_index hT rfl rfl rfl rfl rfl (.ps _) (by omega) (by rw [bv_length]; omega)) rfl ?_
      refine go ?_
      refine K_op rfl rfl (opr_load_el hT rfl rfl (.ps _) hdk rfl rfl) rfl ?_
      refine go ?_
      rw [bv_length]
      refine K_condF rfl (hcond _ rfl) ?_
      refine go ?_
      refine J_again ⟨q.i + 1, by omega⟩ (by show nb.length - (q.i + 1) < nb.length - q.i; omega) ⟨rfl, rfl, rfl, rfl, rfl, rfl, congrArg (fun z => TV.p (.int .i64 z)) (by rw [IntWalk.i64_in _ (by omega)]; rfl), trivial⟩ rfl rfl
    · refine K_condF rfl (decide_eq_false (by omega)) ?_
      refine go ?_
      rw [bv_length]
      refine K_condF rfl (hcond 0 (by rw [bz_none (by omega)]; rfl)) ?_
      refine go ?_
      refine J_again ⟨q.i + 1, by omega⟩ (by show nb.length - (q.i + 1) < nb.length - q.i; omega) ⟨rfl, rfl, rfl, rfl, rfl, rfl, congrArg (fun z => TV.p (.int .i64 z)) (by rw [IntWalk.i64_in _ (by omega)]; rfl), trivial⟩ rfl rfl
  refine K_condF rfl (decide_eq_false (by omega)) ?_
  refine go ?_
  rw [bv_length, bv_length]
  by_cases hb0 : b.length = 0
  · rw [if_pos hb0] at hnl
    refine K_condF rfl (decide_eq_false (by omega)) ?_
    refine go ?_
    refine K_op rfl rfl (opr_callP rfl rfl (fixed19_spec) rfl rfl rfl rfl) rfl ?_
    refine go ?_
    have e6 : (bif true then (((bv nb).length : Int) == (d.length : Int)) else false) = true := by rw [bv_length, hnl]; simp
    refine J_val 6 (.p (.bool true)) rfl (congrArg (fun z => TV.p (.bool z)) e6) ?_
    exact J_done hT rfl rfl rfl
  · rw [if_neg hb0] at hnl
    refine K_condT rfl (decide_eq_true (by omega)) ?_
    refine go ?_
    refine K_op rfl rfl (opr_callP rfl rfl (fixed19_spec) rfl rfl rfl rfl) rfl ?_
    refine go ?_
    have e6 : (bif true then (((bv nb).length : Int) == mmA .max (d.length : Int) (IntKind.i64.wrap (fr + ((bv b).length : Int)))) else false) = true := by
      rw [bv_length, bv_length, mm_max2, IntWalk.i64_in _ (by omega), show max (d.length : Int) (fr + (b.length : Int)) = (nb.length : Int) by omega]; simp
    refine J_val 6 (.p (.bool true)) rfl (congrArg (fun z => TV.p (.bool z)) e6) ?_
    exact J_done hT rfl rfl rfl
end filesBack
end Go.Proofs.YtfnpelogfcnanaaGreatDoor

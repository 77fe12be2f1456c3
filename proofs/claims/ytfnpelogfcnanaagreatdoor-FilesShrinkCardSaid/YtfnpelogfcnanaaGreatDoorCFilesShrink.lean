/- The law FilesShrink: its contract. -/
import Derived.Test.YtfnpelogfcnanaaGreatDoorGo
import Derived.Test.YtfnpelogfcnanaaGreatDoorM26
-- @D
namespace Go.Proofs.YtfnpelogfcnanaaGreatDoor
set_option maxRecDepth 20000
open Go.Awp Tr
namespace filesShrink
structure St (l : List FOp) where
  i : Nat
  h : i ≤ l.length
  s : VS
  m : MF
  d : D19 s m i
  w : s.writes.size = 0
set_option maxHeartbeats 32000000 in
theorem con {a0 a1 a2 : AV} (s0 : Shp tab 8 73 a0) (s1 : Shp tab 8 92 a1) (s2 : Shp tab 8 92 a2) : Con Tryz.prog 10 [.p a0, .p a1, .p a2] [] (.p (.bool true)) [] [] := by
  obtain ⟨lo, hlo, hok, hlo2⟩ := fops_shp s0
  obtain ⟨n1, rfl, hn1⟩ := s1.int rfl
  have hn1 : 0 ≤ n1 ∧ n1 ≤ 65535 := hn1
  obtain ⟨n2, rfl, hn2⟩ := s2.int rfl
  have hn2 : 0 ≤ n2 ∧ n2 ≤ 65535 := hn2
  obtain ⟨o', ho', c1⟩ := cut19_spec hlo hok hlo2
  have l60 := fops_cut (l := lo)
  have hok : ∀ x ∈ lo.take (cuF lo 0 0), x.ok := fun x hx => hok x (List.mem_of_mem_take hx)
  generalize lo.take (cuF lo 0 0) = l at ho' l60 hok
  have hrd := ho'.rd
  have hlen : (l.map fopV).length = l.length := by simp
  have c0 := begin_spec
  have d0 := D19.begin
  have w0' : s19.writes.size = 0 := rfl
  generalize s19 = s0' at c0 d0 w0'
  generalize bm3 = m0 at c0 d0
  refine con_of Tryz.func10 rfl (by kernel_rfl) rfl fun F w0 β0 => ?_
  refine K_tell rfl ?_
  refine go ?_
  refine K_op rfl rfl (opr_callP rfl rfl (c0) rfl rfl rfl rfl) rfl ?_
  refine go ?_
  refine K_op rfl rfl (opr_callP rfl rfl (c1) rfl rfl rfl rfl) rfl ?_
  refine go ?_
  refine K_op rfl rfl (opr_len_rd hT rfl rfl (hrd _ _)) rfl ?_
  rw [hlen]
  refine go ?_
  refine J_pick [0, 1, 3] [(1, .p (.int .u16 n1)), (2, .p (.int .u16 n2)), (7, .ad (.l 0) 0), (8, .ad (.l 2) 0), (27, .p o'), (28, .p (.int .i64 (l.length : Int))), (29, .p (.int .i64 0))] [vB (.l 1) s0'.base s0'.shown s0'.writes s0'.reads s0'.ranges.length, vR s0'.ranges, fB m0] ⟨rfl, rfl, rfl, rfl, rfl, rfl, rfl, trivial⟩ rfl rfl ⟨⟨rfl, rfl⟩, ⟨rfl, rfl⟩, ⟨rfl, rfl⟩, trivial⟩ ?_
  refine J_loop (fun q : St l => [(1, .p (.int .u16 n1)), (2, .p (.int .u16 n2)), (7, .ad (.l 0) 0), (8, .ad (.l 2) 0), (27, .p o'), (28, .p (.int .i64 (l.length : Int))), (29, .p (.int .i64 (q.i : Int)))]) (fun _ => []) (fun q => [vB (.l 1) q.s.base q.s.shown q.s.writes q.s.reads q.s.ranges.length, vR q.s.ranges, fB q.m]) (fun q => l.length - q.i) ⟨0, by omega, s0', m0, d0, w0'⟩ ⟨rfl, rfl, rfl, rfl, rfl, rfl, rfl, trivial⟩ rfl rfl (fun q => ?_)
  have hi := q.h
  have d := q.d
  have hw := q.w
  obtain ⟨hu1, hu2⟩ := d.u
  refine go ?_
  by_cases h : q.i < l.length
  · have hx : l[q.i]? = some l[q.i] := List.getElem?_eq_getElem h
    have hxo := hok _ (List.getElem_mem h)
    generalize l[q.i] = x at hx hxo
    have hxk : (l.map fopV)[((q.i : Nat) : Int).toNat]? = some (fopV x) := by rw [Int.toNat_natCast, List.getElem?_map, hx]; rfl
    have hxo2 : FOp.ok ⟨x.kind, x.ino, x.from_, x.n, .ps (bv x.b), x.b⟩ := ⟨.ps _, hxo.u, hxo.f, hxo.n, hxo.l⟩
    have c2 := do19_spec d.v (by omega) hu1 (fun y hy => by have := hu2 y hy; omega) _ hxo2
    have hst := d.step _ hxo2
    generalize doT19 q.s q.m ⟨x.kind, x.ino, x.from_, x.n, .ps (bv x.b), x.b⟩ = R at c2 hst
    obtain ⟨⟨ok, m1, full⟩, s'⟩ := R
    dsimp only at c2 hst
    refine K_condT rfl (decide_eq_true (by omega)) ?_
    refine go ?_
    refine K_op rfl rfl (opr_index hT rfl rfl rfl rfl rfl (hrd _ _) (by omega) (by rw [hlen]; omega)) rfl ?_
    refine go ?_
    refine K_op rfl rfl (opr_load_el hT rfl rfl (hrd _ _) hxk rfl rfl) rfl ?_
    refine J_rep 32 (opT19 x) rfl (agg_rep 4 rfl (bs_ps hxo.bs)) ?_
    refine go ?_
    refine K_op rfl rfl (opr_callS [.l 0, .l 1] rfl rfl (c2) rfl rfl rfl ⟨⟨rfl, rfl⟩, ⟨rfl, rfl⟩, trivial⟩ rfl rfl rfl rfl) rfl ?_
    rcases hst with rfl | ⟨rfl, rfl, d'⟩
    · cases ok with
      | true =>
        refine go ?_
        refine K_yes rfl rfl rfl (opr_callP rfl rfl (fixed19_spec) rfl rfl rfl rfl) rfl ?_
        refine go ?_
        exact J_done hT rfl rfl rfl
      | false =>
        refine go ?_
        refine K_yes rfl rfl rfl (opr_callP rfl rfl (fixed19_spec) rfl rfl rfl rfl) rfl ?_
        refine go ?_
        exact J_done hT rfl rfl rfl
    obtain ⟨d2, _⟩ := d'.based
    have c3 := based19_spec d'.v (by omega)
    refine go ?_
    refine K_op rfl rfl (opr_callS [.l 0, .l 1] rfl rfl (c3) rfl rfl rfl ⟨⟨rfl, rfl⟩, ⟨rfl, rfl⟩, trivial⟩ rfl rfl rfl rfl) rfl ?_
    refine go ?_
    refine J_pick [5, 6, 2] [(1, .p (.int .u16 n1)), (2, .p (.int .u16 n2)), (7, .ad (.l 0) 0), (8, .ad (.l 2) 0), (27, .p o'), (28, .p (.int .i64 (l.length : Int))), (29, .p (.int .i64 (IntKind.i64.wrap ((q.i : Int) + 1))))] [vB (.l 1) (VS.new (basedT s')).base (VS.new (basedT s')).shown (VS.new (basedT s')).writes (VS.new (basedT s')).reads (VS.new (basedT s')).ranges.length, vR (VS.new (basedT s')).ranges, fB m1] ⟨rfl, rfl, rfl, rfl, rfl, rfl, rfl, trivial⟩ rfl rfl ⟨⟨rfl, rfl⟩, ⟨rfl, rfl⟩, ⟨rfl, rfl⟩, trivial⟩ ?_
    refine J_again ⟨q.i + 1, by omega, VS.new (basedT s'), m1, d2, rfl⟩ (by show l.length - (q.i + 1) < l.length - q.i; omega) ⟨rfl, rfl, rfl, rfl, rfl, rfl, congrArg (fun z => TV.p (.int .i64 z)) (by rw [IntWalk.i64_in _ (by omega)]; rfl), trivial⟩ rfl rfl
  refine K_condF rfl (decide_eq_false (by omega)) ?_
  refine go ?_
  generalize q.m = m at d hu1 hu2
  generalize q.s = s at d hw
  generalize q.i = n at d hi
  obtain ⟨x, hx⟩ := d.f 3 (.inl rfl)
  have hxl := hu2 x (at_mem (file_at hx).1).1
  have hu3 : U32 3 := by decide
  have c2 := fall_spec d.v (by omega) 3 hu3
  obtain ⟨p1, d1, _⟩ := d.all hu3 hx
  rw [p1] at c2
  change Con _ _ _ _ (.tup [.p (.ps (bv x.b)), .p (.int .i64 0)]) _ _ at c2
  generalize (s.fall 3).2 = s2 at c2 d1
  have el : (IntKind.i64.wrap n1).tmod 4097 = ((n1.toNat % 4097 : Nat) : Int) := by
    rw [IntWalk.i64_in n1 (by omega), Int.tmod_eq_emod_of_nonneg hn1.1]; omega
  have eh : (IntKind.i64.wrap n2).tmod 4097 = ((n2.toNat % 4097 : Nat) : Int) := by
    rw [IntWalk.i64_in n2 (by omega), Int.tmod_eq_emod_of_nonneg hn2.1]; omega
  have hlo := Nat.mod_lt n1.toNat (show 4097 > 0 by omega)
  have hhi := Nat.mod_lt n2.toNat (show 4097 > 0 by omega)
  generalize n1.toNat % 4097 = lo1 at el hlo
  generalize n2.toNat % 4097 = hi1 at eh hhi
  refine K_op rfl rfl (opr_callS [.l 0, .l 1] rfl rfl (c2) rfl rfl rfl ⟨⟨rfl, rfl⟩, ⟨rfl, rfl⟩, trivial⟩ rfl rfl rfl rfl) rfl ?_
  refine go ?_
  rw [el, eh]
  by_cases hlh : lo1 > hi1
  · refine K_condT rfl (decide_eq_true (by omega)) ?_
    refine go ?_
    refine K_op rfl rfl (opr_callP rfl rfl (fixed19_spec) rfl rfl rfl rfl) rfl ?_
    refine go ?_
    exact J_done hT rfl rfl rfl
  refine K_condF rfl (decide_eq_false (by omega)) ?_
  have c3 := ftrunc_spec d1.v (by omega) 3 hu3 (lo1 : Int) (by omega)
  have t1 := d1.trunc hu3 hx (z := (lo1 : Int)) (by omega) (by omega)
  have f1 := (ftrunc_mod hx (show 0 ≤ (lo1 : Int) by omega) (by omega)).2
  generalize (m.ftrunc 3 (lo1 : Int)).2 = m2 at t1 f1
  generalize s2.ftrunc 3 (lo1 : Int) = Q at c3 t1
  obtain ⟨e, s3⟩ := Q
  dsimp only at c3 t1
  refine go ?_
  refine K_op rfl rfl (opr_callS [.l 0, .l 1] rfl rfl (c3) rfl rfl rfl ⟨⟨rfl, rfl⟩, ⟨rfl, rfl⟩, trivial⟩ rfl rfl rfl rfl) rfl ?_
  rcases t1 with rfl | ⟨rfl, d3⟩
  · refine go ?_
    refine K_op rfl rfl (opr_callP rfl rfl (fixed19_spec) rfl rfl rfl rfl) rfl ?_
    refine go ?_
    exact J_done hT rfl rfl rfl
  obtain ⟨d4, e4⟩ := d3.based
  have c4 := based19_spec d3.v (by omega)
  have c5 := ftrunc_spec d4.v (by omega) 3 hu3 (hi1 : Int) (by omega)
  have hroom : ((VS.new (basedT s3)).ftrunc 3 (hi1 : Int)).1 ≠ 21 := by
    obtain ⟨par, R⟩ := d4.r
    have hl := R.fload d4.v hu3
    rw [f1] at hl
    refine ftrunc_room rfl hl ?_
    show ((trB x.b (lo1 : Int).toNat).length : Int) ≤ _
    rw [trB_len]; omega
  obtain ⟨t5, d5⟩ := (d4.trunc hu3 f1 (z := (hi1 : Int)) (by omega) (by omega)).resolve_left hroom
  have f2 := (ftrunc_mod f1 (show 0 ≤ (hi1 : Int) by omega) (by omega)).2
  rw [t5] at c5
  have c6 := fall_spec d5.v (by omega) 3 hu3
  obtain ⟨t6, _, _⟩ := d5.all hu3 f2
  rw [t6] at c6
  dsimp only at c6
  change Con _ _ _ _ (.tup [.p (.ps (bv (trB (trB x.b lo1) hi1))), .p (.int .i64 0)]) _ _ at c6
  have hnl := trB_len (trB x.b lo1) hi1
  have hbz := cut_bz x.b lo1 hi1
  generalize trB (trB x.b lo1) hi1 = nb at c6 hnl hbz
  generalize (((VS.new (basedT s3)).ftrunc 3 (hi1 : Int)).2.fall 3).2 = s6 at c6
  generalize ((VS.new (basedT s3)).ftrunc 3 (hi1 : Int)).2 = s5 at c5 c6
  generalize VS.new (basedT s3) = s4 at c4 c5
  generalize x.b = d at c2 hbz hxl
  refine go ?_
  refine K_op rfl rfl (opr_callS [.l 0, .l 1] rfl rfl (c4) rfl rfl rfl ⟨⟨rfl, rfl⟩, ⟨rfl, rfl⟩, trivial⟩ rfl rfl rfl rfl) rfl ?_
  refine go ?_
  refine K_op rfl rfl (opr_callS [.l 3, .l 4] rfl rfl (c5) rfl rfl rfl ⟨⟨rfl, rfl⟩, ⟨rfl, rfl⟩, trivial⟩ rfl rfl rfl rfl) rfl ?_
  refine go ?_
  refine K_op rfl rfl (opr_callS [.l 3, .l 4] rfl rfl (c6) rfl rfl rfl ⟨⟨rfl, rfl⟩, ⟨rfl, rfl⟩, trivial⟩ rfl rfl rfl rfl) rfl ?_
  refine go ?_
  rw [bv_length]
  refine K_condF rfl (by rw [hnl]; simp) ?_
  refine go ?_
  rw [bv_length]
  refine J_take 0 [(14, .p (.ps (bv d))), (16, .p (.int .i64 (lo1 : Int))), (96, .p (.ps (bv nb))), (97, .p (.int .i64 (nb.length : Int))), (98, .p (.int .i64 0))] ⟨rfl, rfl, rfl, rfl, rfl, trivial⟩ rfl rfl ?_
  refine J_loop (fun q : Ix nb.length => [(14, .p (.ps (bv d))), (16, .p (.int .i64 (lo1 : Int))), (96, .p (.ps (bv nb))), (97, .p (.int .i64 (nb.length : Int))), (98, .p (.int .i64 (q.i : Int)))]) (fun _ => []) (fun _ => []) (fun q => nb.length - q.i) ⟨0, by omega⟩ ⟨rfl, rfl, rfl, rfl, rfl, trivial⟩ rfl rfl (fun q => ?_)
  have hi := q.h
  refine go ?_
  by_cases h : q.i < nb.length
  · have hx : nb[q.i]? = some (bz nb q.i) := bz_in h
    have hxk : (bv nb)[((q.i : Nat) : Int).toNat]? = some (.int .u8 (bz nb q.i).toNat) := by rw [Int.toNat_natCast]; unfold bv; rw [List.getElem?_map, hx]; rfl
    have hz := hbz q.i (by omega)
    generalize bz nb q.i = c at hx hxk hz
    refine K_condT rfl (decide_eq_true (by omega)) ?_
    refine go ?_
    refine K_op rfl rfl (opr_index hT rfl rfl rfl rfl rfl (.ps _) (by omega) (by rw [bv_length]; omega)) rfl ?_
    refine go ?_
    refine K_op rfl rfl (opr_load_el hT rfl rfl (.ps _) hxk rfl rfl) rfl ?_
    refine go ?_
    rw [bv_length]
    by_cases hd : q.i < lo1 ∧ q.i < d.length
    · have hdk : (bv d)[((q.i : Nat) : Int).toNat]? = some (.int .u8 (bz d q.i).toNat) := by rw [Int.toNat_natCast]; unfold bv; rw [List.getElem?_map, bz_in hd.2]; rfl
      rw [if_pos hd.1] at hz
      refine K_condT rfl (by rw [decide_eq_true (show (q.i : Int) < (lo1 : Int) by omega), decide_eq_true (show (q.i : Int) < (d.length : Int) by omega)]; rfl) ?_
      refine go ?_
      refine K_op rfl rfl (opr_index hT rfl rfl rfl rfl rfl (.ps _) (by omega) (by rw [bv_length]; omega)) rfl ?_
      refine go ?_
      refine K_op rfl rfl (opr_load_el hT rfl rfl (.ps _) hdk rfl rfl) rfl ?_
      refine go ?_
      refine K_condF rfl (by rw [hz]; simp) ?_
      refine go ?_
      refine J_again ⟨q.i + 1, by omega⟩ (by show nb.length - (q.i + 1) < nb.length - q.i; omega) ⟨rfl, rfl, rfl, rfl, congrArg (fun z => TV.p (.int .i64 z)) (by rw [IntWalk.i64_in _ (by omega)]; rfl), trivial⟩ rfl rfl
    · have hc : c = 0 := by
        rw [hz]
        split
        · exact bz_none (by omega)
        · rfl
      refine K_condF rfl ?_ ?_
      · by_cases h1 : q.i < lo1
        · rw [decide_eq_false (show ¬ (q.i : Int) < (d.length : Int) by omega)]; simp
        · rw [decide_eq_false (show ¬ (q.i : Int) < (lo1 : Int) by omega)]; rfl
      refine go ?_
      refine K_condF rfl (by rw [hc]; rfl) ?_
      refine go ?_
      refine J_again ⟨q.i + 1, by omega⟩ (by show nb.length - (q.i + 1) < nb.length - q.i; omega) ⟨rfl, rfl, rfl, rfl, congrArg (fun z => TV.p (.int .i64 z)) (by rw [IntWalk.i64_in _ (by omega)]; rfl), trivial⟩ rfl rfl
  refine K_condF rfl (decide_eq_false (by omega)) ?_
  refine go ?_
  refine K_op rfl rfl (opr_callP rfl rfl (fixed19_spec) rfl rfl rfl rfl) rfl ?_
  refine go ?_
  exact J_done hT rfl rfl rfl
end filesShrink
end Go.Proofs.YtfnpelogfcnanaaGreatDoor

/- The law FilesKeys: its contract. -/
import Derived.Test.YtfnpelogfcnanaaGreatDoorGo
import Derived.Test.YtfnpelogfcnanaaGreatDoorM26
import Derived.Test.YtfnpelogfcnanaaGreatDoorM3
-- @D
namespace Go.Proofs.YtfnpelogfcnanaaGreatDoor
set_option maxRecDepth 20000
open Go.Awp Tr
namespace filesKeys
structure St (l : List FOp) where
  i : Nat
  h : i ≤ l.length
  s : VS
  m : MF
  d : D19 s m i
set_option maxHeartbeats 32000000 in
theorem con {a0 : AV} (s0 : Shp tab 8 73 a0) : Con Tryz.prog 8 [.p a0] [] (.p (.bool true)) [] [] := by
  obtain ⟨lo, hlo, hok, hlo2⟩ := fops_shp s0
  obtain ⟨o', ho', c1⟩ := cut19_spec hlo hok hlo2
  have l60 := fops_cut (l := lo)
  have hok : ∀ x ∈ lo.take (cuF lo 0 0), x.ok := fun x hx => hok x (List.mem_of_mem_take hx)
  generalize lo.take (cuF lo 0 0) = l at ho' l60 hok
  have hrd := ho'.rd
  have hlen : (l.map fopV).length = l.length := by simp
  have c0 := begin_spec
  have d0 := D19.begin
  generalize s19 = s0' at c0 d0
  generalize bm3 = m0 at c0 d0
  refine con_of Tryz.func8 rfl (by kernel_rfl) rfl fun F w0 β0 => ?_
  refine K_tell rfl ?_
  refine go ?_
  refine K_op rfl rfl (opr_callP rfl rfl (c0) rfl rfl rfl rfl) rfl ?_
  refine go ?_
  refine K_op rfl rfl (opr_callP rfl rfl (c1) rfl rfl rfl rfl) rfl ?_
  refine go ?_
  refine K_op rfl rfl (opr_len_rd hT rfl rfl (hrd _ _)) rfl ?_
  rw [hlen]
  refine go ?_
  refine J_pick [0, 1, 3] [(3, .ad (.l 0) 0), (4, .ad (.l 2) 0), (23, .p o'), (24, .p (.int .i64 (l.length : Int))), (25, .p (.int .i64 0))] [vB (.l 1) s0'.base s0'.shown s0'.writes s0'.reads s0'.ranges.length, vR s0'.ranges, fB m0] ⟨rfl, rfl, rfl, rfl, rfl, trivial⟩ rfl rfl ⟨⟨rfl, rfl⟩, ⟨rfl, rfl⟩, ⟨rfl, rfl⟩, trivial⟩ ?_
  refine J_loop (fun q : St l => [(3, .ad (.l 0) 0), (4, .ad (.l 2) 0), (23, .p o'), (24, .p (.int .i64 (l.length : Int))), (25, .p (.int .i64 (q.i : Int)))]) (fun _ => []) (fun q => [vB (.l 1) q.s.base q.s.shown q.s.writes q.s.reads q.s.ranges.length, vR q.s.ranges, fB q.m]) (fun q => l.length - q.i) ⟨0, by omega, s0', m0, d0⟩ ⟨rfl, rfl, rfl, rfl, rfl, trivial⟩ rfl rfl (fun q => ?_)
  have hi := q.h
  have d := q.d
  obtain ⟨hu1, hu2⟩ := d.u
  refine go ?_
  by_cases h : q.i < l.length
  · have hx : l[q.i]? = some l[q.i] := List.getElem?_eq_getElem h
    have hxo := hok _ (List.getElem_mem h)
    generalize l[q.i] = x at hx hxo
    have hxk : (l.map fopV)[((q.i : Nat) : Int).toNat]? = some (fopV x) := by rw [Int.toNat_natCast, List.getElem?_map, hx]; rfl
    have hxo2 : FOp.ok ⟨x.kind, x.ino, x.from_, x.n, .ps (bv x.b), x.b⟩ := ⟨.ps _, hxo.u, hxo.f, hxo.n, hxo.l⟩
    have c2 := do19_spec d.v (by omega) hu1 (fun y hy => by have := hu2 y hy; omega) _ hxo2
    have hst := d.step _ hxo2
    generalize doT19 q.s q.m ⟨x.kind, x.ino, x.from_, x.n, .ps (bv x.b), x.b⟩ = R at c2 hst
    obtain ⟨⟨ok, m1, full⟩, s'⟩ := R
    dsimp only at c2 hst
    refine K_condT rfl (decide_eq_true (by omega)) ?_
    refine go ?_
    refine K_op rfl rfl (opr_index hT rfl rfl rfl rfl rfl (hrd _ _) (by omega) (by rw [hlen]; omega)) rfl ?_
    refine go ?_
    refine K_op rfl rfl (opr_load_el hT rfl rfl (hrd _ _) hxk rfl rfl) rfl ?_
    refine J_rep 28 (opT19 x) rfl (agg_rep 4 rfl (bs_ps hxo.bs)) ?_
    refine go ?_
    refine K_op rfl rfl (opr_callS [.l 0, .l 1] rfl rfl (c2) rfl rfl rfl ⟨⟨rfl, rfl⟩, ⟨rfl, rfl⟩, trivial⟩ rfl rfl rfl rfl) rfl ?_
    refine go ?_
    rcases hst with rfl | ⟨rfl, rfl, d'⟩
    · refine go ?_
      refine K_op rfl rfl (opr_callP rfl rfl (fixed19_spec) rfl rfl rfl rfl) rfl ?_
      refine go ?_
      exact J_done hT rfl rfl rfl
    obtain ⟨d2, _⟩ := d'.based
    have c3 := based19_spec d'.v (by omega)
    refine go ?_
    refine K_op rfl rfl (opr_callS [.l 0, .l 1] rfl rfl (c3) rfl rfl rfl ⟨⟨rfl, rfl⟩, ⟨rfl, rfl⟩, trivial⟩ rfl rfl rfl rfl) rfl ?_
    refine go ?_
    refine J_pick [5, 6, 2] [(3, .ad (.l 0) 0), (4, .ad (.l 2) 0), (23, .p o'), (24, .p (.int .i64 (l.length : Int))), (25, .p (.int .i64 (IntKind.i64.wrap ((q.i : Int) + 1))))] [vB (.l 1) (VS.new (basedT s')).base (VS.new (basedT s')).shown (VS.new (basedT s')).writes (VS.new (basedT s')).reads (VS.new (basedT s')).ranges.length, vR (VS.new (basedT s')).ranges, fB m1] ⟨rfl, rfl, rfl, rfl, rfl, trivial⟩ rfl rfl ⟨⟨rfl, rfl⟩, ⟨rfl, rfl⟩, ⟨rfl, rfl⟩, trivial⟩ ?_
    refine J_again ⟨q.i + 1, by omega, VS.new (basedT s'), m1, d2⟩ (by show l.length - (q.i + 1) < l.length - q.i; omega) ⟨rfl, rfl, rfl, rfl, congrArg (fun z => TV.p (.int .i64 z)) (by rw [IntWalk.i64_in _ (by omega)]; rfl), trivial⟩ rfl rfl
  refine K_condF rfl (decide_eq_false (by omega)) ?_
  refine go ?_
  generalize q.m = m at d hu1 hu2
  generalize q.s = s at d
  obtain ⟨par, R⟩ := d.r
  have c4 := (vrange_spec s [68] [69] (by have := d.v.zs; unfold big40; omega) (by have := d.v.zg; unfold big40; omega)).toPs (.inl rfl)
  have hrow : s.rangeR [68] [69] = lrange [68] [69] s.shown.row := by
    unfold VS.rangeR
    rw [if_pos (by decide), range_row _ _ _ d.v.rs]
  have hKl := rangeR_len d.v [68] [69]
  rw [hrow] at c4 hKl
  have hmem : ∀ y ∈ lrange [68] [69] s.shown.row, y ∈ s.shown.row ∧ Op.bytesLess y.1 [69] = true ∧ Op.bytesLess y.1 [68] = false := fun y hy => by
    obtain ⟨h1, h2⟩ := List.mem_filter.1 hy
    unfold inR at h2
    rw [Bool.and_eq_true, Bool.not_eq_true'] at h2
    exact ⟨h1, h2.2, h2.1⟩
  have hval := d.v.val
  generalize lrange [68] [69] s.shown.row = K at c4 hmem hKl
  generalize s.range [68] [69] = s2 at c4
  have hlk : (kvs K).length = K.length := by simp
  refine K_op rfl rfl (opr_callS [.l 0, .l 1] rfl rfl (c4) rfl rfl rfl ⟨⟨rfl, rfl⟩, ⟨rfl, rfl⟩, trivial⟩ rfl rfl rfl rfl) rfl ?_
  refine go ?_
  refine J_loop (fun q : Ix K.length => [(4, .ad (.l 2) 0), (44, .p (.ps (kvs K))), (45, .p (.int .i64 (K.length : Int))), (46, .p (.int .i64 (q.i : Int)))]) (fun _ => []) (fun _ => [vB (.l 1) s2.base s2.shown s2.writes s2.reads s2.ranges.length, vR s2.ranges, fB m]) (fun q => K.length - q.i) ⟨0, by omega⟩ ⟨rfl, rfl, (by rw [← hlk]; rfl), rfl, trivial⟩ rfl rfl (fun q => ?_)
  have hi := q.h
  refine go ?_
  by_cases h : q.i < K.length
  · have hx : K[q.i]? = some K[q.i] := List.getElem?_eq_getElem h
    have hxm := hmem _ (List.getElem_mem h)
    generalize K[q.i] = y at hx hxm
    have hxk : (kvs K)[((q.i : Nat) : Int).toNat]? = some (kvV y) := kvs_get hx
    obtain ⟨k1, k2, k3⟩ := hxm
    obtain ⟨v1, v2⟩ := hval y k1
    obtain ⟨j, n, x, q1, q2, q3, q4, q5, ⟨t, c, q6, q7⟩, q8, q9⟩ := blk_keys R k1 k2 k3
    have c5 := rsplit_spec y.1 (by omega)
    rw [q1, split_block j (n : Int) q2 (by omega), ← q1] at c5
    have c6 := rAt_spec m j hu1
    obtain ⟨jx, h1, h2⟩ := ix_at q4
    rw [h1] at c6
    have hlt := (List.getElem?_eq_some_iff.1 h2).1
    have hlm : (nods m).length = m.length := by simp
    have hnk := nods_get h2
    obtain ⟨key, v⟩ := y
    dsimp only at q1 q6 q8 q9 c5 v1 v2
    have hb := hu2 x (at_mem q4).1
    have hvl : v.length = t.length + 1 := by rw [q6]; simp
    have hc : v[v.length - 1]? = some c := by rw [hvl, q6]; simp
    have e72 : IntKind.i64.wrap (64 * (n : Int)) = 64 * (n : Int) := IntWalk.i64_in _ (by omega)
    refine K_condT rfl (decide_eq_true (by omega)) ?_
    refine go ?_
    refine K_op rfl rfl (opr_index hT rfl rfl rfl rfl rfl (.ps _) (by omega) (by rw [hlk]; omega)) rfl ?_
    refine go ?_
    refine K_op rfl rfl (opr_load_el hT rfl rfl (.ps _) hxk rfl rfl) rfl ?_
    refine go ?_
    refine K_op rfl rfl (opr_callP rfl rfl (c5) rfl rfl rfl rfl) rfl ?_
    refine go ?_
    refine K_op rfl rfl (opr_callP rfl rfl (c6) rfl rfl rfl rfl) rfl ?_
    refine go ?_
    refine K_op rfl rfl (opr_index hT rfl rfl rfl rfl rfl (.ps _) (by omega) (by rw [hlm]; omega)) rfl ?_
    refine go ?_
    refine K_op rfl rfl (opr_load_el hT rfl rfl (.ps _) hnk rfl rfl) rfl ?_
    refine go ?_
    refine J_draw [_] [] (by kernel_rfl) (by kernel_rfl) rfl ?_
    iterate 7 (refine gd1 ?_)
    refine T_yesD rfl rfl rfl rfl rfl rfl (opr_at (stepN_ok hT rfl) (show TV.p (.bool (decide (IntKind.i64.wrap (64 * (n : Int)) ≥ (x.b.length : Int)))) = .p (.bool false) by rw [e72, decide_eq_false (by omega)])) rfl ?_
    iterate 4 (refine gd1 ?_)
    refine T_yesD rfl rfl rfl rfl rfl rfl (opr_at (stepN_ok hT rfl) (show TV.p (.bool (v == [])) = .p (.bool false) by rw [q6]; simp)) rfl ?_
    iterate 7 (refine gd1 ?_)
    refine T_yesD rfl rfl rfl rfl rfl rfl (opr_at (stepN_ok hT rfl) (show TV.p (.int .i64 (IntKind.i64.wrap ((v.length : Int) - 1))) = .p (.int .i64 ((v.length - 1 : Nat) : Int)) by rw [IntWalk.i64_in _ (by omega), show ((v.length : Int) - 1) = ((v.length - 1 : Nat) : Int) by omega])) rfl ?_
    refine T_yesD rfl rfl rfl rfl rfl rfl (opr_byte hT rfl rfl rfl rfl (by omega) hc) rfl ?_
    refine T_yesD rfl rfl rfl rfl rfl rfl (opr_at (stepN_ok hT rfl) (show TV.p (.bool ((c.toNat : Int) == 0)) = .p (.bool false) by
      rw [show ((c.toNat : Int) == 0) = false by simpa using fun e : c.toNat = 0 => q7 (UInt8.toNat_inj.1 e)])) rfl ?_
    iterate 10 (refine gd1 ?_)
    refine T_yesD rfl rfl rfl rfl rfl rfl (opr_at (stepN_ok hT rfl) (show TV.p (.bool (decide (IntKind.i64.wrap (IntKind.i64.wrap (64 * (n : Int)) + (v.length : Int)) > (x.b.length : Int)))) = .p (.bool false) by rw [e72, IntWalk.i64_in _ (by omega), decide_eq_false (by omega)])) rfl ?_
    iterate 11 (refine gd1 ?_)
    refine T_yesD rfl rfl rfl rfl rfl rfl (opr_at (opr_cut_str (i := IntKind.i64.wrap (64 * (n : Int))) (j := IntKind.i64.wrap (IntKind.i64.wrap (64 * (n : Int)) + (v.length : Int))) hT rfl rfl rfl rfl rfl (by rw [e72]; omega) (by rw [e72, IntWalk.i64_in _ (by omega)]; omega) (by rw [e72, IntWalk.i64_in _ (by omega)]; omega)) (show _ = TV.p (.str v) by
      rw [e72, IntWalk.i64_in _ (by omega), show (64 * (n : Int)).toNat = 64 * n by omega, show (64 * (n : Int) + (v.length : Int)).toNat - 64 * n = v.length by omega, q9])) rfl ?_
    iterate 2 (refine gd1 ?_)
    refine T_yesD rfl rfl rfl rfl rfl rfl (opr_at (stepN_ok hT rfl) (show TV.p (.bool (v != v)) = .p (.bool false) by simp)) rfl ?_
    refine gd ?_
    refine go ?_
    refine J_take 3 [(4, .ad (.l 2) 0), (44, .p (.ps (kvs K))), (45, .p (.int .i64 (K.length : Int))), (46, .p (.int .i64 (IntKind.i64.wrap ((q.i : Int) + 1))))] ⟨rfl, rfl, rfl, rfl, trivial⟩ rfl rfl ?_
    refine J_again ⟨q.i + 1, by omega⟩ (by show K.length - (q.i + 1) < K.length - q.i; omega) ⟨rfl, rfl, rfl, congrArg (fun z => TV.p (.int .i64 z)) (by rw [IntWalk.i64_in _ (by omega)]; rfl), trivial⟩ rfl rfl
  · refine K_condF rfl (decide_eq_false (by omega)) ?_
    refine go ?_
    refine K_op rfl rfl (opr_callP rfl rfl (fixed19_spec) rfl rfl rfl rfl) rfl ?_
    refine go ?_
    exact J_done hT rfl rfl rfl
end filesKeys
end Go.Proofs.YtfnpelogfcnanaaGreatDoor

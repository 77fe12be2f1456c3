/- The law DirsTree: its contract. -/
import Derived.Test.YtfnpelogfcnanaaGreatDoorGo
import Derived.Test.YtfnpelogfcnanaaGreatDoorM22
import Derived.Test.YtfnpelogfcnanaaGreatDoorM21
import Derived.Test.YtfnpelogfcnanaaGreatDoorM23
import Derived.Test.YtfnpelogfcnanaaGreatDoorM2
-- @D
namespace Go.Proofs.YtfnpelogfcnanaaGreatDoor
set_option maxRecDepth 20000
open Go.Awp Tr
namespace dirsTree
structure St (l : List DOp) where
  i : Nat
  h : i ≤ l.length
  s : VS
  m : MF
  d : D18 s m i
  a : RA m
abbrev ui (l : List KV) : List AV := (allI l).map fun i => AV.int .u32 i
theorem ui_cl (l : List Int) : clR (l.map fun i => AV.int .u32 i) := by
  intro r hr x hx
  obtain ⟨y, _, rfl⟩ := List.mem_map.1 hr
  have hx : x ∈ [AV.int .u32 y] := hx
  rw [List.mem_singleton] at hx
  subst hx; rfl
theorem ui_size (l : List Int) : ∀ r ∈ l.map (fun i => AV.int .u32 i), (cellsOf r).length = 1 := by
  intro r hr
  obtain ⟨y, _, rfl⟩ := List.mem_map.1 hr
  rfl
theorem allI_take {l : List KV} {i : Nat} {y : KV} (h : l[i]? = some y) : allI (l.take (i + 1)) = allI (l.take i) ++ (if y.1.headD 0 = 73 then [gF y.1 1] else []) := by
  unfold allI
  rw [List.take_add_one, h, List.filter_append, List.map_append]
  congr 1
  show List.map _ (List.filter _ [y]) = _
  by_cases e : y.1.headD 0 = 73
  · rw [if_pos e, List.filter_cons_of_pos (by rw [e]; rfl)]; rfl
  · rw [if_neg e, List.filter_cons_of_neg (by rw [beq_iff_eq]; exact e)]; rfl
theorem take_snoc {l : List KV} {i : Nat} {y : KV} (h : l[i]? = some y) : l.take (i + 1) = l.take i ++ [y] := by rw [List.take_add_one, h]; rfl
/-- A directory's entry comes but once. -/
theorem once {l : List KV} {m : MF} {par : Int → Int} (R : Rel l m par) {i : Nat} {y : KV} (h : l[i]? = some y) {k : Int} {z : MN} (hk : m.at k = some z) (hz : z.k = 2) (hv : y.2 = beB 4 k) (hh : y.1.headD 0 = 69) : ∀ w ∈ l.take i, w.1.headD 0 = 69 → beV w.2 ≠ k := fun w hw h1 h2 => by
  have hw2 := List.mem_of_mem_take hw
  have hwv : w.2 = beB 4 k := by
    rcases split_row R hw2 with ⟨j, x, _, hk', _, _⟩ | ⟨j, k', nm, x, z', _, hku, hk', _, _, _, _, hv', _⟩ | ⟨j, i', hh', _⟩
    · rw [hk'] at h1
      have : (keyH 73 j).headD 0 = 73 := rfl
      rw [this] at h1; exact absurd h1 (by decide)
    · rw [hv', beV_be4 k' hku] at h2
      rw [hv', h2]
    · rw [hh'] at h1; exact absurd h1 (by decide)
  have hr := R.one k z hk hz
  have h1' : 0 < refs k (l.take i) := List.countP_pos_iff.2 ⟨w, hw, by unfold refB; rw [h1, hwv]; simp⟩
  have h2' : 0 < refs k (l.drop i) := List.countP_pos_iff.2 ⟨y, by
    obtain ⟨hl, e⟩ := List.getElem?_eq_some_iff.1 h
    rw [List.drop_eq_getElem_cons hl, e]; exact List.mem_cons_self, by unfold refB; rw [hh, hv]; simp⟩
  have e : refs k l = refs k (l.take i) + refs k (l.drop i) := by
    unfold refs
    rw [← List.countP_append, List.take_append_drop]
  split at hr <;> omega
/-- Behind so many rows. -/
structure S2 (s : VS) (m : MF) (N : Nat) where
  i : Nat
  h : i ≤ s.shown.row.length
  t : VS
  v : VJ t (N + 2 * i)
  sh : t.shown = s.shown
  E : Mp
  B : Mp
  P : Mp
  ti : TI m (s.shown.row.take i) E B P
structure S3 (s : VS) (N : Nat) (A : List Int) where
  i : Nat
  h : i ≤ A.length
  t : VS
  v : VJ t (N + i)
  sh : t.shown = s.shown
/-- Up to the root: so many steps gone, so many left. -/
structure Up (m : MF) (k : Int) (a : Nat) where
  u : Int
  n : Nat
  r : Nat
  b : n + r ≤ a
  h : k = 2 → ∃ N, N.length = r ∧ Reach m N u ∧ ∃ y, m.at u = some y ∧ y.k = 2
set_option maxHeartbeats 64000000 in
theorem con {a0 : AV} (s0 : Shp tab 8 22 a0) : Con Tryz.prog 4 [.p a0] [] (.p (.bool true)) [] [] := by
  obtain ⟨lo, hlo, _, hlo2⟩ := dops_shp s0
  obtain ⟨o', ho', c1⟩ := cut18_spec hlo hlo2
  have l60 := dops_cut (l := lo)
  generalize lo.take (cutG stop18 lo 0) = l at ho' l60
  have hrd := ho'.rd
  have hlen : (l.map dopV).length = l.length := by simp
  refine con_of Tryz.func4 rfl (by kernel_rfl) rfl fun F w0 β0 => ?_
  refine K_tell rfl ?_
  refine go ?_
  refine K_op rfl rfl (opr_callP rfl rfl (tnew_spec) rfl rfl rfl rfl) rfl ?_
  refine go ?_
  refine K_op rfl rfl (opr_callP rfl rfl (vnew_spec .nil) rfl rfl rfl rfl) rfl ?_
  refine go ?_
  refine K_op rfl rfl (opr_callP rfl rfl (rnew18_spec) rfl rfl rfl rfl) rfl ?_
  refine go ?_
  refine K_op rfl rfl (opr_callP rfl rfl (c1) rfl rfl rfl rfl) rfl ?_
  refine go ?_
  refine K_op rfl rfl (opr_len_rd hT rfl rfl (hrd _ _)) rfl ?_
  rw [hlen]
  refine go ?_
  refine J_loop (fun q : St l => [(3, .ad (.l 0) 0), (4, .ad (.l 2) 0), (34, .p o'), (35, .p (.int .i64 (l.length : Int))), (36, .p (.int .i64 (q.i : Int)))]) (fun _ => []) (fun q => [vB (.l 1) q.s.base q.s.shown q.s.writes q.s.reads q.s.ranges.length, vR q.s.ranges, fB q.m]) (fun q => l.length - q.i) ⟨0, by omega, VS.new .nil, newM, D18.new, RA.new⟩ ⟨rfl, rfl, rfl, rfl, rfl, trivial⟩ rfl rfl (fun q => ?_)
  have hi := q.h
  have d := q.d
  obtain ⟨hu, h1k, hok⟩ := d.u
  refine go ?_
  by_cases h : q.i < l.length
  · have hx : l[q.i]? = some l[q.i] := List.getElem?_eq_getElem h
    generalize l[q.i] = x at hx
    have hxk : (l.map dopV)[((q.i : Nat) : Int).toNat]? = some (dopV x) := by rw [Int.toNat_natCast, List.getElem?_map, hx]; rfl
    obtain ⟨k2, p2, o2⟩ := x
    have hj : IntKind.u32.wrap (IntKind.i64.wrap (2 + (q.i : Int))) = 2 + q.i := by rw [IntWalk.i64_in _ (by omega)]; exact u32_in _ (by omega)
    have c2 := do_spec d.v (by omega) hok (by omega) hu h1k k2 p2 o2 (IntKind.u32.wrap (IntKind.i64.wrap (2 + (q.i : Int)))) (u32_bd _)
    have hst := d.step (by omega) k2 p2 o2 (IntKind.u32.wrap (IntKind.i64.wrap (2 + (q.i : Int)))) hj
    have hra := d.ra q.a k2 p2 o2 (IntKind.u32.wrap (IntKind.i64.wrap (2 + (q.i : Int)))) (u32_bd _) (by omega)
    generalize doT q.s q.m k2 p2 o2 (IntKind.u32.wrap (IntKind.i64.wrap (2 + (q.i : Int)))) = R at c2 hst hra
    obtain ⟨⟨ok, m1, full⟩, s'⟩ := R
    dsimp only at c2 hst hra
    refine K_condT rfl (decide_eq_true (by omega)) ?_
    refine go ?_
    refine K_op rfl rfl (opr_index hT rfl rfl rfl rfl rfl (hrd _ _) (by omega) (by rw [hlen]; omega)) rfl ?_
    refine go ?_
    refine K_op rfl rfl (opr_load_el hT rfl rfl (hrd _ _) hxk rfl rfl) rfl ?_
    refine go ?_
    refine K_op rfl rfl (opr_callS [.l 0, .l 1] rfl rfl (c2) rfl rfl rfl ⟨⟨rfl, rfl⟩, ⟨rfl, rfl⟩, trivial⟩ rfl rfl rfl rfl) rfl ?_
    rcases hst with rfl | ⟨rfl, rfl, d'⟩
    · refine go ?_
      refine K_condT rfl (by simp) ?_
      refine go ?_
      refine K_yes rfl rfl rfl (opr_callP rfl rfl (fixed18_spec) rfl rfl rfl rfl) rfl ?_
      refine go ?_
      exact J_done hT rfl rfl rfl
    refine go ?_
    refine J_take 3 [(3, .ad (.l 0) 0), (4, .ad (.l 2) 0), (34, .p o'), (35, .p (.int .i64 (l.length : Int))), (36, .p (.int .i64 (IntKind.i64.wrap ((q.i : Int) + 1))))] ⟨rfl, rfl, rfl, rfl, rfl, trivial⟩ rfl rfl ?_
    refine J_again ⟨q.i + 1, by omega, s', m1, d', hra⟩ (by show l.length - (q.i + 1) < l.length - q.i; omega) ⟨rfl, rfl, rfl, rfl, congrArg (fun z => TV.p (.int .i64 z)) (by rw [IntWalk.i64_in _ (by omega)]; rfl), trivial⟩ rfl rfl
  have ha := q.a
  obtain ⟨par, R⟩ := d.r
  have c4 := range_all d.v (by omega) R
  have hv0 := d.v.range [] [255]
  obtain ⟨sh0, _⟩ := range_sh q.s [] [255]
  generalize hs0 : q.s.range [] [255] = s0 at c4 hv0 sh0
  have hrl : q.s.shown.row.length ≤ 12000 := by have := d.v.zs; rw [row_len]; omega
  have hlk : (kvs q.s.shown.row).length = q.s.shown.row.length := by simp
  refine K_condF rfl (decide_eq_false (by omega)) ?_
  refine go ?_
  refine K_op rfl rfl (opr_makeMap (AV.int .u32) rfl) rfl ?_
  refine go ?_
  refine K_op rfl rfl (opr_makeMap (AV.int .u32) rfl) rfl ?_
  refine go ?_
  refine K_op rfl rfl (opr_makeMap (AV.int .u32) rfl) rfl ?_
  refine go ?_
  refine J_lazyE 13 36 (e := 1) rfl rfl (.inl rfl) ?_
  refine K_op rfl rfl (opr_callS [.l 0, .l 1] rfl rfl (c4) rfl rfl rfl ⟨⟨rfl, rfl⟩, ⟨rfl, rfl⟩, trivial⟩ rfl rfl rfl rfl) rfl ?_
  refine go ?_
  refine J_loop (fun r : S2 q.s q.m (200 * q.i + 1) => [(3, .ad (.l 0) 0), (10, .ad (.l 3) 0), (11, .ad (.l 4) 0), (12, .ad (.l 5) 0), (13, .sl (.l 6) (allI (q.s.shown.row.take r.i)).length 0 (allI (q.s.shown.row.take r.i)).length), (67, .p (.ps (kvs q.s.shown.row))), (68, .p (.int .i64 (q.s.shown.row.length : Int))), (69, .p (.int .i64 (r.i : Int)))]) (fun _ => []) (fun r => [vB (.l 1) r.t.base r.t.shown r.t.writes r.t.reads r.t.ranges.length, vR r.t.ranges, fB q.m, mpO (AV.int .u32) r.E, mpO (AV.int .u32) r.B, mpO (AV.int .u32) r.P, .arr 36 true 1 (ui (q.s.shown.row.take r.i))]) (fun r => q.s.shown.row.length - r.i) ⟨0, by omega, s0, hv0, sh0, [], [], [], TI.new _⟩ ⟨rfl, rfl, rfl, rfl, rfl, rfl, (by rw [← hlk]; rfl), rfl, trivial⟩ rfl rfl (fun r => ?_)
  have hri := r.h
  have hrv := r.v
  refine go ?_
  by_cases hlt : r.i < q.s.shown.row.length
  · have hy : q.s.shown.row[r.i]? = some q.s.shown.row[r.i] := List.getElem?_eq_getElem hlt
    have hym : q.s.shown.row[r.i] ∈ q.s.shown.row := List.getElem_mem hlt
    generalize q.s.shown.row[r.i] = y at hy hym
    have hyk : (kvs q.s.shown.row)[((r.i : Nat) : Int).toNat]? = some (kvV y) := kvs_get hy
    have hyl := (d.v.val y hym).1
    have c5 := rsplit_spec y.1 (by omega)
    have hal := allI_take hy
    have htk := take_snoc hy
    have Rt : Rel r.t.shown.row q.m par := by rw [r.sh]; exact R
    have hcnt : ∀ k, refs k (q.s.shown.row.take r.i) ≤ 12000 := fun k => Nat.le_trans List.countP_le_length (by rw [List.length_take]; omega)
    have hcnt2 : ∀ k, subD q.m k (q.s.shown.row.take r.i) ≤ 12000 := fun k => Nat.le_trans List.countP_le_length (by rw [List.length_take]; omega)
    have halen : (allI (q.s.shown.row.take r.i)).length ≤ 12000 := by
      unfold allI
      rw [List.length_map]
      exact Nat.le_trans (List.length_filter_le _ _) (by rw [List.length_take]; omega)
    have hwi : IntKind.i64.wrap ((r.i : Int) + 1) = ((r.i + 1 : Nat) : Int) := by rw [IntWalk.i64_in _ (by omega)]; rfl
    refine K_condT rfl (decide_eq_true (by omega)) ?_
    refine go ?_
    refine K_op rfl rfl (opr_index hT rfl rfl rfl rfl rfl (.ps _) (by omega) (by rw [hlk]; omega)) rfl ?_
    refine go ?_
    refine K_op rfl rfl (opr_load_el hT rfl rfl (.ps _) hyk rfl rfl) rfl ?_
    refine go ?_
    refine K_op rfl rfl (opr_callP rfl rfl (c5) rfl rfl rfl rfl) rfl ?_
    rcases split_row R hym with ⟨j, x, hj, hk, hs, hx⟩ | ⟨j, k, nm, x, z, hj, hku, hk, hs, hn, hx, hg, hv, hz⟩ | ⟨j, i', hh, hs⟩
    · -- an inode
      have hh : y.1.headD 0 = 73 := by rw [hk]; rfl
      have hgj : gF y.1 1 = j := by
        have := gF_kH (c := 73) [] hj
        rw [List.append_nil] at this
        rw [hk, this]
      rw [if_pos hh, hgj] at hal
      rw [hs]
      refine go ?_
      refine K_op rfl rfl (opr_app_own hT rfl rfl rfl rfl (by simp) rfl rfl (.rd (.ps _)) hbs_ps (ui_cl [j]) (ui_size [j]) (by decide) (by show ((allI (q.s.shown.row.take r.i)).length + 1) * 4 ≤ _; omega)) rfl ?_
      refine go ?_
      refine J_take 7 [(3, .ad (.l 0) 0), (10, .ad (.l 3) 0), (11, .ad (.l 4) 0), (12, .ad (.l 5) 0), (13, .sl (.l 6) ((allI (q.s.shown.row.take r.i)).length + 1) 0 ((allI (q.s.shown.row.take r.i)).length + 1)), (67, .p (.ps (kvs q.s.shown.row))), (68, .p (.int .i64 (q.s.shown.row.length : Int))), (69, .p (.int .i64 (IntKind.i64.wrap ((r.i : Int) + 1))))] ⟨rfl, rfl, rfl, rfl, rfl, rfl, rfl, rfl, trivial⟩ rfl rfl ?_
      refine J_again ⟨r.i + 1, by omega, r.t, hrv.mono (by omega), r.sh, r.E, r.B, r.P, by rw [htk]; exact r.ti.other (by rw [hh]; rfl)⟩ (by show q.s.shown.row.length - (r.i + 1) < q.s.shown.row.length - r.i; omega) ⟨rfl, rfl, rfl, rfl, (by show TV.sl _ _ _ _ = TV.sl _ _ _ _; rw [hal, List.length_append]; rfl), rfl, rfl, congrArg (fun z => TV.p (.int .i64 z)) hwi, trivial⟩ rfl (by simp only [ui, hal, List.map_append]; rfl)
    · -- an entry
      have hh : y.1.headD 0 = 69 := by rw [hk]; rfl
      have h73 : ¬ y.1.headD 0 = 73 := by rw [hh]; decide
      rw [if_neg h73, List.append_nil] at hal
      have hye : y = (keyH 69 j ++ nm, beB 4 k) := Prod.ext hk hv
      have c6 := wchild_spec hrv (by omega) j hj nm
      have ec : r.t.child j nm = some k := by
        rw [child_row hrv j (nameB_len hn), ← sub_get Rt.ri, ← Rt.ent _ _ hx, hg, chOf_be4' hku]
      rw [ec] at c6
      have c7 := wload_spec (hrv.rd (entryK j nm)) (by omega) k hku
      have el : (r.t.rd (entryK j nm)).load k = some (z.k, z.n, (z.b.length : Int), par k) := Rt.load (s := r.t.rd (entryK j nm)) (hrv.rd _) hz
      rw [nodeT_tup, el] at c7
      have hkk : q.m.kind k = z.k := by unfold MF.kind; rw [hz]
      have hw1 : IntKind.i64.wrap ((refs k (q.s.shown.row.take r.i) : Int) + 1) = (refs k (q.s.shown.row.take r.i) : Int) + 1 := IntWalk.i64_in _ (by have := hcnt k; omega)
      have hw2 : IntKind.i64.wrap ((subD q.m j (q.s.shown.row.take r.i) : Int) + 1) = (subD q.m j (q.s.shown.row.take r.i) : Int) + 1 := IntWalk.i64_in _ (by have := hcnt2 j; omega)
      rw [hs]
      refine go ?_
      refine K_op rfl rfl (opr_callS [.l 0, .l 1] rfl rfl (c6) rfl rfl rfl ⟨⟨rfl, rfl⟩, ⟨rfl, rfl⟩, trivial⟩ rfl rfl rfl rfl) rfl ?_
      refine go ?_
      refine K_op rfl rfl (opr_at (opr_lookup (u32Key (kt := 36) (by kernel_rfl)) (e := 3) (x0 := .int .i64 0) rfl (by kernel_rfl) (by kernel_rfl) rfl rfl (fun _ => rfl) rfl r.ti.eo) (show TV.p ((mget k r.E).getD (.int .i64 0)) = .p (.int .i64 (refs k (q.s.shown.row.take r.i))) by rw [r.ti.e k hku, cntA_get])) rfl ?_
      refine go ?_
      refine K_op rfl rfl (opr_mapUpdate (u32Key (kt := 36) (by kernel_rfl)) (e := 3) rfl (by kernel_rfl) rfl rfl rfl rfl rfl) rfl ?_
      refine go ?_
      refine K_op rfl rfl (opr_callS [.l 0, .l 1] rfl rfl (c7) rfl rfl rfl ⟨⟨rfl, rfl⟩, ⟨rfl, rfl⟩, trivial⟩ rfl rfl rfl rfl) rfl ?_
      refine go ?_
      by_cases k2 : z.k = 2
      · refine K_condT rfl (by simp [k2]) ?_
        refine go ?_
        refine K_op rfl rfl (opr_at (opr_lookup (u32Key (kt := 36) (by kernel_rfl)) (e := 3) (x0 := .int .i64 0) rfl (by kernel_rfl) (by kernel_rfl) rfl rfl (fun _ => rfl) rfl r.ti.bo) (show TV.p ((mget j r.B).getD (.int .i64 0)) = .p (.int .i64 (subD q.m j (q.s.shown.row.take r.i))) by rw [r.ti.b j hj, cntA_get])) rfl ?_
        refine go ?_
        refine K_op rfl rfl (opr_mapUpdate (u32Key (kt := 36) (by kernel_rfl)) (e := 3) rfl (by kernel_rfl) rfl rfl rfl rfl rfl) rfl ?_
        refine go ?_
        refine K_op rfl rfl (opr_mapUpdate (u32Key (kt := 36) (by kernel_rfl)) (e := 36) rfl (by kernel_rfl) rfl rfl rfl rfl rfl) rfl ?_
        refine go ?_
        refine J_take 7 [(3, .ad (.l 0) 0), (10, .ad (.l 3) 0), (11, .ad (.l 4) 0), (12, .ad (.l 5) 0), (13, .sl (.l 6) (allI (q.s.shown.row.take r.i)).length 0 (allI (q.s.shown.row.take r.i)).length), (67, .p (.ps (kvs q.s.shown.row))), (68, .p (.int .i64 (q.s.shown.row.length : Int))), (69, .p (.int .i64 (IntKind.i64.wrap ((r.i : Int) + 1))))] ⟨rfl, rfl, rfl, rfl, rfl, rfl, rfl, rfl, trivial⟩ rfl rfl ?_
        refine J_again ⟨r.i + 1, by omega, (r.t.rd (entryK j nm)).rd (keyH 73 k), ((hrv.rd _).rd _).mono (by omega), r.sh, mput k (.int .i64 ((refs k (q.s.shown.row.take r.i) : Int) + 1)) r.E, mput j (.int .i64 ((subD q.m j (q.s.shown.row.take r.i) : Int) + 1)) r.B, mput k (.int .u32 j) r.P, by rw [htk, hye]; exact r.ti.dir hj hku (by rw [hkk]; exact k2) (once R hy hz k2 hv hh)⟩ (by show q.s.shown.row.length - (r.i + 1) < q.s.shown.row.length - r.i; omega) ⟨rfl, rfl, rfl, rfl, (by show TV.sl _ _ _ _ = TV.sl _ _ _ _; rw [hal]), rfl, rfl, congrArg (fun z => TV.p (.int .i64 z)) hwi, trivial⟩ rfl (by simp only [ui, hal, hw1, hw2]; rfl)
      · refine K_condF rfl (by simp [k2]) ?_
        refine go ?_
        refine J_take 7 [(3, .ad (.l 0) 0), (10, .ad (.l 3) 0), (11, .ad (.l 4) 0), (12, .ad (.l 5) 0), (13, .sl (.l 6) (allI (q.s.shown.row.take r.i)).length 0 (allI (q.s.shown.row.take r.i)).length), (67, .p (.ps (kvs q.s.shown.row))), (68, .p (.int .i64 (q.s.shown.row.length : Int))), (69, .p (.int .i64 (IntKind.i64.wrap ((r.i : Int) + 1))))] ⟨rfl, rfl, rfl, rfl, rfl, rfl, rfl, rfl, trivial⟩ rfl rfl ?_
        refine J_again ⟨r.i + 1, by omega, (r.t.rd (entryK j nm)).rd (keyH 73 k), ((hrv.rd _).rd _).mono (by omega), r.sh, mput k (.int .i64 ((refs k (q.s.shown.row.take r.i) : Int) + 1)) r.E, r.B, r.P, by rw [htk, hye]; exact r.ti.file hku (by rw [hkk]; exact k2)⟩ (by show q.s.shown.row.length - (r.i + 1) < q.s.shown.row.length - r.i; omega) ⟨rfl, rfl, rfl, rfl, (by show TV.sl _ _ _ _ = TV.sl _ _ _ _; rw [hal]), rfl, rfl, congrArg (fun z => TV.p (.int .i64 z)) hwi, trivial⟩ rfl (by simp only [ui, hal, hw1, hw2]; rfl)
    · have h69 : ¬ y.1.headD 0 = 73 := by rw [hh]; decide
      rw [if_neg h69, List.append_nil] at hal
      rw [hs]
      refine go ?_
      refine J_take 7 [(3, .ad (.l 0) 0), (10, .ad (.l 3) 0), (11, .ad (.l 4) 0), (12, .ad (.l 5) 0), (13, .sl (.l 6) (allI (q.s.shown.row.take r.i)).length 0 (allI (q.s.shown.row.take r.i)).length), (67, .p (.ps (kvs q.s.shown.row))), (68, .p (.int .i64 (q.s.shown.row.length : Int))), (69, .p (.int .i64 (IntKind.i64.wrap ((r.i : Int) + 1))))] ⟨rfl, rfl, rfl, rfl, rfl, rfl, rfl, rfl, trivial⟩ rfl rfl ?_
      refine J_again ⟨r.i + 1, by omega, r.t, hrv.mono (by omega), r.sh, r.E, r.B, r.P, by rw [htk]; exact r.ti.other (by rw [hh]; rfl)⟩ (by show q.s.shown.row.length - (r.i + 1) < q.s.shown.row.length - r.i; omega) ⟨rfl, rfl, rfl, rfl, (by show TV.sl _ _ _ _ = TV.sl _ _ _ _; rw [hal]), rfl, rfl, congrArg (fun z => TV.p (.int .i64 z)) hwi, trivial⟩ rfl (by simp only [ui, hal]; rfl)
  have hre : r.i = q.s.shown.row.length := by omega
  have hti := r.ti
  have hsh := r.sh
  generalize r.t = t at hrv hsh
  generalize r.E = E at hti
  generalize r.B = B at hti
  generalize r.P = P at hti
  rw [hre, List.take_length] at hti
  rw [hre, List.take_length]
  rw [hre] at hrv
  generalize hA : allI q.s.shown.row = A
  have hAl : A.length ≤ 12000 := by
    rw [← hA]
    unfold allI
    rw [List.length_map]
    exact Nat.le_trans (List.length_filter_le _ _) hrl
  have hui : ui q.s.shown.row = A.map fun i => AV.int .u32 i := by unfold ui; rw [hA]
  rw [hui]
  have hAm : ∀ i ∈ A, ∃ x, q.m.at i = some x := fun i hi => by
    rw [← hA] at hi
    obtain ⟨y, hy, rfl⟩ := List.mem_map.1 hi
    obtain ⟨hy, hh⟩ := List.mem_filter.1 hy
    rcases split_row R hy with ⟨j, x, hj, hk, _, hx⟩ | ⟨j, k, nm, x, z, hj, _, hk, _⟩ | ⟨j, i', hh', _⟩
    · have := gF_kH (c := 73) [] hj
      rw [List.append_nil] at this
      rw [hk, this]; exact ⟨x, hx⟩
    · rw [hk] at hh; exact absurd hh (by show ¬ ((69 : UInt8) == 73) = true; decide)
    · rw [hh'] at hh; exact absurd hh (by decide)
  refine K_condF rfl (decide_eq_false (by omega)) ?_
  refine go ?_
  have hAm2 : (A.map fun i => AV.int .u32 i).length = A.length := by simp
  refine K_op rfl rfl (opr_len_rd hT rfl rfl (Rd.own rfl hAm2)) rfl ?_
  rw [hAm2]
  refine go ?_
  refine J_loop (fun r : S3 q.s (200 * q.i + 1 + 2 * q.s.shown.row.length) A => [(3, .ad (.l 0) 0), (10, .ad (.l 3) 0), (11, .ad (.l 4) 0), (12, .ad (.l 5) 0), (13, .sl (.l 6) A.length 0 A.length), (118, .sl (.l 6) A.length 0 A.length), (119, .p (.int .i64 (A.length : Int))), (120, .p (.int .i64 (r.i : Int)))]) (fun _ => []) (fun r => [vB (.l 1) r.t.base r.t.shown r.t.writes r.t.reads r.t.ranges.length, vR r.t.ranges, fB q.m, mpO (AV.int .u32) E, mpO (AV.int .u32) B, mpO (AV.int .u32) P, .arr 36 true 1 (A.map fun i => AV.int .u32 i)]) (fun r => A.length - r.i) ⟨0, by omega, t, hrv, hsh⟩ ⟨rfl, rfl, rfl, rfl, rfl, rfl, rfl, rfl, trivial⟩ rfl rfl (fun r => ?_)
  have hri := r.h
  have hrv := r.v
  refine go ?_
  by_cases hlt : r.i < A.length
  · have hy : A[r.i]? = some A[r.i] := List.getElem?_eq_getElem hlt
    obtain ⟨x, hx⟩ := hAm _ (List.getElem_mem hlt)
    generalize A[r.i] = j at hy hx
    have hyk : (A.map fun i => AV.int .u32 i)[((r.i : Nat) : Int).toNat]? = some (.int .u32 j) := by rw [Int.toNat_natCast, List.getElem?_map, hy]; rfl
    have Rt : Rel r.t.shown.row q.m par := by rw [r.sh]; exact R
    have hju := (R.u _ _ hx).1
    have c8 := wload_spec hrv (by omega) j hju
    have el := Rt.load (s := r.t) hrv hx
    rw [nodeT_tup, el] at c8
    have hmay := R.may hx
    have c9 := rmay_spec x.k x.n (x.b.length : Int) (par j) hmay.2.1.1
    rw [hmay.1] at c9
    have hwi : IntKind.i64.wrap ((r.i : Int) + 1) = ((r.i + 1 : Nat) : Int) := by rw [IntWalk.i64_in _ (by omega)]; rfl
    have hwn : IntKind.i64.wrap x.n = x.n := IntWalk.i64_in _ (by have := hmay.2.1; unfold U32 at this; omega)
    have hv2 : VJ (r.t.rd (keyH 73 j)) (200 * q.i + 1 + 2 * q.s.shown.row.length + (r.i + 1)) := (hrv.rd _).mono (by omega)
    have hsh2 : (r.t.rd (keyH 73 j)).shown = q.s.shown := r.sh
    generalize r.t.rd (keyH 73 j) = t2 at c8 hv2 hsh2
    refine K_condT rfl (decide_eq_true (by omega)) ?_
    refine go ?_
    refine K_op rfl rfl (opr_index hT rfl rfl rfl rfl rfl (Rd.own rfl hAm2) (by omega) (by rw [hAm2]; omega)) rfl ?_
    refine go ?_
    refine K_op rfl rfl (opr_load_el hT rfl rfl (Rd.own rfl hAm2) hyk rfl rfl) rfl ?_
    refine go ?_
    refine K_op rfl rfl (opr_callS [.l 0, .l 1] rfl rfl (c8) rfl rfl rfl ⟨⟨rfl, rfl⟩, ⟨rfl, rfl⟩, trivial⟩ rfl rfl rfl rfl) rfl ?_
    refine go ?_
    refine K_yes rfl rfl rfl (opr_callP rfl rfl (c9) rfl rfl rfl rfl) rfl ?_
    rcases k12 R.toA hx with k1 | k2
    · have hlk1 := R.lkf j x hx k1
      refine gx ?_
      refine J_val 142 (.p (.bool true)) rfl (congrArg (fun b => TV.p (.bool b)) (by show (x.k == 1) = true; rw [k1]; rfl)) ?_
      refine go ?_
      refine K_yes rfl rfl rfl (opr_at (opr_lookup (u32Key (kt := 36) (by kernel_rfl)) (e := 3) (x0 := .int .i64 0) rfl (by kernel_rfl) (by kernel_rfl) rfl rfl (fun _ => rfl) rfl hti.eo) (show TV.p ((mget j E).getD (.int .i64 0)) = .p (.int .i64 (refs j q.s.shown.row)) by rw [hti.e j hju, cntA_get])) rfl ?_
      refine go ?_
      refine K_condF rfl (by show ((IntKind.i64.wrap x.n) != (refs j q.s.shown.row : Int)) = false; rw [hwn, hlk1]; simp) ?_
      refine gx ?_
      refine J_val 155 (.p (.bool false)) rfl (congrArg (fun b => TV.p (.bool b)) (by show (x.k == 2) = false; rw [k1]; rfl)) ?_
      refine go ?_
      refine J_loop (fun _ : Unit => [(3, .ad (.l 0) 0), (10, .ad (.l 3) 0), (11, .ad (.l 4) 0), (12, .ad (.l 5) 0), (13, .sl (.l 6) A.length 0 A.length), (118, .sl (.l 6) A.length 0 A.length), (119, .p (.int .i64 (A.length : Int))), (120, .p (.int .i64 (r.i : Int))), (26, .ad (.l 7) 0), (28, .p (.int .u32 j)), (29, .p (.int .i64 0))]) (fun _ => []) (fun _ => [vB (.l 1) t2.base t2.shown t2.writes t2.reads t2.ranges.length, vR t2.ranges, fB q.m, mpO (AV.int .u32) E, mpO (AV.int .u32) B, mpO (AV.int .u32) P, .arr 36 true 1 (A.map fun i => AV.int .u32 i), .box 53 [.p (.int .u8 x.k), .p (.int .u32 x.n), .p (.int .u32 (x.b.length : Int)), .p (.int .u32 (par j))]]) (fun _ => 0) () ⟨rfl, rfl, rfl, rfl, rfl, rfl, rfl, rfl, rfl, rfl, rfl, trivial⟩ rfl rfl (fun _ => ?_)
      refine go ?_
      refine K_condF rfl (by simp [k1]) ?_
      refine go ?_
      refine J_take 7 [(3, .ad (.l 0) 0), (10, .ad (.l 3) 0), (11, .ad (.l 4) 0), (12, .ad (.l 5) 0), (13, .sl (.l 6) A.length 0 A.length), (118, .sl (.l 6) A.length 0 A.length), (119, .p (.int .i64 (A.length : Int))), (120, .p (.int .i64 (IntKind.i64.wrap ((r.i : Int) + 1))))] ⟨rfl, rfl, rfl, rfl, rfl, rfl, rfl, rfl, trivial⟩ rfl rfl ?_
      refine J_again ⟨r.i + 1, by omega, t2, hv2, hsh2⟩ (by show A.length - (r.i + 1) < A.length - r.i; omega) ⟨rfl, rfl, rfl, rfl, rfl, rfl, rfl, congrArg (fun z => TV.p (.int .i64 z)) hwi, trivial⟩ rfl rfl
    · have hlk2 := R.lkd j x hx k2
      have hsd := subD_eq R hx
      have hone := R.one j x hx k2
      obtain ⟨N0, hN0⟩ := ha j x hx k2
      have hpl := path_le R hN0 ⟨x, hx, k2⟩
      rw [hA] at hpl
      have hw2 : IntKind.i64.wrap (2 + (subD q.m j q.s.shown.row : Int)) = x.n := by rw [hsd, ← hlk2]; exact hwn
      refine gx ?_
      refine J_val 142 (.p (.bool false)) rfl (congrArg (fun b => TV.p (.bool b)) (by show (x.k == 1) = false; rw [k2]; rfl)) ?_
      refine gx ?_
      refine J_val 155 (.p (.bool true)) rfl (congrArg (fun b => TV.p (.bool b)) (by show (x.k == 2) = true; rw [k2]; rfl)) ?_
      refine go ?_
      refine K_yes rfl rfl rfl (opr_at (opr_lookup (u32Key (kt := 36) (by kernel_rfl)) (e := 3) (x0 := .int .i64 0) rfl (by kernel_rfl) (by kernel_rfl) rfl rfl (fun _ => rfl) rfl hti.bo) (show TV.p ((mget j B).getD (.int .i64 0)) = .p (.int .i64 (subD q.m j q.s.shown.row)) by rw [hti.b j hju, cntA_get])) rfl ?_
      refine gx ?_
      refine J_val 164 (.p (.bool false)) rfl (congrArg (fun b => TV.p (.bool b)) (by show ((IntKind.i64.wrap x.n) != IntKind.i64.wrap (2 + (subD q.m j q.s.shown.row : Int))) = false; rw [hw2, hwn]; simp)) ?_
      refine go ?_
      refine K_yes rfl rfl rfl (opr_at (opr_lookup (u32Key (kt := 36) (by kernel_rfl)) (e := 3) (x0 := .int .i64 0) rfl (by kernel_rfl) (by kernel_rfl) rfl rfl (fun _ => rfl) rfl hti.eo) (show TV.p ((mget j E).getD (.int .i64 0)) = .p (.int .i64 (refs j q.s.shown.row)) by rw [hti.e j hju, cntA_get])) rfl ?_
      refine go ?_
      refine K_condF rfl (by
        by_cases e1 : j = 1
        · subst e1; simp
        · rw [if_neg e1] at hone; rw [hone]; simp) ?_
      refine go ?_
      refine J_loop (fun w : Up q.m 2 A.length => [(3, .ad (.l 0) 0), (10, .ad (.l 3) 0), (11, .ad (.l 4) 0), (12, .ad (.l 5) 0), (13, .sl (.l 6) A.length 0 A.length), (118, .sl (.l 6) A.length 0 A.length), (119, .p (.int .i64 (A.length : Int))), (120, .p (.int .i64 (r.i : Int))), (26, .ad (.l 7) 0), (28, .p (.int .u32 w.u)), (29, .p (.int .i64 (w.n : Int)))]) (fun _ => []) (fun _ => [vB (.l 1) t2.base t2.shown t2.writes t2.reads t2.ranges.length, vR t2.ranges, fB q.m, mpO (AV.int .u32) E, mpO (AV.int .u32) B, mpO (AV.int .u32) P, .arr 36 true 1 (A.map fun i => AV.int .u32 i), .box 53 [.p (.int .u8 x.k), .p (.int .u32 x.n), .p (.int .u32 (x.b.length : Int)), .p (.int .u32 (par j))]]) (fun w => w.r) ⟨j, 0, N0.length, by omega, fun _ => ⟨N0, rfl, hN0, x, hx, k2⟩⟩ ⟨rfl, rfl, rfl, rfl, rfl, rfl, rfl, rfl, rfl, rfl, rfl, trivial⟩ rfl rfl (fun w => ?_)
      obtain ⟨N, hNl, hN, y, hy1, hy2⟩ := w.h rfl
      have hwb := w.b
      refine go ?_
      by_cases hu1 : w.u = 1
      · refine K_condF rfl (by simp [hu1]) ?_
        refine go ?_
        refine J_take 7 [(3, .ad (.l 0) 0), (10, .ad (.l 3) 0), (11, .ad (.l 4) 0), (12, .ad (.l 5) 0), (13, .sl (.l 6) A.length 0 A.length), (118, .sl (.l 6) A.length 0 A.length), (119, .p (.int .i64 (A.length : Int))), (120, .p (.int .i64 (IntKind.i64.wrap ((r.i : Int) + 1))))] ⟨rfl, rfl, rfl, rfl, rfl, rfl, rfl, rfl, trivial⟩ rfl rfl ?_
        refine J_again ⟨r.i + 1, by omega, t2, hv2, hsh2⟩ (by show A.length - (r.i + 1) < A.length - r.i; omega) ⟨rfl, rfl, rfl, rfl, rfl, rfl, rfl, congrArg (fun z => TV.p (.int .i64 z)) hwi, trivial⟩ rfl rfl
      refine K_condT rfl (by simp [k2, hu1]) ?_
      refine go ?_
      refine K_op rfl rfl (opr_len_rd hT rfl rfl (Rd.own rfl hAm2)) rfl ?_
      rw [hAm2]
      refine go ?_
      obtain ⟨M, nm, d1, x1, e1, e2, e3, e4, e5⟩ : ∃ M nm d1 x1, N = M ++ [nm] ∧ Reach q.m M d1 ∧ q.m.at d1 = some x1 ∧ x1.k = 2 ∧ lget nm x1.e = some (beB 4 w.u) := by
        rcases List.eq_nil_or_concat N with e | ⟨M, nm, e⟩
        · rw [e] at hN
          exact absurd (reach_fun hN .nil) hu1
        · rw [List.concat_eq_append] at e
          rw [e] at hN
          obtain ⟨d1, x1, g1, g2, g3, g4⟩ := reach_snoc hN
          exact ⟨M, nm, d1, x1, e, g1, g2, g3, g4⟩
      have hNM : N.length = M.length + 1 := by rw [e1]; simp
      have huu := (R.u _ _ hy1).1
      have hd1u := (R.u _ _ e3).1
      have hrow : (keyH 69 d1 ++ nm, beB 4 w.u) ∈ q.s.shown.row := sub_mem.1 (by rw [← R.ent d1 x1 e3]; exact (lget_some (by rw [R.ent d1 x1 e3]; exact sub_rises R.ri)).1 e5)
      have hmp : mget w.u P = some (.int .u32 d1) := by
        have := hti.p _ hrow rfl (by dsimp only; rw [beV_be4 w.u huu]; unfold MF.kind; rw [hy1]; exact hy2)
        dsimp only at this
        rw [beV_be4 w.u huu, gF_kH nm hd1u] at this
        exact this
      refine K_condF rfl (decide_eq_false (by omega)) ?_
      refine go ?_
      refine K_op rfl rfl (opr_at (opr_lookup (u32Key (kt := 36) (by kernel_rfl)) (e := 36) (x0 := .int .u32 0) rfl (by kernel_rfl) (by kernel_rfl) rfl rfl (fun _ => rfl) rfl hti.po) (show TV.p ((mget w.u P).getD (.int .u32 0)) = .p (.int .u32 d1) by rw [hmp]; rfl)) rfl ?_
      refine go ?_
      refine J_take 8 [(3, .ad (.l 0) 0), (10, .ad (.l 3) 0), (11, .ad (.l 4) 0), (12, .ad (.l 5) 0), (13, .sl (.l 6) A.length 0 A.length), (118, .sl (.l 6) A.length 0 A.length), (119, .p (.int .i64 (A.length : Int))), (120, .p (.int .i64 (r.i : Int))), (26, .ad (.l 7) 0), (28, .p (.int .u32 d1)), (29, .p (.int .i64 (IntKind.i64.wrap ((w.n : Int) + 1))))] ⟨rfl, rfl, rfl, rfl, rfl, rfl, rfl, rfl, rfl, rfl, rfl, trivial⟩ rfl rfl ?_
      refine J_again ⟨d1, w.n + 1, M.length, by omega, fun _ => ⟨M, rfl, e2, x1, e3, e4⟩⟩ (by show M.length < w.r; omega) ⟨rfl, rfl, rfl, rfl, rfl, rfl, rfl, rfl, rfl, rfl, congrArg (fun z => TV.p (.int .i64 z)) (by rw [IntWalk.i64_in _ (by omega)]; rfl), trivial⟩ rfl rfl
  refine K_condF rfl (decide_eq_false (by omega)) ?_
  refine go ?_
  refine K_op rfl rfl (opr_callP rfl rfl (fixed18_spec) rfl rfl rfl rfl) rfl ?_
  refine go ?_
  exact J_done hT rfl rfl rfl
end dirsTree
end Go.Proofs.YtfnpelogfcnanaaGreatDoor

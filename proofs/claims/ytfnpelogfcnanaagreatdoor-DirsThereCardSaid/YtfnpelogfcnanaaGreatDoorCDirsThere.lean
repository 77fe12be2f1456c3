/- The law DirsThere: its contract. -/
import Derived.Test.YtfnpelogfcnanaaGreatDoorGo
import Derived.Test.YtfnpelogfcnanaaGreatDoorM21
import Derived.Test.YtfnpelogfcnanaaGreatDoorM7
-- @D
namespace Go.Proofs.YtfnpelogfcnanaaGreatDoor
set_option maxRecDepth 20000
open Go.Awp Tr
namespace dirsThere
structure St (l : List DOp) where
  i : Nat
  h : i ≤ l.length
  s : VS
  m : MF
  d : D18 s m i
set_option maxHeartbeats 32000000 in
theorem con {a0 a1 a2 : AV} (s0 : Shp tab 8 22 a0) (s1 : Shp tab 8 9 a1) (s2 : Shp tab 8 9 a2) : Con Tryz.prog 5 [.p a0, .p a1, .p a2] [] (.p (.bool true)) [] [] := by
  obtain ⟨lo, hlo, _, hlo2⟩ := dops_shp s0
  obtain ⟨old, rfl, _⟩ := s1.str rfl
  obtain ⟨path, rfl, _⟩ := s2.str rfl
  by_cases hbad : 1000 < old.length ∨ 1000 < path.length
  · skip
    refine con_of Tryz.func5 rfl (by kernel_rfl) rfl fun F w0 β0 => ?_
    refine K_tell rfl ?_
    refine go ?_
    refine K_condT rfl (by rcases hbad with h | h <;> simp <;> omega) ?_
    refine go ?_
    refine K_op rfl rfl (opr_callP rfl rfl (fixed18_spec) rfl rfl rfl rfl) rfl ?_
    refine go ?_
    exact J_done hT rfl rfl rfl
  obtain ⟨o', ho', c1⟩ := cut18_spec hlo hlo2
  have l60 := dops_cut (l := lo)
  generalize lo.take (cutG stop18 lo 0) = l at ho' l60
  have hrd := ho'.rd
  have hlen : (l.map dopV).length = l.length := by simp
  refine con_of Tryz.func5 rfl (by kernel_rfl) rfl fun F w0 β0 => ?_
  refine K_tell rfl ?_
  refine go ?_
  refine K_condF rfl (by simp; omega) ?_
  refine go ?_
  refine K_op rfl rfl (opr_callP rfl rfl (tnew_spec) rfl rfl rfl rfl) rfl ?_
  refine go ?_
  refine K_op rfl rfl (opr_callP rfl rfl (vnew_spec .nil) rfl rfl rfl rfl) rfl ?_
  refine go ?_
  refine K_op rfl rfl (opr_callP rfl rfl (rnew18_spec) rfl rfl rfl rfl) rfl ?_
  refine go ?_
  refine K_op rfl rfl (opr_callP rfl rfl (c1) rfl rfl rfl rfl) rfl ?_
  refine go ?_
  refine K_op rfl rfl (opr_len_rd hT rfl rfl (hrd _ _)) rfl ?_
  rw [hlen]
  refine go ?_
  refine J_loop (fun q : St l => [(1, .p (.str old)), (2, .p (.str path)), (7, .ad (.l 0) 0), (8, .ad (.l 2) 0), (30, .p o'), (31, .p (.int .i64 (l.length : Int))), (32, .p (.int .i64 (q.i : Int)))]) (fun _ => []) (fun q => [vB (.l 1) q.s.base q.s.shown q.s.writes q.s.reads q.s.ranges.length, vR q.s.ranges, fB q.m]) (fun q => l.length - q.i) ⟨0, by omega, VS.new .nil, newM, D18.new⟩ ⟨rfl, rfl, rfl, rfl, rfl, rfl, rfl, trivial⟩ rfl rfl (fun q => ?_)
  have hi := q.h
  have d := q.d
  obtain ⟨hu, h1k, hok⟩ := d.u
  refine go ?_
  by_cases h : q.i < l.length
  · have hx : l[q.i]? = some l[q.i] := List.getElem?_eq_getElem h
    generalize l[q.i] = x at hx
    have hxk : (l.map dopV)[((q.i : Nat) : Int).toNat]? = some (dopV x) := by rw [Int.toNat_natCast, List.getElem?_map, hx]; rfl
    obtain ⟨k2, p2, o2⟩ := x
    have hj : IntKind.u32.wrap (IntKind.i64.wrap (2 + (q.i : Int))) = 2 + q.i := by rw [IntWalk.i64_in _ (by omega)]; exact u32_in _ (by omega)
    have c2 := do_spec d.v (by omega) hok (by omega) hu h1k k2 p2 o2 (IntKind.u32.wrap (IntKind.i64.wrap (2 + (q.i : Int)))) (u32_bd _)
    have hst := d.step (by omega) k2 p2 o2 (IntKind.u32.wrap (IntKind.i64.wrap (2 + (q.i : Int)))) hj
    generalize doT q.s q.m k2 p2 o2 (IntKind.u32.wrap (IntKind.i64.wrap (2 + (q.i : Int)))) = R at c2 hst
    obtain ⟨⟨ok, m1, full⟩, s'⟩ := R
    dsimp only at c2 hst
    refine K_condT rfl (decide_eq_true (by omega)) ?_
    refine go ?_
    refine K_op rfl rfl (opr_index hT rfl rfl rfl rfl rfl (hrd _ _) (by omega) (by rw [hlen]; omega)) rfl ?_
    refine go ?_
    refine K_op rfl rfl (opr_load_el hT rfl rfl (hrd _ _) hxk rfl rfl) rfl ?_
    refine go ?_
    refine K_op rfl rfl (opr_callS [.l 0, .l 1] rfl rfl (c2) rfl rfl rfl ⟨⟨rfl, rfl⟩, ⟨rfl, rfl⟩, trivial⟩ rfl rfl rfl rfl) rfl ?_
    rcases hst with rfl | ⟨rfl, rfl, d'⟩
    · refine go ?_
      refine K_condT rfl (by simp) ?_
      refine go ?_
      refine K_yes rfl rfl rfl (opr_callP rfl rfl (fixed18_spec) rfl rfl rfl rfl) rfl ?_
      refine go ?_
      exact J_done hT rfl rfl rfl
    refine go ?_
    refine J_take 3 [(1, .p (.str old)), (2, .p (.str path)), (7, .ad (.l 0) 0), (8, .ad (.l 2) 0), (30, .p o'), (31, .p (.int .i64 (l.length : Int))), (32, .p (.int .i64 (IntKind.i64.wrap ((q.i : Int) + 1))))] ⟨rfl, rfl, rfl, rfl, rfl, rfl, rfl, trivial⟩ rfl rfl ?_
    refine J_again ⟨q.i + 1, by omega, s', m1, d'⟩ (by show l.length - (q.i + 1) < l.length - q.i; omega) ⟨rfl, rfl, rfl, rfl, rfl, rfl, congrArg (fun z => TV.p (.int .i64 z)) (by rw [IntWalk.i64_in _ (by omega)]; rfl), trivial⟩ rfl rfl
  obtain ⟨d', hrow⟩ := d.based
  have c3 := based_spec d.v (by omega)
  obtain ⟨par, R⟩ := d'.r
  have c4 := range_all d'.v (by omega) R
  obtain ⟨sh1, wr1⟩ := range_sh (VS.new (basedT q.s)) [] [255]
  have hv0 := d'.v.range [] [255]
  have hz0 : (VS.new (basedT q.s)).writes.size = 0 := rfl
  have hrl : (VS.new (basedT q.s)).shown.row.length ≤ 1000000 := by have := d'.v.zs; rw [row_len]; omega
  generalize (VS.new (basedT q.s)).range [] [255] = s0 at c4 sh1 wr1 hv0
  have R0 : Rel s0.shown.row q.m par := by rw [sh1]; exact R
  have hrow0 : s0.shown.row = (VS.new (basedT q.s)).shown.row := by rw [sh1]
  have hz1 : s0.writes.size = 0 := by rw [wr1]; exact hz0
  have ca := alike_spec (VS.new (basedT q.s)).shown.row hrl
  have c5 := wfind_spec hv0 (by omega) path
  obtain ⟨he, hs⟩ := find_sim hv0 R0 path
  have hv1 : VJ (s0.rdp path) _ := hv0.rdp path
  have hrow1 : (s0.rdp path).shown.row = (VS.new (basedT q.s)).shown.row := hrow0
  have hz3 : (s0.rdp path).writes.size = 0 := hz1
  change Con Tryz.prog _ _ _ _ (vH (s0.rdp path)) _ at c5
  rw [he] at c5
  refine K_condF rfl (decide_eq_false (by omega)) ?_
  refine go ?_
  refine K_op rfl rfl (opr_callS [.l 0, .l 1] rfl rfl (c3) rfl rfl rfl ⟨⟨rfl, rfl⟩, ⟨rfl, rfl⟩, trivial⟩ rfl rfl rfl rfl) rfl ?_
  refine go ?_
  refine J_pick [3, 4] [(1, .p (.str old)), (2, .p (.str path)), (7, .ad (.l 0) 0), (61, .ad (.l 0) 0)] (vN (VS.new (basedT q.s))) ⟨rfl, rfl, rfl, rfl, trivial⟩ rfl rfl ⟨⟨rfl, rfl⟩, ⟨rfl, rfl⟩, trivial⟩ ?_
  refine K_op rfl rfl (opr_callS [.l 0, .l 1] rfl rfl (c4) rfl rfl rfl ⟨⟨rfl, rfl⟩, ⟨rfl, rfl⟩, trivial⟩ rfl rfl rfl rfl) rfl ?_
  refine go ?_
  refine K_op rfl rfl (opr_callS [.l 0, .l 1] rfl rfl (c5) rfl rfl rfl ⟨⟨rfl, rfl⟩, ⟨rfl, rfl⟩, trivial⟩ rfl rfl rfl rfl) rfl ?_
  refine go ?_
  by_cases h4 : (q.m.findP path).2 ≠ 0
  · refine K_condT rfl (by simp [h4]) ?_
    refine go ?_
    refine K_op rfl rfl (opr_callP rfl rfl (fixed18_spec) rfl rfl rfl rfl) rfl ?_
    refine go ?_
    exact J_done hT rfl rfl rfl
  have h4 : (q.m.findP path).2 = 0 := by simpa using h4
  have hs := hs h4
  by_cases h7 : (q.m.findP path).1.i ≠ 0
  · refine K_condT rfl (by rw [hs.hi]; simp [h7]) ?_
    refine go ?_
    refine K_op rfl rfl (opr_callP rfl rfl (fixed18_spec) rfl rfl rfl rfl) rfl ?_
    refine go ?_
    exact J_done hT rfl rfl rfl
  have h7 : (q.m.findP path).1.i = 0 := by simpa using h7
  refine K_condF rfl (by rw [hs.hi, h7, h4]; rfl) ?_
  refine go ?_
  generalize s0.rdp path = s1 at c5 hv1 hrow1 hz3
  have R1 : Rel s1.shown.row q.m par := by rw [hrow1]; exact R
  have c6 := rename_spec hv1 (by omega) old path
  have hv2 := rename_ok hv1 R1 old path
  rcases rename_back hv1 R1 d'.w (by omega) (by omega) old path h4 h7 with ⟨r1, r2, r3⟩ | ⟨r1, r2, r3, r4⟩
  · generalize s1.rename old path = w at c6 r1 r2 r3 hv2
    obtain ⟨e, s2⟩ := w
    dsimp only at c6 r1 r2 r3 hv2
    have R2 : Rel s2.shown.row q.m par := by rw [r2]; exact R1
    have hrow2 : s2.shown.row = (VS.new (basedT q.s)).shown.row := r2.trans hrow1
    have hz2 : s2.writes.size ≤ 20 := by omega
    refine K_op rfl rfl (opr_callS [.l 0, .l 1] rfl rfl (c6) rfl rfl rfl ⟨⟨rfl, rfl⟩, ⟨rfl, rfl⟩, trivial⟩ rfl rfl rfl rfl) rfl ?_
    refine go ?_
    refine K_condF rfl (by simp [r1]) ?_
    refine go ?_
    have z5 := hz2
    have c8 := link_spec hv2 (by omega) old path
    rcases link_back hv2 R2 d'.w (by omega) old path h4 h7 with l1 | ⟨l1, l2, l3⟩
    · generalize s2.link old path = q at c8 l1
      obtain ⟨e, s3⟩ := q
      dsimp only at c8 l1
      refine K_op rfl rfl (opr_callS [.l 0, .l 1] rfl rfl (c8) rfl rfl rfl ⟨⟨rfl, rfl⟩, ⟨rfl, rfl⟩, trivial⟩ rfl rfl rfl rfl) rfl ?_
      refine go ?_
      refine K_condF rfl (by simp [l1]) ?_
      refine go ?_
      refine K_op rfl rfl (opr_callP rfl rfl (fixed18_spec) rfl rfl rfl rfl) rfl ?_
      refine go ?_
      exact J_done hT rfl rfl rfl
    rw [l1] at c8
    have hv3 := link_ok hv2 old path
    obtain ⟨_, R3⟩ := (link_sim hv2 R2 old path).resolve_left (by omega)
    have c9 := unlink_spec hv3 (by omega) path
    rw [l2] at c9
    have hv4 := unlink_ok hv3 R3 path
    generalize (s2.link old path).2 = s3 at c8 c9 hv3 hv4 l3 R3
    generalize (s3.unlink path).2 = s4 at c9 hv4 l3
    have R4 : Rel s4.shown.row q.m par := by rw [l3]; exact R2
    have c10 := range_all hv4 (by omega) R4
    rw [l3, hrow2] at c10
    generalize s4.range [] [255] = s5 at c10
    refine K_op rfl rfl (opr_callS [.l 0, .l 1] rfl rfl (c8) rfl rfl rfl ⟨⟨rfl, rfl⟩, ⟨rfl, rfl⟩, trivial⟩ rfl rfl rfl rfl) rfl ?_
    refine go ?_
    refine K_op rfl rfl (opr_callS [.l 0, .l 1] rfl rfl (c9) rfl rfl rfl ⟨⟨rfl, rfl⟩, ⟨rfl, rfl⟩, trivial⟩ rfl rfl rfl rfl) rfl ?_
    refine go ?_
    refine K_yes rfl rfl rfl (opr_callS [.l 0, .l 1] rfl rfl (c10) rfl rfl rfl ⟨⟨rfl, rfl⟩, ⟨rfl, rfl⟩, trivial⟩ rfl rfl rfl rfl) rfl ?_
    refine go ?_
    refine K_yes rfl rfl rfl (opr_callP rfl rfl (ca) rfl rfl rfl rfl) rfl ?_
    refine go ?_
    refine K_op rfl rfl (opr_callP rfl rfl (fixed18_spec) rfl rfl rfl rfl) rfl ?_
    refine go ?_
    exact J_done hT rfl rfl rfl
  · have hwk := rename_wk d'.w old path
    obtain ⟨_, par1, Rm⟩ := (rename_sim hv1 R1 d'.w (by omega) old path).resolve_left (by omega)
    rw [r1] at c6
    have c7 := rename_spec hv2 (by omega) path old
    have hv6 := rename_ok hv2 Rm path old
    rw [r2] at c7
    generalize (s1.rename old path).2 = s6 at c6 c7 hv2 r3 r4 hv6
    generalize (s6.rename path old).2 = s7 at c7 r3 r4 hv6
    have R7 : Rel s7.shown.row q.m par := by rw [r3]; exact R1
    have hrow7 : s7.shown.row = (VS.new (basedT q.s)).shown.row := r3.trans hrow1
    have c11 := range_all hv6 (by omega) R7
    rw [hrow7] at c11
    obtain ⟨sh7, wr7⟩ := range_sh s7 [] [255]
    have hv8 := hv6.range [] [255]
    generalize s7.range [] [255] = s2 at c11 sh7 wr7 hv8
    clear hv2
    have hv2 := hv8
    have R2 : Rel s2.shown.row q.m par := by rw [sh7]; exact R7
    have hrow2 : s2.shown.row = (VS.new (basedT q.s)).shown.row := by rw [sh7]; exact hrow7
    have hz2 : s2.writes.size ≤ 20 := by rw [wr7]; omega
    refine K_op rfl rfl (opr_callS [.l 0, .l 1] rfl rfl (c6) rfl rfl rfl ⟨⟨rfl, rfl⟩, ⟨rfl, rfl⟩, trivial⟩ rfl rfl rfl rfl) rfl ?_
    refine go ?_
    refine K_op rfl rfl (opr_callS [.l 0, .l 1] rfl rfl (c7) rfl rfl rfl ⟨⟨rfl, rfl⟩, ⟨rfl, rfl⟩, trivial⟩ rfl rfl rfl rfl) rfl ?_
    refine go ?_
    refine K_yes rfl rfl rfl (opr_callS [.l 0, .l 1] rfl rfl (c11) rfl rfl rfl ⟨⟨rfl, rfl⟩, ⟨rfl, rfl⟩, trivial⟩ rfl rfl rfl rfl) rfl ?_
    refine go ?_
    refine K_yes rfl rfl rfl (opr_callP rfl rfl (ca) rfl rfl rfl rfl) rfl ?_
    refine go ?_
    have z5 := hz2
    have c8 := link_spec hv2 (by omega) old path
    rcases link_back hv2 R2 d'.w (by omega) old path h4 h7 with l1 | ⟨l1, l2, l3⟩
    · generalize s2.link old path = q at c8 l1
      obtain ⟨e, s3⟩ := q
      dsimp only at c8 l1
      refine K_op rfl rfl (opr_callS [.l 0, .l 1] rfl rfl (c8) rfl rfl rfl ⟨⟨rfl, rfl⟩, ⟨rfl, rfl⟩, trivial⟩ rfl rfl rfl rfl) rfl ?_
      refine go ?_
      refine K_condF rfl (by simp [l1]) ?_
      refine go ?_
      refine K_op rfl rfl (opr_callP rfl rfl (fixed18_spec) rfl rfl rfl rfl) rfl ?_
      refine go ?_
      exact J_done hT rfl rfl rfl
    rw [l1] at c8
    have hv3 := link_ok hv2 old path
    obtain ⟨_, R3⟩ := (link_sim hv2 R2 old path).resolve_left (by omega)
    have c9 := unlink_spec hv3 (by omega) path
    rw [l2] at c9
    have hv4 := unlink_ok hv3 R3 path
    generalize (s2.link old path).2 = s3 at c8 c9 hv3 hv4 l3 R3
    generalize (s3.unlink path).2 = s4 at c9 hv4 l3
    have R4 : Rel s4.shown.row q.m par := by rw [l3]; exact R2
    have c10 := range_all hv4 (by omega) R4
    rw [l3, hrow2] at c10
    generalize s4.range [] [255] = s5 at c10
    refine K_op rfl rfl (opr_callS [.l 0, .l 1] rfl rfl (c8) rfl rfl rfl ⟨⟨rfl, rfl⟩, ⟨rfl, rfl⟩, trivial⟩ rfl rfl rfl rfl) rfl ?_
    refine go ?_
    refine K_op rfl rfl (opr_callS [.l 0, .l 1] rfl rfl (c9) rfl rfl rfl ⟨⟨rfl, rfl⟩, ⟨rfl, rfl⟩, trivial⟩ rfl rfl rfl rfl) rfl ?_
    refine go ?_
    refine K_yes rfl rfl rfl (opr_callS [.l 0, .l 1] rfl rfl (c10) rfl rfl rfl ⟨⟨rfl, rfl⟩, ⟨rfl, rfl⟩, trivial⟩ rfl rfl rfl rfl) rfl ?_
    refine go ?_
    refine K_yes rfl rfl rfl (opr_callP rfl rfl (ca) rfl rfl rfl rfl) rfl ?_
    refine go ?_
    refine K_op rfl rfl (opr_callP rfl rfl (fixed18_spec) rfl rfl rfl rfl) rfl ?_
    refine go ?_
    exact J_done hT rfl rfl rfl
end dirsThere
end Go.Proofs.YtfnpelogfcnanaaGreatDoor

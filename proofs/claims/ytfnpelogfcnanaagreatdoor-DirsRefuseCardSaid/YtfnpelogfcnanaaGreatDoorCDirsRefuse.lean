/- The law DirsRefuse: its contract. -/
import Derived.Test.YtfnpelogfcnanaaGreatDoorGo
import Derived.Test.YtfnpelogfcnanaaGreatDoorM20
import Derived.Test.YtfnpelogfcnanaaGreatDoorM7
import Derived.Test.YtfnpelogfcnanaaGreatDoorM3
-- @D
namespace Go.Proofs.YtfnpelogfcnanaaGreatDoor
set_option maxRecDepth 20000
open Go.Awp Tr
namespace dirsRefuse
structure St (l : List DOp) where
  i : Nat
  h : i ≤ l.length
  s : VS
  m : MF
  d : D18 s m i
  c : WC s
set_option maxHeartbeats 32000000 in
theorem con {a0 : AV} {a1 : List AV} (s0 : Shp tab 8 22 a0) (s1 : All2 (Shp tab 8) [3, 9, 9] a1) : Con Tryz.prog 6 [.p a0, .p (.agg a1)] [] (.p (.bool true)) [] [] := by
  obtain ⟨lo, hlo, _, hlo2⟩ := dops_shp s0
  obtain ⟨x, y, z, rfl, hx, hy, hz⟩ := all2_3 s1
  obtain ⟨k, rfl, hk⟩ := hx.int rfl
  obtain ⟨p, rfl, hp⟩ := hy.str rfl
  obtain ⟨o, rfl, ho⟩ := hz.str rfl
  obtain ⟨o0, ho0, c0⟩ := cut18_spec (s := .ps [dopV ⟨k, p, o⟩]) (l := [⟨k, p, o⟩]) (Sl.ps [(⟨k, p, o⟩ : DOp)]) (by simp)
  have l0 : (([⟨k, p, o⟩] : List DOp).take (cutG stop18 [⟨k, p, o⟩] 0)).length ≤ 1 := List.length_take_le' _ _
  generalize ([⟨k, p, o⟩] : List DOp).take (cutG stop18 [⟨k, p, o⟩] 0) = lz at ho0 l0
  have hrd0 := ho0.rd
  have hlen0 : (lz.map dopV).length = lz.length := by simp
  obtain ⟨o', ho', c1⟩ := cut18_spec hlo hlo2
  have l60 := dops_cut (l := lo)
  generalize lo.take (cutG stop18 lo 0) = l at ho' l60
  have hrd := ho'.rd
  have hlen : (l.map dopV).length = l.length := by simp
  by_cases hz0 : lz.length = 0
  · skip
    refine con_of Tryz.func6 rfl (by kernel_rfl) rfl fun F w0 β0 => ?_
    refine K_tell rfl ?_
    refine go ?_
    refine K_op rfl rfl (opr_callP rfl rfl (c0) rfl rfl rfl rfl) rfl ?_
    refine go ?_
    refine K_op rfl rfl (opr_len_rd hT rfl rfl (hrd0 _ _)) rfl ?_
    rw [hlen0]
    refine go ?_
    refine K_condT rfl (by rw [hz0]; rfl) ?_
    refine go ?_
    refine K_op rfl rfl (opr_callP rfl rfl (fixed18_spec) rfl rfl rfl rfl) rfl ?_
    refine go ?_
    exact J_done hT rfl rfl rfl
  refine con_of Tryz.func6 rfl (by kernel_rfl) rfl fun F w0 β0 => ?_
  refine K_tell rfl ?_
  refine go ?_
  refine K_op rfl rfl (opr_callP rfl rfl (c0) rfl rfl rfl rfl) rfl ?_
  refine go ?_
  refine K_op rfl rfl (opr_len_rd hT rfl rfl (hrd0 _ _)) rfl ?_
  rw [hlen0]
  refine go ?_
  refine K_condF rfl (by rw [beq_eq_false_iff_ne]; omega) ?_
  refine go ?_
  refine K_op rfl rfl (opr_callP rfl rfl (tnew_spec) rfl rfl rfl rfl) rfl ?_
  refine go ?_
  refine K_op rfl rfl (opr_callP rfl rfl (vnew_spec .nil) rfl rfl rfl rfl) rfl ?_
  refine go ?_
  refine K_op rfl rfl (opr_callP rfl rfl (rnew18_spec) rfl rfl rfl rfl) rfl ?_
  refine go ?_
  refine K_op rfl rfl (opr_callP rfl rfl (c1) rfl rfl rfl rfl) rfl ?_
  refine go ?_
  refine K_op rfl rfl (opr_len_rd hT rfl rfl (hrd _ _)) rfl ?_
  rw [hlen]
  refine go ?_
  refine J_loop (fun q : St l => [(3, .ad (.l 0) 0), (5, .ad (.l 1) 0), (6, .ad (.l 3) 0), (32, .p o'), (33, .p (.int .i64 (l.length : Int))), (34, .p (.int .i64 (q.i : Int)))]) (fun _ => []) (fun q => [.box 33 [.p (.int .i64 k), .p (.str p), .p (.str o)], vB (.l 2) q.s.base q.s.shown q.s.writes q.s.reads q.s.ranges.length, vR q.s.ranges, fB q.m]) (fun q => l.length - q.i) ⟨0, by omega, VS.new .nil, newM, D18.new, WC.new _⟩ ⟨rfl, rfl, rfl, rfl, rfl, rfl, trivial⟩ rfl rfl (fun q => ?_)
  have hi := q.h
  have d := q.d
  obtain ⟨hu, h1k, hok⟩ := d.u
  refine go ?_
  by_cases h : q.i < l.length
  · have hx : l[q.i]? = some l[q.i] := List.getElem?_eq_getElem h
    generalize l[q.i] = x at hx
    have hxk : (l.map dopV)[((q.i : Nat) : Int).toNat]? = some (dopV x) := by rw [Int.toNat_natCast, List.getElem?_map, hx]; rfl
    obtain ⟨k2, p2, o2⟩ := x
    have hj : IntKind.u32.wrap (IntKind.i64.wrap (2 + (q.i : Int))) = 2 + q.i := by rw [IntWalk.i64_in _ (by omega)]; exact u32_in _ (by omega)
    have c2 := do_spec d.v (by omega) hok (by omega) hu h1k k2 p2 o2 (IntKind.u32.wrap (IntKind.i64.wrap (2 + (q.i : Int)))) (u32_bd _)
    have hst := d.step (by omega) k2 p2 o2 (IntKind.u32.wrap (IntKind.i64.wrap (2 + (q.i : Int)))) hj
    have hcw := (d.step0 (by omega) k2 p2 o2 (IntKind.u32.wrap (IntKind.i64.wrap (2 + (q.i : Int)))) (u32_bd _) (by omega)).2.1 q.c
    generalize doT q.s q.m k2 p2 o2 (IntKind.u32.wrap (IntKind.i64.wrap (2 + (q.i : Int)))) = R at c2 hst hcw
    obtain ⟨⟨ok, m1, full⟩, s'⟩ := R
    dsimp only at c2 hst hcw
    refine K_condT rfl (decide_eq_true (by omega)) ?_
    refine go ?_
    refine K_op rfl rfl (opr_index hT rfl rfl rfl rfl rfl (hrd _ _) (by omega) (by rw [hlen]; omega)) rfl ?_
    refine go ?_
    refine K_op rfl rfl (opr_load_el hT rfl rfl (hrd _ _) hxk rfl rfl) rfl ?_
    refine go ?_
    refine K_op rfl rfl (opr_callS [.l 1, .l 2] rfl rfl (c2) rfl rfl rfl ⟨⟨rfl, rfl⟩, ⟨rfl, rfl⟩, trivial⟩ rfl rfl rfl rfl) rfl ?_
    rcases hst with rfl | ⟨rfl, rfl, d'⟩
    · refine go ?_
      refine K_condT rfl (by simp) ?_
      refine go ?_
      refine K_yes rfl rfl rfl (opr_callP rfl rfl (fixed18_spec) rfl rfl rfl rfl) rfl ?_
      refine go ?_
      exact J_done hT rfl rfl rfl
    refine go ?_
    refine J_take 4 [(3, .ad (.l 0) 0), (5, .ad (.l 1) 0), (6, .ad (.l 3) 0), (32, .p o'), (33, .p (.int .i64 (l.length : Int))), (34, .p (.int .i64 (IntKind.i64.wrap ((q.i : Int) + 1))))] ⟨rfl, rfl, rfl, rfl, rfl, rfl, trivial⟩ rfl rfl ?_
    refine J_again ⟨q.i + 1, by omega, s', m1, d', hcw⟩ (by show l.length - (q.i + 1) < l.length - q.i; omega) ⟨rfl, rfl, rfl, rfl, rfl, congrArg (fun z => TV.p (.int .i64 z)) (by rw [IntWalk.i64_in _ (by omega)]; rfl), trivial⟩ rfl rfl
  have hq := q.c
  have c2 := do_spec d.v (by omega) hok (by omega) hu h1k k p o 99 (by decide)
  have hst := d.step0 (by omega) k p o 99 (by decide) (by omega)
  have c3 := vcopy_spec q.s (by have := d.v.zg; unfold big40; omega)
  have c4 := Con.freeze (vwrites_spec q.s (by have := d.v.zw; unfold big40; omega)) (by simp [row_len])
  have z1 := d.v.zw
  have hlook := fun k => vlook_spec q.s k
  have hrs := d.v.rs
  generalize q.s = s at c2 hst c3 c4 hq z1 hlook hrs
  generalize q.m = m at c2 hst hok
  generalize doT s m k p o 99 = T at c2 hst
  obtain ⟨⟨ok, m1, full⟩, s'⟩ := T
  dsimp only at c2 hst
  refine K_condF rfl (decide_eq_false (by omega)) ?_
  refine go ?_
  refine K_op rfl rfl (opr_callS [.l 1, .l 2] rfl rfl (c3) rfl rfl rfl ⟨⟨rfl, rfl⟩, ⟨rfl, rfl⟩, trivial⟩ rfl rfl rfl rfl) rfl ?_
  refine go ?_
  refine K_op rfl rfl (opr_callS [.l 1, .l 2] rfl rfl (c2) rfl rfl rfl ⟨⟨rfl, rfl⟩, ⟨rfl, rfl⟩, trivial⟩ rfl rfl rfl rfl) rfl ?_
  refine go ?_
  cases full with
  | true =>
    refine go ?_
    refine K_op rfl rfl (opr_callP rfl rfl (fixed18_spec) rfl rfl rfl rfl) rfl ?_
    refine go ?_
    exact J_done hT rfl rfl rfl
  | false =>
  obtain ⟨h1, _, h3⟩ := hst
  obtain ⟨hokk, _, ⟨par', R'⟩, hw', hv'⟩ := h1.resolve_left (by simp)
  have h3 := h3.resolve_left (by simp)
  have c5 := Con.freeze (vwrites_spec s' (by have := hv'.zw; unfold big40; omega)) (by simp [row_len])
  have c6 := rSame_spec (R'.spot hw') ⟨hok.wk.mono (by omega), hok.root, hok.ent⟩ (by omega)
  by_cases hs : m1.same m = true
  · have hwr : s'.writes = s.writes := h3.resolve_right (by rw [hs]; simp)
    have hlm : (nods m1).length = (nods m).length := by
      have : m1.length = m.length := by
        unfold MF.same at hs
        rw [Bool.and_eq_true, decide_eq_true_eq] at hs
        exact hs.2
      simpa using this
    rw [hwr] at c5
    rw [hs] at c6
    have hWl : (s.writes.row.map fun x => pwV (wr x)).length = s.writes.row.length := by simp
    have hWs := row_len s.writes
    have hwrs := d.v.rw
    refine go ?_
    refine K_op rfl rfl (opr_callS [.l 4, .l 5] rfl rfl (c4) rfl rfl rfl ⟨⟨rfl, rfl⟩, ⟨rfl, rfl⟩, trivial⟩ rfl rfl rfl rfl) rfl ?_
    refine go ?_
    refine K_op rfl rfl (opr_callS [.l 1, .l 2] rfl rfl (c5) rfl rfl rfl ⟨⟨rfl, rfl⟩, ⟨rfl, rfl⟩, trivial⟩ rfl rfl rfl rfl) rfl ?_
    refine go ?_
    refine K_op rfl rfl (opr_callP rfl rfl (c6) rfl rfl rfl rfl) rfl ?_
    refine go ?_
    refine K_condF rfl (by rw [hlm]; simp) ?_
    refine go ?_
    refine J_pick [4, 5] [(12, .ad (.l 0) 0), (16, .p (.ps (s.writes.row.map fun x => pwV (wr x)))), (17, .p (.ps (s.writes.row.map fun x => pwV (wr x)))), (91, .p (.ps (s.writes.row.map fun x => pwV (wr x)))), (92, .p (.int .i64 (s.writes.row.length : Int))), (93, .p (.int .i64 0))] [vB (.l 1) s.base s.shown s.writes s.reads s.ranges.length, vR s.ranges] ⟨rfl, rfl, rfl, rfl, (by rw [← hWl]; rfl), rfl, trivial⟩ rfl rfl ⟨⟨rfl, rfl⟩, ⟨rfl, rfl⟩, trivial⟩ ?_
    refine J_loop (fun r : Ix s.writes.row.length => [(12, .ad (.l 0) 0), (16, .p (.ps (s.writes.row.map fun x => pwV (wr x)))), (17, .p (.ps (s.writes.row.map fun x => pwV (wr x)))), (91, .p (.ps (s.writes.row.map fun x => pwV (wr x)))), (92, .p (.int .i64 (s.writes.row.length : Int))), (93, .p (.int .i64 (r.i : Int)))]) (fun _ => []) (fun _ => [vB (.l 1) s.base s.shown s.writes s.reads s.ranges.length, vR s.ranges]) (fun r => s.writes.row.length - r.i) ⟨0, by omega⟩ ⟨rfl, rfl, rfl, rfl, rfl, rfl, trivial⟩ rfl rfl (fun r => ?_)
    have hri := r.h
    refine go ?_
    by_cases hrl : r.i < s.writes.row.length
    · have hy : s.writes.row[r.i]? = some s.writes.row[r.i] := List.getElem?_eq_getElem hrl
      have hw := hq _ (List.getElem_mem hrl)
      generalize s.writes.row[r.i] = y at hy hw
      have hyk : (s.writes.row.map fun x => pwV (wr x))[((r.i : Nat) : Int).toNat]? = some (pwV (wr y)) := by rw [Int.toNat_natCast, List.getElem?_map, hy]; rfl
      have c7 := hlook y.1
      rw [get_row _ _ hrs, hw] at c7
      refine K_condT rfl (decide_eq_true (by omega)) ?_
      refine go ?_
      refine K_op rfl rfl (opr_index hT rfl rfl rfl rfl rfl (.ps _) (by omega) (by rw [hWl]; omega)) rfl ?_
      refine go ?_
      refine K_op rfl rfl (opr_load_el hT rfl rfl (.ps _) hyk rfl rfl) rfl ?_
      refine go ?_
      by_cases hg : y.2 = []
      · rw [if_pos hg] at c7
        refine K_op rfl rfl (opr_callS [.l 0, .l 1] rfl rfl (c7) rfl rfl rfl ⟨⟨rfl, rfl⟩, ⟨rfl, rfl⟩, trivial⟩ rfl rfl rfl rfl) rfl ?_
        refine go ?_
        refine K_condF rfl (by unfold wr; rw [hg]; simp) ?_
        refine go ?_
        refine J_take 2 [(12, .ad (.l 0) 0), (16, .p (.ps (s.writes.row.map fun x => pwV (wr x)))), (17, .p (.ps (s.writes.row.map fun x => pwV (wr x)))), (91, .p (.ps (s.writes.row.map fun x => pwV (wr x)))), (92, .p (.int .i64 (s.writes.row.length : Int))), (93, .p (.int .i64 (IntKind.i64.wrap ((r.i : Int) + 1))))] ⟨rfl, rfl, rfl, rfl, rfl, rfl, trivial⟩ rfl rfl ?_
        refine J_again ⟨r.i + 1, by omega⟩ (by show s.writes.row.length - (r.i + 1) < s.writes.row.length - r.i; omega) ⟨rfl, rfl, rfl, rfl, rfl, congrArg (fun z => TV.p (.int .i64 z)) (by rw [IntWalk.i64_in _ (by omega)]; rfl), trivial⟩ rfl rfl
      · rw [if_neg hg] at c7
        refine K_op rfl rfl (opr_callS [.l 0, .l 1] rfl rfl (c7) rfl rfl rfl ⟨⟨rfl, rfl⟩, ⟨rfl, rfl⟩, trivial⟩ rfl rfl rfl rfl) rfl ?_
        refine go ?_
        refine K_condF rfl (by unfold wr; simp [hg]) ?_
        refine go ?_
        refine J_take 2 [(12, .ad (.l 0) 0), (16, .p (.ps (s.writes.row.map fun x => pwV (wr x)))), (17, .p (.ps (s.writes.row.map fun x => pwV (wr x)))), (91, .p (.ps (s.writes.row.map fun x => pwV (wr x)))), (92, .p (.int .i64 (s.writes.row.length : Int))), (93, .p (.int .i64 (IntKind.i64.wrap ((r.i : Int) + 1))))] ⟨rfl, rfl, rfl, rfl, rfl, rfl, trivial⟩ rfl rfl ?_
        refine J_again ⟨r.i + 1, by omega⟩ (by show s.writes.row.length - (r.i + 1) < s.writes.row.length - r.i; omega) ⟨rfl, rfl, rfl, rfl, rfl, congrArg (fun z => TV.p (.int .i64 z)) (by rw [IntWalk.i64_in _ (by omega)]; rfl), trivial⟩ rfl rfl
    refine K_condF rfl (decide_eq_false (by omega)) ?_
    refine go ?_
    refine K_op rfl rfl (opr_callP rfl rfl (fixed18_spec) rfl rfl rfl rfl) rfl ?_
    refine go ?_
    refine J_val 4 (.p (.bool true)) rfl (congrArg (fun b => TV.p (.bool b)) (by simp)) ?_
    exact J_done hT rfl rfl rfl
  · refine go ?_
    refine K_op rfl rfl (opr_callS [.l 4, .l 5] rfl rfl (c4) rfl rfl rfl ⟨⟨rfl, rfl⟩, ⟨rfl, rfl⟩, trivial⟩ rfl rfl rfl rfl) rfl ?_
    refine go ?_
    refine K_op rfl rfl (opr_callS [.l 1, .l 2] rfl rfl (c5) rfl rfl rfl ⟨⟨rfl, rfl⟩, ⟨rfl, rfl⟩, trivial⟩ rfl rfl rfl rfl) rfl ?_
    refine go ?_
    refine K_op rfl rfl (opr_callP rfl rfl (c6) rfl rfl rfl rfl) rfl ?_
    refine go ?_
    refine K_condT rfl (by rw [Bool.not_eq_true] at hs; rw [hs]; rfl) ?_
    refine go ?_
    refine K_op rfl rfl (opr_callP rfl rfl (fixed18_spec) rfl rfl rfl rfl) rfl ?_
    refine go ?_
    exact J_done hT rfl rfl rfl
end dirsRefuse
end Go.Proofs.YtfnpelogfcnanaaGreatDoor

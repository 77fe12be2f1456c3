/- The law DirsPlays: its contract. -/
import Derived.Test.YtfnpelogfcnanaaGreatDoorGo
import Derived.Test.YtfnpelogfcnanaaGreatDoorM19
import Derived.Test.YtfnpelogfcnanaaGreatDoorM7
-- @D
namespace Go.Proofs.YtfnpelogfcnanaaGreatDoor
set_option maxRecDepth 20000
open Go.Awp Tr
namespace dirsPlays
structure St (l : List DOp) where
  i : Nat
  h : i ≤ l.length
  s : VS
  m : MF
  d : D18 s m i
set_option maxHeartbeats 16000000 in
theorem con {a0 a1 : AV} (s0 : Shp tab 8 22 a0) (s1 : Shp tab 8 5 a1) : Con Tryz.prog 3 [.p a0, .p a1] [] (.p (.bool true)) [] [] := by
  obtain ⟨lo, hlo, _, hlo2⟩ := dops_shp s0
  obtain ⟨a, rfl, ha⟩ := s1.int rfl
  have ha : 0 ≤ a ∧ a ≤ 255 := ha
  obtain ⟨o', ho', c1⟩ := cut18_spec hlo hlo2
  have l60 := dops_cut (l := lo)
  generalize lo.take (cutG stop18 lo 0) = l at ho' l60
  have hrd := ho'.rd
  have hlen : (l.map dopV).length = l.length := by simp
  refine con_of Tryz.func3 rfl (by kernel_rfl) rfl fun F w0 β0 => ?_
  refine K_tell rfl ?_
  refine go ?_
  refine K_op rfl rfl (opr_callP rfl rfl (tnew_spec) rfl rfl rfl rfl) rfl ?_
  refine go ?_
  refine K_op rfl rfl (opr_callP rfl rfl (vnew_spec .nil) rfl rfl rfl rfl) rfl ?_
  refine go ?_
  refine K_op rfl rfl (opr_callP rfl rfl (rnew18_spec) rfl rfl rfl rfl) rfl ?_
  refine go ?_
  refine K_op rfl rfl (opr_callP rfl rfl (c1) rfl rfl rfl rfl) rfl ?_
  refine go ?_
  refine K_op rfl rfl (opr_len_rd hT rfl rfl (hrd _ _)) rfl ?_
  rw [hlen]
  refine go ?_
  refine J_loop (fun q : St l => [(1, .p (.int .u8 a)), (5, .ad (.l 0) 0), (6, .ad (.l 2) 0), (16, .p o'), (17, .p (.int .i64 (l.length : Int))), (18, .p (.int .i64 (q.i : Int)))]) (fun _ => []) (fun q => [vB (.l 1) q.s.base q.s.shown q.s.writes q.s.reads q.s.ranges.length, vR q.s.ranges, fB q.m]) (fun q => l.length - q.i) ⟨0, by omega, VS.new .nil, newM, D18.new⟩ ⟨rfl, rfl, rfl, rfl, rfl, rfl, trivial⟩ rfl rfl (fun q => ?_)
  have hi := q.h
  have d := q.d
  obtain ⟨hu, h1k, hok⟩ := d.u
  refine go ?_
  by_cases h : q.i < l.length
  · have hx : l[q.i]? = some l[q.i] := List.getElem?_eq_getElem h
    generalize l[q.i] = x at hx
    have hxk : (l.map dopV)[((q.i : Nat) : Int).toNat]? = some (dopV x) := by rw [Int.toNat_natCast, List.getElem?_map, hx]; rfl
    obtain ⟨k, p, o⟩ := x
    have hj : IntKind.u32.wrap (IntKind.i64.wrap (2 + (q.i : Int))) = 2 + q.i := by rw [IntWalk.i64_in _ (by omega)]; exact u32_in _ (by omega)
    have c2 := do_spec d.v (by omega) hok (by omega) hu h1k k p o (IntKind.u32.wrap (IntKind.i64.wrap (2 + (q.i : Int)))) (u32_bd _)
    have hst := d.step (by omega) k p o (IntKind.u32.wrap (IntKind.i64.wrap (2 + (q.i : Int)))) hj
    generalize doT q.s q.m k p o (IntKind.u32.wrap (IntKind.i64.wrap (2 + (q.i : Int)))) = R at c2 hst
    obtain ⟨⟨ok, m1, full⟩, s'⟩ := R
    dsimp only at c2 hst
    refine K_condT rfl (decide_eq_true (by omega)) ?_
    refine go ?_
    refine K_op rfl rfl (opr_index hT rfl rfl rfl rfl rfl (hrd _ _) (by omega) (by rw [hlen]; omega)) rfl ?_
    refine go ?_
    refine K_op rfl rfl (opr_load_el hT rfl rfl (hrd _ _) hxk rfl rfl) rfl ?_
    refine go ?_
    refine K_op rfl rfl (opr_callS [.l 0, .l 1] rfl rfl (c2) rfl rfl rfl ⟨⟨rfl, rfl⟩, ⟨rfl, rfl⟩, trivial⟩ rfl rfl rfl rfl) rfl ?_
    refine go ?_
    rcases hst with rfl | ⟨rfl, rfl, d'⟩
    · refine go ?_
      refine K_op rfl rfl (opr_callP rfl rfl (fixed18_spec) rfl rfl rfl rfl) rfl ?_
      refine go ?_
      exact J_done hT rfl rfl rfl
    have hrem : 0 ≤ a.tmod 20 ∧ a.tmod 20 < 20 := ⟨Int.tmod_nonneg _ ha.1, Int.tmod_lt_of_pos _ (by omega)⟩
    have hne : IntKind.i64.wrap (1 + IntKind.i64.wrap (a.tmod 20)) ≠ 0 := by rw [IntWalk.i64_in (a.tmod 20) (by omega), IntWalk.i64_in _ (by omega)]; omega
    refine go ?_
    refine K_opt rfl rfl rfl need2 (fun _ => opr_bin hT rfl (rem_ok hne)) rfl ?_
    refine go ?_
    refine J_cond rfl (fun _ => ?_) (fun _ => ?_)
    · obtain ⟨d2, _⟩ := d'.based
      have c3 := based_spec d'.v (by omega)
      refine go ?_
      refine K_op rfl rfl (opr_callS [.l 0, .l 1] rfl rfl (c3) rfl rfl rfl ⟨⟨rfl, rfl⟩, ⟨rfl, rfl⟩, trivial⟩ rfl rfl rfl rfl) rfl ?_
      refine go ?_
      refine J_pick [5, 6, 2] [(1, .p (.int .u8 a)), (5, .ad (.l 0) 0), (6, .ad (.l 2) 0), (16, .p o'), (17, .p (.int .i64 (l.length : Int))), (18, .p (.int .i64 (IntKind.i64.wrap ((q.i : Int) + 1))))] [vB (.l 1) (VS.new (basedT s')).base (VS.new (basedT s')).shown (VS.new (basedT s')).writes (VS.new (basedT s')).reads (VS.new (basedT s')).ranges.length, vR (VS.new (basedT s')).ranges, fB m1] ⟨rfl, rfl, rfl, rfl, rfl, rfl, trivial⟩ rfl rfl ⟨⟨rfl, rfl⟩, ⟨rfl, rfl⟩, ⟨rfl, rfl⟩, trivial⟩ ?_
      refine J_again ⟨q.i + 1, by omega, VS.new (basedT s'), m1, d2⟩ (by show l.length - (q.i + 1) < l.length - q.i; omega) ⟨rfl, rfl, rfl, rfl, rfl, congrArg (fun z => TV.p (.int .i64 z)) (by rw [IntWalk.i64_in _ (by omega)]; rfl), trivial⟩ rfl rfl
    · refine go ?_
      refine J_take 3 [(1, .p (.int .u8 a)), (5, .ad (.l 0) 0), (6, .ad (.l 2) 0), (16, .p o'), (17, .p (.int .i64 (l.length : Int))), (18, .p (.int .i64 (IntKind.i64.wrap ((q.i : Int) + 1))))] ⟨rfl, rfl, rfl, rfl, rfl, rfl, trivial⟩ rfl rfl ?_
      refine J_again ⟨q.i + 1, by omega, s', m1, d'⟩ (by show l.length - (q.i + 1) < l.length - q.i; omega) ⟨rfl, rfl, rfl, rfl, rfl, congrArg (fun z => TV.p (.int .i64 z)) (by rw [IntWalk.i64_in _ (by omega)]; rfl), trivial⟩ rfl rfl
  obtain ⟨par, R⟩ := d.r
  have c4 := same18_spec d.v R d.w (by omega) (by omega)
  generalize sameS q.s q.m = s' at c4
  refine K_condF rfl (decide_eq_false (by omega)) ?_
  refine go ?_
  refine K_op rfl rfl (opr_callP rfl rfl (fixed18_spec) rfl rfl rfl rfl) rfl ?_
  refine go ?_
  refine K_yes rfl rfl rfl (opr_callS [.l 0, .l 1] rfl rfl (c4) rfl rfl rfl ⟨⟨rfl, rfl⟩, ⟨rfl, rfl⟩, trivial⟩ rfl rfl rfl rfl) rfl ?_
  refine go ?_
  exact J_done hT rfl rfl rfl
end dirsPlays
end Go.Proofs.YtfnpelogfcnanaaGreatDoor

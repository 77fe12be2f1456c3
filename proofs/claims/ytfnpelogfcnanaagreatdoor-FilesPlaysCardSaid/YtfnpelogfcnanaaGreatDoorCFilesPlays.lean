/- The law FilesPlays: its contract. -/
import Derived.Test.YtfnpelogfcnanaaGreatDoorGo
import Derived.Test.YtfnpelogfcnanaaGreatDoorM26
-- @D
namespace Go.Proofs.YtfnpelogfcnanaaGreatDoor
set_option maxRecDepth 20000
open Go.Awp Tr
namespace filesPlays
structure St (l : List FOp) where
  i : Nat
  h : i ≤ l.length
  s : VS
  m : MF
  d : D19 s m i
structure En (m : MF) (n : Nat) where
  k : Nat
  h : k ≤ 2
  s : VS
  d : D19 s m (n + k)
set_option maxHeartbeats 16000000 in
theorem con {a0 a1 : AV} (s0 : Shp tab 8 73 a0) (s1 : Shp tab 8 4 a1) : Con Tryz.prog 7 [.p a0, .p a1] [] (.p (.bool true)) [] [] := by
  obtain ⟨lo, hlo, hok, hlo2⟩ := fops_shp s0
  obtain ⟨an, rfl⟩ := s1.bool rfl
  obtain ⟨o', ho', c1⟩ := cut19_spec hlo hok hlo2
  have l60 := fops_cut (l := lo)
  have hok : ∀ x ∈ lo.take (cuF lo 0 0), x.ok := fun x hx => hok x (List.mem_of_mem_take hx)
  generalize lo.take (cuF lo 0 0) = l at ho' l60 hok
  have hrd := ho'.rd
  have hlen : (l.map fopV).length = l.length := by simp
  have c0 := begin_spec
  have d0 := D19.begin
  generalize s19 = s0' at c0 d0
  generalize bm3 = m0 at c0 d0
  refine con_of Tryz.func7 rfl (by kernel_rfl) rfl fun F w0 β0 => ?_
  refine K_tell rfl ?_
  refine go ?_
  refine K_op rfl rfl (opr_callP rfl rfl (c0) rfl rfl rfl rfl) rfl ?_
  refine go ?_
  refine K_op rfl rfl (opr_callP rfl rfl (c1) rfl rfl rfl rfl) rfl ?_
  refine go ?_
  refine K_op rfl rfl (opr_len_rd hT rfl rfl (hrd _ _)) rfl ?_
  rw [hlen]
  refine go ?_
  refine J_pick [0, 1, 3] [(1, .p (.bool an)), (5, .ad (.l 0) 0), (6, .ad (.l 2) 0), (23, .p o'), (24, .p (.int .i64 (l.length : Int))), (25, .p (.int .i64 0))] [vB (.l 1) s0'.base s0'.shown s0'.writes s0'.reads s0'.ranges.length, vR s0'.ranges, fB m0] ⟨rfl, rfl, rfl, rfl, rfl, rfl, trivial⟩ rfl rfl ⟨⟨rfl, rfl⟩, ⟨rfl, rfl⟩, ⟨rfl, rfl⟩, trivial⟩ ?_
  refine J_loop (fun q : St l => [(1, .p (.bool an)), (5, .ad (.l 0) 0), (6, .ad (.l 2) 0), (23, .p o'), (24, .p (.int .i64 (l.length : Int))), (25, .p (.int .i64 (q.i : Int)))]) (fun _ => []) (fun q => [vB (.l 1) q.s.base q.s.shown q.s.writes q.s.reads q.s.ranges.length, vR q.s.ranges, fB q.m]) (fun q => l.length - q.i) ⟨0, by omega, s0', m0, d0⟩ ⟨rfl, rfl, rfl, rfl, rfl, rfl, trivial⟩ rfl rfl (fun q => ?_)
  have hi := q.h
  have d := q.d
  obtain ⟨hu1, hu2⟩ := d.u
  refine go ?_
  by_cases h : q.i < l.length
  · have hx : l[q.i]? = some l[q.i] := List.getElem?_eq_getElem h
    have hxo := hok _ (List.getElem_mem h)
    generalize l[q.i] = x at hx hxo
    have hxk : (l.map fopV)[((q.i : Nat) : Int).toNat]? = some (fopV x) := by rw [Int.toNat_natCast, List.getElem?_map, hx]; rfl
    have hxo2 : FOp.ok ⟨x.kind, x.ino, x.from_, x.n, .ps (bv x.b), x.b⟩ := ⟨.ps _, hxo.u, hxo.f, hxo.n, hxo.l⟩
    have c2 := do19_spec d.v (by omega) hu1 (fun y hy => by have := hu2 y hy; omega) _ hxo2
    have hst := d.step _ hxo2
    generalize doT19 q.s q.m ⟨x.kind, x.ino, x.from_, x.n, .ps (bv x.b), x.b⟩ = R at c2 hst
    obtain ⟨⟨ok, m1, full⟩, s'⟩ := R
    dsimp only at c2 hst
    refine K_condT rfl (decide_eq_true (by omega)) ?_
    refine go ?_
    refine K_op rfl rfl (opr_index hT rfl rfl rfl rfl rfl (hrd _ _) (by omega) (by rw [hlen]; omega)) rfl ?_
    refine go ?_
    refine K_op rfl rfl (opr_load_el hT rfl rfl (hrd _ _) hxk rfl rfl) rfl ?_
    refine J_rep 28 (opT19 x) rfl (agg_rep 4 rfl (bs_ps hxo.bs)) ?_
    refine go ?_
    refine K_op rfl rfl (opr_callS [.l 0, .l 1] rfl rfl (c2) rfl rfl rfl ⟨⟨rfl, rfl⟩, ⟨rfl, rfl⟩, trivial⟩ rfl rfl rfl rfl) rfl ?_
    refine go ?_
    rcases hst with rfl | ⟨rfl, rfl, d'⟩
    · refine go ?_
      refine K_op rfl rfl (opr_callP rfl rfl (fixed19_spec) rfl rfl rfl rfl) rfl ?_
      refine go ?_
      exact J_done hT rfl rfl rfl
    refine go ?_
    cases an with
    | true =>
      obtain ⟨d2, _⟩ := d'.based
      have c3 := based19_spec d'.v (by omega)
      refine go ?_
      refine K_op rfl rfl (opr_callS [.l 0, .l 1] rfl rfl (c3) rfl rfl rfl ⟨⟨rfl, rfl⟩, ⟨rfl, rfl⟩, trivial⟩ rfl rfl rfl rfl) rfl ?_
      refine go ?_
      refine J_pick [5, 6, 2] [(1, .p (.bool true)), (5, .ad (.l 0) 0), (6, .ad (.l 2) 0), (23, .p o'), (24, .p (.int .i64 (l.length : Int))), (25, .p (.int .i64 (IntKind.i64.wrap ((q.i : Int) + 1))))] [vB (.l 1) (VS.new (basedT s')).base (VS.new (basedT s')).shown (VS.new (basedT s')).writes (VS.new (basedT s')).reads (VS.new (basedT s')).ranges.length, vR (VS.new (basedT s')).ranges, fB m1] ⟨rfl, rfl, rfl, rfl, rfl, rfl, trivial⟩ rfl rfl ⟨⟨rfl, rfl⟩, ⟨rfl, rfl⟩, ⟨rfl, rfl⟩, trivial⟩ ?_
      refine J_again ⟨q.i + 1, by omega, VS.new (basedT s'), m1, d2⟩ (by show l.length - (q.i + 1) < l.length - q.i; omega) ⟨rfl, rfl, rfl, rfl, rfl, congrArg (fun z => TV.p (.int .i64 z)) (by rw [IntWalk.i64_in _ (by omega)]; rfl), trivial⟩ rfl rfl
    | false =>
      refine go ?_
      refine J_take 3 [(1, .p (.bool false)), (5, .ad (.l 0) 0), (6, .ad (.l 2) 0), (23, .p o'), (24, .p (.int .i64 (l.length : Int))), (25, .p (.int .i64 (IntKind.i64.wrap ((q.i : Int) + 1))))] ⟨rfl, rfl, rfl, rfl, rfl, rfl, trivial⟩ rfl rfl ?_
      refine J_again ⟨q.i + 1, by omega, s', m1, d'⟩ (by show l.length - (q.i + 1) < l.length - q.i; omega) ⟨rfl, rfl, rfl, rfl, rfl, congrArg (fun z => TV.p (.int .i64 z)) (by rw [IntWalk.i64_in _ (by omega)]; rfl), trivial⟩ rfl rfl
  refine K_condF rfl (decide_eq_false (by omega)) ?_
  refine go ?_
  generalize q.m = m at d hu1 hu2
  generalize q.s = sq at d
  generalize q.i = n at d hi
  refine J_loop (fun q : En m n => [(5, .ad (.l 0) 0), (6, .ad (.l 2) 0), (46, .p (.ps [.int .u32 3, .int .u32 4])), (47, .p (.int .i64 2)), (48, .p (.int .i64 (q.k : Int)))]) (fun _ => []) (fun q => [vB (.l 1) q.s.base q.s.shown q.s.writes q.s.reads q.s.ranges.length, vR q.s.ranges, fB m]) (fun q => 2 - q.k) ⟨0, by omega, sq, d⟩ ⟨rfl, rfl, rfl, rfl, rfl, trivial⟩ rfl rfl (fun q => ?_)
  have hk := q.h
  have d := q.d
  obtain ⟨par, R⟩ := d.r
  refine go ?_
  by_cases h : q.k < 2
  · obtain ⟨x, hx⟩ := d.f (3 + (q.k : Int)) (by omega)
    have hju : U32 (3 + (q.k : Int)) := by unfold U32; omega
    have c2 := fall_spec d.v (by omega) (3 + (q.k : Int)) hju
    have e2 := fall_sim d.v R hju
    rw [hx] at e2
    dsimp only at e2
    rw [e2] at c2
    change Con _ _ _ _ (.tup [.p (.ps (bv x.b)), .p (.int .i64 0)]) _ _ at c2
    have d2 : D19 (q.s.rd (keyH 73 (3 + (q.k : Int)))) m (n + (q.k + 1)) := ⟨(d.v.rd _).mono (by omega), d.r, d.w, d.f, d.d⟩
    have c3 := rAt_spec m (3 + (q.k : Int)) hu1
    obtain ⟨jx, h1, h2⟩ := ix_at (file_at hx).1
    rw [h1] at c3
    have hlt := (List.getElem?_eq_some_iff.1 h2).1
    have hlm : (nods m).length = m.length := by simp
    have hxk := nods_get h2
    have hek : ([AV.int .u32 3, .int .u32 4] : List AV)[((q.k : Nat) : Int).toNat]? = some (.int .u32 (3 + (q.k : Int))) := by
      have : q.k = 0 ∨ q.k = 1 := by omega
      rcases this with e | e <;> rw [e] <;> rfl
    generalize hs2 : q.s.rd (keyH 73 (3 + (q.k : Int))) = s2 at c2 d2
    refine K_condT rfl (decide_eq_true (by omega)) ?_
    refine go ?_
    refine K_op rfl rfl (opr_index hT rfl rfl rfl rfl rfl (.ps _) (by omega) (by show (q.k : Int) < 2; omega)) rfl ?_
    refine go ?_
    refine K_op rfl rfl (opr_load_el hT rfl rfl (.ps _) hek rfl rfl) rfl ?_
    refine go ?_
    refine K_op rfl rfl (opr_callS [.l 0, .l 1] rfl rfl (c2) rfl rfl rfl ⟨⟨rfl, rfl⟩, ⟨rfl, rfl⟩, trivial⟩ rfl rfl rfl rfl) rfl ?_
    refine go ?_
    refine J_draw [_] [] (by kernel_rfl) (by kernel_rfl) rfl ?_
    refine gd ?_
    refine T_yesD rfl rfl rfl rfl rfl rfl (opr_to_str hT rfl rfl rfl rfl rfl (.ps _)) rfl ?_
    refine gd ?_
    refine T_yesD rfl rfl rfl rfl rfl rfl (opr_call0P rfl rfl c3 rfl rfl rfl) rfl ?_
    refine gd ?_
    refine T_yesD rfl rfl rfl rfl rfl rfl (opr_index hT rfl rfl rfl rfl rfl (.ps _) (by omega) (by rw [hlm]; omega)) rfl ?_
    refine gd ?_
    refine T_yesD rfl rfl rfl rfl rfl rfl (opr_load_el hT rfl rfl (.ps _) hxk rfl rfl) rfl ?_
    refine gd ?_
    refine go ?_
    refine K_condF rfl (by simp) ?_
    refine go ?_
    refine J_take 3 [(5, .ad (.l 0) 0), (6, .ad (.l 2) 0), (46, .p (.ps [.int .u32 3, .int .u32 4])), (47, .p (.int .i64 2)), (48, .p (.int .i64 (IntKind.i64.wrap ((q.k : Int) + 1))))] ⟨rfl, rfl, rfl, rfl, rfl, trivial⟩ rfl rfl ?_
    refine J_again ⟨q.k + 1, by omega, s2, d2⟩ (by show 2 - (q.k + 1) < 2 - q.k; omega) ⟨rfl, rfl, rfl, rfl, congrArg (fun z => TV.p (.int .i64 z)) (by rw [IntWalk.i64_in _ (by omega)]; rfl), trivial⟩ rfl rfl
  · refine K_condF rfl (decide_eq_false (by omega)) ?_
    have c2 := fall_spec d.v (by omega) 2 (by decide)
    have e2 := fall_sim d.v R (show U32 2 by decide)
    rw [d.d] at e2
    dsimp only at e2
    rw [e2] at c2
    refine go ?_
    refine K_op rfl rfl (opr_callS [.l 0, .l 1] rfl rfl (c2) rfl rfl rfl ⟨⟨rfl, rfl⟩, ⟨rfl, rfl⟩, trivial⟩ rfl rfl rfl rfl) rfl ?_
    refine go ?_
    refine K_op rfl rfl (opr_callP rfl rfl (fixed19_spec) rfl rfl rfl rfl) rfl ?_
    refine go ?_
    exact J_done hT rfl rfl rfl
end filesPlays
end Go.Proofs.YtfnpelogfcnanaaGreatDoor

/- The law ViewCopies: its contract. -/
import Derived.Test.YtbdijekfplpnlaaGo
import Derived.Test.YtbdijekfplpnlaaCViewPlays
-- @D
namespace Go.Proofs.Ytbdijekfplpnlaa
set_option maxRecDepth 20000
open Go.Awp Tr
namespace viewCopies
set_option maxHeartbeats 8000000 in
theorem con {a0 a1 a2 : AV} (s0 : Shp tab 8 54 a0) (s1 : Shp tab 8 64 a1) (s2 : Shp tab 8 64 a2) : Con Try.prog 10 [.p a0, .p a1, .p a2] [] (.p (.bool true)) [] [] := by
  obtain ⟨lb, hlb, _, hlb2⟩ := rgs_shp s0
  obtain ⟨lo, hlo, _, hlo2⟩ := vops_shp s1
  obtain ⟨lp, hlp, _, hlp2⟩ := vops_shp s2
  have c0 := base14_spec hlb hlb2
  obtain ⟨hb1, hb2⟩ := baseT_ok lb
  generalize baseT lb = b at c0 hb1 hb2
  obtain ⟨o', ho', c1⟩ := cut14_spec hlo hlo2
  obtain ⟨l200, lval⟩ := vops_cut (l := lo)
  generalize lo.take (cutG stop14 lo 0) = l at ho' l200 lval
  obtain ⟨p', hp', c1b⟩ := cut14_spec hlp hlp2
  obtain ⟨m200, mval⟩ := vops_cut (l := lp)
  generalize lp.take (cutG stop14 lp 0) = m at hp' m200 mval
  have hrd := ho'.rd
  have hlen : (l.map vopV).length = l.length := by simp
  have hrd2 := hp'.rd
  have hlen2 : (m.map vopV).length = m.length := by simp
  refine con_of Try.func10 rfl (by kernel_rfl) rfl fun F w0 β0 => ?_
  refine K_tell rfl ?_
  refine go ?_
  refine K_op rfl rfl (opr_callP rfl rfl (c0) rfl rfl rfl rfl) rfl ?_
  refine go ?_
  refine K_op rfl rfl (opr_callP rfl rfl (vnew_spec b) rfl rfl rfl rfl) rfl ?_
  refine go ?_
  refine K_op rfl rfl (opr_callP rfl rfl (c1) rfl rfl rfl rfl) rfl ?_
  refine go ?_
  refine K_op rfl rfl (opr_len_rd hT rfl rfl (hrd _ _)) rfl ?_
  rw [hlen]
  refine go ?_
  refine J_recell 2 1 (.p (.ps [])) rfl rfl rep_nils_ps ?_
  refine J_recell 2 2 (.p (.ps [])) rfl rfl rep_nils_ps ?_
  refine J_recell 2 3 (.p (.ps [])) rfl rfl rep_nils_ps ?_
  refine J_loop (fun q : Ix l.length => [(2, .p a2), (7, W b), (8, .p (.ps (kvs b.row))), (9, .ad (.l 0) 0), (10, .ad (.l 2) 0), (27, .p o'), (28, .p (.int .i64 (l.length : Int))), (29, .p (.int .i64 (q.i : Int)))]) (fun _ => []) (fun q => vN ((l.take q.i).foldl VS.do (VS.new b)) ++ [.box 66 (mC ((l.take q.i).foldl VS.do (VS.new b)).base.row ((l.take q.i).foldl VS.do (VS.new b)).writes.row ((l.take q.i).foldl VS.do (VS.new b)).reads.row ((l.take q.i).foldl VS.do (VS.new b)).ranges)]) (fun q => l.length - q.i) ⟨0, by omega⟩ ⟨rfl, rfl, rfl, rfl, rfl, rfl, rfl, rfl, trivial⟩ rfl rfl (fun q => ?_)
  have hi := q.h
  refine go ?_
  have hvi := doL_ok (l.take q.i) (VI.new hb1 hb2)
  by_cases h : q.i < l.length
  · have hx : l[q.i]? = some l[q.i] := List.getElem?_eq_getElem h
    have hxv := lval _ (List.getElem_mem h)
    generalize l[q.i] = x at hx hxv
    have hxk : (l.map vopV)[((q.i : Nat) : Int).toNat]? = some (vopV x) := by rw [Int.toNat_natCast, List.getElem?_map, hx]; rfl
    have hft := fold_take VS.do (VS.new b) hx
    simp only [List.length_take, Nat.zero_add] at hvi
    generalize (l.take q.i).foldl VS.do (VS.new b) = s at hvi hft
    have c2 := do14_spec s _ hvi (by omega) x hxv
    rw [← hft] at c2
    generalize hs' : (l.take (q.i + 1)).foldl VS.do (VS.new b) = s' at c2
    refine K_condT rfl (decide_eq_true (by omega)) ?_
    refine go ?_
    refine K_op rfl rfl (opr_index hT rfl rfl rfl rfl rfl (hrd _ _) (by omega) (by rw [hlen]; omega)) rfl ?_
    refine go ?_
    refine K_op rfl rfl (opr_load_el hT rfl rfl (hrd _ _) hxk rfl rfl) rfl ?_
    refine go ?_
    refine K_op rfl rfl (opr_callS [.l 0, .l 1] rfl rfl (c2) rfl rfl rfl ⟨⟨rfl, rfl⟩, ⟨rfl, rfl⟩, trivial⟩ rfl rfl rfl rfl) rfl ?_
    refine go ?_
    refine J_take 3 [(2, .p a2), (7, W b), (8, .p (.ps (kvs b.row))), (9, .ad (.l 0) 0), (10, .ad (.l 2) 0), (27, .p o'), (28, .p (.int .i64 (l.length : Int))), (29, .p (.int .i64 (IntKind.i64.wrap ((q.i : Int) + 1))))] ⟨rfl, rfl, rfl, rfl, rfl, rfl, rfl, rfl, trivial⟩ rfl rfl ?_
    refine J_again ⟨q.i + 1, by omega⟩ (by show l.length - (q.i + 1) < l.length - q.i; omega) ⟨rfl, rfl, rfl, rfl, rfl, rfl, rfl, congrArg (fun z => TV.p (.int .i64 z)) (by rw [IntWalk.i64_in _ (by omega)]; rfl), trivial⟩ rfl (by dsimp only; rw [hs']; rfl)
  simp only [List.length_take, Nat.zero_add] at hvi
  have hvi2 : VI ((l.take q.i).foldl VS.do (VS.new b)) 200 := VI.mono hvi (by omega)
  clear hvi
  generalize (l.take q.i).foldl VS.do (VS.new b) = s at hvi2
  have zg := hvi2.zg
  refine K_condF rfl (decide_eq_false (by omega)) ?_
  refine go ?_
  refine K_op rfl rfl (opr_callS [.l 0, .l 1] rfl rfl (vcopy_spec s (by unfold big40; omega)) rfl rfl rfl ⟨⟨rfl, rfl⟩, ⟨rfl, rfl⟩, trivial⟩ rfl rfl rfl rfl) rfl ?_
  refine go ?_
  refine K_op rfl rfl (opr_callP rfl rfl (c1b) rfl rfl rfl rfl) rfl ?_
  refine go ?_
  refine K_op rfl rfl (opr_len_rd hT rfl rfl (hrd2 _ _)) rfl ?_
  rw [hlen2]
  refine go ?_
  clear h hi
  refine J_loop (fun q : Ix m.length => [(7, W b), (8, .p (.ps (kvs b.row))), (9, .ad (.l 0) 0), (10, .ad (.l 2) 0), (13, .ad (.l 3) 0), (14, .ad (.l 5) 0), (45, .p p'), (46, .p (.int .i64 (m.length : Int))), (47, .p (.int .i64 (q.i : Int)))]) (fun _ => []) (fun q => vN s ++ [.box 66 (mC s.base.row s.writes.row s.reads.row s.ranges), vB (.l 4) ((m.take q.i).foldl VS.do s).base ((m.take q.i).foldl VS.do s).shown ((m.take q.i).foldl VS.do s).writes ((m.take q.i).foldl VS.do s).reads ((m.take q.i).foldl VS.do s).ranges.length, vR ((m.take q.i).foldl VS.do s).ranges, .box 66 (mC ((m.take q.i).foldl VS.do s).base.row ((m.take q.i).foldl VS.do s).writes.row ((m.take q.i).foldl VS.do s).reads.row ((m.take q.i).foldl VS.do s).ranges)]) (fun q => m.length - q.i) ⟨0, by omega⟩ ⟨rfl, rfl, rfl, rfl, rfl, rfl, rfl, rfl, rfl, trivial⟩ rfl rfl (fun q => ?_)
  have hi := q.h
  refine go ?_
  have hvi := doL_ok (m.take q.i) hvi2
  by_cases h : q.i < m.length
  · have hx : m[q.i]? = some m[q.i] := List.getElem?_eq_getElem h
    have hxv := mval _ (List.getElem_mem h)
    generalize m[q.i] = x at hx hxv
    have hxk : (m.map vopV)[((q.i : Nat) : Int).toNat]? = some (vopV x) := by rw [Int.toNat_natCast, List.getElem?_map, hx]; rfl
    have hft := fold_take VS.do s hx
    simp only [List.length_take] at hvi
    generalize (m.take q.i).foldl VS.do s = u at hvi hft
    have c2 := do14_spec u _ hvi (by omega) x hxv
    rw [← hft] at c2
    generalize hs' : (m.take (q.i + 1)).foldl VS.do s = u' at c2
    refine K_condT rfl (decide_eq_true (by omega)) ?_
    refine go ?_
    refine K_op rfl rfl (opr_index hT rfl rfl rfl rfl rfl (hrd2 _ _) (by omega) (by rw [hlen2]; omega)) rfl ?_
    refine go ?_
    refine K_op rfl rfl (opr_load_el hT rfl rfl (hrd2 _ _) hxk rfl rfl) rfl ?_
    refine go ?_
    refine K_op rfl rfl (opr_callS [.l 3, .l 4] rfl rfl (c2) rfl rfl rfl ⟨⟨rfl, rfl⟩, ⟨rfl, rfl⟩, trivial⟩ rfl rfl rfl rfl) rfl ?_
    refine go ?_
    refine J_take 6 [(7, W b), (8, .p (.ps (kvs b.row))), (9, .ad (.l 0) 0), (10, .ad (.l 2) 0), (13, .ad (.l 3) 0), (14, .ad (.l 5) 0), (45, .p p'), (46, .p (.int .i64 (m.length : Int))), (47, .p (.int .i64 (IntKind.i64.wrap ((q.i : Int) + 1))))] ⟨rfl, rfl, rfl, rfl, rfl, rfl, rfl, rfl, rfl, trivial⟩ rfl rfl ?_
    refine J_again ⟨q.i + 1, by omega⟩ (by show m.length - (q.i + 1) < m.length - q.i; omega) ⟨rfl, rfl, rfl, rfl, rfl, rfl, rfl, rfl, congrArg (fun z => TV.p (.int .i64 z)) (by rw [IntWalk.i64_in _ (by omega)]; rfl), trivial⟩ rfl (by dsimp only; rw [hs']; rfl)
  simp only [List.length_take] at hvi
  generalize (m.take q.i).foldl VS.do s = u at hvi
  have c3 := same14_spec s _ hvi2 (by omega)
  have c4 := same14_spec u _ hvi (by omega)
  have hbl : (kvs b.row).length = b.size := by simp [row_len]
  refine K_condF rfl (decide_eq_false (by omega)) ?_
  refine go ?_
  refine K_op rfl rfl (opr_callP rfl rfl (fixed14_spec) rfl rfl rfl rfl) rfl ?_
  refine go ?_
  refine K_yes rfl rfl rfl (opr_callS [.l 0, .l 1] rfl rfl (c3) rfl rfl rfl ⟨⟨rfl, rfl⟩, ⟨rfl, rfl⟩, trivial⟩ rfl rfl rfl rfl) rfl ?_
  refine go ?_
  refine K_yes rfl rfl rfl (opr_callS [.l 3, .l 4] rfl rfl (c4) rfl rfl rfl ⟨⟨rfl, rfl⟩, ⟨rfl, rfl⟩, trivial⟩ rfl rfl rfl rfl) rfl ?_
  refine go ?_
  refine K_yes rfl rfl rfl (opr_callP rfl rfl (tlen_spec b) rfl rfl rfl rfl) rfl ?_
  refine gx ?_
  rw [hbl, show ((b.size : Int) == (b.size : Int)) = true from beq_self_eq_true _]
  refine go ?_
  exact J_done hT rfl rfl rfl
end viewCopies
end Go.Proofs.Ytbdijekfplpnlaa

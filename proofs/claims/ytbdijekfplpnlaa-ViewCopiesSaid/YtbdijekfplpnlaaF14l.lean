/- The laws of layer 14: same. -/
import Derived.Test.YtbdijekfplpnlaaGo
import Derived.Test.YtbdijekfplpnlaaF14k
-- @D
namespace Go.Proofs.Ytbdijekfplpnlaa
set_option maxRecDepth 20000
open Go.Awp Tr
set_option maxHeartbeats 16000000 in
theorem same14_spec (s : VS) (n : Nat) (h : VI s n) (hn : n ≤ 1000) : Con Try.prog 42 [vP, mSA s] (vH s) (.p (.bool true)) (vH s) [] := by
  have zw := h.zw
  have zr := h.zr
  have zg := h.zg
  have c1 := Con.freeze (vreads_spec s (by unfold big40; omega)) (by rw [ks_len, row_len])
  have c2 := Con.freeze (vranges_spec s (by unfold big40; omega)) (by simp)
  have c3 := Con.freeze (vwrites_spec s (by unfold big40; omega)) (by simp [row_len])
  have hwl : (s.writes.row.map wr).length ≤ big40 := by rw [List.length_map, row_len]; unfold big40; omega
  have c4 := rsame10_rd (.ps (wrs s.writes.row)) (.ps (wrs s.writes.row)) (s.writes.row.map wr) (s.writes.row.map wr) (fun L => by rw [List.map_map]; exact .ps _) (fun L => by rw [List.map_map]; exact .ps _) hwl hwl
  rw [decide_eq_true rfl] at c4
  have hrl : s.reads.row.length ≤ 1000 := by rw [row_len]; omega
  unfold mSA mA
  generalize s.reads.row = r at c1 hrl ⊢
  have hlr := ks_len r
  have hlg : (s.ranges.map rgV).length = s.ranges.length := by simp
  refine con_of Try.func42 rfl (by kernel_rfl) rfl fun F w0 β0 => ?_
  refine K_tell rfl ?_
  refine go ?_
  refine K_op rfl rfl (opr_callS [.o 0, .o 1] rfl rfl (c1) rfl rfl rfl ⟨⟨rfl, rfl⟩, ⟨rfl, rfl⟩, trivial⟩ rfl rfl rfl rfl) rfl ?_
  refine go ?_
  refine K_op rfl rfl (opr_callS [.o 0, .o 1] rfl rfl (c2) rfl rfl rfl ⟨⟨rfl, rfl⟩, ⟨rfl, rfl⟩, trivial⟩ rfl rfl rfl rfl) rfl ?_
  refine go ?_
  refine J_draw [_] [] (by kernel_rfl) (by kernel_rfl) rfl ?_
  refine gd ?_
  refine T_opD rfl rfl rfl rfl rfl (opr_callS [.o 0, .o 1] rfl rfl c3 rfl rfl rfl ⟨⟨rfl, rfl⟩, ⟨rfl, rfl⟩, trivial⟩ rfl rfl rfl rfl) rfl ?_
  refine gd ?_
  refine T_opD rfl rfl rfl rfl rfl (opr_call0P rfl rfl (c4) rfl rfl rfl) rfl ?_
  refine gd ?_
  rw [show (((ksV r).length : Int) != ((ksV r).length : Int)) = false by simp]
  refine gd ?_
  refine J_weak [(3, .ad (.l 0) 0), (4, .p (.bool false)), (5, .p (.ps (ksV r))), (6, .p (.ps (s.ranges.map rgV))), (34, .p (.bool false))] ⟨rfl, rfl, rfl, rfl, (by show TV.p (.bool (((s.ranges.map rgV).length : Int) != ((s.ranges.map rgV).length : Int))) = _; simp), trivial⟩ ?_
  refine go ?_
  refine J_loop (fun q : Ix r.length => [(3, .ad (.l 0) 0), (5, .p (.ps (ksV r))), (6, .p (.ps (s.ranges.map rgV))), (36, .p (.int .i64 (r.length : Int))), (37, .p (.int .i64 (q.i : Int)))]) (fun _ => vH s) (fun _ => [.box 66 (mC s.base.row s.writes.row r s.ranges)]) (fun q => r.length - q.i) ⟨0, by omega⟩ ⟨rfl, rfl, rfl, (by rw [← hlr]; rfl), rfl, trivial⟩ rfl rfl (fun q => ?_)
  have hi := q.h
  refine go ?_
  by_cases h : q.i < r.length
  · have hx : r[q.i]? = some r[q.i] := List.getElem?_eq_getElem h
    generalize r[q.i] = x at hx
    have hxk := ks_get hx
    refine K_condT rfl (decide_eq_true (by omega)) ?_
    refine go ?_
    refine J_draw [_] [] (by kernel_rfl) (by kernel_rfl) rfl ?_
    refine gd ?_
    refine T_opD rfl rfl rfl rfl rfl (opr_index hT rfl rfl rfl rfl rfl (.ps _) (by omega) (by rw [hlr]; omega)) rfl ?_
    refine gd ?_
    refine T_opD rfl rfl rfl rfl rfl (opr_load_el hT rfl rfl (.ps _) hxk rfl rfl) rfl ?_
    refine gd ?_
    refine T_opD rfl rfl rfl rfl rfl (opr_index hT rfl rfl rfl rfl rfl (.ps _) (by omega) (by rw [hlr]; omega)) rfl ?_
    refine gd ?_
    refine T_opD rfl rfl rfl rfl rfl (opr_load_el hT rfl rfl (.ps _) hxk rfl rfl) rfl ?_
    refine gd ?_
    refine J_weak [(3, .ad (.l 0) 0), (5, .p (.ps (ksV r))), (6, .p (.ps (s.ranges.map rgV))), (36, .p (.int .i64 (r.length : Int))), (37, .p (.int .i64 (q.i : Int))), (49, .p (.bool false))] ⟨rfl, rfl, rfl, rfl, rfl, (by show TV.p (.bool (!(x.1 == x.1))) = _; simp), trivial⟩ ?_
    refine go ?_
    refine J_again ⟨q.i + 1, by omega⟩ (by show r.length - (q.i + 1) < r.length - q.i; omega) ⟨rfl, rfl, rfl, rfl, congrArg (fun z => TV.p (.int .i64 z)) (by rw [IntWalk.i64_in _ (by omega)]; rfl), trivial⟩ rfl rfl
  refine K_condF rfl (decide_eq_false (by omega)) ?_
  refine go ?_
  refine J_loop (fun q : Ix s.ranges.length => [(3, .ad (.l 0) 0), (6, .p (.ps (s.ranges.map rgV))), (52, .p (.int .i64 (s.ranges.length : Int))), (53, .p (.int .i64 (q.i : Int)))]) (fun _ => vH s) (fun _ => [.box 66 (mC s.base.row s.writes.row r s.ranges)]) (fun q => s.ranges.length - q.i) ⟨0, by omega⟩ ⟨rfl, rfl, (by rw [← hlg]; rfl), rfl, trivial⟩ rfl rfl (fun q => ?_)
  have hi := q.h
  refine go ?_
  by_cases h : q.i < s.ranges.length
  · have hx : s.ranges[q.i]? = some s.ranges[q.i] := List.getElem?_eq_getElem h
    generalize s.ranges[q.i] = x at hx
    have hxk := rg_get hx
    refine K_condT rfl (decide_eq_true (by omega)) ?_
    refine go ?_
    refine J_draw [_] [] (by kernel_rfl) (by kernel_rfl) rfl ?_
    refine gd ?_
    refine T_opD rfl rfl rfl rfl rfl (opr_index hT rfl rfl rfl rfl rfl (.ps _) (by omega) (by rw [hlg]; omega)) rfl ?_
    refine gd ?_
    refine T_opD rfl rfl rfl rfl rfl (opr_load_el hT rfl rfl (.ps _) hxk rfl rfl) rfl ?_
    refine gd ?_
    refine T_opD rfl rfl rfl rfl rfl (opr_index hT rfl rfl rfl rfl rfl (.ps _) (by omega) (by rw [hlg]; omega)) rfl ?_
    refine gd ?_
    refine T_opD rfl rfl rfl rfl rfl (opr_load_el hT rfl rfl (.ps _) hxk rfl rfl) rfl ?_
    refine gd ?_
    refine T_opD rfl rfl rfl rfl rfl (opr_eqAgg hT rfl (by kernel_rfl) rfl rfl rfl rfl rfl) rfl ?_
    refine gd ?_
    refine J_weak [(3, .ad (.l 0) 0), (6, .p (.ps (s.ranges.map rgV))), (52, .p (.int .i64 (s.ranges.length : Int))), (53, .p (.int .i64 (q.i : Int))), (65, .p (.bool false))] ⟨rfl, rfl, rfl, rfl, (by show TV.p (.bool (!(decide (x.1 = x.1) && (decide (x.2 = x.2) && true)))) = _; simp), trivial⟩ ?_
    refine go ?_
    refine J_again ⟨q.i + 1, by omega⟩ (by show s.ranges.length - (q.i + 1) < s.ranges.length - q.i; omega) ⟨rfl, rfl, rfl, congrArg (fun z => TV.p (.int .i64 z)) (by rw [IntWalk.i64_in _ (by omega)]; rfl), trivial⟩ rfl rfl
  refine K_condF rfl (decide_eq_false (by omega)) ?_
  refine go ?_
  exact J_done hT rfl rfl rfl
end Go.Proofs.Ytbdijekfplpnlaa

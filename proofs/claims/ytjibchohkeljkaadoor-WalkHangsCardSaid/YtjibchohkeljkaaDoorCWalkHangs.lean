/- The law WalkHangs: its contract. -/
import Derived.Test.YtjibchohkeljkaaDoorGo
import Derived.Test.YtjibchohkeljkaaDoorM10
-- @D
namespace Go.Proofs.YtjibchohkeljkaaDoor
set_option maxRecDepth 20000
open Go.Awp Tr
namespace walkHangs
set_option maxHeartbeats 8000000 in
theorem con {a0 a1 a2 a3 : AV} (s0 : Shp tab 8 36 a0) (s1 : Shp tab 8 43 a1) (s2 : Shp tab 8 43 a2) (s3 : Shp tab 8 9 a3) : Con Tryd.prog 7 [.p a0, .p a1, .p a2, .p a3] [] (.p (.bool true)) [] [] := by
  obtain ⟨lo, hlo, hok, hlo2⟩ := wops_shp s0
  obtain ⟨d, rfl, hd⟩ := s1.int rfl
  obtain ⟨i, rfl, hi⟩ := s2.int rfl
  obtain ⟨m, rfl, hm⟩ := s3.str rfl
  have hd : U32 d := hd
  have hi : U32 i := hi
  by_cases hbad : m = [] ∨ 32 < m.length
  · skip
    refine con_of Tryd.func7 rfl (by kernel_rfl) rfl fun F w0 β0 => ?_
    refine K_tell rfl ?_
    refine go ?_
    refine K_condT rfl (by rcases hbad with h | h <;> simp [h] <;> omega) ?_
    refine go ?_
    refine K_op rfl rfl (opr_callP rfl rfl (fixed17_spec) rfl rfl rfl rfl) rfl ?_
    refine go ?_
    exact J_done hT rfl rfl rfl
  have hm1 : m ≠ [] := fun e => hbad (.inl e)
  have hm2 : m.length ≤ 32 := by omega
  obtain ⟨o', ho', c1⟩ := cut17_spec hlo hlo2
  obtain ⟨l40, lok⟩ := wops_cut hok
  generalize lo.take (cutG stop17 lo 0) = l at ho' l40 lok
  have hrd := ho'.rd
  have hlen : (l.map wopV).length = l.length := by simp
  have hall := ops17 l40 lok
  refine con_of Tryd.func7 rfl (by kernel_rfl) rfl fun F w0 β0 => ?_
  refine K_tell rfl ?_
  refine go ?_
  refine K_condF rfl (by simp [hm1]; omega) ?_
  refine go ?_
  refine K_op rfl rfl (opr_callP rfl rfl (tnew_spec) rfl rfl rfl rfl) rfl ?_
  refine go ?_
  refine K_op rfl rfl (opr_callP rfl rfl (vnew_spec .nil) rfl rfl rfl rfl) rfl ?_
  refine go ?_
  refine J_le 10 (.ps []) rfl nils_ps ?_
  refine K_op rfl rfl (opr_callP rfl rfl (c1) rfl rfl rfl rfl) rfl ?_
  refine go ?_
  refine K_op rfl rfl (opr_len_rd hT rfl rfl (hrd _ _)) rfl ?_
  rw [hlen]
  refine go ?_
  refine J_loop (fun q : Ix l.length => [(1, .p (.int .u32 d)), (2, .p (.int .u32 i)), (3, .p (.str m)), (9, .ad (.l 0) 0), (10, .p (.ps (kvs (opsR (l.take q.i))))), (30, .p o'), (31, .p (.int .i64 (l.length : Int))), (32, .p (.int .i64 (q.i : Int)))]) (fun _ => []) (fun q => vN (opsW (l.take q.i))) (fun q => l.length - q.i) ⟨0, by omega⟩ ⟨rfl, rfl, rfl, rfl, rfl, rfl, rfl, rfl, trivial⟩ rfl rfl (fun q => ?_)
  have hi' := q.h
  refine go ?_
  have hvi := hall q.i
  by_cases h : q.i < l.length
  · have hx : l[q.i]? = some l[q.i] := List.getElem?_eq_getElem h
    have hxo := lok _ (List.getElem_mem h)
    have hnx := hall (q.i + 1)
    generalize l[q.i] = x at hx hxo
    have hxk : (l.map wopV)[((q.i : Nat) : Int).toNat]? = some (wopV x) := by rw [Int.toNat_natCast, List.getElem?_map, hx]; rfl
    have e1 := opsW_take hx
    have e2 := opsR_take hx
    generalize opsW (l.take q.i) = s at hvi e1
    generalize opsR (l.take q.i) = r at hvi e2
    have hln := hvi.len
    have c2 := do17_spec hvi.v (by omega) hln.1 (by omega) x hxo.1
    rw [← e1, ← e2] at c2
    refine K_condT rfl (decide_eq_true (by omega)) ?_
    refine go ?_
    refine K_op rfl rfl (opr_index hT rfl rfl rfl rfl rfl (hrd _ _) (by omega) (by rw [hlen]; omega)) rfl ?_
    refine go ?_
    refine K_op rfl rfl (opr_load_el hT rfl rfl (hrd _ _) hxk rfl rfl) rfl ?_
    refine go ?_
    refine K_op rfl rfl (opr_callS [.l 0, .l 1] rfl rfl (c2) rfl rfl rfl ⟨⟨rfl, rfl⟩, ⟨rfl, rfl⟩, trivial⟩ rfl rfl rfl rfl) rfl ?_
    refine go ?_
    refine J_take 2 [(1, .p (.int .u32 d)), (2, .p (.int .u32 i)), (3, .p (.str m)), (9, .ad (.l 0) 0), (10, .p (.ps (kvs (opsR (l.take (q.i + 1)))))), (30, .p o'), (31, .p (.int .i64 (l.length : Int))), (32, .p (.int .i64 (IntKind.i64.wrap ((q.i : Int) + 1))))] ⟨rfl, rfl, rfl, rfl, rfl, rfl, rfl, rfl, trivial⟩ rfl rfl ?_
    refine J_again ⟨q.i + 1, by omega⟩ (by show l.length - (q.i + 1) < l.length - q.i; omega) ⟨rfl, rfl, rfl, rfl, rfl, rfl, rfl, congrArg (fun z => TV.p (.int .i64 z)) (by rw [IntWalk.i64_in _ (by omega)]; rfl), trivial⟩ rfl rfl
  generalize opsW (l.take q.i) = s at hvi
  generalize opsR (l.take q.i) = r at hvi
  have hek := entryK_is (d := d) hm2
  have hkf : KeyF (entryK d m) := .inr ⟨d, m, hd, hm1, hm2, hek⟩
  have w1 := hvi.put (by omega) hkf (beB 4 i) (by rw [beB_len]; omega)
  have c2 := whang_spec hvi.v (by omega) d i hd hi m
  rw [hvi.room (by omega)] at c2
  generalize s.put (entryK d m) (beB 4 i) = s1 at c2 w1
  have c3 := wchild_spec w1.v (by omega) d hd m
  have e3 : s1.child d m = some i := by
    unfold VS.child
    rw [get_row _ _ w1.v.rs, w1.sh, lget_lset hvi.len.1, if_pos rfl, chOf_be4 hi]
  rw [e3] at c3
  have w2 : W17 (s1.rd (entryK d m)) (lset (entryK d m) (beB 4 i) r) 42 := ⟨(w1.v.rd _).mono (by omega), w1.sh, w1.ky⟩
  generalize s1.rd (entryK d m) = s2 at c3 w2
  have w3 := w2.del (by omega) (entryK d m)
  have c4 := wunhang_spec w2.v (by omega) d hd m
  rw [w2.room (by omega)] at c4
  generalize s2.del (entryK d m) = s3 at c4 w3
  have c5 := wchild_spec w3.v (by omega) d hd m
  have e5 : s3.child d m = none := by
    unfold VS.child
    rw [get_row _ _ w3.v.rs, w3.sh, lget_lcut, if_pos rfl]
    rfl
  rw [e5] at c5
  have w4 : W17 (s3.rd (entryK d m)) (lcut (entryK d m) (lset (entryK d m) (beB 4 i) r)) 44 := ⟨(w3.v.rd _).mono (by omega), w3.sh, w3.ky⟩
  generalize s3.rd (entryK d m) = s4 at c5 w4
  have er : lcut (entryK d m) (lset (entryK d m) (beB 4 i) r) = lcut (entryK d m) r := by
    refine lget_ext (lcut_rises (lset_rises hvi.len.1)) (lcut_rises hvi.len.1) fun k => ?_
    rw [lget_lcut, lget_lcut, lget_lset hvi.len.1]
    split <;> simp_all
  have c6 := wlist_spec w4.v (by omega) d hd
  rw [w4.sh, er] at c6
  rw [er] at w4
  generalize s4.rngE d = s5 at c6
  have c7 := rcut_ps (l := r) (by have := hvi.len.2; omega) (entryK d m)
  have c8 := rlist_spec (l := lcut (entryK d m) r) (by have := w4.len.2; omega) (fun x hx => Nat.le_trans (w4.ky x hx).len (by omega)) d
  rw [namesR_eq hd w4.ky] at c8
  have c9 := rentry_spec d m hd []
  generalize namesL d (lcut (entryK d m) r) = N at c6 c8
  generalize lcut (entryK d m) r = r' at c7 c8
  refine K_condF rfl (decide_eq_false (by omega)) ?_
  refine go ?_
  refine K_op rfl rfl (opr_callS [.l 0, .l 1] rfl rfl (c2) rfl rfl rfl ⟨⟨rfl, rfl⟩, ⟨rfl, rfl⟩, trivial⟩ rfl rfl rfl rfl) rfl ?_
  refine go ?_
  refine K_op rfl rfl (opr_callS [.l 0, .l 1] rfl rfl (c3) rfl rfl rfl ⟨⟨rfl, rfl⟩, ⟨rfl, rfl⟩, trivial⟩ rfl rfl rfl rfl) rfl ?_
  refine go ?_
  refine K_op rfl rfl (opr_callS [.l 0, .l 1] rfl rfl (c4) rfl rfl rfl ⟨⟨rfl, rfl⟩, ⟨rfl, rfl⟩, trivial⟩ rfl rfl rfl rfl) rfl ?_
  refine go ?_
  refine K_op rfl rfl (opr_callS [.l 0, .l 1] rfl rfl (c5) rfl rfl rfl ⟨⟨rfl, rfl⟩, ⟨rfl, rfl⟩, trivial⟩ rfl rfl rfl rfl) rfl ?_
  refine go ?_
  refine K_op rfl rfl (opr_callP rfl rfl (fixed17_spec) rfl rfl rfl rfl) rfl ?_
  iterate 10 (refine g1 ?_)
  refine J_val 74 (.p (.bool true)) rfl (congrArg (fun b => TV.p (.bool b)) (by simp)) ?_
  refine go ?_
  refine K_yes rfl rfl rfl (opr_callS [.l 0, .l 1] rfl rfl (c6) rfl rfl rfl ⟨⟨rfl, rfl⟩, ⟨rfl, rfl⟩, trivial⟩ rfl rfl rfl rfl) rfl ?_
  refine go ?_
  refine K_yes rfl rfl rfl (opr_callP rfl rfl (c9) rfl rfl rfl rfl) rfl ?_
  refine go ?_
  refine K_yes rfl rfl rfl (opr_callP rfl rfl (c7) rfl rfl rfl rfl) rfl ?_
  refine go ?_
  refine K_yes rfl rfl rfl (opr_callP rfl rfl (c8) rfl rfl rfl rfl) rfl ?_
  iterate 2 (refine g1 ?_)
  refine J_val 96 (.p (.bool true)) rfl (congrArg (fun b => TV.p (.bool b)) (by simp)) ?_
  refine go ?_
  exact J_done hT rfl rfl rfl
end walkHangs
end Go.Proofs.YtjibchohkeljkaaDoor

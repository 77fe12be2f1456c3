/- The law ViewPlays: its contract. -/
import Derived.Test.YtbdijekfplpnlaaGo
import Derived.Test.YtbdijekfplpnlaaF14l
-- @D
namespace Go.Proofs.Ytbdijekfplpnlaa
set_option maxRecDepth 20000
open Go.Awp Tr
theorem rep_nils_ps (w : World) (β : Hd → Nat) (G : Hp) (v : Value) (h : RepT w β G (.p .nils) v) : RepT w β G (.p (.ps [])) v := by
  cases h with | p h => exact .p (nils_ps _ _ _ h)
theorem doL_ok (l : List VOp) : ∀ {s : VS} {n : Nat}, VI s n → VI (l.foldl VS.do s) (n + l.length) := by
  induction l with
  | nil => intro s n h; exact h
  | cons o r ih =>
    intro s n h
    have := ih (h.do o)
    rw [List.length_cons, show n + (r.length + 1) = n + 1 + r.length by omega]
    exact this
theorem vops_cut {l : List VOp} : (l.take (cutG stop14 l 0)).length ≤ 200 ∧ ∀ o ∈ l.take (cutG stop14 l 0), o.val.length ≤ 1000 := by
  constructor
  · have := cutG_max stop14 (n := 200) (fun i o h => by unfold stop14; rw [decide_eq_true h]; rfl) l 0 (by omega)
    simp; omega
  · intro o ho
    obtain ⟨j, hj⟩ := cutG_all stop14 l 0 o (by simpa using ho)
    simp only [stop14, Bool.or_eq_false_iff, decide_eq_false_iff_not] at hj
    omega
namespace viewPlays
set_option maxHeartbeats 8000000 in
theorem con {a0 a1 : AV} (s0 : Shp tab 8 54 a0) (s1 : Shp tab 8 64 a1) : Con Try.prog 9 [.p a0, .p a1] [] (.p (.bool true)) [] [] := by
  obtain ⟨lb, hlb, _, hlb2⟩ := rgs_shp s0
  obtain ⟨lo, hlo, _, hlo2⟩ := vops_shp s1
  have c0 := base14_spec hlb hlb2
  obtain ⟨hb1, hb2⟩ := baseT_ok lb
  generalize baseT lb = b at c0 hb1 hb2
  obtain ⟨o', ho', c1⟩ := cut14_spec hlo hlo2
  obtain ⟨l200, lval⟩ := vops_cut (l := lo)
  generalize lo.take (cutG stop14 lo 0) = l at ho' l200 lval
  have hrd := ho'.rd
  have hlen : (l.map vopV).length = l.length := by simp
  refine con_of Try.func9 rfl (by kernel_rfl) rfl fun F w0 β0 => ?_
  refine K_tell rfl ?_
  refine go ?_
  refine K_op rfl rfl (opr_callP rfl rfl (c0) rfl rfl rfl rfl) rfl ?_
  refine go ?_
  refine K_op rfl rfl (opr_callP rfl rfl (vnew_spec b) rfl rfl rfl rfl) rfl ?_
  refine go ?_
  refine K_op rfl rfl (opr_callP rfl rfl (c1) rfl rfl rfl rfl) rfl ?_
  refine go ?_
  refine K_op rfl rfl (opr_len_rd hT rfl rfl (hrd _ _)) rfl ?_
  rw [hlen]
  refine go ?_
  refine J_recell 2 1 (.p (.ps [])) rfl rfl rep_nils_ps ?_
  refine J_recell 2 2 (.p (.ps [])) rfl rfl rep_nils_ps ?_
  refine J_recell 2 3 (.p (.ps [])) rfl rfl rep_nils_ps ?_
  refine J_loop (fun q : Ix l.length => [(4, .p (.bool false)), (7, .ad (.l 0) 0), (8, .ad (.l 2) 0), (22, .p o'), (23, .p (.int .i64 (l.length : Int))), (24, .p (.int .i64 (q.i : Int)))]) (fun _ => []) (fun q => vN ((l.take q.i).foldl VS.do (VS.new b)) ++ [.box 66 (mC ((l.take q.i).foldl VS.do (VS.new b)).base.row ((l.take q.i).foldl VS.do (VS.new b)).writes.row ((l.take q.i).foldl VS.do (VS.new b)).reads.row ((l.take q.i).foldl VS.do (VS.new b)).ranges)]) (fun q => l.length - q.i) ⟨0, by omega⟩ ⟨rfl, rfl, rfl, rfl, rfl, rfl, trivial⟩ rfl rfl (fun q => ?_)
  have hi := q.h
  refine go ?_
  have hvi := doL_ok (l.take q.i) (VI.new hb1 hb2)
  by_cases h : q.i < l.length
  · have hx : l[q.i]? = some l[q.i] := List.getElem?_eq_getElem h
    have hxv := lval _ (List.getElem_mem h)
    generalize l[q.i] = x at hx hxv
    have hxk : (l.map vopV)[((q.i : Nat) : Int).toNat]? = some (vopV x) := by rw [Int.toNat_natCast, List.getElem?_map, hx]; rfl
    have hft := fold_take VS.do (VS.new b) hx
    simp only [List.length_take, Nat.zero_add] at hvi
    generalize (l.take q.i).foldl VS.do (VS.new b) = s at hvi hft
    have c2 := do14_spec s _ hvi (by omega) x hxv
    rw [← hft] at c2
    generalize hs' : (l.take (q.i + 1)).foldl VS.do (VS.new b) = s' at c2
    refine K_condT rfl (decide_eq_true (by omega)) ?_
    refine go ?_
    refine K_op rfl rfl (opr_index hT rfl rfl rfl rfl rfl (hrd _ _) (by omega) (by rw [hlen]; omega)) rfl ?_
    refine go ?_
    refine K_op rfl rfl (opr_load_el hT rfl rfl (hrd _ _) hxk rfl rfl) rfl ?_
    refine go ?_
    refine K_op rfl rfl (opr_callS [.l 0, .l 1] rfl rfl (c2) rfl rfl rfl ⟨⟨rfl, rfl⟩, ⟨rfl, rfl⟩, trivial⟩ rfl rfl rfl rfl) rfl ?_
    refine go ?_
    refine J_take 3 [(4, .p (.bool false)), (7, .ad (.l 0) 0), (8, .ad (.l 2) 0), (22, .p o'), (23, .p (.int .i64 (l.length : Int))), (24, .p (.int .i64 (IntKind.i64.wrap ((q.i : Int) + 1))))] ⟨rfl, rfl, rfl, rfl, rfl, rfl, trivial⟩ rfl rfl ?_
    refine J_again ⟨q.i + 1, by omega⟩ (by show l.length - (q.i + 1) < l.length - q.i; omega) ⟨rfl, rfl, rfl, rfl, rfl, congrArg (fun z => TV.p (.int .i64 z)) (by rw [IntWalk.i64_in _ (by omega)]; rfl), trivial⟩ rfl (by dsimp only; rw [hs']; rfl)
  generalize (l.take q.i).foldl VS.do (VS.new b) = s at hvi
  simp only [List.length_take, Nat.zero_add] at hvi
  have c3 := same14_spec s _ hvi (by omega)
  refine K_condF rfl (decide_eq_false (by omega)) ?_
  refine go ?_
  refine K_op rfl rfl (opr_callP rfl rfl (fixed14_spec) rfl rfl rfl rfl) rfl ?_
  refine go ?_
  refine K_yes rfl rfl rfl (opr_callS [.l 0, .l 1] rfl rfl (c3) rfl rfl rfl ⟨⟨rfl, rfl⟩, ⟨rfl, rfl⟩, trivial⟩ rfl rfl rfl rfl) rfl ?_
  refine go ?_
  exact J_done hT rfl rfl rfl
end viewPlays
end Go.Proofs.Ytbdijekfplpnlaa

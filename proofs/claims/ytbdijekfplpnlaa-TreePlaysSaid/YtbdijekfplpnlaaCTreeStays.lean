/- The law TreeStays: its contract. -/
import Derived.Test.YtbdijekfplpnlaaGo
import Derived.Test.YtbdijekfplpnlaaF10p
-- @D
namespace Go.Proofs.Ytbdijekfplpnlaa
set_option maxRecDepth 20000
open Go.Awp Tr
theorem cutN_200 : ∀ (l : List TOp) (i : Nat), i ≤ 200 → cutN l i ≤ 200
  | [], i, h => h
  | o :: r, i, h => by
    unfold cutN
    split
    · exact h
    · rename_i hs
      refine cutN_200 r (i + 1) ?_
      simp only [stopAt, Bool.or_eq_true, decide_eq_true_eq, not_or] at hs
      omega
/-- A tree, after an operation. -/
def appT (t : Tr) (o : TOp) : Tr := if o.kind = 0 then t.set o.key o.val else t.cut o.key
theorem appT_size (t : Tr) (o : TOp) : (appT t o).size ≤ t.size + 1 := by
  unfold appT
  split
  · exact set_size ..
  · exact Nat.le_succ_of_le (cut_size ..)
theorem runT_size : ∀ (l : List TOp) (t : Tr), (l.foldl appT t).size ≤ t.size + l.length
  | [], t => by simp
  | o :: r, t => by
    have h1 := runT_size r (appT t o)
    have h2 := appT_size t o
    rw [List.foldl_cons, List.length_cons]
    omega
structure NI (l : List TOp) where
  i : Nat
  h : i ≤ l.length
namespace treeStays
set_option maxHeartbeats 8000000 in
theorem con {a0 a1 : AV} (s0 : Shp tab 8 22 a0) (s1 : Shp tab 8 22 a1) : Con Try.prog 4 [.p a0, .p a1] [] (.p (.bool true)) [] [] := by
  obtain ⟨la, ha, oka, la40⟩ := shp_ops s0
  obtain ⟨lb, hb, okb, lb40⟩ := shp_ops s1
  obtain ⟨b0, hb0, c0⟩ := cut10_spec ha oka la40
  obtain ⟨b1, hb1, c1⟩ := cut10_spec hb okb lb40
  have n0 : (la.take (cutN la 0)).length ≤ 200 := by have := cutN_200 la 0 (by omega); simp; omega
  have n1 : (lb.take (cutN lb 0)).length ≤ 200 := by have := cutN_200 lb 0 (by omega); simp; omega
  generalize la.take (cutN la 0) = l at hb0 n0
  generalize lb.take (cutN lb 0) = m at hb1 n1
  have hrd := hb0.rd []
  have hrd2 := hb1.rd []
  have hlen : (l.map opV).length = l.length := by simp
  have hlen2 : (m.map opV).length = m.length := by simp
  have p6 := fixed10_spec
  refine con_of Try.func4 rfl (by kernel_rfl) rfl fun F w0 β0 => ?_
  refine K_tell rfl ?_
  refine go ?_
  refine K_op rfl rfl (opr_callP rfl rfl (tnew_spec) rfl rfl rfl rfl) rfl ?_
  refine go ?_
  refine K_op rfl rfl (opr_callP rfl rfl (c0) rfl rfl rfl rfl) rfl ?_
  refine go ?_
  refine K_op rfl rfl (opr_len_rd hT rfl rfl (hrd _)) rfl ?_
  rw [hlen]
  refine go ?_
  refine J_loop (fun q : NI l => [(1, .p a1), (5, W ((l.take q.i).foldl appT .nil)), (16, .p b0), (17, .p (.int .i64 (l.length : Int))), (18, .p (.int .i64 (q.i : Int)))]) (fun _ => []) (fun _ => []) (fun q => l.length - q.i) ⟨0, by omega⟩ ⟨rfl, rfl, rfl, rfl, rfl, trivial⟩ rfl rfl (fun q => ?_)
  have hi := q.h
  refine go ?_
  by_cases h : q.i < l.length
  · have hx : l[q.i]? = some l[q.i] := List.getElem?_eq_getElem h
    generalize l[q.i] = x at hx
    have hxk : (l.map opV)[((q.i : Nat) : Int).toNat]? = some (opV x) := ops_get hx
    have hft := fold_take appT .nil hx
    have hsz := runT_size (l.take q.i) .nil
    simp only [List.length_take, Tr.size] at hsz
    generalize (l.take q.i).foldl appT .nil = t at hft hsz
    have ht : t.size + 2 ≤ big40 := by unfold big40; omega
    refine K_condT rfl (decide_eq_true (by omega)) ?_
    refine go ?_
    refine K_op rfl rfl (opr_index hT rfl rfl rfl rfl rfl (hrd _) (by omega) (by rw [hlen]; omega)) rfl ?_
    refine go ?_
    refine K_op rfl rfl (opr_load_el hT rfl rfl (hrd _) hxk rfl rfl) rfl ?_
    refine go ?_
    by_cases hk : x.kind = 0
    · have e : appT t x = t.set x.key x.val := if_pos hk
      refine K_condT rfl (by simp [hk]) ?_
      refine go ?_
      refine K_op rfl rfl (opr_callP rfl rfl (tset_spec x.key x.val t ht) rfl rfl rfl rfl) rfl ?_
      refine go ?_
      refine J_take 0 [(1, .p a1), (5, W (t.set x.key x.val)), (16, .p b0), (17, .p (.int .i64 (l.length : Int))), (18, .p (.int .i64 (IntKind.i64.wrap ((q.i : Int) + 1))))] ⟨rfl, rfl, rfl, rfl, rfl, trivial⟩ rfl rfl ?_
      refine J_again ⟨q.i + 1, by omega⟩ (by show l.length - (q.i + 1) < l.length - q.i; omega) ⟨rfl, by rw [hft, e]; rfl, rfl, rfl, congrArg (fun z => TV.p (.int .i64 z)) (by rw [IntWalk.i64_in _ (by omega)]; rfl), trivial⟩ rfl rfl
    · have e : appT t x = t.cut x.key := if_neg hk
      refine K_condF rfl (by simp [hk]) ?_
      refine go ?_
      refine K_op rfl rfl (opr_callP rfl rfl (tcut_spec t x.key ht) rfl rfl rfl rfl) rfl ?_
      refine go ?_
      refine J_take 0 [(1, .p a1), (5, W (t.cut x.key)), (16, .p b0), (17, .p (.int .i64 (l.length : Int))), (18, .p (.int .i64 (IntKind.i64.wrap ((q.i : Int) + 1))))] ⟨rfl, rfl, rfl, rfl, rfl, trivial⟩ rfl rfl ?_
      refine J_again ⟨q.i + 1, by omega⟩ (by show l.length - (q.i + 1) < l.length - q.i; omega) ⟨rfl, by rw [hft, e]; rfl, rfl, rfl, congrArg (fun z => TV.p (.int .i64 z)) (by rw [IntWalk.i64_in _ (by omega)]; rfl), trivial⟩ rfl rfl
  have hsz := runT_size (l.take q.i) .nil
  simp only [List.length_take, Tr.size] at hsz
  generalize (l.take q.i).foldl appT .nil = t at hsz
  have ht : t.size ≤ big40 := by unfold big40; omega
  have ht2 : t.size ≤ 200 := by omega
  have hrl : (t.range [] [255, 255, 255, 255]).length ≤ big40 := Nat.le_trans (range_len ..) ht
  have c2 := (trange_spec [] [255, 255, 255, 255] t ht).frzAcc
  have c3 := rsame10_spec .nils .nils (.inl rfl) (.inl rfl) (t.range [] [255, 255, 255, 255]) (t.range [] [255, 255, 255, 255]) hrl hrl
  rw [decide_eq_true rfl] at c3
  generalize t.range [] [255, 255, 255, 255] = r at c2 c3
  refine K_condF rfl (decide_eq_false (by omega)) ?_
  refine go ?_
  refine K_op rfl rfl (opr_callP rfl rfl (c2) rfl rfl rfl rfl) rfl ?_
  refine go ?_
  refine K_op rfl rfl (opr_callP rfl rfl (tlen_spec t) rfl rfl rfl rfl) rfl ?_
  refine go ?_
  refine K_op rfl rfl (opr_callP rfl rfl (thigh_spec t) rfl rfl rfl rfl) rfl ?_
  refine go ?_
  refine K_op rfl rfl (opr_callP rfl rfl (c1) rfl rfl rfl rfl) rfl ?_
  refine go ?_
  refine K_op rfl rfl (opr_len_rd hT rfl rfl (hrd2 _)) rfl ?_
  rw [hlen2]
  refine go ?_
  clear hsz h hi hrd hlen hb0 c0 c1 n0 hrl
  refine J_loop (fun q : NI m => [(5, W t), (8, R .nils r), (9, .p (.int .i64 (t.size : Int))), (10, .p (.int .i64 (t.high : Int))), (11, W ((m.take q.i).foldl appT t)), (44, .p b1), (45, .p (.int .i64 (m.length : Int))), (46, .p (.int .i64 (q.i : Int)))]) (fun _ => []) (fun _ => []) (fun q => m.length - q.i) ⟨0, by omega⟩ ⟨rfl, rfl, rfl, rfl, rfl, rfl, rfl, rfl, trivial⟩ rfl rfl (fun q => ?_)
  have hi := q.h
  refine go ?_
  by_cases h : q.i < m.length
  · have hx : m[q.i]? = some m[q.i] := List.getElem?_eq_getElem h
    generalize m[q.i] = x at hx
    have hxk : (m.map opV)[((q.i : Nat) : Int).toNat]? = some (opV x) := ops_get hx
    have hft := fold_take appT t hx
    have hsz := runT_size (m.take q.i) t
    simp only [List.length_take] at hsz
    generalize (m.take q.i).foldl appT t = u at hft hsz
    have hu : u.size + 2 ≤ big40 := by unfold big40; omega
    refine K_condT rfl (decide_eq_true (by omega)) ?_
    refine go ?_
    refine K_op rfl rfl (opr_index hT rfl rfl rfl rfl rfl (hrd2 _) (by omega) (by rw [hlen2]; omega)) rfl ?_
    refine go ?_
    refine K_op rfl rfl (opr_load_el hT rfl rfl (hrd2 _) hxk rfl rfl) rfl ?_
    refine go ?_
    by_cases hk : x.kind = 0
    · have e : appT u x = u.set x.key x.val := if_pos hk
      refine K_condT rfl (by simp [hk]) ?_
      refine go ?_
      refine K_op rfl rfl (opr_callP rfl rfl (tset_spec x.key x.val u hu) rfl rfl rfl rfl) rfl ?_
      refine go ?_
      refine J_take 0 [(5, W t), (8, R .nils r), (9, .p (.int .i64 (t.size : Int))), (10, .p (.int .i64 (t.high : Int))), (11, W (u.set x.key x.val)), (44, .p b1), (45, .p (.int .i64 (m.length : Int))), (46, .p (.int .i64 (IntKind.i64.wrap ((q.i : Int) + 1))))] ⟨rfl, rfl, rfl, rfl, rfl, rfl, rfl, rfl, trivial⟩ rfl rfl ?_
      refine J_again ⟨q.i + 1, by omega⟩ (by show m.length - (q.i + 1) < m.length - q.i; omega) ⟨rfl, rfl, rfl, rfl, by rw [hft, e]; rfl, rfl, rfl, congrArg (fun z => TV.p (.int .i64 z)) (by rw [IntWalk.i64_in _ (by omega)]; rfl), trivial⟩ rfl rfl
    · have e : appT u x = u.cut x.key := if_neg hk
      refine K_condF rfl (by simp [hk]) ?_
      refine go ?_
      refine K_op rfl rfl (opr_callP rfl rfl (tcut_spec u x.key hu) rfl rfl rfl rfl) rfl ?_
      refine go ?_
      refine J_take 0 [(5, W t), (8, R .nils r), (9, .p (.int .i64 (t.size : Int))), (10, .p (.int .i64 (t.high : Int))), (11, W (u.cut x.key)), (44, .p b1), (45, .p (.int .i64 (m.length : Int))), (46, .p (.int .i64 (IntKind.i64.wrap ((q.i : Int) + 1))))] ⟨rfl, rfl, rfl, rfl, rfl, rfl, rfl, rfl, trivial⟩ rfl rfl ?_
      refine J_again ⟨q.i + 1, by omega⟩ (by show m.length - (q.i + 1) < m.length - q.i; omega) ⟨rfl, rfl, rfl, rfl, by rw [hft, e]; rfl, rfl, rfl, congrArg (fun z => TV.p (.int .i64 z)) (by rw [IntWalk.i64_in _ (by omega)]; rfl), trivial⟩ rfl rfl
  refine K_condF rfl (decide_eq_false (by omega)) ?_
  refine go ?_
  refine K_op rfl rfl (opr_callP rfl rfl (p6) rfl rfl rfl rfl) rfl ?_
  refine go ?_
  refine K_yes rfl rfl rfl (opr_callP rfl rfl (c2) rfl rfl rfl rfl) rfl ?_
  refine go ?_
  refine K_yes rfl rfl rfl (opr_callP rfl rfl (c3) rfl rfl rfl rfl) rfl ?_
  refine go ?_
  refine K_yes rfl rfl rfl (opr_callP rfl rfl (tlen_spec t) rfl rfl rfl rfl) rfl ?_
  refine gx ?_
  rw [show ((t.size : Int) == (t.size : Int)) = true from beq_self_eq_true _]
  refine go ?_
  refine K_yes rfl rfl rfl (opr_callP rfl rfl (thigh_spec t) rfl rfl rfl rfl) rfl ?_
  refine gx ?_
  rw [show ((t.high : Int) == (t.high : Int)) = true from beq_self_eq_true _]
  refine go ?_
  exact J_done hT rfl rfl rfl
end treeStays
end Go.Proofs.Ytbdijekfplpnlaa

/- The laws of layer 10: cut. -/
import Derived.Test.YtbdijekfplpnlaaGo
import Derived.Test.YtbdijekfplpnlaaF10o
-- @D
namespace Go.Proofs.Ytbdijekfplpnlaa
set_option maxRecDepth 20000
open Go.Awp Tr
theorem cutN_step {l : List TOp} {i : Nat} {o : TOp} (h : l[i]? = some o) : cutN (l.drop i) i = if stopAt i o = true then i else cutN (l.drop (i + 1)) (i + 1) := by
  obtain ⟨h2, rfl⟩ := List.getElem?_eq_some_iff.1 h
  rw [List.drop_eq_getElem_cons h2]
  rfl
theorem stop_eq (i : Nat) (o : TOp) : (decide ((i : Int) ≥ 200) || decide ((o.key.length : Int) > 200) || decide ((o.val.length : Int) > 200)) = stopAt i o := by
  unfold stopAt
  rw [Bool.or_assoc]
  congr 1
  · exact decide_eq_decide.2 (by omega)
  · congr 1 <;> exact decide_eq_decide.2 (by omega)
theorem cutN_end {l : List TOp} {i : Nat} (h : l.length ≤ i) : cutN (l.drop i) i = i := by
  rw [List.drop_eq_nil_of_le h]; rfl
theorem cutN_le : ∀ (l : List TOp) (i : Nat), cutN l i ≤ i + l.length
  | [], i => by simp [cutN]
  | o :: r, i => by
    have := cutN_le r (i + 1)
    unfold cutN
    split
    · simp
    · simp only [List.length_cons]; omega
theorem ops_get {l : List TOp} {i : Nat} {x : TOp} (h : l[i]? = some x) : (l.map opV)[i]? = some (opV x) := by simp [h]
structure CI (l : List TOp) where
  i : Nat
  h : i ≤ l.length
  e : cutN (l.drop i) i = cutN l 0
set_option maxHeartbeats 8000000 in
theorem cut10_spec {s : AV} {l : List TOp} (hs : Ops s l) (hok : ∀ o ∈ l, o.ok) (hl : l.length ≤ big40 * 100) : ∃ s', Ops s' (l.take (cutN l 0)) ∧ Con Try.prog 17 [.p s] [] (.p s') [] [] := by
  have hrd := hs.rd []
  have hlen : (l.map opV).length = l.length := by simp
  unfold big40 at hl
  have hE : ∀ r ∈ l.map opV, (cellsOf r).length = 4 := by
    intro r hr
    obtain ⟨o, _, rfl⟩ := List.mem_map.1 hr
    rfl
  refine ⟨if cutN l 0 = l.length then s else .ps ((l.take (cutN l 0)).map opV), ?_, ?_⟩
  · split
    · rename_i h; rw [h, List.take_length]; exact hs
    · exact .ps _
  refine con_of Try.func17 rfl (by kernel_rfl) rfl fun F w0 β0 => ?_
  refine K_tell rfl ?_
  refine go ?_
  refine K_op rfl rfl (opr_len_rd hT rfl rfl (hrd _)) rfl ?_
  rw [hlen]
  refine go ?_
  refine J_loop (fun q : CI l => [(0, .p s), (5, .p s), (6, .p (.int .i64 (l.length : Int))), (7, .p (.int .i64 (q.i : Int)))]) (fun _ => []) (fun _ => []) (fun q => l.length - q.i) ⟨0, by omega, rfl⟩ ⟨rfl, rfl, rfl, rfl, trivial⟩ rfl rfl (fun q => ?_)
  have hi := q.h
  refine go ?_
  by_cases h : q.i < l.length
  · have hx : l[q.i]? = some l[q.i] := List.getElem?_eq_getElem h
    have hxok := hok _ (List.getElem_mem h)
    generalize l[q.i] = x at hx hxok
    have hxk : (l.map opV)[((q.i : Nat) : Int).toNat]? = some (opV x) := ops_get hx
    have hst := cutN_step hx
    rw [q.e] at hst
    refine K_condT rfl (decide_eq_true (by omega)) ?_
    refine go ?_
    refine K_op rfl rfl (opr_index hT rfl rfl rfl rfl rfl (hrd _) (by omega) (by rw [hlen]; omega)) rfl ?_
    refine go ?_
    refine K_op rfl rfl (opr_load_el hT rfl rfl (hrd _) hxk rfl rfl) rfl ?_
    refine go ?_
    refine J_take 0 [(0, .p s), (3, .p (.int .i64 (q.i : Int))), (5, .p s), (6, .p (.int .i64 (l.length : Int))), (7, .p (.int .i64 (q.i : Int))), (25, .p (.bool (stopAt q.i x)))] ⟨rfl, rfl, rfl, rfl, rfl, (by rw [← stop_eq]; rfl), trivial⟩ rfl rfl ?_
    by_cases hk : stopAt q.i x = true
    · rw [if_pos hk] at hst
      rw [hst, if_neg (by omega)]
      refine K_condT rfl hk ?_
      cases hs with
      | nils => simp at hx
      | ps =>
        have e : ((l.map opV).drop 0).take (((q.i : Nat) : Int).toNat - 0) = (l.take q.i).map opV := by simp
        rw [← e]
        refine go ?_
        refine K_op rfl rfl (opr_cut hT rfl rfl rfl rfl (hrd _) rfl rfl (by omega) (by omega) (by rw [hlen]; omega) hE) rfl ?_
        refine go ?_
        exact J_done hT rfl rfl rfl
    · rw [if_neg hk] at hst
      refine K_condF rfl (by simpa using hk) ?_
      refine go ?_
      refine J_again ⟨q.i + 1, by omega, hst.symm⟩ (by show l.length - (q.i + 1) < l.length - q.i; omega) ⟨rfl, rfl, rfl, congrArg (fun z => TV.p (.int .i64 z)) (by rw [IntWalk.i64_in _ (by omega)]; rfl), trivial⟩ rfl rfl
  · refine K_condF rfl (decide_eq_false (by omega)) ?_
    have e : cutN l 0 = l.length := by rw [← q.e, show q.i = l.length by omega, cutN_end (Nat.le_refl _)]
    rw [if_pos e]
    refine go ?_
    exact J_done hT rfl rfl rfl
end Go.Proofs.Ytbdijekfplpnlaa

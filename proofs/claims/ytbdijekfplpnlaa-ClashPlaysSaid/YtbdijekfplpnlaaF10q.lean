/- The laws of layer 10: same. -/
import Derived.Test.YtbdijekfplpnlaaF10p
import Derived.Test.YtbdijekfplpnlaaGo3
-- @D
namespace Go.Proofs.Ytbdijekfplpnlaa
set_option maxRecDepth 20000
open Go.Awp Tr
theorem lget_at {l : List KV} (h : Rises l) {i : Nat} {x : KV} (hx : l[i]? = some x) : lget x.1 l = some x.2 := by
  induction l generalizing i with
  | nil => simp at hx
  | cons a r ih =>
    have hp := List.pairwise_cons.1 h
    unfold lget
    cases i with
    | zero => simp at hx; subst hx; simp
    | succ i =>
      simp at hx
      rw [if_neg (lt_ne (hp.1 x (List.mem_of_getElem? hx)))]
      exact ih hp.2 hx
theorem lrank_at {l : List KV} (h : Rises l) {i : Nat} {x : KV} (hx : l[i]? = some x) : lrank x.1 l = i := by
  induction l generalizing i with
  | nil => simp at hx
  | cons a r ih =>
    have hp := List.pairwise_cons.1 h
    unfold lrank
    cases i with
    | zero =>
      simp at hx; subst hx
      have : (a :: r).filter (fun y => Op.bytesLess y.1 a.1) = [] := by
        rw [List.filter_eq_nil_iff]
        intro y hy
        rcases List.mem_cons.1 hy with rfl | hy
        · exact lt_irrefl _
        · exact lt_asymm (hp.1 y hy)
      rw [this]; rfl
    | succ i =>
      simp at hx
      have hlt : Op.bytesLess a.1 x.1 = true := hp.1 x (List.mem_of_getElem? hx)
      rw [List.filter_cons, if_pos hlt, List.length_cons]
      have := ih hp.2 hx
      unfold lrank at this
      omega
structure MI (l : List KV) where
  i : Nat
  h : i ≤ l.length
set_option maxHeartbeats 8000000 in
theorem same10_spec (t : Tr) (d : AV) (hd : d = .nils ∨ d = .cz) (h : Rises t.row) (ht : t.size ≤ big40) : Con Try.prog 29 [W t, R d t.row] [] (.p (.bool true)) [] [] := by
  have hlr := row_len t
  have hrow : (t.range [] [255, 255, 255, 255]) = lrange [] [255, 255, 255, 255] t.row := range_row _ _ _ h
  have hrl : (t.range [] [255, 255, 255, 255]).length ≤ big40 := Nat.le_trans (range_len ..) ht
  have c1 := (trange_spec [] [255, 255, 255, 255] t ht).frzAcc
  have c2 := (rrange10_acc d hd t.row [] [255, 255, 255, 255] (by rw [hlr]; exact ht)).frzAcc
  rw [← hrow] at c2
  have c3 := rsame10_spec .nils .cz (.inl rfl) (.inr rfl) (t.range [] [255, 255, 255, 255]) (t.range [] [255, 255, 255, 255]) hrl hrl
  rw [decide_eq_true rfl] at c3
  generalize t.range [] [255, 255, 255, 255] = rg at c1 c2 c3
  have hat := atZ_row t
  have hget := fun k => get_row k t h
  have hrk := fun k => rank_row k t h
  generalize t.row = l at hlr c2 hat hget hrk h
  have hrd : ∀ L, Rd [] L (R d l) (kvs l) := fun L => accV_rd hd
  have hlen : (kvs l).length = l.length := by simp
  have ht2 := ht
  unfold big40 at ht2
  unfold R at hrd ⊢
  unfold R at c2
  generalize accV d (kvs l) = s at hrd c2
  refine con_of Try.func29 rfl (by kernel_rfl) rfl fun F w0 β0 => ?_
  refine K_tell rfl ?_
  refine go ?_
  refine K_op rfl rfl (opr_callP rfl rfl (tlen_spec t) rfl rfl rfl rfl) rfl ?_
  refine go ?_
  refine K_op rfl rfl (opr_len_rd hT rfl rfl (hrd _)) rfl ?_
  rw [hlen]
  refine gx ?_
  rw [show ((t.size : Int) != (l.length : Int)) = false by simp; omega]
  refine go ?_
  refine K_yes rfl rfl rfl (opr_callP rfl rfl (c1) rfl rfl rfl rfl) rfl ?_
  refine go ?_
  refine K_yes rfl rfl rfl (opr_callP rfl rfl (c2) rfl rfl rfl rfl) rfl ?_
  refine go ?_
  refine K_yes rfl rfl rfl (opr_callP rfl rfl (c3) rfl rfl rfl rfl) rfl ?_
  refine go ?_
  refine K_op rfl rfl (opr_len_rd hT rfl rfl (hrd _)) rfl ?_
  rw [hlen]
  refine go ?_
  refine J_loop (fun q : MI l => [(0, W t), (1, .p s), (4, .p (.bool false)), (28, .p s), (29, .p (.int .i64 (l.length : Int))), (30, .p (.int .i64 (q.i : Int)))]) (fun _ => []) (fun _ => []) (fun q => l.length - q.i) ⟨0, by omega⟩ ⟨rfl, rfl, rfl, rfl, rfl, rfl, trivial⟩ rfl rfl (fun q => ?_)
  have hi := q.h
  refine go ?_
  by_cases hlt : q.i < l.length
  · have hx : l[q.i]? = some l[q.i] := List.getElem?_eq_getElem hlt
    generalize l[q.i] = x at hx
    have hxk : (kvs l)[((q.i : Nat) : Int).toNat]? = some (kvV x) := kvs_get hx
    have a1 : atZ t (q.i : Int) = some x := by rw [hat, if_neg (by omega), Int.toNat_natCast, hx]
    have a2 : t.get x.1 = some x.2 := by rw [hget, lget_at h hx]
    have a3 : t.rank x.1 = q.i := by rw [hrk, lrank_at h hx]
    have d1 := tat_spec t (q.i : Int) ht (by omega)
    have d2 := tget_spec x.1 t
    have d3 := trank_spec x.1 t ht
    rw [a1] at d1
    rw [a2] at d2
    rw [a3] at d3
    refine K_condT rfl (decide_eq_true (by omega)) ?_
    refine go ?_
    refine K_op rfl rfl (opr_index hT rfl rfl rfl rfl rfl (hrd _) (by omega) (by rw [hlen]; omega)) rfl ?_
    refine go ?_
    refine K_op rfl rfl (opr_load_el hT rfl rfl (hrd _) hxk rfl rfl) rfl ?_
    refine go ?_
    refine K_op rfl rfl (opr_callP rfl rfl (d1) rfl rfl rfl rfl) rfl ?_
    refine go ?_
    refine K_op rfl rfl (opr_callP rfl rfl (d2) rfl rfl rfl rfl) rfl ?_
    refine go ?_
    refine K_opt rfl rfl rfl need2 (fun _ => opr_callP rfl rfl (d3) rfl rfl rfl rfl) rfl ?_
    refine go ?_
    refine K_condF rfl (by simp) ?_
    refine go ?_
    refine J_take 0 [(0, W t), (1, .p s), (4, .p (.bool false)), (28, .p s), (29, .p (.int .i64 (l.length : Int))), (30, .p (.int .i64 (IntKind.i64.wrap ((q.i : Int) + 1))))] ⟨rfl, rfl, rfl, rfl, rfl, rfl, trivial⟩ rfl rfl ?_
    refine J_again ⟨q.i + 1, by omega⟩ (by show l.length - (q.i + 1) < l.length - q.i; omega) ⟨rfl, rfl, rfl, rfl, rfl, congrArg (fun z => TV.p (.int .i64 z)) (by rw [IntWalk.i64_in _ (by omega)]; rfl), trivial⟩ rfl rfl
  have b1 : atZ t (-1) = none := by rw [hat, if_pos (by omega)]
  have b2 : atZ t (l.length : Int) = none := by rw [hat, if_neg (by omega), Int.toNat_natCast, List.getElem?_eq_none (Nat.le_refl _)]
  have d1 := tat_spec t (-1) ht (by omega)
  have d2 := tat_spec t (l.length : Int) ht (by omega)
  rw [b1] at d1
  rw [b2] at d2
  refine K_condF rfl (decide_eq_false (by omega)) ?_
  refine go ?_
  refine K_op rfl rfl (opr_callP rfl rfl (d1) rfl rfl rfl rfl) rfl ?_
  refine go ?_
  refine K_op rfl rfl (opr_len_rd hT rfl rfl (hrd _)) rfl ?_
  rw [hlen]
  refine go ?_
  refine K_op rfl rfl (opr_callP rfl rfl (d2) rfl rfl rfl rfl) rfl ?_
  refine go ?_
  exact J_done hT rfl rfl rfl
end Go.Proofs.Ytbdijekfplpnlaa

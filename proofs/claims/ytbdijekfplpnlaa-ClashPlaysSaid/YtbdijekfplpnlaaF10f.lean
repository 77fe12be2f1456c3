/- tree: Range. -/
import Derived.Test.YtbdijekfplpnlaaGo
import Derived.Test.YtbdijekfplpnlaaF10e
import Derived.Test.YtbdijekfplpnlaaTr4
-- @D
namespace Go.Proofs.Ytbdijekfplpnlaa
set_option maxRecDepth 20000
open Go.Awp Tr
/-- A pair, as the program has it. -/
def kvV (x : KV) : AV := .agg [.str x.1, .str x.2, .bool false]
abbrev kvs (l : List KV) : List AV := l.map kvV
theorem kvs_cl (l : List KV) : clR (kvs l) := by
  intro r hr x hx
  obtain ⟨y, _, rfl⟩ := List.mem_map.1 hr
  simp [kvV, cellsOf] at hx
  rcases hx with rfl | rfl | rfl <;> rfl
theorem kvs_size (l : List KV) : ∀ r ∈ kvs l, (cellsOf r).length = 3 := by
  intro r hr
  obtain ⟨y, _, rfl⟩ := List.mem_map.1 hr
  rfl
theorem leB (a k : List UInt8) : (Op.bytesLess a k || a == k) = !Op.bytesLess k a := by
  cases h1 : Op.bytesLess a k with
  | true => rw [bl_asymm h1]; rfl
  | false =>
    cases h2 : Op.bytesLess k a with
    | true =>
      have : (a == k) = false := beq_eq_false_iff_ne.2 fun e => by rw [e, bl_irrefl] at h2; cases h2
      rw [this]; rfl
    | false => rw [bl_total h1 h2]; simp
abbrev pairI : TyI := ⟨.struct [(0, 9), (1, 9), (2, 4)], 3, 40, [.str [], .str [], .bool false]⟩
set_option maxHeartbeats 8000000 in
theorem trange_spec (a b : List UInt8) : ∀ (t : Tr), t.size ≤ big40 → Con Try.prog 23 [W t, .p (.str a), .p (.str b)] [] (accT 0 .nils (kvs (t.range a b))) [] (accL 99 3 (kvs (t.range a b)))
  | .nil, h => by
    refine con_of Try.func23 rfl (by kernel_rfl) rfl fun F w0 β0 => ?_
    refine K_tell rfl ?_
    refine go ?_
    exact J_give hT rfl rfl
  | .node k v l r, h => by
    simp only [Tr.size] at h
    have c1 := trange_spec a b l (by omega)
    have c2 := (trange_spec a b r (by omega)).frzAcc
    have l1 := range_len a b l
    have l2 := range_len a b r
    have er : (node k v l r).range a b = ((if lt a k then l.range a b else []) ++ (if inR k a b = true then [(k, v)] else [])) ++ (if lt k b then r.range a b else []) := rfl
    rw [er]
    refine con_of Try.func23 rfl (by kernel_rfl) rfl fun F w0 β0 => ?_
    refine K_tell rfl ?_
    refine go ?_
    refine J_join [(0, W (node k v l r)), (1, .p (.str a)), (2, .p (.str b)), (7, accT 0 .nils (kvs (if lt a k then l.range a b else [])))] [] (accL 99 3 (kvs (if lt a k then l.range a b else []))) ?_ ?_
    · refine J_cond rfl (fun hc => ?_) (fun hc => ?_)
      · rw [if_pos (show lt a k from hc)]
        refine go ?_
        refine K_opM rfl rfl (opr_callE rfl rfl c1 rfl rfl (accT_ren _ _ _ _ _) (by rw [accL_ren])) rfl ?_
        refine K_opM rfl rfl (opr_mv (accT 0 .nils (kvs (l.range a b))) (.inr rfl) rfl) rfl ?_
        refine J_nil ?_
        exact J_at ⟨rfl, rfl, rfl, rfl, trivial⟩ rfl rfl
      · rw [if_neg (show ¬ lt a k from by unfold lt; rw [hc]; simp)]
        refine go ?_
        exact J_at ⟨rfl, rfl, rfl, rfl, trivial⟩ rfl rfl
    have hA : (if lt a k then l.range a b else []).length ≤ l.size := by split <;> first | exact l1 | simp
    generalize hAA : (if lt a k then l.range a b else []) = A at hA
    refine go ?_
    have hin : ((Op.bytesLess a k || a == k) && Op.bytesLess k b) = inR k a b := by rw [leB]; rfl
    refine J_join [(0, W (node k v l r)), (1, .p (.str a)), (2, .p (.str b)), (7, accT 0 .nils (kvs (A ++ (if inR k a b = true then [(k, v)] else []))))] [] (accL 99 3 (kvs (A ++ (if inR k a b = true then [(k, v)] else [])))) ?_ ?_
    · refine J_cond rfl (fun hc => ?_) (fun hc => ?_)
      · rw [hin] at hc
        rw [if_pos hc]
        have emap : kvs (A ++ [(k, v)]) = kvs A ++ [kvV (k, v)] := by simp
        refine J_weak [(0, W (node k v l r)), (1, .p (.str a)), (2, .p (.str b)), (7, accT 0 .nils (kvs A))] ⟨rfl, rfl, rfl, rfl, trivial⟩ ?_
        refine J_draw [accL 99 3 (kvs A), accL 99 3 (kvs (A ++ [(k, v)]))] [11] (by kernel_rfl) (by kernel_rfl) rfl ?_
        refine T_op rfl rfl rfl rfl rfl (opr_mv (accT 0 .nils (kvs A)) (.inl rfl) rfl) rfl ?_
        refine gd2 ?_
        refine T_op rfl rfl rfl rfl rfl (opr_lit hT rfl rfl rfl rfl) rfl ?_
        rw [emap]
        refine T_st rfl rfl rfl rfl (opr_app_acc (te := pairI) (L0 := []) (acc := kvs A) (rows := [kvV (k, v)]) hT rfl rfl rfl (.inl rfl) rfl rfl (.rd (.ps _)) hbs_ps (kvs_cl [(k, v)]) (kvs_size [(k, v)]) (by decide) (by decide) (by unfold big40 at h; simp; omega)) rfl ?_
        refine T_op rfl rfl rfl rfl rfl (opr_mv (accT 0 .nils (kvs A ++ [kvV (k, v)])) (.inr rfl) rfl) rfl ?_
        refine T_nil ?_
        exact J_at ⟨rfl, rfl, rfl, rfl, trivial⟩ rfl rfl
      · rw [hin] at hc
        rw [if_neg (by rw [hc]; simp), List.append_nil]
        refine go ?_
        exact J_at ⟨rfl, rfl, rfl, rfl, trivial⟩ rfl rfl
    have hB : (A ++ (if inR k a b = true then [(k, v)] else [])).length ≤ l.size + 1 := by
      rw [List.length_append]
      have : (if inR k a b = true then [(k, v)] else [] : List KV).length ≤ 1 := by split <;> simp
      omega
    generalize hBB : (A ++ (if inR k a b = true then [(k, v)] else [])) = B at hB
    clear hAA hA hin hBB
    refine go ?_
    refine J_join [(7, accT 0 .nils (kvs (B ++ (if lt k b then r.range a b else []))))] [] (accL 99 3 (kvs (B ++ (if lt k b then r.range a b else [])))) ?_ ?_
    · refine J_cond rfl (fun hc => ?_) (fun hc => ?_)
      · rw [if_pos (show lt k b from hc)]
        have emap : kvs (B ++ r.range a b) = kvs B ++ kvs (r.range a b) := by simp
        refine go ?_
        refine K_opM rfl rfl (opr_mv (accT 0 .nils (kvs B)) (.inl rfl) rfl) rfl ?_
        refine go ?_
        refine K_opM rfl rfl (opr_callE rfl rfl c2 rfl rfl rfl (List.append_nil _)) rfl ?_
        rw [emap]
        refine K_opM rfl rfl (opr_app_acc (te := pairI) (L0 := []) (acc := kvs B) (rows := kvs (r.range a b)) hT rfl rfl rfl (.inl rfl) rfl rfl (.rd (accV_rd (.inl rfl))) (accV_str (.inl rfl)) (kvs_cl _) (kvs_size _) (by decide) (by decide) (by unfold big40 at h; simp; omega)) rfl ?_
        refine K_opM rfl rfl (opr_mv (accT 0 .nils (kvs B ++ kvs (r.range a b))) (.inr rfl) rfl) rfl ?_
        refine J_nil ?_
        exact J_at ⟨rfl, trivial⟩ rfl rfl
      · rw [if_neg (show ¬ lt k b from by unfold lt; rw [hc]; simp), List.append_nil]
        refine go ?_
        exact J_at ⟨rfl, trivial⟩ rfl rfl
    generalize B ++ (if lt k b then r.range a b else []) = C
    refine go ?_
    refine K_opM rfl rfl (opr_mv (accT 0 .nils (kvs C)) (.inl rfl) rfl) rfl ?_
    refine K_opM rfl rfl (opr_mv (accT 0 .nils (kvs C)) (.inr rfl) rfl) rfl ?_
    refine go ?_
    exact J_give hT rfl rfl
end Go.Proofs.Ytbdijekfplpnlaa

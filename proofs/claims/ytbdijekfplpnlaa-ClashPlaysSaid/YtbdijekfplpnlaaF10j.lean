/- The reference of layer 10: Set. -/
import Derived.Test.YtbdijekfplpnlaaGo
import Derived.Test.YtbdijekfplpnlaaF10i
import Derived.Test.YtbdijekfplpnlaaTr5
-- @D
namespace Go.Proofs.Ytbdijekfplpnlaa
set_option maxRecDepth 20000
open Go.Awp Tr
set_option maxHeartbeats 8000000 in
theorem rset10_rd (s : AV) (l : List KV) (k v : List UInt8) (hrd : ∀ L, Rd [] L (.p s) (kvs l)) (hl : l.length ≤ big40) : Con Try.prog 25 [.p s, .p (.str k), .p (.str v)] [] (accT 0 .cz (kvs (rset k v l))) [] (accL 99 3 (kvs (rset k v l))) := by
  have hlen : (kvs l).length = l.length := by simp
  unfold big40 at hl
  refine con_of Try.func25 rfl (by kernel_rfl) rfl fun F w0 β0 => ?_
  refine K_tell rfl ?_
  refine go ?_
  refine K_opM rfl rfl (opr_len_rd hT rfl rfl (hrd _)) rfl ?_
  rw [hlen]
  refine go ?_
  refine J_loop (fun q : RI l => [(0, .p s), (1, .p (.str k)), (2, .p (.str v)), (7, accT 0 .cz (kvs ((l.take q.i).foldl (stepS k v) ([], false)).1)), (8, .p (.bool ((l.take q.i).foldl (stepS k v) ([], false)).2)), (12, .p (.int .i64 (l.length : Int))), (13, .p (.int .i64 (q.i : Int)))]) (fun _ => []) (fun q => accL 99 3 (kvs ((l.take q.i).foldl (stepS k v) ([], false)).1)) (fun q => l.length - q.i) ⟨0, by omega⟩ ⟨rfl, rfl, rfl, rfl, rfl, rfl, rfl, trivial⟩ rfl rfl (fun q => ?_)
  have hi := q.h
  have hAl := fold_len k v (l.take q.i) ([], false)
  rw [List.length_take, Nat.min_eq_left hi] at hAl
  simp only [List.length_nil, Nat.zero_add] at hAl
  refine go ?_
  by_cases h : q.i < l.length
  · have hx : l[q.i]? = some l[q.i] := List.getElem?_eq_getElem h
    generalize l[q.i] = x at hx
    have hxk : (kvs l)[((q.i : Nat) : Int).toNat]? = some (kvV x) := kvs_get hx
    have hft := fold_take (stepS k v) ([], false) hx
    generalize (l.take q.i).foldl (stepS k v) ([], false) = st at hft hAl
    obtain ⟨A, b⟩ := st
    dsimp only at hAl
    refine K_condT rfl (decide_eq_true (by omega)) ?_
    refine go ?_
    refine K_opt rfl rfl rfl need2 (fun _ => opr_index hT rfl rfl rfl rfl rfl (hrd _) (by omega) (by rw [hlen]; omega)) rfl ?_
    refine go ?_
    refine K_opt rfl rfl rfl need1 (fun _ => opr_load_el hT rfl rfl (hrd _) hxk rfl rfl) rfl ?_
    refine go ?_
    refine J_weak [(0, .p s), (1, .p (.str k)), (2, .p (.str v)), (7, accT 0 .cz (kvs A)), (8, .p (.bool b)), (9, .p (.int .i64 (q.i : Int))), (12, .p (.int .i64 (l.length : Int))), (13, .p (.int .i64 (q.i : Int))), (26, .p (.bool (!b && (Op.bytesLess k x.1 || k == x.1))))] ⟨rfl, rfl, rfl, rfl, rfl, rfl, rfl, rfl, rfl, trivial⟩ ?_
    have e1 : ∃ A1 b1, A1.length ≤ 2 * q.i + 1 ∧ (if (!b && (Op.bytesLess k x.1 || k == x.1)) = true then (A ++ [(k, v)], true) else (A, b)) = (A1, b1) := by
      split
      · exact ⟨_, _, by simp; omega, rfl⟩
      · exact ⟨_, _, by omega, rfl⟩
    obtain ⟨A1, b1, hA1, e1⟩ := e1
    have e2 : (l.take (q.i + 1)).foldl (stepS k v) ([], false) = (if x.1 = k then A1 else A1 ++ [x], b1) := by
      rw [hft]; simp only [stepS]; rw [e1]
    refine J_join [(0, .p s), (1, .p (.str k)), (2, .p (.str v)), (7, accT 0 .cz (kvs A1)), (8, .p (.bool b1)), (9, .p (.int .i64 (q.i : Int))), (12, .p (.int .i64 (l.length : Int))), (13, .p (.int .i64 (q.i : Int)))] [] (accL 99 3 (kvs A1)) ?_ ?_
    · by_cases hb : (!b && (Op.bytesLess k x.1 || k == x.1)) = true
      · rw [if_pos hb] at e1
        obtain ⟨rfl, rfl⟩ := Prod.mk.inj e1
        refine K_condT rfl hb ?_
        refine go ?_
        refine K_opM rfl rfl (opr_mv (accT 0 .cz (kvs A)) (.inl rfl) rfl) rfl ?_
        refine go ?_
        refine K_opM rfl rfl (opr_app_acc (te := pairI) (L0 := []) (acc := kvs A) (rows := [kvV (k, v)]) hT rfl rfl rfl (.inr rfl) rfl rfl (.rd (.ps _)) hbs_ps (kvs_cl [(k, v)]) (kvs_size [(k, v)]) (by decide) (by decide) (by simp; omega)) rfl ?_
        have emap : kvs (A ++ [(k, v)]) = kvs A ++ [kvV (k, v)] := by simp
        refine K_opM rfl rfl (opr_mv (accT 0 .cz (kvs A ++ [kvV (k, v)])) (.inr rfl) rfl) rfl ?_
        refine go ?_
        rw [emap]
        exact J_at ⟨rfl, rfl, rfl, rfl, rfl, rfl, rfl, rfl, trivial⟩ rfl rfl
      · rw [if_neg hb] at e1
        obtain ⟨rfl, rfl⟩ := Prod.mk.inj e1
        refine K_condF rfl (by simpa using hb) ?_
        refine go ?_
        exact J_at ⟨rfl, rfl, rfl, rfl, rfl, rfl, rfl, rfl, trivial⟩ rfl rfl
    refine go ?_
    refine K_op rfl rfl (opr_index hT rfl rfl rfl rfl rfl (hrd _) (by omega) (by rw [hlen]; omega)) rfl ?_
    refine go ?_
    refine K_op rfl rfl (opr_load_el hT rfl rfl (hrd _) hxk rfl rfl) rfl ?_
    refine go ?_
    by_cases hk : x.1 = k
    · rw [if_pos hk] at e2
      refine K_condF rfl (by simp [hk]) ?_
      refine go ?_
      refine J_again ⟨q.i + 1, by omega⟩ (by show l.length - (q.i + 1) < l.length - q.i; omega) ⟨rfl, rfl, rfl, by rw [e2]; rfl, by rw [e2]; rfl, rfl, congrArg (fun z => TV.p (.int .i64 z)) (by rw [IntWalk.i64_in _ (by omega)]; rfl), trivial⟩ rfl (by rw [e2])
    · rw [if_neg hk] at e2
      have emap : kvs (A1 ++ [x]) = kvs A1 ++ [kvV x] := by simp
      refine K_condT rfl (by simp [hk]) ?_
      refine go ?_
      refine K_opM rfl rfl (opr_mv (accT 0 .cz (kvs A1)) (.inl rfl) rfl) rfl ?_
      refine go ?_
      refine K_op rfl rfl (opr_index hT rfl rfl rfl rfl rfl (hrd _) (by omega) (by rw [hlen]; omega)) rfl ?_
      refine K_op rfl rfl (opr_load_el hT rfl rfl (hrd _) hxk rfl rfl) rfl ?_
      refine go ?_
      refine K_opM rfl rfl (opr_app_acc (te := pairI) (L0 := []) (acc := kvs A1) (rows := [kvV x]) hT rfl rfl rfl (.inr rfl) rfl rfl (.rd (.ps _)) hbs_ps (kvs_cl [x]) (kvs_size [x]) (by decide) (by decide) (by simp; omega)) rfl ?_
      refine K_opM rfl rfl (opr_mv (accT 0 .cz (kvs A1 ++ [kvV x])) (.inr rfl) rfl) rfl ?_
      refine go ?_
      refine J_again ⟨q.i + 1, by omega⟩ (by show l.length - (q.i + 1) < l.length - q.i; omega) ⟨rfl, rfl, rfl, by rw [e2, emap]; rfl, by rw [e2]; rfl, rfl, congrArg (fun z => TV.p (.int .i64 z)) (by rw [IntWalk.i64_in _ (by omega)]; rfl), trivial⟩ rfl (by rw [e2, emap]; rfl)
  · have hqi : q.i = l.length := by omega
    have er : rset k v l = endS k v ((l.take q.i).foldl (stepS k v) ([], false)) := by rw [hqi, List.take_length]; rfl
    rw [er]
    generalize (l.take q.i).foldl (stepS k v) ([], false) = st at hAl
    obtain ⟨A, b⟩ := st
    dsimp only at hAl
    refine K_condF rfl (decide_eq_false (by omega)) ?_
    refine go ?_
    cases b
    · refine K_condT rfl rfl ?_
      refine go ?_
      refine K_opM rfl rfl (opr_mv (accT 0 .cz (kvs A)) (.inl rfl) rfl) rfl ?_
      refine go ?_
      refine K_opM rfl rfl (opr_app_acc (te := pairI) (L0 := []) (acc := kvs A) (rows := [kvV (k, v)]) hT rfl rfl rfl (.inr rfl) rfl rfl (.rd (.ps _)) hbs_ps (kvs_cl [(k, v)]) (kvs_size [(k, v)]) (by decide) (by decide) (by simp; omega)) rfl ?_
      have emap : kvs (endS k v (A, false)) = kvs A ++ [kvV (k, v)] := by simp [endS]
      rw [emap]
      refine K_opM rfl rfl (opr_mv (accT 0 .cz (kvs A ++ [kvV (k, v)])) (.inr rfl) rfl) rfl ?_
      refine go ?_
      refine K_opM rfl rfl (opr_mv (accT 0 .cz (kvs A ++ [kvV (k, v)])) (.inl rfl) rfl) rfl ?_
      refine K_opM rfl rfl (opr_mv (accT 0 .cz (kvs A ++ [kvV (k, v)])) (.inr rfl) rfl) rfl ?_
      refine go ?_
      exact J_give hT rfl rfl
    · have emap : kvs (endS k v (A, true)) = kvs A := by simp [endS]
      rw [emap]
      refine K_condF rfl rfl ?_
      refine go ?_
      refine K_opM rfl rfl (opr_mv (accT 0 .cz (kvs A)) (.inl rfl) rfl) rfl ?_
      refine K_opM rfl rfl (opr_mv (accT 0 .cz (kvs A)) (.inr rfl) rfl) rfl ?_
      refine go ?_
      exact J_give hT rfl rfl
theorem rset10_acc (d : AV) (hd : d = .nils ∨ d = .cz) (l : List KV) (k v : List UInt8) (hl : l.length ≤ big40) : Con Try.prog 25 [R d l, .p (.str k), .p (.str v)] [] (accT 0 .cz (kvs (rset k v l))) [] (accL 99 3 (kvs (rset k v l))) :=
  rset10_rd _ l k v (fun _ => accV_rd hd) hl
end Go.Proofs.Ytbdijekfplpnlaa

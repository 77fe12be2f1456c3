/- The reference of layer 14: Get. -/
import Derived.Test.YtbdijekfplpnlaaGo
import Derived.Test.YtbdijekfplpnlaaF14g
-- @D
namespace Go.Proofs.Ytbdijekfplpnlaa
set_option maxRecDepth 20000
open Go.Awp Tr
theorem ks_len (l : List KV) : (ksV l).length = l.length := by simp [ksV]
theorem ks_app (l : List KV) (x : KV) : ksV (l ++ [x]) = ksV l ++ [.str x.1] := by simp [ksV]
theorem ks_get {l : List KV} {i : Nat} {x : KV} (hx : l[i]? = some x) : (ksV l)[((i : Nat) : Int).toNat]? = some (.str x.1) := by rw [Int.toNat_natCast, ksV, List.getElem?_map, hx]; rfl
set_option maxHeartbeats 8000000 in
theorem rvget_spec (b w r : List KV) (g : List Rg) (k : List UInt8) (hb : Rises b) (hr : Rises r) (hbl : b.length ≤ 1000000) (hwl : w.length ≤ 1000000) (hrl : r.length ≤ 1000000) : Con Try.prog 64 [mA b w r g, .p (.str k)] []
    (.tup [.p (.str ((lget k (shownL b w)).getD [])), .p (.bool (lget k (shownL b w)).isSome), mT b w (lset k [] r) g]) [] [] := by
  have hlr := ks_len r
  obtain ⟨hs1, hs2⟩ := shownL_ok w hb
  have c1 := rshown_spec b w (lset k [] r) g hb hbl hwl
  have c2 := rget10_rd (.ps (kvs (shownL b w))) (shownL b w) k (fun L => .ps _) (by omega)
  rw [getT_tup] at c2
  rw [← rset_row hr] at c1 ⊢
  generalize kvs (shownL b w) = sv at c1 c2
  generalize (lget k (shownL b w)).getD [] = gv at c2
  generalize (lget k (shownL b w)).isSome = gb at c2
  refine con_of Try.func64 rfl (by kernel_rfl) rfl fun F w0 β0 => ?_
  refine K_tell rfl ?_
  refine go ?_
  refine J_lazyE 7 9 (e := 1) rfl rfl (.inr rfl) ?_
  refine J_loop (fun q : Ix r.length => [(1, .p (.str k)), (2, .ad (.l 0) 0), (6, .ad (.l 1) 0), (7, .sl (.l 2) ((r.take q.i).foldl (stepS k []) ([], false)).1.length 0 ((r.take q.i).foldl (stepS k []) ([], false)).1.length), (8, .p (.bool ((r.take q.i).foldl (stepS k []) ([], false)).2)), (15, .p (.int .i64 (r.length : Int))), (16, .p (.int .i64 (q.i : Int)))]) (fun _ => [])
    (fun q => [.box 66 (mC b w r g), .box 66 [.p .nils, .p .nils, .p .nils, .p .nils], .arr 9 true 1 (ksV ((r.take q.i).foldl (stepS k []) ([], false)).1)]) (fun q => r.length - q.i) ⟨0, by omega⟩ ⟨rfl, rfl, rfl, rfl, rfl, by rw [← hlr]; rfl, rfl, trivial⟩ rfl rfl (fun q => ?_)
  have hi := q.h
  have hAl := fold_len k [] (r.take q.i) ([], false)
  rw [List.length_take, Nat.min_eq_left hi] at hAl
  simp only [List.length_nil, Nat.zero_add] at hAl
  refine go ?_
  by_cases h : q.i < r.length
  · have hx : r[q.i]? = some r[q.i] := List.getElem?_eq_getElem h
    generalize r[q.i] = x at hx
    have hxk := ks_get hx
    have hft := fold_take (stepS k []) ([], false) hx
    generalize (r.take q.i).foldl (stepS k []) ([], false) = st at hft hAl
    obtain ⟨A, dn⟩ := st
    dsimp only at hAl
    refine K_condT rfl (decide_eq_true (by omega)) ?_
    refine go ?_
    refine K_opt rfl rfl rfl need2 (fun _ => opr_index hT rfl rfl rfl rfl rfl (.ps _) (by omega) (by rw [hlr]; omega)) rfl ?_
    refine go ?_
    refine K_opt rfl rfl rfl need1 (fun _ => opr_load_el hT rfl rfl (.ps _) hxk rfl rfl) rfl ?_
    refine go ?_
    refine J_weak [(1, .p (.str k)), (2, .ad (.l 0) 0), (6, .ad (.l 1) 0), (7, .sl (.l 2) A.length 0 A.length), (29, .p (.bool (!dn && (Op.bytesLess k x.1 || k == x.1)))), (8, .p (.bool dn)), (9, .p (.int .i64 (q.i : Int))), (15, .p (.int .i64 (r.length : Int))), (16, .p (.int .i64 (q.i : Int)))] ⟨rfl, rfl, rfl, rfl, rfl, rfl, rfl, rfl, rfl, trivial⟩ ?_
    have e1 : ∃ A1 b1, A1.length ≤ 2 * q.i + 1 ∧ (if (!dn && (Op.bytesLess k x.1 || k == x.1)) = true then (A ++ [(k, [])], true) else (A, dn)) = (A1, b1) := by
      split
      · exact ⟨_, _, by simp; omega, rfl⟩
      · exact ⟨_, _, by omega, rfl⟩
    obtain ⟨A1, b1, hA1, e1⟩ := e1
    have e2 : (r.take (q.i + 1)).foldl (stepS k []) ([], false) = (if x.1 = k then A1 else A1 ++ [x], b1) := by
      rw [hft]; simp only [stepS]; rw [e1]
    refine J_join [(1, .p (.str k)), (2, .ad (.l 0) 0), (6, .ad (.l 1) 0), (7, .sl (.l 2) A1.length 0 A1.length), (8, .p (.bool b1)), (9, .p (.int .i64 (q.i : Int))), (15, .p (.int .i64 (r.length : Int))), (16, .p (.int .i64 (q.i : Int)))] [] [.box 66 (mC b w r g), .box 66 [.p .nils, .p .nils, .p .nils, .p .nils], .arr 9 true 1 (ksV A1)] ?_ ?_
    · by_cases hb : (!dn && (Op.bytesLess k x.1 || k == x.1)) = true
      · rw [if_pos hb] at e1
        obtain ⟨rfl, rfl⟩ := Prod.mk.inj e1
        refine K_condT rfl hb ?_
        refine go ?_
        refine K_op rfl rfl (opr_app_own hT rfl rfl rfl rfl (ks_len A) rfl rfl (.rd (.ps _)) hbs_ps (ks_cl [(k, [])]) (ks_size [(k, [])]) (by decide) (by show (A.length + 1) * 16 ≤ _; omega)) rfl ?_
        refine go ?_
        rw [ks_app, List.length_append]
        exact J_at ⟨rfl, rfl, rfl, rfl, rfl, rfl, rfl, rfl, trivial⟩ rfl rfl
      · rw [if_neg hb] at e1
        obtain ⟨rfl, rfl⟩ := Prod.mk.inj e1
        refine K_condF rfl (by simpa using hb) ?_
        refine go ?_
        exact J_at ⟨rfl, rfl, rfl, rfl, rfl, rfl, rfl, rfl, trivial⟩ rfl rfl
    refine go ?_
    refine K_op rfl rfl (opr_index hT rfl rfl rfl rfl rfl (.ps _) (by omega) (by rw [hlr]; omega)) rfl ?_
    refine go ?_
    refine K_op rfl rfl (opr_load_el hT rfl rfl (.ps _) hxk rfl rfl) rfl ?_
    refine go ?_
    by_cases hk : x.1 = k
    · rw [if_pos hk] at e2
      refine K_condF rfl (by simp [hk]) ?_
      refine go ?_
      refine J_again ⟨q.i + 1, by omega⟩ (by show r.length - (q.i + 1) < r.length - q.i; omega) ⟨rfl, rfl, rfl, by rw [e2]; rfl, by rw [e2]; rfl, rfl, congrArg (fun z => TV.p (.int .i64 z)) (by rw [IntWalk.i64_in _ (by omega)]; rfl), trivial⟩ rfl (by dsimp only; rw [e2])
    · rw [if_neg hk] at e2
      refine K_condT rfl (by simp [hk]) ?_
      refine go ?_
      refine K_op rfl rfl (opr_index hT rfl rfl rfl rfl rfl (.ps _) (by omega) (by rw [hlr]; omega)) rfl ?_
      refine go ?_
      refine K_op rfl rfl (opr_load_el hT rfl rfl (.ps _) hxk rfl rfl) rfl ?_
      refine go ?_
      refine K_op rfl rfl (opr_app_own hT rfl rfl rfl rfl (ks_len A1) rfl rfl (.rd (.ps _)) hbs_ps (ks_cl [x]) (ks_size [x]) (by decide) (by show (A1.length + 1) * 16 ≤ _; omega)) rfl ?_
      refine go ?_
      refine J_again ⟨q.i + 1, by omega⟩ (by show r.length - (q.i + 1) < r.length - q.i; omega) ⟨rfl, rfl, rfl, by rw [e2]; simp only [List.length_append]; rfl, by rw [e2]; rfl, rfl, congrArg (fun z => TV.p (.int .i64 z)) (by rw [IntWalk.i64_in _ (by omega)]; rfl), trivial⟩ rfl (by dsimp only; rw [e2, ks_app]; rfl)
  have hqi : q.i = r.length := by omega
  have er : rset k [] r = endS k [] ((r.take q.i).foldl (stepS k []) ([], false)) := by rw [hqi, List.take_length]; rfl
  rw [er] at c1 ⊢
  generalize (r.take q.i).foldl (stepS k []) ([], false) = st at hAl c1
  obtain ⟨A, dn⟩ := st
  dsimp only at hAl
  have e3 : ∃ B, B.length ≤ 2 * q.i + 1 ∧ endS k [] (A, dn) = B := ⟨_, by unfold endS; dsimp only; split; exact Nat.le_succ_of_le hAl; rw [List.length_append]; exact Nat.succ_le_succ hAl, rfl⟩
  obtain ⟨B, hB, e3⟩ := e3
  rw [e3] at c1 ⊢
  refine K_condF rfl (decide_eq_false (by omega)) ?_
  refine go ?_
  refine J_join [(1, .p (.str k)), (2, .ad (.l 0) 0), (6, .ad (.l 1) 0), (7, .sl (.l 2) B.length 0 B.length)] [] [.box 66 (mC b w r g), .box 66 [.p .nils, .p .nils, .p .nils, .p .nils], .arr 9 true 1 (ksV B)] ?_ ?_
  · cases dn with
    | false =>
      obtain rfl : A ++ [(k, [])] = B := e3
      refine K_condT rfl rfl ?_
      refine go ?_
      refine K_op rfl rfl (opr_app_own hT rfl rfl rfl rfl (ks_len A) rfl rfl (.rd (.ps _)) hbs_ps (ks_cl [(k, [])]) (ks_size [(k, [])]) (by decide) (by show (A.length + 1) * 16 ≤ _; omega)) rfl ?_
      refine go ?_
      rw [ks_app, List.length_append]
      exact J_at ⟨rfl, rfl, rfl, rfl, trivial⟩ rfl rfl
    | true =>
      obtain rfl : A = B := e3
      refine K_condF rfl rfl ?_
      refine go ?_
      exact J_at ⟨rfl, rfl, rfl, rfl, trivial⟩ rfl rfl
  refine J_freeze_all 7 2 rfl rfl (ks_len B) ?_
  refine go ?_
  refine K_op rfl rfl (opr_callP rfl rfl (c1) rfl rfl rfl rfl) rfl ?_
  refine go ?_
  refine K_op rfl rfl (opr_callP rfl rfl (c2) rfl rfl rfl rfl) rfl ?_
  refine go ?_
  refine J_drawS 5 (by kernel_rfl) (by kernel_rfl) ?_
  apply Exists.intro
  refine gdW ?_
  refine K_only [4, 5, 6] rfl ?_
  refine go ?_
  exact J_done hT rfl rfl rfl
end Go.Proofs.Ytbdijekfplpnlaa

/- The reference of layer 14: Write. -/
import Derived.Test.YtbdijekfplpnlaaGo
import Derived.Test.YtbdijekfplpnlaaF14i
-- @D
namespace Go.Proofs.Ytbdijekfplpnlaa
set_option maxRecDepth 20000
open Go.Awp Tr
theorem wrs_len (l : List KV) : (wrs l).length = l.length := by simp [wrs]
theorem wrs_app (l : List KV) (x : KV) : wrs (l ++ [x]) = wrs l ++ [pwV (wr x)] := by simp [wrs]
theorem wrs_get {l : List KV} {i : Nat} {x : KV} (hx : l[i]? = some x) : (wrs l)[((i : Nat) : Int).toNat]? = some (pwV (wr x)) := by rw [Int.toNat_natCast, wrs, List.getElem?_map, hx]; rfl
theorem wrs_cl (l : List KV) : clR (wrs l) := by
  intro r hr x hx
  obtain ⟨y, _, rfl⟩ := List.mem_map.1 hr
  simp [cellsOf, pwV] at hx
  rcases hx with rfl | rfl | rfl <;> rfl
theorem wrs_size (l : List KV) : ∀ r ∈ wrs l, (cellsOf r).length = 3 := by
  intro r hr
  obtain ⟨y, _, rfl⟩ := List.mem_map.1 hr
  rfl
/-- Is there room for a key? -/
def roomW (w : List KV) (k : List UInt8) : Bool := (lget k w).isSome || decide (w.length < 48)
/-- The writes, with one more. -/
def putW (b w : List KV) (k raw : List UInt8) : List KV := if ((raw == []) && !(lget k b).isSome) = true then lcut k w else lset k raw w
theorem putW_fold {w : List KV} (h : Rises w) (k raw : List UInt8) (dn : Bool) : endS k raw (w.foldl (stepS k raw) ([], dn)) = if dn = true then lcut k w else lset k raw w := by
  cases dn with
  | true => rw [fold_done]; simp [endS]
  | false => rw [fold_new k raw w [] h]; simp
set_option maxHeartbeats 16000000 in
theorem rvwrite_spec (b w r : List KV) (g : List Rg) (k raw : List UInt8) (hw : Rises w) (hbl : b.length ≤ 1000000) (hwl : w.length ≤ 1000000) : Con Try.prog 66 [mA b w r g, .p (.agg [.str k, .str (raw.drop 1), .bool (raw == [])])] []
    (.tup [.p (.bool (roomW w k)), mT b (if roomW w k = true then putW b w k raw else w) r g]) [] [] := by
  have hlw := wrs_len w
  have c1 := rwritten_spec b w r g k hwl
  have c2 := rget10_rd (.ps (kvs b)) b k (fun L => .ps _) (by omega)
  rw [getT_tup] at c2
  unfold roomW
  cases hwr : (lget k w).isSome || decide (w.length < 48) with
  | false =>
    rw [Bool.or_eq_false_iff] at hwr
    obtain ⟨h1, h2⟩ := hwr
    have h48 : 48 ≤ w.length := by simpa using h2
    rw [h1] at c1
    refine con_of Try.func66 rfl (by kernel_rfl) rfl fun F w0 β0 => ?_
    refine K_tell rfl ?_
    refine go ?_
    refine K_op rfl rfl (opr_callP rfl rfl (c1) rfl rfl rfl rfl) rfl ?_
    refine gx ?_
    rw [show decide (((wrs w).length : Int) ≥ 48) = true from decide_eq_true (by rw [hlw]; omega)]
    refine go ?_
    refine J_drawS 2 (by kernel_rfl) (by kernel_rfl) ?_
    apply Exists.intro
    refine gdW ?_
    refine K_only [4, 5] rfl ?_
    refine go ?_
    exact J_done hT rfl rfl rfl
  | true =>
    have hroom : (lget k w).isSome = true ∨ w.length < 48 := by
      rcases Bool.or_eq_true_iff.1 hwr with h | h
      · exact .inl h
      · exact .inr (by simpa using h)
    generalize (lget k w).isSome = wb at c1 hroom
    unfold putW
    generalize (lget k b).getD [] = bv' at c2
    generalize (lget k b).isSome = bb at c2
    refine con_of Try.func66 rfl (by kernel_rfl) rfl fun F w0 β0 => ?_
    refine K_tell rfl ?_
    refine go ?_
    refine K_op rfl rfl (opr_callP rfl rfl (c1) rfl rfl rfl rfl) rfl ?_
    refine go ?_
    refine K_only [2, 3, 5, 4, 21] rfl ?_
    refine K_condF rfl (by
      rcases hroom with rfl | h
      · rfl
      · rw [show decide (((wrs w).length : Int) ≥ 48) = false from decide_eq_false (by rw [hlw]; omega)]; simp) ?_
    refine go ?_
    refine K_op rfl rfl (opr_callP rfl rfl (c2) rfl rfl rfl rfl) rfl ?_
    refine go ?_
    generalize hdn : ((raw == []) && !bb) = dn0
    refine J_lazyE 6 99 (e := 3) rfl rfl (.inr rfl) ?_
    refine J_loop (fun q : Ix w.length => [(2, .ad (.l 0) 0), (3, .ad (.l 1) 0), (5, .ad (.l 2) 0), (6, .sl (.l 3) ((w.take q.i).foldl (stepS k raw) ([], dn0)).1.length 0 ((w.take q.i).foldl (stepS k raw) ([], dn0)).1.length), (9, .p (.bool ((w.take q.i).foldl (stepS k raw) ([], dn0)).2)), (40, .p (.int .i64 (w.length : Int))), (41, .p (.int .i64 (q.i : Int)))]) (fun _ => []) (fun q => [.box 66 (mC b w r g), .box 99 [.p (.str k), .p (.str (raw.drop 1)), .p (.bool (raw == []))], .box 66 [.p .nils, .p .nils, .p .nils, .p .nils], .arr 99 true 3 (wrs ((w.take q.i).foldl (stepS k raw) ([], dn0)).1)]) (fun q => w.length - q.i) ⟨0, by omega⟩ ⟨rfl, rfl, rfl, rfl, (by rw [← hdn]; rfl), (by rw [← hlw]; rfl), rfl, trivial⟩ rfl rfl (fun q => ?_)
    have hi := q.h
    have hAl := fold_len k raw (w.take q.i) ([], dn0)
    rw [List.length_take, Nat.min_eq_left hi] at hAl
    simp only [List.length_nil, Nat.zero_add] at hAl
    refine go ?_
    by_cases h : q.i < w.length
    · have hx : w[q.i]? = some w[q.i] := List.getElem?_eq_getElem h
      generalize w[q.i] = x at hx
      have hxk := wrs_get hx
      have hft := fold_take (stepS k raw) ([], dn0) hx
      generalize (w.take q.i).foldl (stepS k raw) ([], dn0) = st at hft hAl
      obtain ⟨A, dn⟩ := st
      dsimp only at hAl
      refine K_condT rfl (decide_eq_true (by omega)) ?_
      refine go ?_
      refine J_join [(2, .ad (.l 0) 0), (3, .ad (.l 1) 0), (5, .ad (.l 2) 0), (6, .sl (.l 3) A.length 0 A.length), (9, .p (.bool dn)), (40, .p (.int .i64 (w.length : Int))), (41, .p (.int .i64 (q.i : Int))), (10, .p (.int .i64 (q.i : Int))), (56, .p (.bool (!dn && (Op.bytesLess k x.1 || k == x.1))))] [] [.box 66 (mC b w r g), .box 99 [.p (.str k), .p (.str (raw.drop 1)), .p (.bool (raw == []))], .box 66 [.p .nils, .p .nils, .p .nils, .p .nils], .arr 99 true 3 (wrs A)] ?_ ?_
      · cases dn with
        | true =>
          refine J_draw [_] [] (by kernel_rfl) (by kernel_rfl) rfl ?_
          refine gd ?_
          exact J_at ⟨rfl, rfl, rfl, rfl, rfl, rfl, rfl, rfl, rfl, trivial⟩ rfl rfl
        | false =>
          refine J_draw [_] [] (by kernel_rfl) (by kernel_rfl) rfl ?_
          refine gd ?_
          refine T_yesD rfl rfl rfl rfl rfl rfl (opr_index hT rfl rfl rfl rfl rfl (.ps _) (by omega) (by rw [hlw]; omega)) rfl ?_
          refine gd ?_
          refine T_yesD rfl rfl rfl rfl rfl rfl (opr_load_el hT rfl rfl (.ps _) hxk rfl rfl) rfl ?_
          refine gd ?_
          exact J_at ⟨rfl, rfl, rfl, rfl, rfl, rfl, rfl, rfl, rfl, trivial⟩ rfl rfl
      have e1 : ∃ A1 b1, A1.length ≤ 2 * q.i + 1 ∧ (if (!dn && (Op.bytesLess k x.1 || k == x.1)) = true then (A ++ [(k, raw)], true) else (A, dn)) = (A1, b1) := by
        split
        · exact ⟨_, _, by simp; omega, rfl⟩
        · exact ⟨_, _, by omega, rfl⟩
      obtain ⟨A1, b1, hA1, e1⟩ := e1
      have e2 : (w.take (q.i + 1)).foldl (stepS k raw) ([], dn0) = (if x.1 = k then A1 else A1 ++ [x], b1) := by
        rw [hft]; simp only [stepS]; rw [e1]
      refine J_join [(2, .ad (.l 0) 0), (3, .ad (.l 1) 0), (5, .ad (.l 2) 0), (6, .sl (.l 3) A1.length 0 A1.length), (9, .p (.bool b1)), (40, .p (.int .i64 (w.length : Int))), (41, .p (.int .i64 (q.i : Int))), (10, .p (.int .i64 (q.i : Int)))] [] [.box 66 (mC b w r g), .box 99 [.p (.str k), .p (.str (raw.drop 1)), .p (.bool (raw == []))], .box 66 [.p .nils, .p .nils, .p .nils, .p .nils], .arr 99 true 3 (wrs A1)] ?_ ?_
      · by_cases hb : (!dn && (Op.bytesLess k x.1 || k == x.1)) = true
        · rw [if_pos hb] at e1
          obtain ⟨rfl, rfl⟩ := Prod.mk.inj e1
          refine K_condT rfl hb ?_
          refine go ?_
          refine K_op rfl rfl (opr_app_own hT rfl rfl rfl rfl (wrs_len A) rfl rfl (.rd (.ps _)) hbs_ps (wrs_cl [(k, raw)]) (wrs_size [(k, raw)]) (by decide) (by show (A.length + 1) * 40 ≤ _; omega)) rfl ?_
          refine go ?_
          rw [wrs_app, List.length_append]
          exact J_at ⟨rfl, rfl, rfl, rfl, rfl, rfl, rfl, rfl, trivial⟩ rfl rfl
        · rw [if_neg hb] at e1
          obtain ⟨rfl, rfl⟩ := Prod.mk.inj e1
          refine K_condF rfl (by simpa using hb) ?_
          refine go ?_
          exact J_at ⟨rfl, rfl, rfl, rfl, rfl, rfl, rfl, rfl, trivial⟩ rfl rfl
      refine go ?_
      refine J_join [(2, .ad (.l 0) 0), (3, .ad (.l 1) 0), (5, .ad (.l 2) 0), (6, .sl (.l 3) A1.length 0 A1.length), (9, .p (.bool b1)), (40, .p (.int .i64 (w.length : Int))), (41, .p (.int .i64 (q.i : Int))), (10, .p (.int .i64 (q.i : Int))), (69, .p (.bool (!(x.1 == k))))] [] [.box 66 (mC b w r g), .box 99 [.p (.str k), .p (.str (raw.drop 1)), .p (.bool (raw == []))], .box 66 [.p .nils, .p .nils, .p .nils, .p .nils], .arr 99 true 3 (wrs A1)] ?_ ?_
      · skip
        refine J_draw [_] [] (by kernel_rfl) (by kernel_rfl) rfl ?_
        refine gd ?_
        refine T_opD rfl rfl rfl rfl rfl (opr_index hT rfl rfl rfl rfl rfl (.ps _) (by omega) (by rw [hlw]; omega)) rfl ?_
        refine gd ?_
        refine T_opD rfl rfl rfl rfl rfl (opr_load_el hT rfl rfl (.ps _) hxk rfl rfl) rfl ?_
        refine gd ?_
        exact J_at ⟨rfl, rfl, rfl, rfl, rfl, rfl, rfl, rfl, rfl, trivial⟩ rfl rfl
      by_cases hk : x.1 = k
      · rw [if_pos hk] at e2
        refine K_condF rfl (by simp [hk]) ?_
        refine go ?_
        refine J_again ⟨q.i + 1, by omega⟩ (by show w.length - (q.i + 1) < w.length - q.i; omega) ⟨rfl, rfl, rfl, by rw [e2]; rfl, by rw [e2]; rfl, rfl, congrArg (fun z => TV.p (.int .i64 z)) (by rw [IntWalk.i64_in _ (by omega)]; rfl), trivial⟩ rfl (by dsimp only; rw [e2])
      · rw [if_neg hk] at e2
        refine K_condT rfl (by simp [hk]) ?_
        refine go ?_
        refine K_op rfl rfl (opr_index hT rfl rfl rfl rfl rfl (.ps _) (by omega) (by rw [hlw]; omega)) rfl ?_
        refine go ?_
        refine K_op rfl rfl (opr_load_el hT rfl rfl (.ps _) hxk rfl rfl) rfl ?_
        refine go ?_
        refine K_op rfl rfl (opr_app_own hT rfl rfl rfl rfl (wrs_len A1) rfl rfl (.rd (.ps _)) hbs_ps (wrs_cl [x]) (wrs_size [x]) (by decide) (by show (A1.length + 1) * 40 ≤ _; omega)) rfl ?_
        refine go ?_
        refine J_again ⟨q.i + 1, by omega⟩ (by show w.length - (q.i + 1) < w.length - q.i; omega) ⟨rfl, rfl, rfl, by rw [e2]; simp only [List.length_append]; rfl, by rw [e2]; rfl, rfl, congrArg (fun z => TV.p (.int .i64 z)) (by rw [IntWalk.i64_in _ (by omega)]; rfl), trivial⟩ rfl (by dsimp only; rw [e2, wrs_app]; rfl)
    have er := putW_fold hw k raw dn0
    rw [← er]
    rw [List.take_of_length_le (by omega)] at hAl ⊢
    generalize w.foldl (stepS k raw) ([], dn0) = st at hAl
    obtain ⟨A, dn⟩ := st
    dsimp only at hAl
    have e3 : ∃ B, endS k raw (A, dn) = B := ⟨_, rfl⟩
    obtain ⟨B, e3⟩ := e3
    rw [e3]
    refine K_condF rfl (decide_eq_false (by omega)) ?_
    refine go ?_
    refine J_join [(2, .ad (.l 0) 0), (3, .ad (.l 1) 0), (5, .ad (.l 2) 0), (6, .sl (.l 3) B.length 0 B.length)] [] [.box 66 (mC b w r g), .box 99 [.p (.str k), .p (.str (raw.drop 1)), .p (.bool (raw == []))], .box 66 [.p .nils, .p .nils, .p .nils, .p .nils], .arr 99 true 3 (wrs B)] ?_ ?_
    · cases dn with
      | false =>
        obtain rfl : A ++ [(k, raw)] = B := e3
        refine K_condT rfl rfl ?_
        refine go ?_
        refine K_op rfl rfl (opr_app_own hT rfl rfl rfl rfl (wrs_len A) rfl rfl (.rd (.ps _)) hbs_ps (wrs_cl [(k, raw)]) (wrs_size [(k, raw)]) (by decide) (by show (A.length + 1) * 40 ≤ _; omega)) rfl ?_
        refine go ?_
        rw [wrs_app, List.length_append]
        exact J_at ⟨rfl, rfl, rfl, rfl, trivial⟩ rfl rfl
      | true =>
        obtain rfl : A = B := e3
        refine K_condF rfl rfl ?_
        refine go ?_
        exact J_at ⟨rfl, rfl, rfl, rfl, trivial⟩ rfl rfl
    refine J_freeze_all 6 3 rfl rfl (wrs_len B) ?_
    refine go ?_
    refine J_drawS 2 (by kernel_rfl) (by kernel_rfl) ?_
    apply Exists.intro
    refine gdW ?_
    refine K_only [4, 5] rfl ?_
    refine go ?_
    exact J_done hT rfl rfl rfl
end Go.Proofs.Ytbdijekfplpnlaa

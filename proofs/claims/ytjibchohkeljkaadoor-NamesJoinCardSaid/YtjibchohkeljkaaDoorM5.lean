/- Contracts and plain laws, several texts joined: F10g, F10h, F10i, Tr5, F10j, F10k, F10l, F10m, F10n, F10o, F10p, Go3, F10q. -/
import Derived.Test.YtjibchohkeljkaaDoorGo
import Derived.Test.YtjibchohkeljkaaDoorM4
import Derived.Test.YtjibchohkeljkaaDoorM3
/- tree: At, Rank. -/
-- @D
namespace Go.Proofs.YtjibchohkeljkaaDoor
set_option maxRecDepth 20000
open Go.Awp Tr
def atZ : Tr → Int → Option KV
  | .nil, _ => none
  | .node k v l r, i => if i < (l.size : Int) then atZ l i else if i > (l.size : Int) then atZ r (i - ((l.size : Int) + 1)) else some (k, v)
theorem atZ_row : ∀ (t : Tr) (i : Int), atZ t i = if i < 0 then none else t.row[i.toNat]?
  | .nil, i => by simp [atZ, Tr.row]
  | .node k v l r, i => by
    have hl := row_len l
    simp only [atZ, Tr.row]
    by_cases h1 : i < (l.size : Int)
    · rw [if_pos h1, atZ_row l i]
      by_cases h0 : i < 0
      · rw [if_pos h0, if_pos h0]
      · rw [if_neg h0, if_neg h0, List.getElem?_append_left (by omega)]
    · rw [if_neg h1]
      by_cases h2 : i > (l.size : Int)
      · rw [if_pos h2, atZ_row r, if_neg (by omega), if_neg (by omega), List.getElem?_append_right (by omega), show i.toNat - l.row.length = (i - ((l.size : Int) + 1)).toNat + 1 by omega]
        simp
      · rw [if_neg h2, if_neg (by omega), List.getElem?_append_right (by omega), show i.toNat - l.row.length = 0 by omega]
        rfl
def atT : Option KV → TV
  | some x => .tup [.agg [.p (.str x.1), .p (.str x.2), .p (.bool false)], .p (.bool true)]
  | none => .tup [.agg [.p (.str []), .p (.str []), .p (.bool false)], .p (.bool false)]
structure AtJ (g : Option KV) where
  t : Tr
  i : Int
  h : atZ t i = g
  b : t.size ≤ big40
  c : -9223372036854775808 ≤ i ∧ i ≤ 9223372036854775807
set_option maxHeartbeats 4000000 in
theorem tat_spec (t : Tr) (i : Int) (ht : t.size ≤ big40) (hi : -9223372036854775808 ≤ i ∧ i ≤ 9223372036854775807) : Con Tryd.prog 68 [W t, .p (.int .i64 i)] [] (atT (atZ t i)) [] [] := by
  generalize hg : atZ t i = g
  refine con_of Tryd.func68 rfl (by kernel_rfl) rfl fun F w0 β0 => ?_
  refine K_tell rfl ?_
  refine go ?_
  refine J_loop (fun s : AtJ g => [(0, W s.t), (1, .p (.int .i64 s.i)), (4, .ad (.l 0) 0)]) (fun _ => []) (fun _ => [.box 81 [.p (.str []), .p (.str []), .p (.bool false)]]) (fun s => s.t.size) ⟨t, i, hg, ht, hi⟩ ⟨rfl, rfl, rfl, trivial⟩ rfl rfl (fun s => ?_)
  obtain ⟨t', i', hz, hb, hc⟩ := s
  clear hg ht hi t i
  cases t' with
  | nil =>
    obtain rfl := hz
    refine go ?_
    exact J_done hT rfl rfl rfl
  | node k v l r =>
    simp only [Tr.size] at hb
    have hb' := hb
    unfold big40 at hb'
    have c1 := tlen_spec l
    refine go ?_
    refine K_op rfl rfl (opr_callP rfl rfl (c1) rfl rfl rfl rfl) rfl ?_
    refine go ?_
    simp only [atZ] at hz
    by_cases h1 : i' < (l.size : Int)
    · rw [if_pos h1] at hz
      refine K_condT rfl (decide_eq_true h1) ?_
      refine go ?_
      refine J_again ⟨l, i', hz, by omega, hc⟩ (by show l.size < 1 + l.size + r.size; omega) ⟨rfl, rfl, rfl, trivial⟩ rfl rfl
    · rw [if_neg h1] at hz
      refine K_condF rfl (decide_eq_false h1) ?_
      refine go ?_
      by_cases h2 : i' > (l.size : Int)
      · rw [if_pos h2] at hz
        refine K_condT rfl (decide_eq_true h2) ?_
        refine go ?_
        refine J_again ⟨r, i' - ((l.size : Int) + 1), hz, by omega, by omega⟩ (by show r.size < 1 + l.size + r.size; omega) ⟨rfl, congrArg (fun z => TV.p (.int .i64 z)) (by dsimp only; rw [IntWalk.i64_in ((l.size : Int) + 1) (by omega), IntWalk.i64_in _ (by omega)]), rfl, trivial⟩ rfl rfl
      · rw [if_neg h2] at hz
        obtain rfl := hz
        refine K_condF rfl (decide_eq_false h2) ?_
        refine J_seq ?_
        refine J_draw [[.box 81 [.p (.str []), .p (.str []), .p (.bool false)]], [.box 81 [.p (.str k), .p (.str v), .p (.bool false)]]] [9] (by kernel_rfl) (by kernel_rfl) rfl ?_
        refine gd ?_
        refine T_st rfl rfl rfl rfl (stepN_ok hT rfl) rfl ?_
        refine gd ?_
        refine J_then ?_
        refine K_tell rfl ?_
        refine go ?_
        exact J_done hT rfl rfl rfl
structure RankJ (k : List UInt8) (g : Nat) where
  t : Tr
  n : Nat
  h : n + t.rank k = g
theorem rank_le (k : List UInt8) : ∀ (t : Tr), t.rank k ≤ t.size
  | .nil => Nat.le_refl _
  | .node k0 v l r => by
    have h1 := rank_le k l
    have h2 := rank_le k r
    simp only [Tr.rank, Tr.size]
    split <;> omega
end Go.Proofs.YtjibchohkeljkaaDoor

/- The reference of layer 10: Get, Rank. -/
-- @D
namespace Go.Proofs.YtjibchohkeljkaaDoor
set_option maxRecDepth 20000
open Go.Awp Tr
theorem kvs_get {l : List KV} {i : Nat} {x : KV} (h : l[i]? = some x) : (kvs l)[i]? = some (kvV x) := by simp [kvs, h]
structure RG (k : List UInt8) (l : List KV) (g : Option (List UInt8)) where
  i : Nat
  h : i ≤ l.length
  e : lget k (l.drop i) = g
end Go.Proofs.YtjibchohkeljkaaDoor

/- The reference of layer 10: Cut, Rank. -/
-- @D
namespace Go.Proofs.YtjibchohkeljkaaDoor
set_option maxRecDepth 20000
open Go.Awp Tr
/-- A row, as a value that is handed on. -/
abbrev R (d : AV) (l : List KV) : TV := .p (accV d (kvs l))
theorem filter_take (p : KV → Bool) {l : List KV} {i : Nat} {x : KV} (hx : l[i]? = some x) : (l.take (i + 1)).filter p = (l.take i).filter p ++ (if p x = true then [x] else []) := by
  obtain ⟨h, rfl⟩ := List.getElem?_eq_some_iff.1 hx
  rw [List.take_succ_eq_append_getElem h, List.filter_append, List.filter_cons, List.filter_nil]
structure RI (l : List KV) where
  i : Nat
  h : i ≤ l.length
set_option maxHeartbeats 4000000 in
theorem rcut10_rd (s : AV) (l : List KV) (k : List UInt8) (hrd : ∀ L, Rd [] L (.p s) (kvs l)) (hl : l.length ≤ big40) : Con Tryd.prog 29 [.p s, .p (.str k)] [] (accT 0 .cz (kvs (lcut k l))) [] (accL 81 3 (kvs (lcut k l))) := by
  have hlen : (kvs l).length = l.length := by simp
  unfold big40 at hl
  refine con_of Tryd.func29 rfl (by kernel_rfl) rfl fun F w0 β0 => ?_
  refine K_tell rfl ?_
  refine go ?_
  refine K_opM rfl rfl (opr_len_rd hT rfl rfl (hrd _)) rfl ?_
  rw [hlen]
  refine go ?_
  refine J_loop (fun q : RI l => [(0, .p s), (1, .p (.str k)), (5, accT 0 .cz (kvs (lcut k (l.take q.i)))), (9, .p (.int .i64 (l.length : Int))), (10, .p (.int .i64 (q.i : Int)))]) (fun _ => []) (fun q => accL 81 3 (kvs (lcut k (l.take q.i)))) (fun q => l.length - q.i) ⟨0, by omega⟩ ⟨rfl, rfl, rfl, rfl, rfl, trivial⟩ rfl rfl (fun q => ?_)
  have hi := q.h
  refine go ?_
  by_cases h : q.i < l.length
  · have hx : l[q.i]? = some l[q.i] := List.getElem?_eq_getElem h
    generalize l[q.i] = x at hx
    have hxk : (kvs l)[((q.i : Nat) : Int).toNat]? = some (kvV x) := kvs_get hx
    have hft := filter_take (fun y => !(y.1 == k)) hx
    have hAl : (lcut k (l.take q.i)).length ≤ l.length := Nat.le_trans (List.length_filter_le _ _) (by simp; omega)
    refine K_condT rfl (decide_eq_true (by omega)) ?_
    refine go ?_
    refine K_op rfl rfl (opr_index hT rfl rfl rfl rfl rfl (hrd _) (by omega) (by rw [hlen]; omega)) rfl ?_
    refine go ?_
    refine K_op rfl rfl (opr_load_el hT rfl rfl (hrd _) hxk rfl rfl) rfl ?_
    refine go ?_
    by_cases hk : x.1 = k
    · have e : lcut k (l.take (q.i + 1)) = lcut k (l.take q.i) := by
        unfold lcut; rw [hft, if_neg (by simp [hk]), List.append_nil]
      refine K_condF rfl (by simp [hk]) ?_
      refine go ?_
      refine J_again ⟨q.i + 1, by omega⟩ (by show l.length - (q.i + 1) < l.length - q.i; omega) ⟨rfl, rfl, by rw [e]; rfl, rfl, congrArg (fun z => TV.p (.int .i64 z)) (by rw [IntWalk.i64_in _ (by omega)]; rfl), trivial⟩ rfl (by rw [e])
    · have e : lcut k (l.take (q.i + 1)) = lcut k (l.take q.i) ++ [x] := by
        unfold lcut; rw [hft, if_pos (by simp [hk])]
      have emap : kvs (lcut k (l.take (q.i + 1))) = kvs (lcut k (l.take q.i)) ++ [kvV x] := by rw [e]; simp
      generalize lcut k (l.take q.i) = A at hAl e emap
      refine K_condT rfl (by simp [hk]) ?_
      refine go ?_
      refine K_opM rfl rfl (opr_mv (accT 0 .cz (kvs A)) (.inl rfl) rfl) rfl ?_
      refine go ?_
      refine K_op rfl rfl (opr_index hT rfl rfl rfl rfl rfl (hrd _) (by omega) (by rw [hlen]; omega)) rfl ?_
      refine K_op rfl rfl (opr_load_el hT rfl rfl (hrd _) hxk rfl rfl) rfl ?_
      refine go ?_
      refine K_opM rfl rfl (opr_app_acc (te := pairI) (L0 := []) (acc := kvs A) (rows := [kvV x]) hT rfl rfl rfl (.inr rfl) rfl rfl (.rd (.ps _)) hbs_ps (kvs_cl [x]) (kvs_size [x]) (by decide) (by decide) (by simp; omega)) rfl ?_
      refine K_opM rfl rfl (opr_mv (accT 0 .cz (kvs A ++ [kvV x])) (.inr rfl) rfl) rfl ?_
      refine go ?_
      refine J_again ⟨q.i + 1, by omega⟩ (by show l.length - (q.i + 1) < l.length - q.i; omega) ⟨rfl, rfl, by rw [emap]; rfl, rfl, congrArg (fun z => TV.p (.int .i64 z)) (by rw [IntWalk.i64_in _ (by omega)]; rfl), trivial⟩ rfl (by rw [emap]; rfl)
  · rw [show q.i = l.length by omega, List.take_length]
    generalize lcut k l = A
    refine K_condF rfl (decide_eq_false (by omega)) ?_
    refine go ?_
    refine K_opM rfl rfl (opr_mv (accT 0 .cz (kvs A)) (.inl rfl) rfl) rfl ?_
    refine K_opM rfl rfl (opr_mv (accT 0 .cz (kvs A)) (.inr rfl) rfl) rfl ?_
    refine go ?_
    exact J_give hT rfl rfl
theorem rcut10_acc (d : AV) (hd : d = .nils ∨ d = .cz) (l : List KV) (k : List UInt8) (hl : l.length ≤ big40) : Con Tryd.prog 29 [R d l, .p (.str k)] [] (accT 0 .cz (kvs (lcut k l))) [] (accL 81 3 (kvs (lcut k l))) :=
  rcut10_rd _ l k (fun _ => accV_rd hd) hl
end Go.Proofs.YtjibchohkeljkaaDoor

/- The reference's Set, as a fold; on rows that rise it is the rising row's. -/
namespace Go.Proofs.YtjibchohkeljkaaDoor
set_option maxRecDepth 20000
open Go.Awp
def stepS (k v : List UInt8) (s : List KV × Bool) (x : KV) : List KV × Bool :=
  let t := if (!s.2 && (Op.bytesLess k x.1 || k == x.1)) = true then (s.1 ++ [(k, v)], true) else s
  (if x.1 = k then t.1 else t.1 ++ [x], t.2)
def endS (k v : List UInt8) (s : List KV × Bool) : List KV := if s.2 = true then s.1 else s.1 ++ [(k, v)]
def rset (k v : List UInt8) (l : List KV) : List KV := endS k v (l.foldl (stepS k v) ([], false))
theorem fold_done (k v : List UInt8) : ∀ (l A : List KV), l.foldl (stepS k v) (A, true) = (A ++ lcut k l, true)
  | [], A => by simp [lcut]
  | x :: r, A => by
    have e : stepS k v (A, true) x = (if x.1 = k then A else A ++ [x], true) := by simp [stepS]
    rw [List.foldl_cons, e, fold_done k v r]
    by_cases h : x.1 = k
    · simp [h, lcut]
    · simp [h, lcut]
theorem fold_new (k v : List UInt8) : ∀ (l A : List KV), Rises l → endS k v (l.foldl (stepS k v) (A, false)) = A ++ lset k v l
  | [], A, _ => by simp [endS, lset]
  | x :: r, A, h => by
    have h' := List.pairwise_cons.1 h
    rw [List.foldl_cons]
    rcases lt_cases k x.1 with hk | hk | hk
    · have hb : Op.bytesLess k x.1 = true := hk
      have e : stepS k v (A, false) x = (A ++ [(k, v)] ++ [x], true) := by
        simp only [stepS, hb, Bool.not_false, Bool.true_and, Bool.true_or, if_true]
        rw [if_neg fun e => lt_ne hk e.symm]
      rw [e, fold_done]
      have hc : lcut k r = r := lcut_none fun y hy => fun e => lt_ne (lt_trans hk (h'.1 y hy)) e.symm
      simp only [endS, lset, if_true]
      rw [if_pos hk, hc]
      simp
    · have e : stepS k v (A, false) x = (A ++ [(k, v)], true) := by
        simp [stepS, ← hk]
      rw [e, fold_done]
      have hc : lcut k r = r := lcut_none fun y hy => by rw [hk]; exact fun e => lt_ne (h'.1 y hy) e.symm
      simp only [endS, lset, if_true]
      rw [if_neg (by rw [← hk]; exact lt_irrefl k), if_pos hk, hc]
      simp
    · have hb : Op.bytesLess k x.1 = false := by
        have := lt_asymm hk
        unfold lt at this
        simpa using this
      have hne : (k == x.1) = false := beq_eq_false_iff_ne.2 fun e => lt_ne hk e.symm
      have e : stepS k v (A, false) x = (A ++ [x], false) := by
        simp only [stepS, hb, hne, Bool.not_false, Bool.true_and, Bool.or_false]
        rw [if_neg (lt_ne hk)]
        rfl
      rw [e, fold_new k v r _ h'.2]
      simp only [lset]
      rw [if_neg (lt_asymm hk), if_neg fun e => lt_ne hk e.symm]
      simp
theorem rset_row {k v : List UInt8} {l : List KV} (h : Rises l) : rset k v l = lset k v l := by
  unfold rset
  rw [fold_new k v l [] h]
  rfl
theorem fold_take {α β : Type} (f : β → α → β) (b : β) {l : List α} {i : Nat} {x : α} (hx : l[i]? = some x) : (l.take (i + 1)).foldl f b = f ((l.take i).foldl f b) x := by
  obtain ⟨h, rfl⟩ := List.getElem?_eq_some_iff.1 hx
  rw [List.take_succ_eq_append_getElem h, List.foldl_append]
  rfl
theorem stepS_len (k v : List UInt8) (s : List KV × Bool) (x : KV) : (stepS k v s x).1.length ≤ s.1.length + 2 := by
  simp only [stepS]
  split <;> split <;> simp
theorem fold_len (k v : List UInt8) : ∀ (l : List KV) (s : List KV × Bool), (l.foldl (stepS k v) s).1.length ≤ s.1.length + 2 * l.length
  | [], s => by simp
  | x :: r, s => by
    have h1 := fold_len k v r (stepS k v s x)
    have h2 := stepS_len k v s x
    rw [List.foldl_cons, List.length_cons]
    omega
end Go.Proofs.YtjibchohkeljkaaDoor

/- The reference of layer 10: Set. -/
-- @D
namespace Go.Proofs.YtjibchohkeljkaaDoor
set_option maxRecDepth 20000
open Go.Awp Tr
set_option maxHeartbeats 8000000 in
theorem rset10_rd (s : AV) (l : List KV) (k v : List UInt8) (hrd : ∀ L, Rd [] L (.p s) (kvs l)) (hl : l.length ≤ big40) : Con Tryd.prog 40 [.p s, .p (.str k), .p (.str v)] [] (accT 0 .cz (kvs (rset k v l))) [] (accL 81 3 (kvs (rset k v l))) := by
  have hlen : (kvs l).length = l.length := by simp
  unfold big40 at hl
  refine con_of Tryd.func40 rfl (by kernel_rfl) rfl fun F w0 β0 => ?_
  refine K_tell rfl ?_
  refine go ?_
  refine K_opM rfl rfl (opr_len_rd hT rfl rfl (hrd _)) rfl ?_
  rw [hlen]
  refine go ?_
  refine J_loop (fun q : RI l => [(0, .p s), (1, .p (.str k)), (2, .p (.str v)), (7, accT 0 .cz (kvs ((l.take q.i).foldl (stepS k v) ([], false)).1)), (8, .p (.bool ((l.take q.i).foldl (stepS k v) ([], false)).2)), (12, .p (.int .i64 (l.length : Int))), (13, .p (.int .i64 (q.i : Int)))]) (fun _ => []) (fun q => accL 81 3 (kvs ((l.take q.i).foldl (stepS k v) ([], false)).1)) (fun q => l.length - q.i) ⟨0, by omega⟩ ⟨rfl, rfl, rfl, rfl, rfl, rfl, rfl, trivial⟩ rfl rfl (fun q => ?_)
  have hi := q.h
  have hAl := fold_len k v (l.take q.i) ([], false)
  rw [List.length_take, Nat.min_eq_left hi] at hAl
  simp only [List.length_nil, Nat.zero_add] at hAl
  refine go ?_
  by_cases h : q.i < l.length
  · have hx : l[q.i]? = some l[q.i] := List.getElem?_eq_getElem h
    generalize l[q.i] = x at hx
    have hxk : (kvs l)[((q.i : Nat) : Int).toNat]? = some (kvV x) := kvs_get hx
    have hft := fold_take (stepS k v) ([], false) hx
    generalize (l.take q.i).foldl (stepS k v) ([], false) = st at hft hAl
    obtain ⟨A, b⟩ := st
    dsimp only at hAl
    refine K_condT rfl (decide_eq_true (by omega)) ?_
    refine go ?_
    refine K_opt rfl rfl rfl need2 (fun _ => opr_index hT rfl rfl rfl rfl rfl (hrd _) (by omega) (by rw [hlen]; omega)) rfl ?_
    refine go ?_
    refine K_opt rfl rfl rfl need1 (fun _ => opr_load_el hT rfl rfl (hrd _) hxk rfl rfl) rfl ?_
    refine go ?_
    refine J_weak [(0, .p s), (1, .p (.str k)), (2, .p (.str v)), (7, accT 0 .cz (kvs A)), (8, .p (.bool b)), (9, .p (.int .i64 (q.i : Int))), (12, .p (.int .i64 (l.length : Int))), (13, .p (.int .i64 (q.i : Int))), (26, .p (.bool (!b && (Op.bytesLess k x.1 || k == x.1))))] ⟨rfl, rfl, rfl, rfl, rfl, rfl, rfl, rfl, rfl, trivial⟩ ?_
    have e1 : ∃ A1 b1, A1.length ≤ 2 * q.i + 1 ∧ (if (!b && (Op.bytesLess k x.1 || k == x.1)) = true then (A ++ [(k, v)], true) else (A, b)) = (A1, b1) := by
      split
      · exact ⟨_, _, by simp; omega, rfl⟩
      · exact ⟨_, _, by omega, rfl⟩
    obtain ⟨A1, b1, hA1, e1⟩ := e1
    have e2 : (l.take (q.i + 1)).foldl (stepS k v) ([], false) = (if x.1 = k then A1 else A1 ++ [x], b1) := by
      rw [hft]; simp only [stepS]; rw [e1]
    refine J_join [(0, .p s), (1, .p (.str k)), (2, .p (.str v)), (7, accT 0 .cz (kvs A1)), (8, .p (.bool b1)), (9, .p (.int .i64 (q.i : Int))), (12, .p (.int .i64 (l.length : Int))), (13, .p (.int .i64 (q.i : Int)))] [] (accL 81 3 (kvs A1)) ?_ ?_
    · by_cases hb : (!b && (Op.bytesLess k x.1 || k == x.1)) = true
      · rw [if_pos hb] at e1
        obtain ⟨rfl, rfl⟩ := Prod.mk.inj e1
        refine K_condT rfl hb ?_
        refine go ?_
        refine K_opM rfl rfl (opr_mv (accT 0 .cz (kvs A)) (.inl rfl) rfl) rfl ?_
        refine go ?_
        refine K_opM rfl rfl (opr_app_acc (te := pairI) (L0 := []) (acc := kvs A) (rows := [kvV (k, v)]) hT rfl rfl rfl (.inr rfl) rfl rfl (.rd (.ps _)) hbs_ps (kvs_cl [(k, v)]) (kvs_size [(k, v)]) (by decide) (by decide) (by simp; omega)) rfl ?_
        have emap : kvs (A ++ [(k, v)]) = kvs A ++ [kvV (k, v)] := by simp
        refine K_opM rfl rfl (opr_mv (accT 0 .cz (kvs A ++ [kvV (k, v)])) (.inr rfl) rfl) rfl ?_
        refine go ?_
        rw [emap]
        exact J_at ⟨rfl, rfl, rfl, rfl, rfl, rfl, rfl, rfl, trivial⟩ rfl rfl
      · rw [if_neg hb] at e1
        obtain ⟨rfl, rfl⟩ := Prod.mk.inj e1
        refine K_condF rfl (by simpa using hb) ?_
        refine go ?_
        exact J_at ⟨rfl, rfl, rfl, rfl, rfl, rfl, rfl, rfl, trivial⟩ rfl rfl
    refine go ?_
    refine K_op rfl rfl (opr_index hT rfl rfl rfl rfl rfl (hrd _) (by omega) (by rw [hlen]; omega)) rfl ?_
    refine go ?_
    refine K_op rfl rfl (opr_load_el hT rfl rfl (hrd _) hxk rfl rfl) rfl ?_
    refine go ?_
    by_cases hk : x.1 = k
    · rw [if_pos hk] at e2
      refine K_condF rfl (by simp [hk]) ?_
      refine go ?_
      refine J_again ⟨q.i + 1, by omega⟩ (by show l.length - (q.i + 1) < l.length - q.i; omega) ⟨rfl, rfl, rfl, by rw [e2]; rfl, by rw [e2]; rfl, rfl, congrArg (fun z => TV.p (.int .i64 z)) (by rw [IntWalk.i64_in _ (by omega)]; rfl), trivial⟩ rfl (by rw [e2])
    · rw [if_neg hk] at e2
      have emap : kvs (A1 ++ [x]) = kvs A1 ++ [kvV x] := by simp
      refine K_condT rfl (by simp [hk]) ?_
      refine go ?_
      refine K_opM rfl rfl (opr_mv (accT 0 .cz (kvs A1)) (.inl rfl) rfl) rfl ?_
      refine go ?_
      refine K_op rfl rfl (opr_index hT rfl rfl rfl rfl rfl (hrd _) (by omega) (by rw [hlen]; omega)) rfl ?_
      refine K_op rfl rfl (opr_load_el hT rfl rfl (hrd _) hxk rfl rfl) rfl ?_
      refine go ?_
      refine K_opM rfl rfl (opr_app_acc (te := pairI) (L0 := []) (acc := kvs A1) (rows := [kvV x]) hT rfl rfl rfl (.inr rfl) rfl rfl (.rd (.ps _)) hbs_ps (kvs_cl [x]) (kvs_size [x]) (by decide) (by decide) (by simp; omega)) rfl ?_
      refine K_opM rfl rfl (opr_mv (accT 0 .cz (kvs A1 ++ [kvV x])) (.inr rfl) rfl) rfl ?_
      refine go ?_
      refine J_again ⟨q.i + 1, by omega⟩ (by show l.length - (q.i + 1) < l.length - q.i; omega) ⟨rfl, rfl, rfl, by rw [e2, emap]; rfl, by rw [e2]; rfl, rfl, congrArg (fun z => TV.p (.int .i64 z)) (by rw [IntWalk.i64_in _ (by omega)]; rfl), trivial⟩ rfl (by rw [e2, emap]; rfl)
  · have hqi : q.i = l.length := by omega
    have er : rset k v l = endS k v ((l.take q.i).foldl (stepS k v) ([], false)) := by rw [hqi, List.take_length]; rfl
    rw [er]
    generalize (l.take q.i).foldl (stepS k v) ([], false) = st at hAl
    obtain ⟨A, b⟩ := st
    dsimp only at hAl
    refine K_condF rfl (decide_eq_false (by omega)) ?_
    refine go ?_
    cases b
    · refine K_condT rfl rfl ?_
      refine go ?_
      refine K_opM rfl rfl (opr_mv (accT 0 .cz (kvs A)) (.inl rfl) rfl) rfl ?_
      refine go ?_
      refine K_opM rfl rfl (opr_app_acc (te := pairI) (L0 := []) (acc := kvs A) (rows := [kvV (k, v)]) hT rfl rfl rfl (.inr rfl) rfl rfl (.rd (.ps _)) hbs_ps (kvs_cl [(k, v)]) (kvs_size [(k, v)]) (by decide) (by decide) (by simp; omega)) rfl ?_
      have emap : kvs (endS k v (A, false)) = kvs A ++ [kvV (k, v)] := by simp [endS]
      rw [emap]
      refine K_opM rfl rfl (opr_mv (accT 0 .cz (kvs A ++ [kvV (k, v)])) (.inr rfl) rfl) rfl ?_
      refine go ?_
      refine K_opM rfl rfl (opr_mv (accT 0 .cz (kvs A ++ [kvV (k, v)])) (.inl rfl) rfl) rfl ?_
      refine K_opM rfl rfl (opr_mv (accT 0 .cz (kvs A ++ [kvV (k, v)])) (.inr rfl) rfl) rfl ?_
      refine go ?_
      exact J_give hT rfl rfl
    · have emap : kvs (endS k v (A, true)) = kvs A := by simp [endS]
      rw [emap]
      refine K_condF rfl rfl ?_
      refine go ?_
      refine K_opM rfl rfl (opr_mv (accT 0 .cz (kvs A)) (.inl rfl) rfl) rfl ?_
      refine K_opM rfl rfl (opr_mv (accT 0 .cz (kvs A)) (.inr rfl) rfl) rfl ?_
      refine go ?_
      exact J_give hT rfl rfl
theorem rset10_acc (d : AV) (hd : d = .nils ∨ d = .cz) (l : List KV) (k v : List UInt8) (hl : l.length ≤ big40) : Con Tryd.prog 40 [R d l, .p (.str k), .p (.str v)] [] (accT 0 .cz (kvs (rset k v l))) [] (accL 81 3 (kvs (rset k v l))) :=
  rset10_rd _ l k v (fun _ => accV_rd hd) hl
end Go.Proofs.YtjibchohkeljkaaDoor

/- The reference of layer 10: Range, Rank. -/
-- @D
namespace Go.Proofs.YtjibchohkeljkaaDoor
set_option maxRecDepth 20000
open Go.Awp Tr
end Go.Proofs.YtjibchohkeljkaaDoor

/- The reference of layer 10: Same. -/
-- @D
namespace Go.Proofs.YtjibchohkeljkaaDoor
set_option maxRecDepth 20000
open Go.Awp Tr
/-- A pair that may be gone. -/
abbrev PW := List UInt8 × List UInt8 × Bool
def pwV (x : PW) : AV := .agg [.str x.1, .str x.2.1, .bool x.2.2]
def kp (x : KV) : PW := (x.1, x.2, false)
theorem kvs_pw (l : List KV) : kvs l = (l.map kp).map pwV := by rw [List.map_map]; rfl
theorem kp_inj {l m : List KV} : l.map kp = m.map kp ↔ l = m := by
  refine ⟨fun h => ?_, fun h => by rw [h]⟩
  have := congrArg (List.map fun x : PW => ((x.1, x.2.1) : KV)) h
  simpa [List.map_map, Function.comp_def, kp] using this
structure SI (l m : List PW) where
  i : Nat
  h : i ≤ l.length
  e : l.take i = m.take i
theorem pair_eq (x y : PW) : (decide (x.1 = y.1) && (decide (x.2.1 = y.2.1) && (decide (x.2.2 = y.2.2) && true))) = decide (x = y) := by
  obtain ⟨a, b, e⟩ := x
  obtain ⟨c, d, f⟩ := y
  by_cases h1 : a = c
  · by_cases h2 : b = d
    · simp [h1, h2]
    · simp [h1, h2]
  · simp [h1]
theorem take_same {α : Type} {l m : List α} {i : Nat} {x y : α} (h : l.take i = m.take i) (hx : l[i]? = some x) (hy : m[i]? = some y) : l.take (i + 1) = m.take (i + 1) ↔ x = y := by
  obtain ⟨h1, rfl⟩ := List.getElem?_eq_some_iff.1 hx
  obtain ⟨h2, rfl⟩ := List.getElem?_eq_some_iff.1 hy
  rw [List.take_succ_eq_append_getElem h1, List.take_succ_eq_append_getElem (l := m) h2, h]
  constructor
  · intro e
    exact (List.cons.inj (List.append_cancel_left e)).1
  · intro e
    rw [e]
end Go.Proofs.YtjibchohkeljkaaDoor

/- The reference of layer 10: Low. -/
-- @D
namespace Go.Proofs.YtjibchohkeljkaaDoor
set_option maxRecDepth 20000
open Go.Awp Tr
/-- The greatest k of which 2 to the k is at most the square of n and 1. -/
structure LI (n : Nat) where
  k : Nat
  h : 2 ^ k ≤ (n + 1) * (n + 1)
/-- What Low answers: high is at most two more than that k. -/
def lowB (n high : Nat) : Bool := decide (high ≤ ((n + 1) * (n + 1)).log2 + 2)
theorem log_step {k m : Nat} (h : 2 ^ k ≤ m) : 2 ^ k * 2 ≤ m ∨ k = m.log2 := by
  by_cases h2 : 2 ^ k * 2 ≤ m
  · exact .inl h2
  · refine .inr ?_
    have hm : m ≠ 0 := by have := Nat.two_pow_pos k; omega
    exact ((Nat.log2_eq_iff hm).2 ⟨h, by rw [Nat.pow_succ]; omega⟩).symm
theorem pow_lt {k m : Nat} (h : 2 ^ k ≤ m) : k < m := Nat.lt_of_lt_of_le Nat.lt_two_pow_self h
end Go.Proofs.YtjibchohkeljkaaDoor

/- The laws of layer 10: fixed. -/
-- @D
namespace Go.Proofs.YtjibchohkeljkaaDoor
set_option maxRecDepth 20000
open Go.Awp Tr
theorem fixed_parts : ∃ t1 t2 t3 : Tr, Con Tryd.prog 64 [W .nil, .p (.str [97]), .p (.str [])] [] (W t1) [] [] ∧ Con Tryd.prog 64 [W t1, .p (.str [98]), .p (.str [])] [] (W t2) [] [] ∧ Con Tryd.prog 73 [W t2, .p (.str [97])] [] (W t3) [] []
    ∧ Con Tryd.prog 67 [W t1] [] (.p (.int .i64 1)) [] [] ∧ Con Tryd.prog 67 [W t2] [] (.p (.int .i64 2)) [] [] ∧ Con Tryd.prog 67 [W t3] [] (.p (.int .i64 1)) [] [] :=
  ⟨_, _, _, tset_spec [97] [] .nil (by decide), tset_spec [98] [] _ (by decide), tcut_spec _ [97] (by decide), tlen_spec _, tlen_spec _, tlen_spec _⟩
end Go.Proofs.YtjibchohkeljkaaDoor

/- The laws of layer 10: operations as they are read, cut. -/
-- @D
namespace Go.Proofs.YtjibchohkeljkaaDoor
set_option maxRecDepth 20000
open Go.Awp Tr
/-- An operation: what kind, of which version, key, value. -/
structure TOp where
  kind : Int
  ver : Int
  key : List UInt8
  val : List UInt8
def opV (o : TOp) : AV := .agg [.int .i64 o.kind, .int .u16 o.ver, .str o.key, .str o.val]
def TOp.ok (o : TOp) : Prop := (0 ≤ o.ver ∧ o.ver ≤ 65535) ∧ o.key.length ≤ Go.Awp.reach ∧ o.val.length ≤ Go.Awp.reach
inductive Ops : AV → List TOp → Prop
  | nils : Ops .nils []
  | ps (l : List TOp) : Ops (.ps (l.map opV)) l
theorem Ops.rd {s : AV} {l : List TOp} (h : Ops s l) (H L : List AObj) : Rd H L (.p s) (l.map opV) := by
  cases h with
  | nils => exact .nils
  | ps => exact .ps _
/-- How many operations are gone through. -/
def stopAt (i : Nat) (o : TOp) : Bool := decide (200 ≤ i) || (decide (200 < o.key.length) || decide (200 < o.val.length))
def cutN : List TOp → Nat → Nat
  | [], i => i
  | o :: r, i => if stopAt i o = true then i else cutN r (i + 1)
end Go.Proofs.YtjibchohkeljkaaDoor

/- The laws of layer 10: cut. -/
-- @D
namespace Go.Proofs.YtjibchohkeljkaaDoor
set_option maxRecDepth 20000
open Go.Awp Tr
theorem cutN_step {l : List TOp} {i : Nat} {o : TOp} (h : l[i]? = some o) : cutN (l.drop i) i = if stopAt i o = true then i else cutN (l.drop (i + 1)) (i + 1) := by
  obtain ⟨h2, rfl⟩ := List.getElem?_eq_some_iff.1 h
  rw [List.drop_eq_getElem_cons h2]
  rfl
theorem stop_eq (i : Nat) (o : TOp) : (decide ((i : Int) ≥ 200) || decide ((o.key.length : Int) > 200) || decide ((o.val.length : Int) > 200)) = stopAt i o := by
  unfold stopAt
  rw [Bool.or_assoc]
  congr 1
  · exact decide_eq_decide.2 (by omega)
  · congr 1 <;> exact decide_eq_decide.2 (by omega)
theorem cutN_end {l : List TOp} {i : Nat} (h : l.length ≤ i) : cutN (l.drop i) i = i := by
  rw [List.drop_eq_nil_of_le h]; rfl
theorem cutN_le : ∀ (l : List TOp) (i : Nat), cutN l i ≤ i + l.length
  | [], i => by simp [cutN]
  | o :: r, i => by
    have := cutN_le r (i + 1)
    unfold cutN
    split
    · simp
    · simp only [List.length_cons]; omega
theorem ops_get {l : List TOp} {i : Nat} {x : TOp} (h : l[i]? = some x) : (l.map opV)[i]? = some (opV x) := by simp [h]
structure CI (l : List TOp) where
  i : Nat
  h : i ≤ l.length
  e : cutN (l.drop i) i = cutN l 0
end Go.Proofs.YtjibchohkeljkaaDoor

/- More rules of the walk. No program is named here. -/
namespace Go.Awp
open Go.RowKit
/-- The remainder by what isn't 0. -/
theorem remA {L : List AObj} {k : IntKind} {a b : Int} {d : TyD} (h : b ≠ 0) : binA L .rem (.p (.int k a)) (.p (.int k b)) d = some (.p (.int k (a.tmod b))) := by
  have e : kEq k k = true := by unfold kEq; rw [decide_eq_true rfl]
  simp only [binA, isShift, e, intA]
  rw [decide_eq_false h]
theorem quoA {L : List AObj} {k : IntKind} {a b : Int} {d : TyD} (h : b ≠ 0) : binA L .quo (.p (.int k a)) (.p (.int k b)) d = some (.p (.int k (k.wrap (a.tdiv b)))) := by
  have e : kEq k k = true := by unfold kEq; rw [decide_eq_true rfl]
  simp only [binA, isShift, e, intA]
  rw [decide_eq_false h]
/-- A whole number as a byte. -/
theorem u8_byte (n : Int) : ∃ b : UInt8, IntKind.u8.wrap n = (b.toNat : Int) := by
  refine ⟨UInt8.ofNat (IntKind.u8.wrap n).toNat, ?_⟩
  have h : 0 ≤ IntKind.u8.wrap n ∧ IntKind.u8.wrap n < 256 := by
    unfold IntKind.wrap
    simp [IntKind.signed, IntKind.bits]
    omega
  simp
  omega
section
variable {Γ : Ctx} {env : Env} {H L : List AObj} {Φ : Act → World → Prop}
/-- A cell of an own variable, read otherwise. -/
theorem J_recell (i k : Nat) {Tb : Nat} {cs : List TV} {x : TV} (y : TV) (hi : L[i]? = some (.box Tb cs)) (hk : cs[k]? = some x) (hxy : ∀ w β G v, RepT w β G x v → RepT w β G y v) (kk : J Γ env H (L.set i (.box Tb (cs.set k y))) Φ) : J Γ env H L Φ := fun a w β s => by
  have hlt : i < L.length := (List.getElem?_eq_some_iff.1 hi).1
  obtain ⟨s1, s2⟩ := upd (w' := w) (G' := ⟨H, L.set i (.box Tb (cs.set k y)), Γ.F⟩) (h := .l i) (o' := .box Tb (cs.set k y)) (b' := β (.l i)) s.sim hi rfl rfl rfl (Nat.le_refl _) (fun _ _ _ => rfl) rfl (.inl rfl) ⟨rfl, by simp, rfl⟩
    (fun q => by
      cases q with
      | o q => simp [Hp.get]
      | l j =>
        simp only [Hp.get, List.getElem?_set, Hd.l.injEq]
        by_cases e : i = j
        · subst e; simp; omega
        · rw [if_neg e, if_neg (fun q => e q.symm)]) rfl s.sim.ext
  have eβ : (fun q => if q = Hd.l i then β (.l i) else β q) = β := by
    funext q
    split
    · rename_i e; rw [e]
    · rfl
  rw [eβ] at s1 s2
  obtain ⟨arr, g1, g2, g3⟩ := s.sim.objs (.l i) _ hi
  refine kk a w β ⟨s2 ⟨arr, g1, by rw [List.length_set]; exact g2, fun j z hj => ?_⟩, s.step.trans s1, s.env.mono s1, s.size, s.defers⟩
  by_cases e : k = j
  · subst e
    have hkl := (List.getElem?_eq_some_iff.1 hk).1
    rw [List.getElem?_set, if_pos rfl, if_pos hkl] at hj
    obtain rfl := Option.some.inj hj
    obtain ⟨v, hv, hr⟩ := g3 k _ hk
    exact ⟨v, hv, hxy _ _ _ _ (hr.mono s1)⟩
  · rw [List.getElem?_set, if_neg e] at hj
    obtain ⟨v, hv, hr⟩ := g3 j z hj
    exact ⟨v, hv, hr.mono s1⟩
end
section
variable {P : Program} {ops : List Oper} {env0 : Env} {Hs Ls : List (List AObj)} {ss : List Nat} {xs : List TV}
theorem T_opH {K : List TV → Prop} {o : Oper} {rest : List Oper} {i k : Nat} {x : TV} {H L : List AObj} (hg : o.guard = none) (hp : posn ss 0 i = none) (hk : loK o ss 0 0 = k) (hk2 : Nat.beq (hiK ops i ss 0 - k) 0 = true) (hH : Hs.getD k [] = H) (hL : Ls.getD k [] = L)
    (h : OpR P o (RdE ops env0 xs o) H L x H L) {xs' : List TV} (hxs : snocD xs x = some xs') (kk : Tele P ops env0 (fun k => Hs.getD k []) Ls ss K rest (i + 1) xs') : Tele P ops env0 (fun k => Hs.getD k []) Ls ss K (o :: rest) i xs :=
  ⟨x, .inl ⟨fun g b hgb => (by rw [hg] at hgb; cases hgb), by
    subst hH hL
    unfold Obl
    rw [hp]
    simp only
    rw [hk, Nat.eq_of_beq_eq_true hk2]
    exact h⟩, by rw [snocN_eq (snocD_eq hxs)]; exact kk⟩
theorem T_op2H {K : List TV → Prop} {o : Oper} {rest : List Oper} {i k : Nat} {x : TV} {H L H2 L2 : List AObj} (hg : o.guard = none) (hp : posn ss 0 i = none) (hk : loK o ss 0 0 = k) (hk2 : Nat.beq (hiK ops i ss 0 - k) 1 = true) (hH : Hs.getD k [] = H) (hL : Ls.getD k [] = L) (hH2 : Hs.getD (k + 1) [] = H2) (hL2 : Ls.getD (k + 1) [] = L2)
    (h : OpR P o (RdE ops env0 xs o) H L x H L) (h2 : OpR P o (RdE ops env0 xs o) H2 L2 x H2 L2) {xs' : List TV} (hxs : snocD xs x = some xs') (kk : Tele P ops env0 (fun k => Hs.getD k []) Ls ss K rest (i + 1) xs') : Tele P ops env0 (fun k => Hs.getD k []) Ls ss K (o :: rest) i xs :=
  ⟨x, .inl ⟨fun g b hgb => (by rw [hg] at hgb; cases hgb), by
    subst hH hL hH2 hL2
    unfold Obl
    rw [hp]
    simp only
    rw [hk, Nat.eq_of_beq_eq_true hk2]
    exact ⟨h, h2⟩⟩, by rw [snocN_eq (snocD_eq hxs)]; exact kk⟩
theorem T_stH {K : List TV → Prop} {o : Oper} {rest : List Oper} {i q : Nat} {x : TV} {H L H' L' : List AObj} (hg : o.guard = none) (hp : posn ss 0 i = some q) (hH : Hs.getD q [] = H) (hL : Ls.getD q [] = L) (hH' : Hs.getD (q + 1) [] = H') (hL' : Ls.getD (q + 1) [] = L')
    (h : OpR P o (RdE ops env0 xs o) H L x H' L') {xs' : List TV} (hxs : snocD xs x = some xs') (kk : Tele P ops env0 (fun k => Hs.getD k []) Ls ss K rest (i + 1) xs') : Tele P ops env0 (fun k => Hs.getD k []) Ls ss K (o :: rest) i xs :=
  ⟨x, .inl ⟨fun g b hgb => (by rw [hg] at hgb; cases hgb), by
    subst hH hL hH' hL'
    unfold Obl
    rw [hp]
    simp only
    exact h⟩, by rw [snocN_eq (snocD_eq hxs)]; exact kk⟩
end
theorem T_gateF {P : Program} {ops : List Oper} {env0 : Env} {Hf : Nat → List AObj} {Ls : List (List AObj)} {ss : List Nat} {xs : List TV} {K : List TV → Prop} {d : Option Nat} {op : Op} {t : TypeId} {pos : String} {af : Array Edge} {rest : List Oper} {i : Nat} (h : Tele P ops env0 Hf Ls ss K ({ dst := d, op := op, type := t, pos := pos, after := af, guard := none } :: rest) i xs) : Tele P ops env0 Hf Ls ss K ({ dst := d, op := op, type := t, pos := pos, after := af, guard := none } :: rest) i xs := h
theorem T_stD {P : Program} {ops : List Oper} {env0 : Env} {H : List AObj} {Ls : List (List AObj)} {ss : List Nat} {xs : List TV} {K : List TV → Prop} {o : Oper} {rest : List Oper} {i q : Nat} {x : TV} {L L' : List AObj} (hg : o.guard = none) (hp : posn ss 0 i = some q) (hL : Ls.getD q [] = L) (hL' : Ls.getD (q + 1) [] = L') (h : OpR P o (RdE ops env0 xs o) H L x H L') {xs' : List TV} (hxs : snocD xs x = some xs') (kk : Tele P ops env0 (fun _ => H) Ls ss K rest (i + 1) xs') : Tele P ops env0 (fun _ => H) Ls ss K (o :: rest) i xs :=
  T_st hg hp hL hL' h (snocD_eq hxs) kk
/-- A drawn region of which one operation writes. -/
theorem J_drawS {P : Program} {Γ : Ctx} {env0 : Env} {H L : List AObj} {Q : Exit → Act → World → Prop} {id : Nat} {ops : List Oper} (n : Nat) (hm : P.follows .mixedOrders = true) (hreg : regOk Γ.N ops [n] = true)
    (h : ∃ L2, Tele P ops env0 (fun _ => H) [L, L2] [n] (fun xs => J Γ (finE ops xs env0) H L2 (Q .normal)) ops 0 []) : J Γ env0 H L ((Code.region id ops.toArray true).wp P Q) :=
  h.elim fun L2 h => J_draw [L, L2] [n] hm hreg rfl h
/-- A drawn region of which one operation writes the caller's objects, a later one own ones. -/
theorem J_drawH2 {P : Program} {Γ : Ctx} {env0 : Env} {H L : List AObj} {Q : Exit → Act → World → Prop} {id : Nat} {ops : List Oper} (n m : Nat) (H2 : List AObj) (hm : P.follows .mixedOrders = true) (hreg : regOk Γ.N ops [n, m] = true)
    (h : ∃ L2, Tele P ops env0 (fun k => [H, H2, H2].getD k []) [L, L, L2] [n, m] (fun xs => J Γ (finE ops xs env0) H2 L2 (Q .normal)) ops 0 []) : J Γ env0 H L ((Code.region id ops.toArray true).wp P Q) :=
  h.elim fun L2 h => J_drawH [H, H2, H2] [L, L, L2] [n, m] hm hreg rfl rfl h
/-- A drawn region that writes own objects. -/
theorem gdW {φ ψ : Prop} (k : ψ) (h : ψ → φ := by
  intro k
  repeat (first
    | with_reducible refine T_nil ?_
    | ((with_reducible refine T_gateG ?_); first | refine T_no rfl rfl rfl rfl ?_ | refine T_yesD rfl rfl rfl rfl rfl rfl (stepN_ok hT rfl) rfl ?_ | refine T_yesD rfl rfl rfl rfl rfl rfl (stepW_ok hT rfl) rfl ?_ | refine T_yesD rfl rfl rfl rfl rfl rfl (stepG_ok hT rfl) rfl ?_ | refine T_yesD rfl rfl rfl rfl rfl rfl (stepA_ok hT rfl) rfl ?_)
    | ((with_reducible refine T_gate ?_); first | refine T_opD rfl rfl rfl rfl rfl (stepN_ok hT rfl) rfl ?_ | refine T_opD rfl rfl rfl rfl rfl (stepW_ok hT rfl) rfl ?_ | refine T_opD rfl rfl rfl rfl rfl (stepG_ok hT rfl) rfl ?_ | refine T_opD rfl rfl rfl rfl rfl (stepA_ok hT rfl) rfl ?_ | refine T_opD rfl rfl rfl rfl rfl (opr_lit0 hT rfl rfl rfl) rfl ?_ | refine T_stD rfl rfl rfl rfl (stepN_ok hT rfl) rfl ?_ | refine T_op2D rfl rfl rfl rfl rfl rfl (stepN_ok hT rfl) (stepN_ok hT rfl) rfl ?_ | refine T_op2D rfl rfl rfl rfl rfl rfl (stepA_ok hT rfl) (stepA_ok hT rfl) rfl ?_))
  exact k) : φ := h k
/-- A drawn region that writes the caller's objects, as far as the environment tells. -/
theorem gdH {φ ψ : Prop} (k : ψ) (h : ψ → φ := by
  intro k
  repeat (first
    | with_reducible refine T_nil ?_
    | ((with_reducible refine T_gateF ?_); first | refine T_opH rfl rfl rfl rfl rfl rfl (stepN_ok hT rfl) rfl ?_ | refine T_opH rfl rfl rfl rfl rfl rfl (stepG_ok hT rfl) rfl ?_ | refine T_opH rfl rfl rfl rfl rfl rfl (stepA_ok hT rfl) rfl ?_ | refine T_opH rfl rfl rfl rfl rfl rfl (opr_lit hT rfl rfl rfl rfl) rfl ?_ | refine T_op2H rfl rfl rfl rfl rfl rfl rfl rfl (stepN_ok hT rfl) (stepN_ok hT rfl) rfl ?_ | refine T_op2H rfl rfl rfl rfl rfl rfl rfl rfl (stepG_ok hT rfl) (stepG_ok hT rfl) rfl ?_ | refine T_op2H rfl rfl rfl rfl rfl rfl rfl rfl (stepA_ok hT rfl) (stepA_ok hT rfl) rfl ?_ | refine T_stH rfl rfl rfl rfl rfl rfl (stepG_ok hT rfl) rfl ?_ | refine T_stH rfl rfl rfl rfl rfl rfl (stepN_ok hT rfl) rfl ?_))
  exact k) : φ := h k
section
variable {P : Program} {T : Tab} {Γ : Ctx} {env : Env} {H L : List AObj} {Q : Exit → Act → World → Prop} {ops : Array Oper} {rest : List Oper} {o : Oper}
/-- An operation of which not all is known beforehand. -/
theorem J_any {ι : Type} {x : ι → TV} (hg : o.guard = none) (hd : dstOk Γ.N o.dst = true) (h : ∀ F w β a, Sim w β ⟨H, L, F⟩ → EnvR w β ⟨H, L, F⟩ env a → ∃ i u, (execOp a.eval o).run P w = .ok (.value u) w ∧ RepT w β ⟨H, L, F⟩ (x i) u)
    (k : ∀ i, J Γ (putE env o.dst (x i)) H L (wpList P ops Q rest)) : J Γ env H L (wpList P ops Q (o :: rest)) := by
  intro a w β s
  obtain ⟨i, u, hr, hx⟩ := h Γ.F w β a s.sim s.env
  unfold wpList
  rw [if_pos (by simp [Region.wanted, hg])]
  refine .inl ?_
  unfold Oper.wp
  rw [hr]
  exact k i _ _ _ (s.next hd s.sim (Step.refl ..) hx)
theorem run_eqSl2 {w : World} {t : TypeId} {e : TypeId} (hu : P.underlying t = some (.slice e)) (a : Option Addr) (n c m k : Nat) : (Op.equal t (.slice a n c) (.slice none m k)).run P w = .ok a.isNone w := by
  have key : ∀ d, (Op.equalIn (d + 1) t (.slice a n c) (.slice none m k)).run P w = .ok a.isNone w := by
    intro d; cases a <;> simp [Op.equalIn, run_underlying hu]
  exact key 9999
theorem eqSl_val {t t2 : TypeId} {e : TypeId} {y z : Operand} {a : Act} {w : World} {ao : Option Addr} {n c : Nat} (hu : P.underlying t = some (.slice e)) (ho : o.op = .binOp .eql t y z t2) (hy : a.eval y = .slice ao n c) (hz : a.eval z = .slice none 0 0) : (execOp a.eval o).run P w = .ok (.value (.bool ao.isNone)) w := by
  simp only [execOp, ho, hy, hz, Sem.run_bind]
  have := run_eqSl2 (P := P) (w := w) hu ao n c 0 0
  have h2 : (Go.binOp .eql t (.slice ao n c) (.slice none 0 0)).run P w = .ok (.bool ao.isNone) w := by rw [bin_eq_sl]; simp [this]
  simp [eqGuard_at_slice, h2]
end
theorem rep_nil_cell (w : World) (β : Hd → Nat) (G : Hp) (v : Value) (h : RepT w β G (.p .nilp) v) : RepT w β G (.p (.cell .nilp)) v := rep_wrap rfl h
/-! ### What a callee gathered -/
theorem nils_ps : AVLe .nils (.ps []) := fun _ _ _ h => by cases h; exact .psE ..
theorem cz_ps : AVLe .cz (.ps []) := fun _ _ _ h => by cases h; exact .psE ..
theorem Con.le {P : Program} {f : FuncId} {args : List TV} {H H' news : List AObj} {x y : AV} (h : Con P f args H (.p x) H' news) (hxy : AVLe x y) : Con P f args H (.p y) H' news :=
  ⟨h.can, fun F w β vs hS hr => (h.run F w β vs hS hr).mono fun _ _ ⟨β', v, he, hS', hst, hv⟩ => ⟨β', v, he, hS', hst, by cases hv with | p hv => exact .p (hxy _ _ _ hv)⟩⟩
/-- As a value that stays. -/
theorem Con.toPs {P : Program} {f : FuncId} {args : List TV} {H H' : List AObj} {e sz : Nat} {d : AV} {acc : List AV} (hd : d = .nils ∨ d = .cz) (h : Con P f args H (accT 0 d acc) H' (accL e sz acc)) : Con P f args H (.p (.ps acc)) H' [] := by
  cases acc with
  | nil => rcases hd with rfl | rfl; exact h.le nils_ps; exact h.le cz_ps
  | cons r rs => exact Con.freeze h rfl
/-- As an array that may have no element yet. -/
theorem Con.toLz {P : Program} {f : FuncId} {args : List TV} {H H' : List AObj} {e sz : Nat} {d : AV} {acc : List AV} (hd : d = .nils ∨ d = .cz) (h0 : 0 < sz) (h : Con P f args H (accT 0 d acc) H' (accL e sz acc)) : Con P f args H (.sl (.l 0) acc.length 0 acc.length) H' [.arr e true sz acc] := by
  cases acc with
  | cons r rs => exact h
  | nil =>
    exact ⟨h.can, fun F w β vs hS hr => (h.run F w β vs hS hr).mono fun ed w' ⟨β', v, he, hS', hst, hv⟩ => by
      obtain ⟨k1, k2⟩ := sim_lazy e h0 hS'
      exact ⟨β', v, he, k1, hst.trans k2, rep_lazy e sz hd hv⟩⟩
/-- What may have no element, read. -/
theorem Rd.own {H L : List AObj} {i : Nat} {Ty : TypeId} {b : Bool} {e n : Nat} {rows : List AV} (hi : L[i]? = some (.arr Ty b e rows)) (hn : rows.length = n) : Rd H L (.sl (.l i) n 0 n) rows := Rd.full hi hn
/-- A slice that surely is, held against nil. -/
theorem opr_slNe {P : Program} {T : Tab} {env : Env} {H L : List AObj} {o : Oper} {t t2 : TypeId} {y z : Operand} {h : Hd} {n e0 e : Nat} {Ty : TypeId} {b : Bool} {rows : List AV} (hT : TabOk P T) (ho : o.op = .binOp .eql t y z t2) (hd : tyD T t = .slice e0) (hy : evA env y = .sl h n 0 n) (hz : evA env z = .p .nils)
    (hg : (⟨H, L, noF⟩ : Hp).get h = some (.arr Ty b e rows)) (hn : rows.length = n) (h0 : 0 < n) : OpR P o env H L (.p (.bool false)) H L :=
  opr_pure fun F w β a hS he => by
    have hv := evA_ok he y
    rw [hy] at hv
    have hw := evA_ok he z
    rw [hz] at hw
    obtain ⟨u, h1, h2⟩ := tyD_und hT (t := t) (by rw [hd]; simp)
    rw [hd] at h2
    obtain rfl := chkD_slice h2
    have hzv : a.eval z = .slice none 0 0 := by
      generalize a.eval z = q at hw
      cases hw with | p hw => cases hw; rfl
    have hg' : (⟨H, L, F⟩ : Hp).get h = some (.arr Ty b e rows) := by cases h <;> exact hg
    generalize hq : a.eval y = q at hv
    cases hv with | sl _ _ _ _ _ _ _ hv =>
    obtain ⟨ao, cap, rfl, _, _, hao⟩ := (hv _ _ _ _ hg' hn).val
    obtain rfl := hao h0
    exact ⟨_, eqSl_val h1 ho hq hzv, .p (.bool ..)⟩
/-- One that may have no element. -/
theorem J_slNil {P : Program} {T : Tab} {Γ : Ctx} {env : Env} {H L : List AObj} {Q : Exit → Act → World → Prop} {ops : Array Oper} {rest : List Oper} {o : Oper} {t t2 : TypeId} {y z : Operand} {h : Hd} {e0 e : Nat} {Ty : TypeId} (hT : TabOk P T) (hgd : o.guard = none) (hdd : dstOk Γ.N o.dst = true) (ho : o.op = .binOp .eql t y z t2) (hd : tyD T t = .slice e0) (hy : evA env y = .sl h 0 0 0) (hz : evA env z = .p .nils)
    (hg : (⟨H, L, noF⟩ : Hp).get h = some (.arr Ty true e [])) (k : ∀ b, J Γ (putE env o.dst (.p (.bool b))) H L (wpList P ops Q rest)) : J Γ env H L (wpList P ops Q (o :: rest)) :=
  J_any (x := fun b => .p (.bool b)) hgd hdd (fun F w β a hS he => by
    have hv := evA_ok he y
    rw [hy] at hv
    have hw := evA_ok he z
    rw [hz] at hw
    obtain ⟨u, h1, h2⟩ := tyD_und hT (t := t) (by rw [hd]; simp)
    rw [hd] at h2
    obtain rfl := chkD_slice h2
    have hzv : a.eval z = .slice none 0 0 := by
      generalize a.eval z = q at hw
      cases hw with | p hw => cases hw; rfl
    have hg' : (⟨H, L, F⟩ : Hp).get h = some (.arr Ty true e []) := by cases h <;> exact hg
    generalize hq : a.eval y = q at hv
    cases hv with | sl _ _ _ _ _ _ _ hv =>
    obtain ⟨ao, rfl⟩ := (hv _ _ _ _ hg' rfl).off rfl rfl
    exact ⟨ao.isNone, _, eqSl_val h1 ho hq hzv, .p (.bool ..)⟩) k
end Go.Awp

/- The laws of layer 10: same. -/
-- @D
namespace Go.Proofs.YtjibchohkeljkaaDoor
set_option maxRecDepth 20000
open Go.Awp Tr
theorem lget_at {l : List KV} (h : Rises l) {i : Nat} {x : KV} (hx : l[i]? = some x) : lget x.1 l = some x.2 := by
  induction l generalizing i with
  | nil => simp at hx
  | cons a r ih =>
    have hp := List.pairwise_cons.1 h
    unfold lget
    cases i with
    | zero => simp at hx; subst hx; simp
    | succ i =>
      simp at hx
      rw [if_neg (lt_ne (hp.1 x (List.mem_of_getElem? hx)))]
      exact ih hp.2 hx
theorem lrank_at {l : List KV} (h : Rises l) {i : Nat} {x : KV} (hx : l[i]? = some x) : lrank x.1 l = i := by
  induction l generalizing i with
  | nil => simp at hx
  | cons a r ih =>
    have hp := List.pairwise_cons.1 h
    unfold lrank
    cases i with
    | zero =>
      simp at hx; subst hx
      have : (a :: r).filter (fun y => Op.bytesLess y.1 a.1) = [] := by
        rw [List.filter_eq_nil_iff]
        intro y hy
        rcases List.mem_cons.1 hy with rfl | hy
        · exact lt_irrefl _
        · exact lt_asymm (hp.1 y hy)
      rw [this]; rfl
    | succ i =>
      simp at hx
      have hlt : Op.bytesLess a.1 x.1 = true := hp.1 x (List.mem_of_getElem? hx)
      rw [List.filter_cons, if_pos hlt, List.length_cons]
      have := ih hp.2 hx
      unfold lrank at this
      omega
structure MI (l : List KV) where
  i : Nat
  h : i ≤ l.length
end Go.Proofs.YtjibchohkeljkaaDoor

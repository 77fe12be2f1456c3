/- Contracts and plain laws, several texts joined: Tr4, F10f, F10g, F10h, F10i, Tr5, F10j, F10k, F09d. -/
import Derived.Test.YtjibchohkeljkaaDoorGo
import Derived.Test.YtjibchohkeljkaaDoorM3
import Derived.Test.YtjibchohkeljkaaDoorM2
import Derived.Test.YtjibchohkeljkaaDoorM1
/- Trees: Range, At, Rank, in plain Lean. -/
namespace Go.Proofs.YtjibchohkeljkaaDoor
set_option maxRecDepth 20000
open Go.Awp
namespace Tr
def range (a b : List UInt8) : Tr → List KV
  | nil => []
  | node k v l r => ((if lt a k then l.range a b else []) ++ (if inR k a b = true then [(k, v)] else [])) ++ (if lt k b then r.range a b else [])
theorem range_row (a b : List UInt8) : ∀ (t : Tr), Rises t.row → t.range a b = lrange a b t.row
  | nil, _ => rfl
  | node k v l r, h => by
    obtain ⟨h1, h2, h3, h4, _⟩ := rises_app.1 h
    have e1 : (if lt a k then l.range a b else []) = lrange a b l.row := by
      split
      · exact range_row a b l h1
      · rename_i hk
        refine (List.filter_eq_nil_iff.2 fun x hx => ?_).symm
        have : lt x.1 a := by
          rcases lt_cases a k with h | h | h
          · exact absurd h hk
          · rw [h]; exact h3 x hx
          · exact lt_trans (h3 x hx) h
        unfold lt at this
        simp [inR, this]
    have e2 : (if lt k b then r.range a b else []) = lrange a b r.row := by
      split
      · exact range_row a b r h2
      · rename_i hk
        refine (List.filter_eq_nil_iff.2 fun x hx => ?_).symm
        have : ¬ lt x.1 b := by
          intro hx2
          exact hk (lt_trans (h4 x hx) hx2)
        unfold lt at this
        simp [inR, this]
    have e3 : lrange a b (node k v l r).row = lrange a b l.row ++ ((if inR k a b = true then [(k, v)] else []) ++ lrange a b r.row) := by
      simp only [row, lrange, List.filter_append, List.filter_cons]
      split <;> simp
    rw [e3, ← e1, ← e2, range, List.append_assoc]
theorem range_len (a b : List UInt8) : ∀ (t : Tr), (t.range a b).length ≤ t.size
  | nil => Nat.le_refl _
  | node k v l r => by
    have h1 := range_len a b l
    have h2 := range_len a b r
    simp only [range, size, List.length_append]
    have e1 : (if lt a k then l.range a b else []).length ≤ l.size := by split <;> first | exact h1 | simp
    have e2 : (if lt k b then r.range a b else []).length ≤ r.size := by split <;> first | exact h2 | simp
    have e3 : (if inR k a b = true then [(k, v)] else [] : List KV).length ≤ 1 := by split <;> simp
    omega
def atI : Tr → Nat → Option KV
  | nil, _ => none
  | node k v l r, i => if i < l.size then l.atI i else if i = l.size then some (k, v) else r.atI (i - (l.size + 1))
theorem atI_row : ∀ (t : Tr) (i : Nat), t.atI i = t.row[i]?
  | nil, i => by simp [atI, row]
  | node k v l r, i => by
    simp only [atI, row]
    have hl := row_len l
    split
    · rw [atI_row l i, List.getElem?_append_left (by omega)]
    · split
      · rename_i h
        rw [List.getElem?_append_right (by omega), show i - l.row.length = 0 by omega]
        rfl
      · rw [atI_row r, List.getElem?_append_right (by omega), show i - l.row.length = (i - (l.size + 1)) + 1 by omega]
        simp
def rank (k : List UInt8) : Tr → Nat
  | nil => 0
  | node k0 _ l r => if lt k0 k then l.size + 1 + r.rank k else l.rank k
theorem rank_row (k : List UInt8) : ∀ (t : Tr), Rises t.row → t.rank k = lrank k t.row
  | nil, _ => rfl
  | node k0 v l r, h => by
    obtain ⟨h1, h2, h3, h4, _⟩ := rises_app.1 h
    have e : lrank k (node k0 v l r).row = lrank k l.row + ((if lt k0 k then 1 else 0) + lrank k r.row) := by
      simp only [row, lrank, List.filter_append, List.length_append, List.filter_cons, lt]
      by_cases hk : Op.bytesLess k0 k = true
      · simp [hk]; omega
      · simp [hk]
    rw [e, rank]
    split
    · rename_i hk
      rw [rank_row k r h2]
      have : lrank k l.row = l.size := by
        unfold lrank
        rw [List.filter_eq_self.2 fun x hx => lt_trans (h3 x hx) hk, row_len]
      omega
    · rename_i hk
      rw [rank_row k l h1]
      have : lrank k r.row = 0 := by
        unfold lrank
        rw [List.filter_eq_nil_iff.2 fun x hx h => hk (lt_trans (h4 x hx) h)]
        rfl
      omega
end Tr
end Go.Proofs.YtjibchohkeljkaaDoor

/- tree: Range. -/
-- @D
namespace Go.Proofs.YtjibchohkeljkaaDoor
set_option maxRecDepth 20000
open Go.Awp Tr
/-- A pair, as the program has it. -/
def kvV (x : KV) : AV := .agg [.str x.1, .str x.2, .bool false]
abbrev kvs (l : List KV) : List AV := l.map kvV
theorem kvs_cl (l : List KV) : clR (kvs l) := by
  intro r hr x hx
  obtain ⟨y, _, rfl⟩ := List.mem_map.1 hr
  simp [kvV, cellsOf] at hx
  rcases hx with rfl | rfl | rfl <;> rfl
theorem kvs_size (l : List KV) : ∀ r ∈ kvs l, (cellsOf r).length = 3 := by
  intro r hr
  obtain ⟨y, _, rfl⟩ := List.mem_map.1 hr
  rfl
theorem leB (a k : List UInt8) : (Op.bytesLess a k || a == k) = !Op.bytesLess k a := by
  cases h1 : Op.bytesLess a k with
  | true => rw [bl_asymm h1]; rfl
  | false =>
    cases h2 : Op.bytesLess k a with
    | true =>
      have : (a == k) = false := beq_eq_false_iff_ne.2 fun e => by rw [e, bl_irrefl] at h2; cases h2
      rw [this]; rfl
    | false => rw [bl_total h1 h2]; simp
abbrev pairI : TyI := ⟨.struct [(0, 9), (1, 9), (2, 4)], 3, 40, [.str [], .str [], .bool false]⟩
set_option maxHeartbeats 8000000 in
theorem trange_spec (a b : List UInt8) : ∀ (t : Tr), t.size ≤ big40 → Con Tryd.prog 76 [W t, .p (.str a), .p (.str b)] [] (accT 0 .nils (kvs (t.range a b))) [] (accL 81 3 (kvs (t.range a b)))
  | .nil, h => by
    refine con_of Tryd.func76 rfl (by kernel_rfl) rfl fun F w0 β0 => ?_
    refine K_tell rfl ?_
    refine go ?_
    exact J_give hT rfl rfl
  | .node k v l r, h => by
    simp only [Tr.size] at h
    have c1 := trange_spec a b l (by omega)
    have c2 := (trange_spec a b r (by omega)).frzAcc
    have l1 := range_len a b l
    have l2 := range_len a b r
    have er : (node k v l r).range a b = ((if lt a k then l.range a b else []) ++ (if inR k a b = true then [(k, v)] else [])) ++ (if lt k b then r.range a b else []) := rfl
    rw [er]
    refine con_of Tryd.func76 rfl (by kernel_rfl) rfl fun F w0 β0 => ?_
    refine K_tell rfl ?_
    refine go ?_
    refine J_join [(0, W (node k v l r)), (1, .p (.str a)), (2, .p (.str b)), (7, accT 0 .nils (kvs (if lt a k then l.range a b else [])))] [] (accL 81 3 (kvs (if lt a k then l.range a b else []))) ?_ ?_
    · refine J_cond rfl (fun hc => ?_) (fun hc => ?_)
      · rw [if_pos (show lt a k from hc)]
        refine go ?_
        refine K_opM rfl rfl (opr_callE rfl rfl c1 rfl rfl (accT_ren _ _ _ _ _) (by rw [accL_ren])) rfl ?_
        refine K_opM rfl rfl (opr_mv (accT 0 .nils (kvs (l.range a b))) (.inr rfl) rfl) rfl ?_
        refine J_nil ?_
        exact J_at ⟨rfl, rfl, rfl, rfl, trivial⟩ rfl rfl
      · rw [if_neg (show ¬ lt a k from by unfold lt; rw [hc]; simp)]
        refine go ?_
        exact J_at ⟨rfl, rfl, rfl, rfl, trivial⟩ rfl rfl
    have hA : (if lt a k then l.range a b else []).length ≤ l.size := by split <;> first | exact l1 | simp
    generalize hAA : (if lt a k then l.range a b else []) = A at hA
    refine go ?_
    have hin : ((Op.bytesLess a k || a == k) && Op.bytesLess k b) = inR k a b := by rw [leB]; rfl
    refine J_join [(0, W (node k v l r)), (1, .p (.str a)), (2, .p (.str b)), (7, accT 0 .nils (kvs (A ++ (if inR k a b = true then [(k, v)] else []))))] [] (accL 81 3 (kvs (A ++ (if inR k a b = true then [(k, v)] else [])))) ?_ ?_
    · refine J_cond rfl (fun hc => ?_) (fun hc => ?_)
      · rw [hin] at hc
        rw [if_pos hc]
        have emap : kvs (A ++ [(k, v)]) = kvs A ++ [kvV (k, v)] := by simp
        refine J_weak [(0, W (node k v l r)), (1, .p (.str a)), (2, .p (.str b)), (7, accT 0 .nils (kvs A))] ⟨rfl, rfl, rfl, rfl, trivial⟩ ?_
        refine J_draw [accL 81 3 (kvs A), accL 81 3 (kvs (A ++ [(k, v)]))] [11] (by kernel_rfl) (by kernel_rfl) rfl ?_
        refine T_op rfl rfl rfl rfl rfl (opr_mv (accT 0 .nils (kvs A)) (.inl rfl) rfl) rfl ?_
        refine gd2 ?_
        refine T_op rfl rfl rfl rfl rfl (opr_lit hT rfl rfl rfl rfl) rfl ?_
        rw [emap]
        refine T_st rfl rfl rfl rfl (opr_app_acc (te := pairI) (L0 := []) (acc := kvs A) (rows := [kvV (k, v)]) hT rfl rfl rfl (.inl rfl) rfl rfl (.rd (.ps _)) hbs_ps (kvs_cl [(k, v)]) (kvs_size [(k, v)]) (by decide) (by decide) (by unfold big40 at h; simp; omega)) rfl ?_
        refine T_op rfl rfl rfl rfl rfl (opr_mv (accT 0 .nils (kvs A ++ [kvV (k, v)])) (.inr rfl) rfl) rfl ?_
        refine T_nil ?_
        exact J_at ⟨rfl, rfl, rfl, rfl, trivial⟩ rfl rfl
      · rw [hin] at hc
        rw [if_neg (by rw [hc]; simp), List.append_nil]
        refine go ?_
        exact J_at ⟨rfl, rfl, rfl, rfl, trivial⟩ rfl rfl
    have hB : (A ++ (if inR k a b = true then [(k, v)] else [])).length ≤ l.size + 1 := by
      rw [List.length_append]
      have : (if inR k a b = true then [(k, v)] else [] : List KV).length ≤ 1 := by split <;> simp
      omega
    generalize hBB : (A ++ (if inR k a b = true then [(k, v)] else [])) = B at hB
    clear hAA hA hin hBB
    refine go ?_
    refine J_join [(7, accT 0 .nils (kvs (B ++ (if lt k b then r.range a b else []))))] [] (accL 81 3 (kvs (B ++ (if lt k b then r.range a b else [])))) ?_ ?_
    · refine J_cond rfl (fun hc => ?_) (fun hc => ?_)
      · rw [if_pos (show lt k b from hc)]
        have emap : kvs (B ++ r.range a b) = kvs B ++ kvs (r.range a b) := by simp
        refine go ?_
        refine K_opM rfl rfl (opr_mv (accT 0 .nils (kvs B)) (.inl rfl) rfl) rfl ?_
        refine go ?_
        refine K_opM rfl rfl (opr_callE rfl rfl c2 rfl rfl rfl (List.append_nil _)) rfl ?_
        rw [emap]
        refine K_opM rfl rfl (opr_app_acc (te := pairI) (L0 := []) (acc := kvs B) (rows := kvs (r.range a b)) hT rfl rfl rfl (.inl rfl) rfl rfl (.rd (accV_rd (.inl rfl))) (accV_str (.inl rfl)) (kvs_cl _) (kvs_size _) (by decide) (by decide) (by unfold big40 at h; simp; omega)) rfl ?_
        refine K_opM rfl rfl (opr_mv (accT 0 .nils (kvs B ++ kvs (r.range a b))) (.inr rfl) rfl) rfl ?_
        refine J_nil ?_
        exact J_at ⟨rfl, trivial⟩ rfl rfl
      · rw [if_neg (show ¬ lt k b from by unfold lt; rw [hc]; simp), List.append_nil]
        refine go ?_
        exact J_at ⟨rfl, trivial⟩ rfl rfl
    generalize B ++ (if lt k b then r.range a b else []) = C
    refine go ?_
    refine K_opM rfl rfl (opr_mv (accT 0 .nils (kvs C)) (.inl rfl) rfl) rfl ?_
    refine K_opM rfl rfl (opr_mv (accT 0 .nils (kvs C)) (.inr rfl) rfl) rfl ?_
    refine go ?_
    exact J_give hT rfl rfl
end Go.Proofs.YtjibchohkeljkaaDoor

/- tree: At, Rank. -/
-- @D
namespace Go.Proofs.YtjibchohkeljkaaDoor
set_option maxRecDepth 20000
open Go.Awp Tr
def atZ : Tr → Int → Option KV
  | .nil, _ => none
  | .node k v l r, i => if i < (l.size : Int) then atZ l i else if i > (l.size : Int) then atZ r (i - ((l.size : Int) + 1)) else some (k, v)
theorem atZ_row : ∀ (t : Tr) (i : Int), atZ t i = if i < 0 then none else t.row[i.toNat]?
  | .nil, i => by simp [atZ, Tr.row]
  | .node k v l r, i => by
    have hl := row_len l
    simp only [atZ, Tr.row]
    by_cases h1 : i < (l.size : Int)
    · rw [if_pos h1, atZ_row l i]
      by_cases h0 : i < 0
      · rw [if_pos h0, if_pos h0]
      · rw [if_neg h0, if_neg h0, List.getElem?_append_left (by omega)]
    · rw [if_neg h1]
      by_cases h2 : i > (l.size : Int)
      · rw [if_pos h2, atZ_row r, if_neg (by omega), if_neg (by omega), List.getElem?_append_right (by omega), show i.toNat - l.row.length = (i - ((l.size : Int) + 1)).toNat + 1 by omega]
        simp
      · rw [if_neg h2, if_neg (by omega), List.getElem?_append_right (by omega), show i.toNat - l.row.length = 0 by omega]
        rfl
def atT : Option KV → TV
  | some x => .tup [.agg [.p (.str x.1), .p (.str x.2), .p (.bool false)], .p (.bool true)]
  | none => .tup [.agg [.p (.str []), .p (.str []), .p (.bool false)], .p (.bool false)]
structure AtJ (g : Option KV) where
  t : Tr
  i : Int
  h : atZ t i = g
  b : t.size ≤ big40
  c : -9223372036854775808 ≤ i ∧ i ≤ 9223372036854775807
set_option maxHeartbeats 4000000 in
theorem tat_spec (t : Tr) (i : Int) (ht : t.size ≤ big40) (hi : -9223372036854775808 ≤ i ∧ i ≤ 9223372036854775807) : Con Tryd.prog 68 [W t, .p (.int .i64 i)] [] (atT (atZ t i)) [] [] := by
  generalize hg : atZ t i = g
  refine con_of Tryd.func68 rfl (by kernel_rfl) rfl fun F w0 β0 => ?_
  refine K_tell rfl ?_
  refine go ?_
  refine J_loop (fun s : AtJ g => [(0, W s.t), (1, .p (.int .i64 s.i)), (4, .ad (.l 0) 0)]) (fun _ => []) (fun _ => [.box 81 [.p (.str []), .p (.str []), .p (.bool false)]]) (fun s => s.t.size) ⟨t, i, hg, ht, hi⟩ ⟨rfl, rfl, rfl, trivial⟩ rfl rfl (fun s => ?_)
  obtain ⟨t', i', hz, hb, hc⟩ := s
  clear hg ht hi t i
  cases t' with
  | nil =>
    obtain rfl := hz
    refine go ?_
    exact J_done hT rfl rfl rfl
  | node k v l r =>
    simp only [Tr.size] at hb
    have hb' := hb
    unfold big40 at hb'
    have c1 := tlen_spec l
    refine go ?_
    refine K_op rfl rfl (opr_callP rfl rfl (c1) rfl rfl rfl rfl) rfl ?_
    refine go ?_
    simp only [atZ] at hz
    by_cases h1 : i' < (l.size : Int)
    · rw [if_pos h1] at hz
      refine K_condT rfl (decide_eq_true h1) ?_
      refine go ?_
      refine J_again ⟨l, i', hz, by omega, hc⟩ (by show l.size < 1 + l.size + r.size; omega) ⟨rfl, rfl, rfl, trivial⟩ rfl rfl
    · rw [if_neg h1] at hz
      refine K_condF rfl (decide_eq_false h1) ?_
      refine go ?_
      by_cases h2 : i' > (l.size : Int)
      · rw [if_pos h2] at hz
        refine K_condT rfl (decide_eq_true h2) ?_
        refine go ?_
        refine J_again ⟨r, i' - ((l.size : Int) + 1), hz, by omega, by omega⟩ (by show r.size < 1 + l.size + r.size; omega) ⟨rfl, congrArg (fun z => TV.p (.int .i64 z)) (by dsimp only; rw [IntWalk.i64_in ((l.size : Int) + 1) (by omega), IntWalk.i64_in _ (by omega)]), rfl, trivial⟩ rfl rfl
      · rw [if_neg h2] at hz
        obtain rfl := hz
        refine K_condF rfl (decide_eq_false h2) ?_
        refine J_seq ?_
        refine J_draw [[.box 81 [.p (.str []), .p (.str []), .p (.bool false)]], [.box 81 [.p (.str k), .p (.str v), .p (.bool false)]]] [9] (by kernel_rfl) (by kernel_rfl) rfl ?_
        refine gd ?_
        refine T_st rfl rfl rfl rfl (stepN_ok hT rfl) rfl ?_
        refine gd ?_
        refine J_then ?_
        refine K_tell rfl ?_
        refine go ?_
        exact J_done hT rfl rfl rfl
structure RankJ (k : List UInt8) (g : Nat) where
  t : Tr
  n : Nat
  h : n + t.rank k = g
theorem rank_le (k : List UInt8) : ∀ (t : Tr), t.rank k ≤ t.size
  | .nil => Nat.le_refl _
  | .node k0 v l r => by
    have h1 := rank_le k l
    have h2 := rank_le k r
    simp only [Tr.rank, Tr.size]
    split <;> omega
end Go.Proofs.YtjibchohkeljkaaDoor

/- The reference of layer 10: Get, Rank. -/
-- @D
namespace Go.Proofs.YtjibchohkeljkaaDoor
set_option maxRecDepth 20000
open Go.Awp Tr
theorem kvs_get {l : List KV} {i : Nat} {x : KV} (h : l[i]? = some x) : (kvs l)[i]? = some (kvV x) := by simp [kvs, h]
structure RG (k : List UInt8) (l : List KV) (g : Option (List UInt8)) where
  i : Nat
  h : i ≤ l.length
  e : lget k (l.drop i) = g
end Go.Proofs.YtjibchohkeljkaaDoor

/- The reference of layer 10: Cut, Rank. -/
-- @D
namespace Go.Proofs.YtjibchohkeljkaaDoor
set_option maxRecDepth 20000
open Go.Awp Tr
/-- A row, as a value that is handed on. -/
abbrev R (d : AV) (l : List KV) : TV := .p (accV d (kvs l))
theorem filter_take (p : KV → Bool) {l : List KV} {i : Nat} {x : KV} (hx : l[i]? = some x) : (l.take (i + 1)).filter p = (l.take i).filter p ++ (if p x = true then [x] else []) := by
  obtain ⟨h, rfl⟩ := List.getElem?_eq_some_iff.1 hx
  rw [List.take_succ_eq_append_getElem h, List.filter_append, List.filter_cons, List.filter_nil]
structure RI (l : List KV) where
  i : Nat
  h : i ≤ l.length
set_option maxHeartbeats 4000000 in
theorem rcut10_rd (s : AV) (l : List KV) (k : List UInt8) (hrd : ∀ L, Rd [] L (.p s) (kvs l)) (hl : l.length ≤ big40) : Con Tryd.prog 29 [.p s, .p (.str k)] [] (accT 0 .cz (kvs (lcut k l))) [] (accL 81 3 (kvs (lcut k l))) := by
  have hlen : (kvs l).length = l.length := by simp
  unfold big40 at hl
  refine con_of Tryd.func29 rfl (by kernel_rfl) rfl fun F w0 β0 => ?_
  refine K_tell rfl ?_
  refine go ?_
  refine K_opM rfl rfl (opr_len_rd hT rfl rfl (hrd _)) rfl ?_
  rw [hlen]
  refine go ?_
  refine J_loop (fun q : RI l => [(0, .p s), (1, .p (.str k)), (5, accT 0 .cz (kvs (lcut k (l.take q.i)))), (9, .p (.int .i64 (l.length : Int))), (10, .p (.int .i64 (q.i : Int)))]) (fun _ => []) (fun q => accL 81 3 (kvs (lcut k (l.take q.i)))) (fun q => l.length - q.i) ⟨0, by omega⟩ ⟨rfl, rfl, rfl, rfl, rfl, trivial⟩ rfl rfl (fun q => ?_)
  have hi := q.h
  refine go ?_
  by_cases h : q.i < l.length
  · have hx : l[q.i]? = some l[q.i] := List.getElem?_eq_getElem h
    generalize l[q.i] = x at hx
    have hxk : (kvs l)[((q.i : Nat) : Int).toNat]? = some (kvV x) := kvs_get hx
    have hft := filter_take (fun y => !(y.1 == k)) hx
    have hAl : (lcut k (l.take q.i)).length ≤ l.length := Nat.le_trans (List.length_filter_le _ _) (by simp; omega)
    refine K_condT rfl (decide_eq_true (by omega)) ?_
    refine go ?_
    refine K_op rfl rfl (opr_index hT rfl rfl rfl rfl rfl (hrd _) (by omega) (by rw [hlen]; omega)) rfl ?_
    refine go ?_
    refine K_op rfl rfl (opr_load_el hT rfl rfl (hrd _) hxk rfl rfl) rfl ?_
    refine go ?_
    by_cases hk : x.1 = k
    · have e : lcut k (l.take (q.i + 1)) = lcut k (l.take q.i) := by
        unfold lcut; rw [hft, if_neg (by simp [hk]), List.append_nil]
      refine K_condF rfl (by simp [hk]) ?_
      refine go ?_
      refine J_again ⟨q.i + 1, by omega⟩ (by show l.length - (q.i + 1) < l.length - q.i; omega) ⟨rfl, rfl, by rw [e]; rfl, rfl, congrArg (fun z => TV.p (.int .i64 z)) (by rw [IntWalk.i64_in _ (by omega)]; rfl), trivial⟩ rfl (by rw [e])
    · have e : lcut k (l.take (q.i + 1)) = lcut k (l.take q.i) ++ [x] := by
        unfold lcut; rw [hft, if_pos (by simp [hk])]
      have emap : kvs (lcut k (l.take (q.i + 1))) = kvs (lcut k (l.take q.i)) ++ [kvV x] := by rw [e]; simp
      generalize lcut k (l.take q.i) = A at hAl e emap
      refine K_condT rfl (by simp [hk]) ?_
      refine go ?_
      refine K_opM rfl rfl (opr_mv (accT 0 .cz (kvs A)) (.inl rfl) rfl) rfl ?_
      refine go ?_
      refine K_op rfl rfl (opr_index hT rfl rfl rfl rfl rfl (hrd _) (by omega) (by rw [hlen]; omega)) rfl ?_
      refine K_op rfl rfl (opr_load_el hT rfl rfl (hrd _) hxk rfl rfl) rfl ?_
      refine go ?_
      refine K_opM rfl rfl (opr_app_acc (te := pairI) (L0 := []) (acc := kvs A) (rows := [kvV x]) hT rfl rfl rfl (.inr rfl) rfl rfl (.rd (.ps _)) hbs_ps (kvs_cl [x]) (kvs_size [x]) (by decide) (by decide) (by simp; omega)) rfl ?_
      refine K_opM rfl rfl (opr_mv (accT 0 .cz (kvs A ++ [kvV x])) (.inr rfl) rfl) rfl ?_
      refine go ?_
      refine J_again ⟨q.i + 1, by omega⟩ (by show l.length - (q.i + 1) < l.length - q.i; omega) ⟨rfl, rfl, by rw [emap]; rfl, rfl, congrArg (fun z => TV.p (.int .i64 z)) (by rw [IntWalk.i64_in _ (by omega)]; rfl), trivial⟩ rfl (by rw [emap]; rfl)
  · rw [show q.i = l.length by omega, List.take_length]
    generalize lcut k l = A
    refine K_condF rfl (decide_eq_false (by omega)) ?_
    refine go ?_
    refine K_opM rfl rfl (opr_mv (accT 0 .cz (kvs A)) (.inl rfl) rfl) rfl ?_
    refine K_opM rfl rfl (opr_mv (accT 0 .cz (kvs A)) (.inr rfl) rfl) rfl ?_
    refine go ?_
    exact J_give hT rfl rfl
theorem rcut10_acc (d : AV) (hd : d = .nils ∨ d = .cz) (l : List KV) (k : List UInt8) (hl : l.length ≤ big40) : Con Tryd.prog 29 [R d l, .p (.str k)] [] (accT 0 .cz (kvs (lcut k l))) [] (accL 81 3 (kvs (lcut k l))) :=
  rcut10_rd _ l k (fun _ => accV_rd hd) hl
end Go.Proofs.YtjibchohkeljkaaDoor

/- The reference's Set, as a fold; on rows that rise it is the rising row's. -/
namespace Go.Proofs.YtjibchohkeljkaaDoor
set_option maxRecDepth 20000
open Go.Awp
def stepS (k v : List UInt8) (s : List KV × Bool) (x : KV) : List KV × Bool :=
  let t := if (!s.2 && (Op.bytesLess k x.1 || k == x.1)) = true then (s.1 ++ [(k, v)], true) else s
  (if x.1 = k then t.1 else t.1 ++ [x], t.2)
def endS (k v : List UInt8) (s : List KV × Bool) : List KV := if s.2 = true then s.1 else s.1 ++ [(k, v)]
def rset (k v : List UInt8) (l : List KV) : List KV := endS k v (l.foldl (stepS k v) ([], false))
theorem fold_done (k v : List UInt8) : ∀ (l A : List KV), l.foldl (stepS k v) (A, true) = (A ++ lcut k l, true)
  | [], A => by simp [lcut]
  | x :: r, A => by
    have e : stepS k v (A, true) x = (if x.1 = k then A else A ++ [x], true) := by simp [stepS]
    rw [List.foldl_cons, e, fold_done k v r]
    by_cases h : x.1 = k
    · simp [h, lcut]
    · simp [h, lcut]
theorem fold_new (k v : List UInt8) : ∀ (l A : List KV), Rises l → endS k v (l.foldl (stepS k v) (A, false)) = A ++ lset k v l
  | [], A, _ => by simp [endS, lset]
  | x :: r, A, h => by
    have h' := List.pairwise_cons.1 h
    rw [List.foldl_cons]
    rcases lt_cases k x.1 with hk | hk | hk
    · have hb : Op.bytesLess k x.1 = true := hk
      have e : stepS k v (A, false) x = (A ++ [(k, v)] ++ [x], true) := by
        simp only [stepS, hb, Bool.not_false, Bool.true_and, Bool.true_or, if_true]
        rw [if_neg fun e => lt_ne hk e.symm]
      rw [e, fold_done]
      have hc : lcut k r = r := lcut_none fun y hy => fun e => lt_ne (lt_trans hk (h'.1 y hy)) e.symm
      simp only [endS, lset, if_true]
      rw [if_pos hk, hc]
      simp
    · have e : stepS k v (A, false) x = (A ++ [(k, v)], true) := by
        simp [stepS, ← hk]
      rw [e, fold_done]
      have hc : lcut k r = r := lcut_none fun y hy => by rw [hk]; exact fun e => lt_ne (h'.1 y hy) e.symm
      simp only [endS, lset, if_true]
      rw [if_neg (by rw [← hk]; exact lt_irrefl k), if_pos hk, hc]
      simp
    · have hb : Op.bytesLess k x.1 = false := by
        have := lt_asymm hk
        unfold lt at this
        simpa using this
      have hne : (k == x.1) = false := beq_eq_false_iff_ne.2 fun e => lt_ne hk e.symm
      have e : stepS k v (A, false) x = (A ++ [x], false) := by
        simp only [stepS, hb, hne, Bool.not_false, Bool.true_and, Bool.or_false]
        rw [if_neg (lt_ne hk)]
        rfl
      rw [e, fold_new k v r _ h'.2]
      simp only [lset]
      rw [if_neg (lt_asymm hk), if_neg fun e => lt_ne hk e.symm]
      simp
theorem rset_row {k v : List UInt8} {l : List KV} (h : Rises l) : rset k v l = lset k v l := by
  unfold rset
  rw [fold_new k v l [] h]
  rfl
theorem fold_take {α β : Type} (f : β → α → β) (b : β) {l : List α} {i : Nat} {x : α} (hx : l[i]? = some x) : (l.take (i + 1)).foldl f b = f ((l.take i).foldl f b) x := by
  obtain ⟨h, rfl⟩ := List.getElem?_eq_some_iff.1 hx
  rw [List.take_succ_eq_append_getElem h, List.foldl_append]
  rfl
theorem stepS_len (k v : List UInt8) (s : List KV × Bool) (x : KV) : (stepS k v s x).1.length ≤ s.1.length + 2 := by
  simp only [stepS]
  split <;> split <;> simp
theorem fold_len (k v : List UInt8) : ∀ (l : List KV) (s : List KV × Bool), (l.foldl (stepS k v) s).1.length ≤ s.1.length + 2 * l.length
  | [], s => by simp
  | x :: r, s => by
    have h1 := fold_len k v r (stepS k v s x)
    have h2 := stepS_len k v s x
    rw [List.foldl_cons, List.length_cons]
    omega
end Go.Proofs.YtjibchohkeljkaaDoor

/- The reference of layer 10: Set. -/
-- @D
namespace Go.Proofs.YtjibchohkeljkaaDoor
set_option maxRecDepth 20000
open Go.Awp Tr
set_option maxHeartbeats 8000000 in
theorem rset10_rd (s : AV) (l : List KV) (k v : List UInt8) (hrd : ∀ L, Rd [] L (.p s) (kvs l)) (hl : l.length ≤ big40) : Con Tryd.prog 40 [.p s, .p (.str k), .p (.str v)] [] (accT 0 .cz (kvs (rset k v l))) [] (accL 81 3 (kvs (rset k v l))) := by
  have hlen : (kvs l).length = l.length := by simp
  unfold big40 at hl
  refine con_of Tryd.func40 rfl (by kernel_rfl) rfl fun F w0 β0 => ?_
  refine K_tell rfl ?_
  refine go ?_
  refine K_opM rfl rfl (opr_len_rd hT rfl rfl (hrd _)) rfl ?_
  rw [hlen]
  refine go ?_
  refine J_loop (fun q : RI l => [(0, .p s), (1, .p (.str k)), (2, .p (.str v)), (7, accT 0 .cz (kvs ((l.take q.i).foldl (stepS k v) ([], false)).1)), (8, .p (.bool ((l.take q.i).foldl (stepS k v) ([], false)).2)), (12, .p (.int .i64 (l.length : Int))), (13, .p (.int .i64 (q.i : Int)))]) (fun _ => []) (fun q => accL 81 3 (kvs ((l.take q.i).foldl (stepS k v) ([], false)).1)) (fun q => l.length - q.i) ⟨0, by omega⟩ ⟨rfl, rfl, rfl, rfl, rfl, rfl, rfl, trivial⟩ rfl rfl (fun q => ?_)
  have hi := q.h
  have hAl := fold_len k v (l.take q.i) ([], false)
  rw [List.length_take, Nat.min_eq_left hi] at hAl
  simp only [List.length_nil, Nat.zero_add] at hAl
  refine go ?_
  by_cases h : q.i < l.length
  · have hx : l[q.i]? = some l[q.i] := List.getElem?_eq_getElem h
    generalize l[q.i] = x at hx
    have hxk : (kvs l)[((q.i : Nat) : Int).toNat]? = some (kvV x) := kvs_get hx
    have hft := fold_take (stepS k v) ([], false) hx
    generalize (l.take q.i).foldl (stepS k v) ([], false) = st at hft hAl
    obtain ⟨A, b⟩ := st
    dsimp only at hAl
    refine K_condT rfl (decide_eq_true (by omega)) ?_
    refine go ?_
    refine K_opt rfl rfl rfl need2 (fun _ => opr_index hT rfl rfl rfl rfl rfl (hrd _) (by omega) (by rw [hlen]; omega)) rfl ?_
    refine go ?_
    refine K_opt rfl rfl rfl need1 (fun _ => opr_load_el hT rfl rfl (hrd _) hxk rfl rfl) rfl ?_
    refine go ?_
    refine J_weak [(0, .p s), (1, .p (.str k)), (2, .p (.str v)), (7, accT 0 .cz (kvs A)), (8, .p (.bool b)), (9, .p (.int .i64 (q.i : Int))), (12, .p (.int .i64 (l.length : Int))), (13, .p (.int .i64 (q.i : Int))), (26, .p (.bool (!b && (Op.bytesLess k x.1 || k == x.1))))] ⟨rfl, rfl, rfl, rfl, rfl, rfl, rfl, rfl, rfl, trivial⟩ ?_
    have e1 : ∃ A1 b1, A1.length ≤ 2 * q.i + 1 ∧ (if (!b && (Op.bytesLess k x.1 || k == x.1)) = true then (A ++ [(k, v)], true) else (A, b)) = (A1, b1) := by
      split
      · exact ⟨_, _, by simp; omega, rfl⟩
      · exact ⟨_, _, by omega, rfl⟩
    obtain ⟨A1, b1, hA1, e1⟩ := e1
    have e2 : (l.take (q.i + 1)).foldl (stepS k v) ([], false) = (if x.1 = k then A1 else A1 ++ [x], b1) := by
      rw [hft]; simp only [stepS]; rw [e1]
    refine J_join [(0, .p s), (1, .p (.str k)), (2, .p (.str v)), (7, accT 0 .cz (kvs A1)), (8, .p (.bool b1)), (9, .p (.int .i64 (q.i : Int))), (12, .p (.int .i64 (l.length : Int))), (13, .p (.int .i64 (q.i : Int)))] [] (accL 81 3 (kvs A1)) ?_ ?_
    · by_cases hb : (!b && (Op.bytesLess k x.1 || k == x.1)) = true
      · rw [if_pos hb] at e1
        obtain ⟨rfl, rfl⟩ := Prod.mk.inj e1
        refine K_condT rfl hb ?_
        refine go ?_
        refine K_opM rfl rfl (opr_mv (accT 0 .cz (kvs A)) (.inl rfl) rfl) rfl ?_
        refine go ?_
        refine K_opM rfl rfl (opr_app_acc (te := pairI) (L0 := []) (acc := kvs A) (rows := [kvV (k, v)]) hT rfl rfl rfl (.inr rfl) rfl rfl (.rd (.ps _)) hbs_ps (kvs_cl [(k, v)]) (kvs_size [(k, v)]) (by decide) (by decide) (by simp; omega)) rfl ?_
        have emap : kvs (A ++ [(k, v)]) = kvs A ++ [kvV (k, v)] := by simp
        refine K_opM rfl rfl (opr_mv (accT 0 .cz (kvs A ++ [kvV (k, v)])) (.inr rfl) rfl) rfl ?_
        refine go ?_
        rw [emap]
        exact J_at ⟨rfl, rfl, rfl, rfl, rfl, rfl, rfl, rfl, trivial⟩ rfl rfl
      · rw [if_neg hb] at e1
        obtain ⟨rfl, rfl⟩ := Prod.mk.inj e1
        refine K_condF rfl (by simpa using hb) ?_
        refine go ?_
        exact J_at ⟨rfl, rfl, rfl, rfl, rfl, rfl, rfl, rfl, trivial⟩ rfl rfl
    refine go ?_
    refine K_op rfl rfl (opr_index hT rfl rfl rfl rfl rfl (hrd _) (by omega) (by rw [hlen]; omega)) rfl ?_
    refine go ?_
    refine K_op rfl rfl (opr_load_el hT rfl rfl (hrd _) hxk rfl rfl) rfl ?_
    refine go ?_
    by_cases hk : x.1 = k
    · rw [if_pos hk] at e2
      refine K_condF rfl (by simp [hk]) ?_
      refine go ?_
      refine J_again ⟨q.i + 1, by omega⟩ (by show l.length - (q.i + 1) < l.length - q.i; omega) ⟨rfl, rfl, rfl, by rw [e2]; rfl, by rw [e2]; rfl, rfl, congrArg (fun z => TV.p (.int .i64 z)) (by rw [IntWalk.i64_in _ (by omega)]; rfl), trivial⟩ rfl (by rw [e2])
    · rw [if_neg hk] at e2
      have emap : kvs (A1 ++ [x]) = kvs A1 ++ [kvV x] := by simp
      refine K_condT rfl (by simp [hk]) ?_
      refine go ?_
      refine K_opM rfl rfl (opr_mv (accT 0 .cz (kvs A1)) (.inl rfl) rfl) rfl ?_
      refine go ?_
      refine K_op rfl rfl (opr_index hT rfl rfl rfl rfl rfl (hrd _) (by omega) (by rw [hlen]; omega)) rfl ?_
      refine K_op rfl rfl (opr_load_el hT rfl rfl (hrd _) hxk rfl rfl) rfl ?_
      refine go ?_
      refine K_opM rfl rfl (opr_app_acc (te := pairI) (L0 := []) (acc := kvs A1) (rows := [kvV x]) hT rfl rfl rfl (.inr rfl) rfl rfl (.rd (.ps _)) hbs_ps (kvs_cl [x]) (kvs_size [x]) (by decide) (by decide) (by simp; omega)) rfl ?_
      refine K_opM rfl rfl (opr_mv (accT 0 .cz (kvs A1 ++ [kvV x])) (.inr rfl) rfl) rfl ?_
      refine go ?_
      refine J_again ⟨q.i + 1, by omega⟩ (by show l.length - (q.i + 1) < l.length - q.i; omega) ⟨rfl, rfl, rfl, by rw [e2, emap]; rfl, by rw [e2]; rfl, rfl, congrArg (fun z => TV.p (.int .i64 z)) (by rw [IntWalk.i64_in _ (by omega)]; rfl), trivial⟩ rfl (by rw [e2, emap]; rfl)
  · have hqi : q.i = l.length := by omega
    have er : rset k v l = endS k v ((l.take q.i).foldl (stepS k v) ([], false)) := by rw [hqi, List.take_length]; rfl
    rw [er]
    generalize (l.take q.i).foldl (stepS k v) ([], false) = st at hAl
    obtain ⟨A, b⟩ := st
    dsimp only at hAl
    refine K_condF rfl (decide_eq_false (by omega)) ?_
    refine go ?_
    cases b
    · refine K_condT rfl rfl ?_
      refine go ?_
      refine K_opM rfl rfl (opr_mv (accT 0 .cz (kvs A)) (.inl rfl) rfl) rfl ?_
      refine go ?_
      refine K_opM rfl rfl (opr_app_acc (te := pairI) (L0 := []) (acc := kvs A) (rows := [kvV (k, v)]) hT rfl rfl rfl (.inr rfl) rfl rfl (.rd (.ps _)) hbs_ps (kvs_cl [(k, v)]) (kvs_size [(k, v)]) (by decide) (by decide) (by simp; omega)) rfl ?_
      have emap : kvs (endS k v (A, false)) = kvs A ++ [kvV (k, v)] := by simp [endS]
      rw [emap]
      refine K_opM rfl rfl (opr_mv (accT 0 .cz (kvs A ++ [kvV (k, v)])) (.inr rfl) rfl) rfl ?_
      refine go ?_
      refine K_opM rfl rfl (opr_mv (accT 0 .cz (kvs A ++ [kvV (k, v)])) (.inl rfl) rfl) rfl ?_
      refine K_opM rfl rfl (opr_mv (accT 0 .cz (kvs A ++ [kvV (k, v)])) (.inr rfl) rfl) rfl ?_
      refine go ?_
      exact J_give hT rfl rfl
    · have emap : kvs (endS k v (A, true)) = kvs A := by simp [endS]
      rw [emap]
      refine K_condF rfl rfl ?_
      refine go ?_
      refine K_opM rfl rfl (opr_mv (accT 0 .cz (kvs A)) (.inl rfl) rfl) rfl ?_
      refine K_opM rfl rfl (opr_mv (accT 0 .cz (kvs A)) (.inr rfl) rfl) rfl ?_
      refine go ?_
      exact J_give hT rfl rfl
theorem rset10_acc (d : AV) (hd : d = .nils ∨ d = .cz) (l : List KV) (k v : List UInt8) (hl : l.length ≤ big40) : Con Tryd.prog 40 [R d l, .p (.str k), .p (.str v)] [] (accT 0 .cz (kvs (rset k v l))) [] (accL 81 3 (kvs (rset k v l))) :=
  rset10_rd _ l k v (fun _ => accV_rd hd) hl
end Go.Proofs.YtjibchohkeljkaaDoor

/- The reference of layer 10: Range, Rank. -/
-- @D
namespace Go.Proofs.YtjibchohkeljkaaDoor
set_option maxRecDepth 20000
open Go.Awp Tr
end Go.Proofs.YtjibchohkeljkaaDoor

/- keys.behind, Entries, Blocks. -/
namespace Go.Proofs.YtjibchohkeljkaaDoor
set_option maxRecDepth 20000
open Go.Awp
structure BehI (l : List UInt8) where
  i : Nat
  h : i < l.length
  d : l.drop (i + 1) = List.replicate (l.length - (i + 1)) 255
def behE (l : List UInt8) (s : BehI l) : Env := [(3, .sl (.l 0) l.length 0 l.length), (4, .p (.int .i64 (s.i : Int)))]
def behR (l : List UInt8) (s : BehI l) : List UInt8 := l.take (s.i + 1) ++ List.replicate (l.length - (s.i + 1)) 0
theorem behR_len (l : List UInt8) (s : BehI l) : (behR l s).length = l.length := by
  have := s.h
  simp [behR]; omega
theorem behR_get (l : List UInt8) (s : BehI l) : (behR l s)[s.i]? = some (l[s.i]'s.h) := by
  have := s.h
  unfold behR
  rw [List.getElem?_append_left (by simp; omega), List.getElem?_take, if_pos (by omega), List.getElem?_eq_getElem]
theorem behR_set (l : List UInt8) (s : BehI l) (b : UInt8) : (behR l s).set s.i b = l.take s.i ++ b :: List.replicate (l.length - (s.i + 1)) 0 := by
  have := s.h
  unfold behR
  rw [List.take_succ_eq_append_getElem s.h, List.append_assoc, List.set_append_right _ _ (by simp; omega)]
  simp [Nat.min_eq_left (Nat.le_of_lt this)]
theorem wrap_u8 (b : UInt8) : IntKind.u8.wrap ((b.toNat : Int) + 1) = ((b + 1).toNat : Int) := by
  have h := b.toNat_lt
  simp [IntKind.wrap, IntKind.bits, IntKind.signed, UInt8.toNat_add]
set_option maxHeartbeats 4000000 in
theorem behind_spec (l : List UInt8) (hl : l.length ≤ 140737488355328) (hb : beh l ≠ []) : Con Tryd.prog 74 [.p (.str l)] [] (.p (.str (beh l))) [] [] := by
  have hpos : 0 < l.length := by
    cases l with
    | nil => simp [beh] at hb
    | cons b l => simp
  refine con_of Tryd.func74 rfl (by kernel_rfl) rfl fun F w0 β0 => ?_
  refine K_tell rfl ?_
  refine g0 ?_
  refine K_op rfl rfl (opr_bytes_own hT rfl rfl rfl rfl rfl hl) rfl ?_
  refine go ?_
  refine K_op rfl rfl (opr_len_rd hT rfl rfl (Rd.full rfl (bv_length l))) rfl ?_
  rw [bv_length]
  refine go ?_
  have e4 : IntKind.i64.wrap ((l.length : Int) - 1) = ((l.length - 1 : Nat) : Int) := by rw [IntWalk.i64_in _ (by omega)]; omega
  refine J_loop (behE l) (fun _ => []) (fun s => [.arr 5 false 1 (bv (behR l s))]) (fun s => s.i) ⟨l.length - 1, by omega, ?_⟩ ⟨rfl, congrArg (fun z => TV.p (.int .i64 z)) e4, trivial⟩ rfl ?_ (fun s => ?_)
  · rw [List.drop_of_length_le (by omega)]; simp [show l.length - (l.length - 1 + 1) = 0 by omega]
  · show [AObj.arr _ false 1 (bv (l.take (l.length - 1 + 1) ++ _))] = _
    simp [show l.length - (l.length - 1 + 1) = 0 by omega, List.take_of_length_le (show l.length ≤ l.length - 1 + 1 by omega)]
  have hs := s.h
  have hlen : (bv (behR l s)).length = l.length := by rw [bv_length, behR_len]
  have hg : (bv (behR l s))[s.i]? = some (.int .u8 ((l[s.i]'hs).toNat : Int)) := by rw [bv_get, behR_get]; rfl
  have hlt : ((s.i : Nat) : Int) < ((bv (behR l s)).length : Int) := by rw [hlen]; omega
  have hset : (bv (behR l s)).set (0 + s.i) (.int .u8 (IntKind.u8.wrap (((l[s.i]'hs).toNat : Int) + 1))) = bv (l.take s.i ++ (l[s.i]'hs + 1) :: List.replicate (l.length - (s.i + 1)) 0) := by
    rw [wrap_u8, Nat.zero_add, bv_set, behR_set]
  have hlen2 : (bv (l.take s.i ++ (l[s.i]'hs + 1) :: List.replicate (l.length - (s.i + 1)) 0)).length = l.length := by rw [bv_length]; simp; omega
  have hg2 : (bv (l.take s.i ++ (l[s.i]'hs + 1) :: List.replicate (l.length - (s.i + 1)) 0))[s.i]? = some (.int .u8 ((l[s.i]'hs + 1).toNat : Int)) := by
    rw [bv_get, List.getElem?_append_right (by simp; omega)]
    simp [Nat.min_eq_left (Nat.le_of_lt hs)]
  have hlt2 : ((s.i : Nat) : Int) < ((bv (l.take s.i ++ (l[s.i]'hs + 1) :: List.replicate (l.length - (s.i + 1)) 0)).length : Int) := by rw [hlen2]; omega
  unfold behE
  refine go ?_
  refine K_op rfl rfl (opr_index hT rfl rfl rfl rfl rfl (Rd.full rfl hlen) (by omega) hlt) rfl ?_
  refine K_op rfl rfl (opr_load_el hT rfl rfl (Rd.full rfl hlen) (by rw [Int.toNat_natCast]; exact hg) rfl rfl) rfl ?_
  refine go ?_
  refine K_op rfl rfl (opr_index hT rfl rfl rfl rfl rfl (Rd.full rfl hlen) (by omega) hlt) rfl ?_
  refine K_op rfl rfl (opr_storeEl1 hT rfl rfl rfl hlen rfl rfl rfl rfl) rfl ?_
  refine go ?_
  rw [Int.toNat_natCast, hset]
  refine K_op rfl rfl (opr_index hT rfl rfl rfl rfl rfl (Rd.full rfl hlen2) (by omega) hlt2) rfl ?_
  refine K_op rfl rfl (opr_load_el hT rfl rfl (Rd.full rfl hlen2) (by rw [Int.toNat_natCast]; exact hg2) rfl rfl) rfl ?_
  refine go ?_
  by_cases h255 : l[s.i]'hs = 255
  · have h0 : l[s.i]'hs + 1 = 0 := by rw [h255]; rfl
    have hip : 0 < s.i := by
      rcases Nat.eq_zero_or_pos s.i with h | h
      · exfalso
        refine hb ?_
        have hd := s.d
        have e : l = List.replicate l.length 255 := by
          have : l = l[s.i]'hs :: l.drop (s.i + 1) := by
            rw [← List.drop_eq_getElem_cons hs, h]; rfl
          rw [hd, h255, h] at this
          rw [this]
          simp [List.replicate_succ]
        rw [e]
        exact beh_rep _
      · exact h
    rw [h0]
    refine J_false 22 rfl rfl ?_
    refine K_condF rfl rfl ?_
    refine go ?_
    refine J_again ⟨s.i - 1, by omega, ?_⟩ (show s.i - 1 < s.i by omega) ⟨rfl, congrArg (fun z => TV.p (.int .i64 z)) ?_, trivial⟩ rfl ?_
    · rw [show s.i - 1 + 1 = s.i by omega, List.drop_eq_getElem_cons hs, s.d, h255, ← List.replicate_succ]
      congr 1
      omega
    · show IntKind.i64.wrap ((s.i : Int) - 1) = ((s.i - 1 : Nat) : Int)
      rw [IntWalk.i64_in _ (by omega)]; omega
    · show [AObj.arr _ _ _ (bv _)] = [AObj.arr _ _ _ (bv _)]
      congr 3
      show l.take (s.i - 1 + 1) ++ List.replicate (l.length - (s.i - 1 + 1)) 0 = _
      rw [show s.i - 1 + 1 = s.i by omega, show l.length - s.i = l.length - (s.i + 1) + 1 by omega, List.replicate_succ]
  · have hne : ((l[s.i]'hs + 1).toNat : Int) ≠ 0 := by
      have hlt := (l[s.i]'hs).toNat_lt
      have h2 : (l[s.i]'hs).toNat ≠ 255 := fun e => h255 (UInt8.toNat_inj.1 e)
      rw [UInt8.toNat_add]
      have : (1 : UInt8).toNat = 1 := rfl
      omega
    have hbe : beh l = l.take s.i ++ [l[s.i]'hs + 1] := by
      have e : l = l.take s.i ++ l[s.i]'hs :: List.replicate (l.length - (s.i + 1)) 255 := by
        rw [← s.d, ← List.drop_eq_getElem_cons hs, List.take_append_drop]
      have := beh_at (l.take s.i) (l[s.i]'hs) (l.length - (s.i + 1)) h255
      rwa [← e] at this
    have ecut : ((bv (l.take s.i ++ (l[s.i]'hs + 1) :: List.replicate (l.length - (s.i + 1)) 0)).drop 0).take (s.i + 1 - 0) = bv (beh l) := by
      rw [hbe, List.drop_zero, bv_take]
      congr 1
      rw [List.take_append, List.take_of_length_le (by simp; omega)]
      simp [Nat.min_eq_left (Nat.le_of_lt hs)]
    have e25 : IntKind.i64.wrap ((s.i : Int) + 1) = ((s.i + 1 : Nat) : Int) := by rw [IntWalk.i64_in _ (by omega)]; omega
    refine J_true 22 rfl (by simpa using hne) ?_
    refine K_condT rfl rfl ?_
    refine go ?_
    refine J_val 25 _ rfl (congrArg (fun z => TV.p (.int .i64 z)) e25) ?_
    refine K_op rfl rfl (opr_cut hT rfl rfl rfl rfl (Rd.full rfl hlen2) rfl rfl (by decide) (by omega) (by rw [hlen2]; omega) (bv_size _)) rfl ?_
    have hrd : Rd [] [AObj.arr 5 false 1 (bv (l.take s.i ++ (l[s.i]'hs + 1) :: List.replicate (l.length - (s.i + 1)) 0))] (.sl (.l 0) l.length (0 + Int.toNat 0) ((((s.i + 1 : Nat)) : Int).toNat - Int.toNat 0)) (bv (beh l)) := by
      rw [← ecut]
      exact Rd.sl rfl hlen2
    refine K_op rfl rfl (opr_to_str (l := beh l) hT rfl rfl rfl rfl rfl hrd) rfl ?_
    refine go ?_
    exact J_done hT rfl rfl rfl
theorem beh_key (k n : Int) (hk : 0 ≤ k ∧ k < 255) : beh (keyH k n) ≠ [] := by
  have hb : UInt8.ofNat k.toNat ≠ 255 := fun e => by
    have := congrArg UInt8.toNat e
    simp at this
    omega
  unfold keyH
  simp only [beh]
  split
  · rw [if_neg hb]; simp
  · simp
theorem entries_spec (n : Int) (hn : 0 ≤ n ∧ n ≤ 4294967295) : Con Tryd.prog 49 [.p (.int .u32 n)] [] (.tup [.p (.str (keyH 69 n)), .p (.str (beh (keyH 69 n)))]) [] [] := by
  have c1 := kof_spec 69 n (by decide) hn []
  have c2 := behind_spec (keyH 69 n) (by rw [keyH_len]; decide) (beh_key 69 n (by decide))
  refine con_of Tryd.func49 rfl (by kernel_rfl) rfl fun F w0 β0 => ?_
  refine K_tell rfl ?_
  refine go ?_
  refine K_op rfl rfl (opr_callP rfl rfl (c1) rfl rfl rfl rfl) rfl ?_
  refine K_op rfl rfl (opr_to_str (l := keyH 69 n) hT rfl rfl rfl rfl rfl (.ps _)) rfl ?_
  refine go ?_
  refine K_op rfl rfl (opr_callP rfl rfl (c2) rfl rfl rfl rfl) rfl ?_
  refine go ?_
  exact J_done hT rfl rfl rfl
def blocksV (n from_ : Int) : List UInt8 := if from_ > 65535 then beh (keyH 68 n) else blockK n (max from_ 0)
theorem mm_max (a : Int) : mmA .max a 0 = max a 0 := by unfold mmA; simp only []; split <;> omega
end Go.Proofs.YtjibchohkeljkaaDoor

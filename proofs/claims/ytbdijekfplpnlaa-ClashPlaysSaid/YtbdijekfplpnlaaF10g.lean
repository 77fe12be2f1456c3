/- tree: At, Rank. -/
import Derived.Test.YtbdijekfplpnlaaGo
import Derived.Test.YtbdijekfplpnlaaF10f
-- @D
namespace Go.Proofs.Ytbdijekfplpnlaa
set_option maxRecDepth 20000
open Go.Awp Tr
def atZ : Tr → Int → Option KV
  | .nil, _ => none
  | .node k v l r, i => if i < (l.size : Int) then atZ l i else if i > (l.size : Int) then atZ r (i - ((l.size : Int) + 1)) else some (k, v)
theorem atZ_row : ∀ (t : Tr) (i : Int), atZ t i = if i < 0 then none else t.row[i.toNat]?
  | .nil, i => by simp [atZ, Tr.row]
  | .node k v l r, i => by
    have hl := row_len l
    simp only [atZ, Tr.row]
    by_cases h1 : i < (l.size : Int)
    · rw [if_pos h1, atZ_row l i]
      by_cases h0 : i < 0
      · rw [if_pos h0, if_pos h0]
      · rw [if_neg h0, if_neg h0, List.getElem?_append_left (by omega)]
    · rw [if_neg h1]
      by_cases h2 : i > (l.size : Int)
      · rw [if_pos h2, atZ_row r, if_neg (by omega), if_neg (by omega), List.getElem?_append_right (by omega), show i.toNat - l.row.length = (i - ((l.size : Int) + 1)).toNat + 1 by omega]
        simp
      · rw [if_neg h2, if_neg (by omega), List.getElem?_append_right (by omega), show i.toNat - l.row.length = 0 by omega]
        rfl
def atT : Option KV → TV
  | some x => .tup [.agg [.p (.str x.1), .p (.str x.2), .p (.bool false)], .p (.bool true)]
  | none => .tup [.agg [.p (.str []), .p (.str []), .p (.bool false)], .p (.bool false)]
structure AtJ (g : Option KV) where
  t : Tr
  i : Int
  h : atZ t i = g
  b : t.size ≤ big40
  c : -9223372036854775808 ≤ i ∧ i ≤ 9223372036854775807
set_option maxHeartbeats 4000000 in
theorem tat_spec (t : Tr) (i : Int) (ht : t.size ≤ big40) (hi : -9223372036854775808 ≤ i ∧ i ≤ 9223372036854775807) : Con Try.prog 60 [W t, .p (.int .i64 i)] [] (atT (atZ t i)) [] [] := by
  generalize hg : atZ t i = g
  refine con_of Try.func60 rfl (by kernel_rfl) rfl fun F w0 β0 => ?_
  refine K_tell rfl ?_
  refine go ?_
  refine J_loop (fun s : AtJ g => [(0, W s.t), (1, .p (.int .i64 s.i)), (4, .ad (.l 0) 0)]) (fun _ => []) (fun _ => [.box 99 [.p (.str []), .p (.str []), .p (.bool false)]]) (fun s => s.t.size) ⟨t, i, hg, ht, hi⟩ ⟨rfl, rfl, rfl, trivial⟩ rfl rfl (fun s => ?_)
  obtain ⟨t', i', hz, hb, hc⟩ := s
  clear hg ht hi t i
  cases t' with
  | nil =>
    obtain rfl := hz
    refine go ?_
    exact J_done hT rfl rfl rfl
  | node k v l r =>
    simp only [Tr.size] at hb
    have hb' := hb
    unfold big40 at hb'
    have c1 := tlen_spec l
    refine go ?_
    refine K_op rfl rfl (opr_callP rfl rfl (c1) rfl rfl rfl rfl) rfl ?_
    refine go ?_
    simp only [atZ] at hz
    by_cases h1 : i' < (l.size : Int)
    · rw [if_pos h1] at hz
      refine K_condT rfl (decide_eq_true h1) ?_
      refine go ?_
      refine J_again ⟨l, i', hz, by omega, hc⟩ (by show l.size < 1 + l.size + r.size; omega) ⟨rfl, rfl, rfl, trivial⟩ rfl rfl
    · rw [if_neg h1] at hz
      refine K_condF rfl (decide_eq_false h1) ?_
      refine go ?_
      by_cases h2 : i' > (l.size : Int)
      · rw [if_pos h2] at hz
        refine K_condT rfl (decide_eq_true h2) ?_
        refine go ?_
        refine J_again ⟨r, i' - ((l.size : Int) + 1), hz, by omega, by omega⟩ (by show r.size < 1 + l.size + r.size; omega) ⟨rfl, congrArg (fun z => TV.p (.int .i64 z)) (by dsimp only; rw [IntWalk.i64_in ((l.size : Int) + 1) (by omega), IntWalk.i64_in _ (by omega)]), rfl, trivial⟩ rfl rfl
      · rw [if_neg h2] at hz
        obtain rfl := hz
        refine K_condF rfl (decide_eq_false h2) ?_
        refine J_seq ?_
        refine J_draw [[.box 99 [.p (.str []), .p (.str []), .p (.bool false)]], [.box 99 [.p (.str k), .p (.str v), .p (.bool false)]]] [9] (by kernel_rfl) (by kernel_rfl) rfl ?_
        refine gd ?_
        refine T_st rfl rfl rfl rfl (stepN_ok hT rfl) rfl ?_
        refine gd ?_
        refine J_then ?_
        refine K_tell rfl ?_
        refine go ?_
        exact J_done hT rfl rfl rfl
structure RankJ (k : List UInt8) (g : Nat) where
  t : Tr
  n : Nat
  h : n + t.rank k = g
theorem rank_le (k : List UInt8) : ∀ (t : Tr), t.rank k ≤ t.size
  | .nil => Nat.le_refl _
  | .node k0 v l r => by
    have h1 := rank_le k l
    have h2 := rank_le k r
    simp only [Tr.rank, Tr.size]
    split <;> omega
set_option maxHeartbeats 4000000 in
theorem trank_spec (k : List UInt8) (t : Tr) (ht : t.size ≤ big40) : Con Try.prog 30 [W t, .p (.str k)] [] (.p (.int .i64 (t.rank k : Int))) [] [] := by
  have hle := rank_le k t
  generalize hg : t.rank k = g at hle
  have hgb : g ≤ 1099511627776 := by unfold big40 at ht; omega
  refine con_of Try.func30 rfl (by kernel_rfl) rfl fun F w0 β0 => ?_
  refine K_tell rfl ?_
  refine go ?_
  refine J_loop (fun s : RankJ k g => [(0, W s.t), (1, .p (.str k)), (5, .p (.int .i64 (s.n : Int)))]) (fun _ => []) (fun _ => []) (fun s => s.t.size) ⟨t, 0, by omega⟩ ⟨rfl, rfl, rfl, trivial⟩ rfl rfl (fun s => ?_)
  obtain ⟨t', n, hz⟩ := s
  clear hg ht hle t
  cases t' with
  | nil =>
    obtain rfl : n = g := hz
    refine go ?_
    exact J_done hT rfl rfl rfl
  | node k0 v l r =>
    have c1 := tlen_spec l
    simp only [Tr.rank] at hz
    refine go ?_
    have hcond : (Op.bytesLess k k0 || k == k0) = !Op.bytesLess k0 k := leB k k0
    by_cases h1 : lt k0 k
    · rw [if_pos h1] at hz
      refine K_condF rfl (by rw [hcond]; unfold lt at h1; rw [h1]; rfl) ?_
      refine go ?_
      refine K_op rfl rfl (opr_callP rfl rfl (c1) rfl rfl rfl rfl) rfl ?_
      refine go ?_
      refine J_again ⟨r, n + (l.size + 1), by omega⟩ (by show r.size < 1 + l.size + r.size; omega) ⟨rfl, rfl, congrArg (fun z => TV.p (.int .i64 z)) (by dsimp only; rw [IntWalk.i64_in ((l.size : Int) + 1) (by omega), IntWalk.i64_in _ (by omega)]; omega), trivial⟩ rfl rfl
    · rw [if_neg h1] at hz
      refine K_condT rfl (by rw [hcond]; unfold lt at h1; simpa using h1) ?_
      refine go ?_
      refine J_again ⟨l, n, hz⟩ (by show l.size < 1 + l.size + r.size; omega) ⟨rfl, rfl, rfl, trivial⟩ rfl rfl
end Go.Proofs.Ytbdijekfplpnlaa

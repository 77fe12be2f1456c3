/- The reference of layer 14: Shown, written, Get. -/
import Derived.Test.YtbdijekfplpnlaaGo
import Derived.Test.YtbdijekfplpnlaaF14f
import Derived.Test.YtbdijekfplpnlaaTr7
-- @D
namespace Go.Proofs.Ytbdijekfplpnlaa
set_option maxRecDepth 20000
open Go.Awp Tr
def wrs (l : List KV) : List AV := l.map fun x => pwV (wr x)
/-- The document's view: base, writes, what was read. -/
abbrev mT (b w r : List KV) (g : List Rg) : TV := .agg [.p (.ps (kvs b)), .p (.ps (wrs w)), .p (.ps (ksV r)), .p (.ps (g.map rgV))]
/-- The same, as it is handed on. -/
abbrev mA (b w r : List KV) (g : List Rg) : TV := .p (.agg [.ps (kvs b), .ps (wrs w), .ps (ksV r), .ps (g.map rgV)])
abbrev mC (b w r : List KV) (g : List Rg) : List TV := [.p (.ps (kvs b)), .p (.ps (wrs w)), .p (.ps (ksV r)), .p (.ps (g.map rgV))]
def stepW (l : List KV) (w : KV) : List KV := if w.2 = [] then lcut w.1 l else lset w.1 (w.2.drop 1) l
/-- The base with all writes done. -/
def shownL (b w : List KV) : List KV := w.foldl stepW b
theorem stepW_ok' {l : List KV} (w : KV) (h : Rises l) : Rises (stepW l w) ∧ (stepW l w).length ≤ l.length + 1 := by
  unfold stepW
  split
  · exact ⟨lcut_rises h, Nat.le_succ_of_le (List.length_filter_le _ _)⟩
  · refine ⟨lset_rises h, ?_⟩
    rw [lset_length h]; split <;> omega
theorem shownL_ok (w : List KV) : ∀ {b : List KV}, Rises b → Rises (shownL b w) ∧ (shownL b w).length ≤ b.length + w.length := by
  induction w with
  | nil => intro b h; exact ⟨h, Nat.le_refl _⟩
  | cons x r ih =>
    intro b h
    obtain ⟨h1, h2⟩ := stepW_ok' x h
    obtain ⟨a, c⟩ := ih h1
    refine ⟨a, ?_⟩
    show (shownL (stepW b x) r).length ≤ _
    rw [List.length_cons]; omega
set_option maxHeartbeats 8000000 in
theorem rshown_spec (b w r : List KV) (g : List Rg) (hb : Rises b) (hbl : b.length ≤ 1000000) (hwl : w.length ≤ 1000000) : Con Try.prog 82 [mA b w r g] [] (.p (.ps (kvs (shownL b w)))) [] [] := by
  have hlw : (wrs w).length = w.length := by simp [wrs]
  refine con_of Try.func82 rfl (by kernel_rfl) rfl fun F w0 β0 => ?_
  refine K_tell rfl ?_
  refine go ?_
  refine J_loop (fun q : Ix w.length => [(1, .ad (.l 0) 0), (3, .p (.ps (kvs (shownL b (w.take q.i))))), (10, .p (.int .i64 (w.length : Int))), (11, .p (.int .i64 (q.i : Int)))]) (fun _ => []) (fun _ => [.box 66 (mC b w r g)]) (fun q => w.length - q.i) ⟨0, by omega⟩ ⟨rfl, rfl, by rw [← hlw]; rfl, rfl, trivial⟩ rfl rfl (fun q => ?_)
  have hi := q.h
  refine go ?_
  by_cases h : q.i < w.length
  · have hx : w[q.i]? = some w[q.i] := List.getElem?_eq_getElem h
    generalize w[q.i] = x at hx
    have hxk : (wrs w)[((q.i : Nat) : Int).toNat]? = some (pwV (wr x)) := by rw [Int.toNat_natCast, wrs, List.getElem?_map, hx]; rfl
    have hft := fold_take stepW b hx
    obtain ⟨h1, h2⟩ := shownL_ok (w.take q.i) hb
    change shownL b (w.take (q.i + 1)) = stepW (shownL b (w.take q.i)) x at hft
    simp only [List.length_take] at h2
    generalize shownL b (w.take q.i) = l at hft h1 h2
    have hll : l.length ≤ big40 := by unfold big40; omega
    refine K_condT rfl (decide_eq_true (by omega)) ?_
    refine go ?_
    refine K_op rfl rfl (opr_index hT rfl rfl rfl rfl rfl (.ps _) (by omega) (by rw [hlw]; omega)) rfl ?_
    refine go ?_
    refine K_op rfl rfl (opr_load_el hT rfl rfl (.ps _) hxk rfl rfl) rfl ?_
    refine go ?_
    by_cases hg : x.2 = []
    · have e : stepW l x = lcut x.1 l := if_pos hg
      have c1 := (rcut10_rd (.ps (kvs l)) l x.1 (fun L => .ps _) hll).toPs (.inr rfl)
      rw [← e] at c1
      refine K_condT rfl (by show (x.2 == []) = true; simp [hg]) ?_
      refine go ?_
      refine K_op rfl rfl (opr_callP rfl rfl (c1) rfl rfl rfl rfl) rfl ?_
      refine go ?_
      refine J_take 1 [(1, .ad (.l 0) 0), (3, .p (.ps (kvs (stepW l x)))), (10, .p (.int .i64 (w.length : Int))), (11, .p (.int .i64 (IntKind.i64.wrap ((q.i : Int) + 1))))] ⟨rfl, rfl, rfl, rfl, trivial⟩ rfl rfl ?_
      refine J_again ⟨q.i + 1, by omega⟩ (by show w.length - (q.i + 1) < w.length - q.i; omega) ⟨rfl, by rw [hft]; rfl, rfl, congrArg (fun z => TV.p (.int .i64 z)) (by rw [IntWalk.i64_in _ (by omega)]; rfl), trivial⟩ rfl rfl
    · have e : stepW l x = lset x.1 (x.2.drop 1) l := if_neg hg
      have c1 := (rset10_rd (.ps (kvs l)) l x.1 (x.2.drop 1) (fun L => .ps _) hll).toPs (.inr rfl)
      rw [rset_row h1, ← e] at c1
      refine K_condF rfl (by show (x.2 == []) = false; simp [hg]) ?_
      refine go ?_
      refine K_op rfl rfl (opr_callP rfl rfl (c1) rfl rfl rfl rfl) rfl ?_
      refine go ?_
      refine J_take 1 [(1, .ad (.l 0) 0), (3, .p (.ps (kvs (stepW l x)))), (10, .p (.int .i64 (w.length : Int))), (11, .p (.int .i64 (IntKind.i64.wrap ((q.i : Int) + 1))))] ⟨rfl, rfl, rfl, rfl, trivial⟩ rfl rfl ?_
      refine J_again ⟨q.i + 1, by omega⟩ (by show w.length - (q.i + 1) < w.length - q.i; omega) ⟨rfl, by rw [hft]; rfl, rfl, congrArg (fun z => TV.p (.int .i64 z)) (by rw [IntWalk.i64_in _ (by omega)]; rfl), trivial⟩ rfl rfl
  rw [List.take_of_length_le (by omega)]
  refine K_condF rfl (decide_eq_false (by omega)) ?_
  refine go ?_
  exact J_done hT rfl rfl rfl
structure WrI (k : List UInt8) (w : List KV) where
  i : Nat
  h : i ≤ w.length
  e : lget k (w.drop i) = lget k w
set_option maxHeartbeats 4000000 in
theorem rwritten_spec (b w r : List KV) (g : List Rg) (k : List UInt8) (hwl : w.length ≤ 1000000) : Con Try.prog 83 [mA b w r g, .p (.str k)] [] (.p (.bool (lget k w).isSome)) [] [] := by
  have hlw : (wrs w).length = w.length := by simp [wrs]
  refine con_of Try.func83 rfl (by kernel_rfl) rfl fun F w0 β0 => ?_
  refine K_tell rfl ?_
  refine go ?_
  refine J_loop (fun q : WrI k w => [(1, .p (.str k)), (2, .ad (.l 0) 0), (8, .p (.int .i64 (w.length : Int))), (9, .p (.int .i64 (q.i : Int)))]) (fun _ => []) (fun _ => [.box 66 (mC b w r g)]) (fun q => w.length - q.i) ⟨0, by omega, rfl⟩ ⟨rfl, rfl, by rw [← hlw]; rfl, rfl, trivial⟩ rfl rfl (fun q => ?_)
  have hi := q.h
  have he := q.e
  refine go ?_
  by_cases h : q.i < w.length
  · have hx : w[q.i]? = some w[q.i] := List.getElem?_eq_getElem h
    have hdr : w.drop q.i = w[q.i] :: w.drop (q.i + 1) := List.drop_eq_getElem_cons h
    rw [hdr] at he
    generalize w[q.i] = x at hx he
    have hxk : (wrs w)[((q.i : Nat) : Int).toNat]? = some (pwV (wr x)) := by rw [Int.toNat_natCast, wrs, List.getElem?_map, hx]; rfl
    refine K_condT rfl (decide_eq_true (by omega)) ?_
    refine go ?_
    refine K_op rfl rfl (opr_index hT rfl rfl rfl rfl rfl (.ps _) (by omega) (by rw [hlw]; omega)) rfl ?_
    refine go ?_
    refine K_op rfl rfl (opr_load_el hT rfl rfl (.ps _) hxk rfl rfl) rfl ?_
    refine go ?_
    by_cases hk : x.1 = k
    · rw [← he, lget, if_pos hk]
      refine K_condT rfl (by simp [wr, hk]) ?_
      refine go ?_
      exact J_done hT rfl rfl rfl
    · rw [lget, if_neg hk] at he
      refine K_condF rfl (by simp [wr, hk]) ?_
      refine go ?_
      refine J_again ⟨q.i + 1, by omega, he⟩ (by show w.length - (q.i + 1) < w.length - q.i; omega) ⟨rfl, rfl, rfl, congrArg (fun z => TV.p (.int .i64 z)) (by rw [IntWalk.i64_in _ (by omega)]; rfl), trivial⟩ rfl rfl
  rw [List.drop_eq_nil_of_le (by omega)] at he
  rw [← he]
  refine K_condF rfl (decide_eq_false (by omega)) ?_
  refine go ?_
  exact J_done hT rfl rfl rfl
end Go.Proofs.Ytbdijekfplpnlaa

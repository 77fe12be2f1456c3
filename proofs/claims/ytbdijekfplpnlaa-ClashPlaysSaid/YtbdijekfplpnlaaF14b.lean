/- view: ranges: slices.Index, slices.Contains, Range. -/
import Derived.Test.YtbdijekfplpnlaaF14
import Derived.Test.YtbdijekfplpnlaaGo3
-- @D
namespace Go.Proofs.Ytbdijekfplpnlaa
set_option maxRecDepth 20000
open Go.Awp Tr
def idxR : List Rg → Rg → Nat → Int
  | [], _, _ => -1
  | x :: t, r, i => if x = r then (i : Int) else idxR t r (i + 1)
theorem idxR_mem (r : Rg) : ∀ (l : List Rg) (i : Nat), (0 ≤ idxR l r i ↔ r ∈ l) ∧ -1 ≤ idxR l r i
  | [], i => by simp [idxR]
  | x :: t, i => by
    have := idxR_mem r t (i + 1)
    unfold idxR
    split
    · rename_i e
      exact ⟨by simp [e], by omega⟩
    · rename_i e
      refine ⟨?_, this.2⟩
      rw [this.1, List.mem_cons]
      exact ⟨.inr, fun h => h.resolve_left fun h => e h.symm⟩
structure IxR (l : List Rg) (r : Rg) where
  i : Nat
  h : i ≤ l.length
  e : idxR (l.drop i) r i = idxR l r 0
theorem rg_eq (r x : Rg) : (decide (r.1 = x.1) && (decide (r.2 = x.2) && true)) = decide (x = r) := by
  by_cases h : x = r
  · subst h; simp
  · rw [decide_eq_false h]
    have : ¬ (r.1 = x.1 ∧ r.2 = x.2) := fun ⟨h1, h2⟩ => h (Prod.ext h1.symm h2.symm)
    simp only [Bool.and_true, Bool.and_eq_false_iff, decide_eq_false_iff_not]
    exact Decidable.not_and_iff_or_not.1 this
set_option maxHeartbeats 4000000 in
theorem rgIndex_spec (l : List Rg) (r : Rg) (hl : l.length ≤ big40) : Con Try.prog 81 [.sl (.o 0) l.length 0 l.length, .p (rgV r)] [vR l] (.p (.int .i64 (idxR l r 0))) [vR l] [] := by
  have hlen : (l.map rgV).length = l.length := by simp
  have hrd : ∀ L, Rd [vR l] L (.sl (.o 0) l.length 0 l.length) (l.map rgV) := fun L => Rd.full rfl hlen
  unfold big40 at hl
  refine con_of Try.func81 rfl (by kernel_rfl) rfl fun F w0 β0 => ?_
  refine K_tell rfl ?_
  refine go ?_
  refine K_op rfl rfl (opr_len_rd hT rfl rfl (hrd _)) rfl ?_
  rw [hlen]
  refine go ?_
  refine J_loop (fun q : IxR l r => [(0, .sl (.o 0) l.length 0 l.length), (3, .ad (.l 0) 0), (7, .p (.int .i64 (l.length : Int))), (8, .p (.int .i64 (q.i : Int)))]) (fun _ => [vR l]) (fun _ => [.box 102 [.p (.str r.1), .p (.str r.2)]]) (fun q => l.length - q.i) ⟨0, by omega, rfl⟩ ⟨rfl, rfl, rfl, rfl, trivial⟩ rfl rfl (fun q => ?_)
  have hi := q.h
  have he := q.e
  refine go ?_
  by_cases h : q.i < l.length
  · have hx : l[q.i]? = some l[q.i] := List.getElem?_eq_getElem h
    have hdr : l.drop q.i = l[q.i] :: l.drop (q.i + 1) := List.drop_eq_getElem_cons h
    rw [hdr] at he
    generalize l[q.i] = x at hx he
    have hxk : (l.map rgV)[((q.i : Nat) : Int).toNat]? = some (rgV x) := by rw [Int.toNat_natCast, List.getElem?_map, hx]; rfl
    refine K_condT rfl (decide_eq_true (by omega)) ?_
    refine go ?_
    refine J_draw [_] [] (by kernel_rfl) (by kernel_rfl) rfl ?_
    refine gd ?_
    refine T_opD rfl rfl rfl rfl rfl (opr_index hT rfl rfl rfl rfl rfl (hrd _) (by omega) (by rw [hlen]; omega)) rfl ?_
    refine T_opD rfl rfl rfl rfl rfl (opr_load_el hT rfl rfl (hrd _) hxk rfl rfl) rfl ?_
    refine T_opD rfl rfl rfl rfl rfl (opr_eqAgg hT rfl (by kernel_rfl) rfl rfl rfl rfl rfl) rfl ?_
    refine J_weak [(0, .sl (.o 0) l.length 0 l.length), (3, .ad (.l 0) 0), (5, .p (.int .i64 (q.i : Int))), (7, .p (.int .i64 (l.length : Int))), (8, .p (.int .i64 (q.i : Int))), (16, .p (.bool (decide (x = r))))] ⟨rfl, rfl, rfl, rfl, rfl, (by rw [← rg_eq r x]; rfl), trivial⟩ ?_
    by_cases hk : x = r
    · rw [← he, idxR, if_pos hk]
      refine K_condT rfl (by simp [hk]) ?_
      refine go ?_
      exact J_done hT rfl rfl rfl
    · rw [idxR, if_neg hk] at he
      refine K_condF rfl (by simp [hk]) ?_
      refine go ?_
      refine J_again ⟨q.i + 1, by omega, he⟩ (by show l.length - (q.i + 1) < l.length - q.i; omega) ⟨rfl, rfl, rfl, congrArg (fun z => TV.p (.int .i64 z)) (by rw [IntWalk.i64_in _ (by omega)]; rfl), trivial⟩ rfl rfl
  · rw [List.drop_eq_nil_of_le (by omega), idxR] at he
    rw [← he]
    refine K_condF rfl (decide_eq_false (by omega)) ?_
    refine go ?_
    exact J_done hT rfl rfl rfl
theorem rgContains_spec (l : List Rg) (r : Rg) (hl : l.length ≤ big40) : Con Try.prog 63 [.sl (.o 0) l.length 0 l.length, .p (rgV r)] [vR l] (.p (.bool (decide (r ∈ l)))) [vR l] [] := by
  have c1 := rgIndex_spec l r hl
  have e : decide (r ∈ l) = decide (idxR l r 0 ≥ 0) := decide_eq_decide.2 (idxR_mem r l 0).1.symm
  rw [e]
  generalize idxR l r 0 = z at c1
  refine con_of Try.func63 rfl (by kernel_rfl) rfl fun F w0 β0 => ?_
  refine K_tell rfl ?_
  refine go ?_
  refine K_op rfl rfl (opr_callS [.o 0] rfl rfl (c1) rfl rfl rfl ⟨⟨rfl, rfl⟩, trivial⟩ rfl rfl rfl rfl) rfl ?_
  refine go ?_
  exact J_done hT rfl rfl rfl
def VS.range (s : VS) (a b : List UInt8) : VS := if Op.bytesLess a b = true then { s with ranges := if (a, b) ∈ s.ranges then s.ranges else s.ranges ++ [(a, b)] } else s
def VS.rangeR (s : VS) (a b : List UInt8) : List KV := if Op.bytesLess a b = true then s.shown.range a b else []
set_option maxHeartbeats 4000000 in
theorem vrange_spec (s : VS) (a b : List UInt8) (hs : s.shown.size ≤ big40) (hr : s.ranges.length ≤ big40) : Con Try.prog 39 [vP, .p (.str a), .p (.str b)] (vH s) (accT 0 .nils (kvs (s.rangeR a b))) (vH (s.range a b)) (accL 99 3 (kvs (s.rangeR a b))) := by
  unfold VS.range VS.rangeR
  by_cases hab : Op.bytesLess a b = true
  · rw [if_pos hab, if_pos hab]
    have c1 := rgContains_spec s.ranges (a, b) hr
    have c2 := trange_spec a b s.shown hs
    refine con_of Try.func39 rfl (by kernel_rfl) rfl fun F w0 β0 => ?_
    refine K_tell rfl ?_
    refine gx ?_
    rw [hab]
    refine go ?_
    refine J_draw [_] [] (by kernel_rfl) (by kernel_rfl) rfl ?_
    refine gd ?_
    refine T_opD rfl rfl rfl rfl rfl (opr_callS [.o 1] rfl rfl c1 rfl rfl rfl ⟨⟨rfl, rfl⟩, trivial⟩ rfl rfl rfl rfl) rfl ?_
    refine gd ?_
    refine J_weak [(0, vP), (1, .p (.str a)), (2, .p (.str b)), (7, .ad (.l 0) 0), (24, .p (.bool (!(decide ((a, b) ∈ s.ranges)))))] ⟨rfl, rfl, rfl, rfl, rfl, trivial⟩ ?_
    by_cases hm : (a, b) ∈ s.ranges
    · rw [if_pos hm, decide_eq_true hm]
      refine go ?_
      refine J_take 0 [(38, W s.shown), (39, .p (.str a)), (40, .p (.str b))] ⟨rfl, rfl, rfl, trivial⟩ rfl rfl ?_
      refine K_opM rfl rfl (opr_callE rfl rfl c2 rfl rfl (accT_ren 0 0 0 _ _) (accL_ren ..)) rfl ?_
      refine K_opM rfl rfl (opr_mv (accT 0 .nils (kvs (s.shown.range a b))) (.inr rfl) rfl) rfl ?_
      refine go ?_
      exact J_give hT rfl rfl
    · rw [if_neg hm, decide_eq_false hm]
      have e1 : vH { s with ranges := s.ranges ++ [(a, b)] } = [vB (.o 1) s.base s.shown s.writes s.reads (s.ranges.length + 1), .arr 102 true 2 (s.ranges.map rgV ++ [rgV (a, b)])] := by
        simp [vH, vB, vR]
      rw [e1]
      refine go ?_
      refine J_drawH [vH s, [vB (.o 1) s.base s.shown s.writes s.reads s.ranges.length, .arr 102 true 2 (s.ranges.map rgV ++ [rgV (a, b)])], [vB (.o 1) s.base s.shown s.writes s.reads (s.ranges.length + 1), .arr 102 true 2 (s.ranges.map rgV ++ [rgV (a, b)])]]
        [[.box 102 [.p (.str a), .p (.str b)]], [.box 102 [.p (.str a), .p (.str b)]], [.box 102 [.p (.str a), .p (.str b)]]] [7, 10] (by kernel_rfl) (by kernel_rfl) rfl rfl ?_
      refine gdH ?_
      refine T_stH rfl rfl rfl rfl rfl rfl (opr_app_ownH (i := 1) (n := s.ranges.length) (rows0 := s.ranges.map rgV) (rows := [rgV (a, b)]) (Ty := 102) (te := ⟨.array 2 9, 2, 32, [.str [], .str []]⟩) hT rfl rfl rfl rfl (by simp) rfl rfl (.rd (.ps _)) hbs_ps (show clR [rgV (a, b)] from by intro r hr x hx; simp at hr; subst hr; simp [cellsOf, rgV] at hx; rcases hx with rfl | rfl <;> rfl) (show ∀ r ∈ [rgV (a, b)], (cellsOf r).length = 2 from by intro r hr; simp at hr; subst hr; rfl) (by decide) (by show (s.ranges.length + 1) * 32 ≤ _; unfold big40 at hr; omega)) rfl ?_
      refine gdH ?_
      refine J_weak [(0, vP), (1, .p (.str a)), (2, .p (.str b))] ⟨rfl, rfl, rfl, trivial⟩ ?_
      refine go ?_
      refine J_take 0 [(38, W s.shown), (39, .p (.str a)), (40, .p (.str b))] ⟨rfl, rfl, rfl, trivial⟩ rfl rfl ?_
      refine K_opM rfl rfl (opr_callE rfl rfl c2 rfl rfl (accT_ren 0 0 0 _ _) (accL_ren ..)) rfl ?_
      refine K_opM rfl rfl (opr_mv (accT 0 .nils (kvs (s.shown.range a b))) (.inr rfl) rfl) rfl ?_
      refine go ?_
      exact J_give hT rfl rfl
  · rw [if_neg hab, if_neg hab]
    simp only [Bool.not_eq_true] at hab
    refine con_of Try.func39 rfl (by kernel_rfl) rfl fun F w0 β0 => ?_
    refine K_tell rfl ?_
    refine gx ?_
    rw [hab]
    refine go ?_
    exact J_done hT rfl rfl rfl
end Go.Proofs.Ytbdijekfplpnlaa

/- The reference of layer 14: Range. -/
import Derived.Test.YtbdijekfplpnlaaGo
import Derived.Test.YtbdijekfplpnlaaF14h
-- @D
namespace Go.Proofs.Ytbdijekfplpnlaa
set_option maxRecDepth 20000
open Go.Awp Tr
def rangeG (g : List Rg) (a b : List UInt8) : List Rg := if (a, b) ∈ g then g else g ++ [(a, b)]
structure RgI (g : List Rg) (r : Rg) where
  i : Nat
  h : i ≤ g.length
  e : r ∈ g ↔ r ∈ g.drop i
theorem rg_get {l : List Rg} {i : Nat} {x : Rg} (hx : l[i]? = some x) : (l.map rgV)[((i : Nat) : Int).toNat]? = some (rgV x) := by rw [Int.toNat_natCast, List.getElem?_map, hx]; rfl
set_option maxHeartbeats 8000000 in
theorem rvrange_spec (b w r : List KV) (g : List Rg) (x y : List UInt8) (hb : Rises b) (hbl : b.length ≤ 1000000) (hwl : w.length ≤ 1000000) (hgl : g.length ≤ 1000000) : Con Try.prog 65 [mA b w r g, .p (.str x), .p (.str y)] []
    (.tup [.p (.ps (kvs (if Op.bytesLess x y = true then lrange x y (shownL b w) else []))), mT b w r (if Op.bytesLess x y = true then rangeG g x y else g)]) [] [] := by
  have hlg : (g.map rgV).length = g.length := by simp
  by_cases hxy : Op.bytesLess x y = true
  · rw [if_pos hxy, if_pos hxy]
    obtain ⟨hs1, hs2⟩ := shownL_ok w hb
    have c1 := rshown_spec b w r g hb hbl hwl
    have c2 := (rrange10_rd (.ps (kvs (shownL b w))) (shownL b w) x y (fun L => .ps _) (by unfold big40; omega)).toPs (.inr rfl)
    generalize kvs (shownL b w) = sv at c1 c2
    generalize kvs (lrange x y (shownL b w)) = rv at c2
    refine con_of Try.func65 rfl (by kernel_rfl) rfl fun F w0 β0 => ?_
    refine K_tell rfl ?_
    refine gx ?_
    rw [hxy]
    refine go ?_
    refine K_op rfl rfl (opr_callP rfl rfl (c1) rfl rfl rfl rfl) rfl ?_
    refine go ?_
    refine K_op rfl rfl (opr_callP rfl rfl (c2) rfl rfl rfl rfl) rfl ?_
    refine go ?_
    refine J_loop (fun q : RgI g (x, y) => [(1, .p (.str x)), (2, .p (.str y)), (3, .ad (.l 0) 0), (7, .ad (.l 1) 0), (8, .p (.ps rv)), (23, .p (.int .i64 (g.length : Int))), (24, .p (.int .i64 (q.i : Int)))]) (fun _ => []) (fun _ => [.box 66 (mC b w r g), .box 66 [.p .nils, .p .nils, .p .nils, .p .nils]]) (fun q => g.length - q.i) ⟨0, by omega, by simp⟩ ⟨rfl, rfl, rfl, rfl, rfl, by rw [← hlg]; rfl, rfl, trivial⟩ rfl rfl (fun q => ?_)
    have hi := q.h
    have he := q.e
    refine go ?_
    by_cases h : q.i < g.length
    · have hz : g[q.i]? = some g[q.i] := List.getElem?_eq_getElem h
      have hdr : g.drop q.i = g[q.i] :: g.drop (q.i + 1) := List.drop_eq_getElem_cons h
      rw [hdr] at he
      generalize g[q.i] = z at hz he
      have hzk := rg_get hz
      refine K_condT rfl (decide_eq_true (by omega)) ?_
      refine go ?_
      refine K_op rfl rfl (opr_index hT rfl rfl rfl rfl rfl (.ps _) (by omega) (by rw [hlg]; omega)) rfl ?_
      refine go ?_
      refine K_op rfl rfl (opr_load_el hT rfl rfl (.ps _) hzk rfl rfl) rfl ?_
      refine go ?_
      refine K_opt rfl rfl rfl need2 (fun _ => opr_index hT rfl rfl rfl rfl rfl (.ps _) (by omega) (by rw [hlg]; omega)) rfl ?_
      refine go ?_
      try refine K_opt rfl rfl rfl need1 (fun _ => opr_idxArr hT rfl rfl rfl rfl rfl) rfl ?_
      refine go ?_
      refine K_opt rfl rfl rfl need1 (fun _ => opr_load_el hT rfl rfl (.ps _) hzk rfl rfl) rfl ?_
      refine go ?_
      have ez : ((z.1 == x) && (z.2 == y)) = decide (z = (x, y)) := by
        by_cases e : z = (x, y)
        · subst e; simp
        · rw [decide_eq_false e]
          simp only [Bool.and_eq_false_iff, beq_eq_false_iff_ne]
          by_cases e1 : z.1 = x
          · exact .inr fun e2 => e (Prod.ext e1 e2)
          · exact .inl e1
      refine J_weak [(1, .p (.str x)), (2, .p (.str y)), (3, .ad (.l 0) 0), (7, .ad (.l 1) 0), (8, .p (.ps rv)), (23, .p (.int .i64 (g.length : Int))), (24, .p (.int .i64 (q.i : Int))), (44, .p (.bool (decide (z = (x, y)))))] ⟨rfl, rfl, rfl, rfl, rfl, rfl, rfl, (by rw [← ez]; rfl), trivial⟩ ?_
      by_cases hk : z = (x, y)
      · have hm : (x, y) ∈ g := he.2 (by rw [hk]; simp)
        unfold rangeG
        rw [if_pos hm]
        refine K_condT rfl (by simp [hk]) ?_
        refine go ?_
        refine J_drawS 3 (by kernel_rfl) (by kernel_rfl) ?_
        apply Exists.intro
        refine gdW ?_
        refine K_only [6, 7] rfl ?_
        refine go ?_
        exact J_done hT rfl rfl rfl
      · refine K_condF rfl (by simp [hk]) ?_
        refine go ?_
        refine J_again ⟨q.i + 1, by omega, by rw [he, List.mem_cons]; exact ⟨fun h => h.resolve_left fun e => hk e.symm, .inr⟩⟩ (by show g.length - (q.i + 1) < g.length - q.i; omega) ⟨rfl, rfl, rfl, rfl, rfl, rfl, congrArg (fun z => TV.p (.int .i64 z)) (by rw [IntWalk.i64_in _ (by omega)]; rfl), trivial⟩ rfl rfl
    have hm : ¬ (x, y) ∈ g := by rw [he, List.drop_eq_nil_of_le (by omega)]; simp
    unfold rangeG
    have e9 : mT b w r (g ++ [(x, y)]) = .agg [.p (.ps (kvs b)), .p (.ps (wrs w)), .p (.ps (ksV r)), .p (.ps ([] ++ g.map rgV ++ [rgV (x, y)]))] := by simp [mT]
    rw [if_neg hm, e9]
    refine K_condF rfl (decide_eq_false (by omega)) ?_
    refine go ?_
    refine J_lazyE 49 102 (e := 2) rfl rfl (.inr rfl) ?_
    refine go ?_
    refine K_op rfl rfl (opr_app_own hT rfl rfl rfl rfl rfl rfl rfl (.rd (.ps _)) hbs_ps (rgV_cl g) (rgV_size g) (by decide) (by rw [hlg]; show (0 + g.length) * 32 ≤ _; omega)) rfl ?_
    refine go ?_
    refine K_op rfl rfl (opr_app_own hT rfl rfl rfl rfl (by simp) rfl rfl (.rd (.ps _)) hbs_ps (rgV_cl [(x, y)]) (rgV_size [(x, y)]) (by decide) (by rw [hlg]; show (0 + g.length + 1) * 32 ≤ _; omega)) rfl ?_
    refine J_freeze_all 58 2 rfl rfl (by simp) ?_
    refine go ?_
    refine J_drawS 3 (by kernel_rfl) (by kernel_rfl) ?_
    apply Exists.intro
    refine gdW ?_
    refine K_only [6, 7] rfl ?_
    refine go ?_
    exact J_done hT rfl rfl rfl
  · rw [if_neg hxy, if_neg hxy]
    simp only [Bool.not_eq_true] at hxy
    refine con_of Try.func65 rfl (by kernel_rfl) rfl fun F w0 β0 => ?_
    refine K_tell rfl ?_
    refine gx ?_
    rw [hxy]
    refine go ?_
    refine J_drawS 3 (by kernel_rfl) (by kernel_rfl) ?_
    apply Exists.intro
    refine gdW ?_
    refine J_le 6 (.ps []) rfl cz_ps ?_
    refine K_only [6, 7] rfl ?_
    refine go ?_
    exact J_done hT rfl rfl rfl
end Go.Proofs.Ytbdijekfplpnlaa

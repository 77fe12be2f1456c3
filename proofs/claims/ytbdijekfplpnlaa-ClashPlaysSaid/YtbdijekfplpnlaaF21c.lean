/- The reference of layer 21; fixed. -/
import Derived.Test.YtbdijekfplpnlaaGo
import Derived.Test.YtbdijekfplpnlaaF21b
-- @D
namespace Go.Proofs.Ytbdijekfplpnlaa
set_option maxRecDepth 20000
open Go.Awp Tr
theorem any_step {α : Type} (g : α → Bool) {l : List α} {i : Nat} {x : α} (hx : l[i]? = some x) : (l.drop i).any g = (g x || (l.drop (i + 1)).any g) := by
  obtain ⟨h, rfl⟩ := List.getElem?_eq_some_iff.1 hx
  rw [List.drop_eq_getElem_cons h, List.any_cons]
/-- So far nothing was found. -/
structure AnyI {α : Type} (g : α → Bool) (l : List α) where
  i : Nat
  h : i ≤ l.length
  e : (l.drop i).any g = l.any g
set_option maxHeartbeats 8000000 in
theorem rclash_spec (s1 s2 s3 : AV) (reads : List (List UInt8)) (g : List Rg) (w : List PW) (h1 : ∀ L, Rd [] L (.p s1) (reads.map .str)) (h2 : ∀ L, Rd [] L (.p s2) (g.map rgV)) (h3 : ∀ L, Rd [] L (.p s3) (w.map pwV)) (l1 : reads.length ≤ big40) (l2 : g.length ≤ big40) (l3 : w.length ≤ big40) :
    Con Try.prog 50 [.p s1, .p s2, .p s3] [] (.p (.bool (clashB reads g w))) [] [] := by
  have n1 : (reads.map AV.str).length = reads.length := by simp
  have n2 : (g.map rgV).length = g.length := by simp
  have n3 : (w.map pwV).length = w.length := by simp
  unfold big40 at l1 l2 l3
  unfold clashB
  refine con_of Try.func50 rfl (by kernel_rfl) rfl fun F w0 β0 => ?_
  refine K_tell rfl ?_
  refine go ?_
  refine K_op rfl rfl (opr_len_rd hT rfl rfl (h3 _)) rfl ?_
  rw [n3]
  refine go ?_
  refine J_loop (fun q : AnyI (fun p : PW => hitB reads g p.1) w => [(0, .p s1), (1, .p s2), (2, .p s3), (6, .p (.bool false)), (11, .p s3), (12, .p (.int .i64 (w.length : Int))), (13, .p (.int .i64 (q.i : Int)))]) (fun _ => []) (fun _ => []) (fun q => w.length - q.i) ⟨0, by omega, rfl⟩ ⟨rfl, rfl, rfl, rfl, rfl, rfl, rfl, trivial⟩ rfl rfl (fun q => ?_)
  have hi := q.h
  have he := q.e
  refine go ?_
  by_cases h : q.i < w.length
  · have hx : w[q.i]? = some w[q.i] := List.getElem?_eq_getElem h
    generalize w[q.i] = p at hx
    have hxk := map_get pwV hx
    rw [any_step _ hx] at he
    rw [← he]
    refine K_condT rfl (decide_eq_true (by omega)) ?_
    refine go ?_
    refine K_op rfl rfl (opr_index hT rfl rfl rfl rfl rfl (h3 _) (by omega) (by rw [n3]; omega)) rfl ?_
    refine go ?_
    refine K_op rfl rfl (opr_load_el hT rfl rfl (h3 _) hxk rfl rfl) rfl ?_
    refine go ?_
    refine K_op rfl rfl (opr_len_rd hT rfl rfl (h1 _)) rfl ?_
    rw [n1]
    refine go ?_
    refine J_loop (fun r : AnyI (fun x => p.1 == x) reads => [(0, .p s1), (1, .p s2), (2, .p s3), (6, .p (.bool false)), (8, .p (.str p.1)), (11, .p s3), (12, .p (.int .i64 (w.length : Int))), (13, .p (.int .i64 (q.i : Int))), (21, .p s1), (22, .p (.int .i64 (reads.length : Int))), (23, .p (.int .i64 (r.i : Int)))]) (fun _ => []) (fun _ => []) (fun r => reads.length - r.i) ⟨0, by omega, rfl⟩ ⟨rfl, rfl, rfl, rfl, rfl, rfl, rfl, rfl, rfl, rfl, rfl, trivial⟩ rfl rfl (fun r => ?_)
    have ri := r.h
    have re := r.e
    refine go ?_
    by_cases hr : r.i < reads.length
    · have hy : reads[r.i]? = some reads[r.i] := List.getElem?_eq_getElem hr
      generalize reads[r.i] = x at hy
      have hyk := map_get AV.str hy
      rw [any_step _ hy] at re
      refine K_condT rfl (decide_eq_true (by omega)) ?_
      refine go ?_
      refine K_op rfl rfl (opr_index hT rfl rfl rfl rfl rfl (h1 _) (by omega) (by rw [n1]; omega)) rfl ?_
      refine go ?_
      refine K_op rfl rfl (opr_load_el hT rfl rfl (h1 _) hyk rfl rfl) rfl ?_
      refine go ?_
      by_cases hk : x = p.1
      · have : hitB reads g p.1 = true := by unfold hitB; rw [← re]; simp [hk]
        rw [this]
        refine K_condT rfl (by simp [hk]) ?_
        refine go ?_
        exact J_done hT rfl rfl rfl
      · refine K_condF rfl (by simp [hk]) ?_
        refine go ?_
        refine J_again ⟨r.i + 1, by omega, by rw [← re, show (p.1 == x) = false from beq_eq_false_iff_ne.2 fun e => hk e.symm, Bool.false_or]⟩ (by show reads.length - (r.i + 1) < reads.length - r.i; omega) ⟨rfl, rfl, rfl, rfl, rfl, rfl, rfl, rfl, rfl, rfl, congrArg (fun z => TV.p (.int .i64 z)) (by rw [IntWalk.i64_in _ (by omega)]; rfl), trivial⟩ rfl rfl
    rw [List.drop_eq_nil_of_le (by omega)] at re
    have ha : (reads.any fun x => p.1 == x) = false := by rw [← re]; rfl
    refine K_condF rfl (decide_eq_false (by omega)) ?_
    clear re ri hr
    refine go ?_
    refine K_op rfl rfl (opr_len_rd hT rfl rfl (h2 _)) rfl ?_
    rw [n2]
    refine go ?_
    refine J_loop (fun r : AnyI (inRg p.1) g => [(0, .p s1), (1, .p s2), (2, .p s3), (6, .p (.bool false)), (8, .p (.str p.1)), (11, .p s3), (12, .p (.int .i64 (w.length : Int))), (13, .p (.int .i64 (q.i : Int))), (33, .p s2), (34, .p (.int .i64 (g.length : Int))), (35, .p (.int .i64 (r.i : Int)))]) (fun _ => []) (fun _ => []) (fun r => g.length - r.i) ⟨0, by omega, rfl⟩ ⟨rfl, rfl, rfl, rfl, rfl, rfl, rfl, rfl, rfl, rfl, rfl, trivial⟩ rfl rfl (fun r => ?_)
    have ri := r.h
    have re := r.e
    refine go ?_
    by_cases hr : r.i < g.length
    · have hy : g[r.i]? = some g[r.i] := List.getElem?_eq_getElem hr
      generalize g[r.i] = x at hy
      have hyk := map_get rgV hy
      rw [any_step _ hy] at re
      refine K_condT rfl (decide_eq_true (by omega)) ?_
      refine go ?_
      refine K_op rfl rfl (opr_index hT rfl rfl rfl rfl rfl (h2 _) (by omega) (by rw [n2]; omega)) rfl ?_
      refine go ?_
      refine K_op rfl rfl (opr_load_el hT rfl rfl (h2 _) hyk rfl rfl) rfl ?_
      refine go ?_
      refine K_opt rfl rfl rfl need2 (fun _ => opr_index hT rfl rfl rfl rfl rfl (h2 _) (by omega) (by rw [n2]; omega)) rfl ?_
      refine go ?_
      try refine K_opt rfl rfl rfl need1 (fun _ => opr_idxArr hT rfl rfl rfl rfl rfl) rfl ?_
      refine go ?_
      refine K_opt rfl rfl rfl need1 (fun _ => opr_load_el hT rfl rfl (h2 _) hyk rfl rfl) rfl ?_
      refine go ?_
      have ez : (!Op.bytesLess p.1 x.1 && Op.bytesLess p.1 x.2) = inRg p.1 x := rfl
      by_cases hk : inRg p.1 x = true
      · have : hitB reads g p.1 = true := by unfold hitB; rw [ha, ← re, hk]; rfl
        rw [this]
        refine K_condT rfl hk ?_
        refine go ?_
        exact J_done hT rfl rfl rfl
      · simp only [Bool.not_eq_true] at hk
        refine K_condF rfl hk ?_
        refine go ?_
        refine J_again ⟨r.i + 1, by omega, by rw [← re, hk, Bool.false_or]⟩ (by show g.length - (r.i + 1) < g.length - r.i; omega) ⟨rfl, rfl, rfl, rfl, rfl, rfl, rfl, rfl, rfl, rfl, congrArg (fun z => TV.p (.int .i64 z)) (by rw [IntWalk.i64_in _ (by omega)]; rfl), trivial⟩ rfl rfl
    rw [List.drop_eq_nil_of_le (by omega)] at re
    have hb : hitB reads g p.1 = false := by unfold hitB; rw [ha, ← re]; rfl
    rw [hb, Bool.false_or] at he ⊢
    refine K_condF rfl (decide_eq_false (by omega)) ?_
    clear re ri hr ha
    refine go ?_
    refine J_again ⟨q.i + 1, by omega, he⟩ (by show w.length - (q.i + 1) < w.length - q.i; omega) ⟨rfl, rfl, rfl, rfl, rfl, rfl, congrArg (fun z => TV.p (.int .i64 z)) (by rw [IntWalk.i64_in _ (by omega)]; rfl), trivial⟩ rfl rfl
  rw [List.drop_eq_nil_of_le (by omega)] at he
  rw [← he]
  refine K_condF rfl (decide_eq_false (by omega)) ?_
  refine go ?_
  exact J_done hT rfl rfl rfl
theorem fixed21_parts : Con Try.prog 49 [.p (.ps [.str [97]]), .p .nils, .p (.ps [.agg [.str [97], .str [], .bool false]])] [] (.p (.bool true)) [] []
    ∧ Con Try.prog 49 [.p .nils, .p (.ps [.agg [.str [97], .str [99]]]), .p (.ps [.agg [.str [98], .str [], .bool false]])] [] (.p (.bool true)) [] []
    ∧ Con Try.prog 49 [.p .nils, .p (.ps [.agg [.str [97], .str [99]]]), .p (.ps [.agg [.str [99], .str [], .bool false]])] [] (.p (.bool false)) [] [] :=
  ⟨clash_spec _ _ _ [[97]] [] [([97], [], false)] (fun _ => .ps _) (fun _ => .nils) (fun _ => .ps _) (by decide) (by decide) (by decide),
   clash_spec _ _ _ [] [([97], [99])] [([98], [], false)] (fun _ => .nils) (fun _ => .ps _) (fun _ => .ps _) (by decide) (by decide) (by decide),
   clash_spec _ _ _ [] [([97], [99])] [([99], [], false)] (fun _ => .nils) (fun _ => .ps _) (fun _ => .ps _) (by decide) (by decide) (by decide)⟩
theorem fixed21_spec : Con Try.prog 48 [] [] (.p (.bool true)) [] [] := by
  obtain ⟨c1, c2, c3⟩ := fixed21_parts
  refine con_of Try.func48 rfl (by kernel_rfl) rfl fun F w0 β0 => ?_
  refine K_tell rfl ?_
  refine go ?_
  refine K_op rfl rfl (opr_callP rfl rfl (c1) rfl rfl rfl rfl) rfl ?_
  refine go ?_
  refine K_yes rfl rfl rfl (opr_callP rfl rfl (c2) rfl rfl rfl rfl) rfl ?_
  refine go ?_
  refine K_yes rfl rfl rfl (opr_callP rfl rfl (c3) rfl rfl rfl rfl) rfl ?_
  refine go ?_
  exact J_done hT rfl rfl rfl
end Go.Proofs.Ytbdijekfplpnlaa

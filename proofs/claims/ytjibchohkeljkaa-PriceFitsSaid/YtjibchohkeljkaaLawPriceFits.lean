/- The row of the law PriceFits: its frame; the contract stands in XCPriceFits. -/
import Derived.Test.YtjibchohkeljkaaRows
import Derived.Test.YtjibchohkeljkaaTab
import Derived.Test.YtjibchohkeljkaaGo
import Derived.Test.YtjibchohkeljkaaCPriceFits
namespace Go.Proofs.Ytjibchohkeljkaa.priceFits
open Go.ChangeShapes Go.WideShapes Go.ChangeAt Go.RowKit Go.Awp
open Go.ChangeMaps (open_string shut_string)
theorem own : ownKnob Try.prog.godebug = none := by kernel_rfl
theorem laidOut : laidOutB Try.prog = true := by kernel_rfl
set_option maxRecDepth 100000 in
theorem lifted (os : Os) (started : os.Started) (H : Type) (enc : TypeId × Value → H) :
    ReturnsInHanded {} Try.checked os 3 .any (Rows.priceFitsSpec.pre6 enc Try.prog Try.f3 Rows.priceFitsRow.domain false) (Rows.priceFitsSpec.post enc Try.prog Try.f3 false true false false) := by
  refine returnsInHanded_of_change_sized (C := Try.checked) own started (by kernel_rfl) Try.func3
    (ChangeSpec.witness6 (enc := enc) (C := Try.checked) false ⟨#[], #[.agg #[.int .i64 0, .int .i64 0], .slice none 0 0, .slice none 0 0], []⟩ 8 (by kernel_rfl) (by kernel_rfl) (by kernel_rfl) (by kernel_rfl)) ?_
  intro W base args ds gs before hval0 hW hcnd hsz0 _
  have hsz : (DataW.weightsEach Try.prog (Try.f3.params.toList ++ Rows.priceFitsSpec.plain.varTypes Try.prog) (ds ++ gs)).all (· ≤ reachBytes) = true := hsz0
  have hval : ∀ (j : Nat) t v, Try.f3.params[j]? = some t → args[j]? = some v → Value.okWide Try.prog W .any base t v := hval0
  have hW' := hW
  obtain ⟨p, q, hA0, hV, rfl, hfz, hnd⟩ := hW
  have hA : DataW.TrodAll enc Try.prog W 0 (fun _ => true) true Try.f3.params.toList args.toList ds p := hA0
  rw [Try.params3] at hA hval hsz
  obtain ⟨v0, vs0, d0, ds0, p0, q0, hargs, rfl, rfl, h0, r0⟩ := trodAll_cons hA
  obtain ⟨v1, vs1, d1, ds1, p1, q1, rfl, rfl, rfl, h1, r1⟩ := trodAll_cons r0
  obtain ⟨v2, vs2, d2, ds2, p2, q2, rfl, rfl, rfl, h2, r2⟩ := trodAll_cons r1
  obtain ⟨rfl, rfl, rfl⟩ := trodAll_nil r2
  obtain rfl : args = #[v0, v1, v2] := by cases args; simp_all
  obtain ⟨rfl, rfl⟩ := trodVars_none hV
  have lt0 : ∀ x ∈ p0, x.block < W.heap.size := by
    obtain ⟨m, hm⟩ := h0
    exact DataW.trod_lt m _ _ _ hm
  have wt0 : ∀ k ∈ d0.weights Try.prog 23, k ≤ Go.Awp.reach := fun k hk => by
    have z := List.all_eq_true.1 hsz k (DataW.weights_mem_each (j := 0) (t := 23) (d := d0) rfl rfl k hk)
    exact of_decide_eq_true z
  obtain ⟨a0, s0, x0⟩ := open_agg hT (fun b _ => freeAll_ok b) 8 rfl rfl (by kernel_rfl) (hval 0 23 v0 rfl rfl) h0 wt0
  have lt1 : ∀ x ∈ p1, x.block < W.heap.size := by
    obtain ⟨m, hm⟩ := h1
    exact DataW.trod_lt m _ _ _ hm
  have wt1 : ∀ k ∈ d1.weights Try.prog 24, k ≤ Go.Awp.reach := fun k hk => by
    have z := List.all_eq_true.1 hsz k (DataW.weights_mem_each (j := 1) (t := 24) (d := d1) rfl rfl k hk)
    exact of_decide_eq_true z
  obtain ⟨a1, s1, x1⟩ := open_leaf hT (fun b _ => freeAll_ok b) 8 (by kernel_rfl) (hval 1 24 v1 rfl rfl) h1 wt1
  have lt2 : ∀ x ∈ p2, x.block < W.heap.size := by
    obtain ⟨m, hm⟩ := h2
    exact DataW.trod_lt m _ _ _ hm
  have wt2 : ∀ k ∈ d2.weights Try.prog 25, k ≤ Go.Awp.reach := fun k hk => by
    have z := List.all_eq_true.1 hsz k (DataW.weights_mem_each (j := 2) (t := 25) (d := d2) rfl rfl k hk)
    exact of_decide_eq_true z
  obtain ⟨a2, s2, x2⟩ := open_leaf hT (fun b _ => freeAll_ok b) 8 (by kernel_rfl) (hval 2 25 v2 rfl rfl) h2 wt2
  refine (law_calls (con s0 s1 s2) rfl (repv_cons x0 (repv_cons x1 (repv_cons x2 repv_nil)))).mono fun e W' ⟨he, bel⟩ => ?_
  subst he
  exact ⟨_, rfl, _, _, _, [], _, [], hW', trodAll_mk1 (shut_bool (und_bool hT rfl) _), (trodAll_cons_mk (Below.trod laidOut (by kernel_rfl) (of_decide_eq_true (by kernel_rfl)) h0 bel lt0) (trodAll_cons_mk (Below.trod laidOut (by kernel_rfl) (of_decide_eq_true (by kernel_rfl)) h1 bel lt1) (trodAll_cons_mk (Below.trod laidOut (by kernel_rfl) (of_decide_eq_true (by kernel_rfl)) h2 bel lt2) trodAll_mk0))), rfl, bel.frame _, fun h => by cases h⟩
theorem over : Rows.priceFitsRow.holds Try.pinned (OpenSpec.ofChange Rows.priceFitsSpec) :=
  OpenClaim.holds_of_wide 3 Try.f3 rfl rfl rfl rfl rfl rfl rfl ⟨rfl, rfl, rfl, rfl, rfl⟩ rfl rfl rfl rfl rfl (by kernel_rfl) Try.func3 (by kernel_rfl)
    (of_decide_eq_true (by kernel_rfl)) (by unfold Func.isWrapper; first | (rw [if_pos (by decide +kernel)]; kernel_rfl) | (rw [if_neg (by decide +kernel)]; exact ⟨rfl, rfl⟩))
    (fun os started H enc _ => lifted os started H enc)
theorem proved : Rows.PriceFitsSaid := over
end Go.Proofs.Ytjibchohkeljkaa.priceFits
namespace Go.Proofs.Ytjibchohkeljkaa
/-- The row, under a short name, for the claim. -/
theorem priceFits_holds : Rows.PriceFitsSaid := priceFits.proved
end Go.Proofs.Ytjibchohkeljkaa

/- The row of the law PriceOf: its frame; the contract stands in XCPriceOf. -/
import Derived.Test.YtfkibkfjebppdaaRows
import Derived.Test.YtfkibkfjebppdaaTab
import Derived.Test.YtfkibkfjebppdaaGo
import Derived.Test.YtfkibkfjebppdaaCPriceOf
namespace Go.Proofs.Ytfkibkfjebppdaa.priceOf
open Go.ChangeShapes Go.WideShapes Go.ChangeAt Go.RowKit Go.Awp
open Go.ChangeMaps (open_string shut_string)
theorem own : ownKnob Try.prog.godebug = none := by kernel_rfl
theorem laidOut : laidOutB Try.prog = true := by kernel_rfl
set_option maxRecDepth 100000 in
theorem lifted (os : Os) (started : os.Started) (H : Type) (enc : TypeId × Value → H) :
    ReturnsInHanded {} Try.checked os 14 .any (Rows.priceOfSpec.pre6 enc Try.prog Try.f14 Rows.priceOfRow.domain false) (Rows.priceOfSpec.post enc Try.prog Try.f14 false true false false) := by
  refine returnsInHanded_of_change_sized (C := Try.checked) own started (by kernel_rfl) Try.func14
    (ChangeSpec.witness6 (enc := enc) (C := Try.checked) false ⟨#[], #[.int .i64 0, .int .i64 0, .int .i64 0, .string ByteArray.empty], []⟩ 8 (by kernel_rfl) (by kernel_rfl) (by kernel_rfl) (by kernel_rfl)) ?_
  intro W base args ds gs before hval0 hW hcnd hsz0 _
  have hsz : (DataW.weightsEach Try.prog (Try.f14.params.toList ++ Rows.priceOfSpec.plain.varTypes Try.prog) (ds ++ gs)).all (· ≤ reachBytes) = true := hsz0
  have hval : ∀ (j : Nat) t v, Try.f14.params[j]? = some t → args[j]? = some v → Value.okWide Try.prog W .any base t v := hval0
  have hW' := hW
  obtain ⟨p, q, hA0, hV, rfl, hfz, hnd⟩ := hW
  have hA : DataW.TrodAll enc Try.prog W 0 (fun _ => true) true Try.f14.params.toList args.toList ds p := hA0
  rw [Try.params14] at hA hval hsz
  obtain ⟨v0, vs0, d0, ds0, p0, q0, hargs, rfl, rfl, h0, r0⟩ := trodAll_cons hA
  obtain ⟨v1, vs1, d1, ds1, p1, q1, rfl, rfl, rfl, h1, r1⟩ := trodAll_cons r0
  obtain ⟨v2, vs2, d2, ds2, p2, q2, rfl, rfl, rfl, h2, r2⟩ := trodAll_cons r1
  obtain ⟨v3, vs3, d3, ds3, p3, q3, rfl, rfl, rfl, h3, r3⟩ := trodAll_cons r2
  obtain ⟨rfl, rfl, rfl⟩ := trodAll_nil r3
  obtain rfl : args = #[v0, v1, v2, v3] := by cases args; simp_all
  obtain ⟨rfl, rfl⟩ := trodVars_none hV
  have lt0 : ∀ x ∈ p0, x.block < W.heap.size := by
    obtain ⟨m, hm⟩ := h0
    exact DataW.trod_lt m _ _ _ hm
  have wt0 : ∀ k ∈ d0.weights Try.prog 3, k ≤ Go.Awp.reach := fun k hk => by
    have z := List.all_eq_true.1 hsz k (DataW.weights_mem_each (j := 0) (t := 3) (d := d0) rfl rfl k hk)
    exact of_decide_eq_true z
  obtain ⟨a0, s0, x0⟩ := open_leaf hT (fun b _ => freeAll_ok b) 8 (by kernel_rfl) (hval 0 3 v0 rfl rfl) h0 wt0
  have lt1 : ∀ x ∈ p1, x.block < W.heap.size := by
    obtain ⟨m, hm⟩ := h1
    exact DataW.trod_lt m _ _ _ hm
  have wt1 : ∀ k ∈ d1.weights Try.prog 3, k ≤ Go.Awp.reach := fun k hk => by
    have z := List.all_eq_true.1 hsz k (DataW.weights_mem_each (j := 1) (t := 3) (d := d1) rfl rfl k hk)
    exact of_decide_eq_true z
  obtain ⟨a1, s1, x1⟩ := open_leaf hT (fun b _ => freeAll_ok b) 8 (by kernel_rfl) (hval 1 3 v1 rfl rfl) h1 wt1
  have lt2 : ∀ x ∈ p2, x.block < W.heap.size := by
    obtain ⟨m, hm⟩ := h2
    exact DataW.trod_lt m _ _ _ hm
  have wt2 : ∀ k ∈ d2.weights Try.prog 3, k ≤ Go.Awp.reach := fun k hk => by
    have z := List.all_eq_true.1 hsz k (DataW.weights_mem_each (j := 2) (t := 3) (d := d2) rfl rfl k hk)
    exact of_decide_eq_true z
  obtain ⟨a2, s2, x2⟩ := open_leaf hT (fun b _ => freeAll_ok b) 8 (by kernel_rfl) (hval 2 3 v2 rfl rfl) h2 wt2
  have lt3 : ∀ x ∈ p3, x.block < W.heap.size := by
    obtain ⟨m, hm⟩ := h3
    exact DataW.trod_lt m _ _ _ hm
  have wt3 : ∀ k ∈ d3.weights Try.prog 9, k ≤ Go.Awp.reach := fun k hk => by
    have z := List.all_eq_true.1 hsz k (DataW.weights_mem_each (j := 3) (t := 9) (d := d3) rfl rfl k hk)
    exact of_decide_eq_true z
  obtain ⟨a3, s3, x3⟩ := open_leaf hT (fun b _ => freeAll_ok b) 8 (by kernel_rfl) (hval 3 9 v3 rfl rfl) h3 wt3
  refine (law_calls (con s0 s1 s2 s3) rfl (repv_cons x0 (repv_cons x1 (repv_cons x2 (repv_cons x3 repv_nil))))).mono fun e W' ⟨he, bel⟩ => ?_
  subst he
  exact ⟨_, rfl, _, _, _, [], _, [], hW', trodAll_mk1 (shut_bool (und_bool hT rfl) _), (trodAll_cons_mk (Below.trod laidOut (by kernel_rfl) (of_decide_eq_true (by kernel_rfl)) h0 bel lt0) (trodAll_cons_mk (Below.trod laidOut (by kernel_rfl) (of_decide_eq_true (by kernel_rfl)) h1 bel lt1) (trodAll_cons_mk (Below.trod laidOut (by kernel_rfl) (of_decide_eq_true (by kernel_rfl)) h2 bel lt2) (trodAll_cons_mk (Below.trod laidOut (by kernel_rfl) (of_decide_eq_true (by kernel_rfl)) h3 bel lt3) trodAll_mk0)))), rfl, bel.frame _, fun h => by cases h⟩
theorem over : Rows.priceOfRow.holds Try.pinned (OpenSpec.ofChange Rows.priceOfSpec) :=
  OpenClaim.holds_of_wide 14 Try.f14 rfl rfl rfl rfl rfl rfl rfl ⟨rfl, rfl, rfl, rfl, rfl⟩ rfl rfl rfl rfl rfl (by kernel_rfl) Try.func14 (by kernel_rfl)
    (of_decide_eq_true (by kernel_rfl)) (by unfold Func.isWrapper; first | (rw [if_pos (by decide +kernel)]; kernel_rfl) | (rw [if_neg (by decide +kernel)]; exact ⟨rfl, rfl⟩))
    (fun os started H enc _ => lifted os started H enc)
theorem proved : Rows.PriceOfSaid := over
end Go.Proofs.Ytfkibkfjebppdaa.priceOf
namespace Go.Proofs.Ytfkibkfjebppdaa
/-- The row, under a short name, for the claim. -/
theorem priceOf_holds : Rows.PriceOfSaid := priceOf.proved
end Go.Proofs.Ytfkibkfjebppdaa

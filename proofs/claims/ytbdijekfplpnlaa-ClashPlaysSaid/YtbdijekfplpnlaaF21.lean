/- clash: what slices' Index and IndexFunc find; Clash. -/
import Derived.Test.YtbdijekfplpnlaaGo
import Derived.Test.YtbdijekfplpnlaaF14f
import Derived.Test.YtbdijekfplpnlaaTr7
-- @D
namespace Go.Proofs.Ytbdijekfplpnlaa
set_option maxRecDepth 20000
open Go.Awp Tr
/-- The first place at which something holds. -/
def idxG {α : Type} (g : α → Bool) : List α → Nat → Int
  | [], _ => -1
  | x :: t, i => if g x = true then (i : Int) else idxG g t (i + 1)
theorem idxG_any {α : Type} (g : α → Bool) : ∀ (l : List α) (i : Nat), decide (idxG g l i ≥ 0) = l.any g
  | [], i => rfl
  | x :: t, i => by
    unfold idxG
    rw [List.any_cons]
    split
    · rename_i h
      rw [h, Bool.true_or]
      exact decide_eq_true (by omega)
    · rename_i h
      simp only [Bool.not_eq_true] at h
      rw [h, Bool.false_or]
      exact idxG_any g t (i + 1)
structure IxG {α : Type} (g : α → Bool) (l : List α) where
  i : Nat
  h : i ≤ l.length
  e : idxG g (l.drop i) i = idxG g l 0
theorem idxG_step {α : Type} (g : α → Bool) {l : List α} {i : Nat} {x : α} (hx : l[i]? = some x) : idxG g (l.drop i) i = if g x = true then (i : Int) else idxG g (l.drop (i + 1)) (i + 1) := by
  obtain ⟨h, rfl⟩ := List.getElem?_eq_some_iff.1 hx
  rw [List.drop_eq_getElem_cons h]
  rfl
theorem map_get {α : Type} (f : α → AV) {l : List α} {i : Nat} {x : α} (hx : l[i]? = some x) : (l.map f)[((i : Nat) : Int).toNat]? = some (f x) := by rw [Int.toNat_natCast, List.getElem?_map, hx]; rfl
set_option maxHeartbeats 4000000 in
theorem strIndex_spec (s : AV) (l : List (List UInt8)) (k : List UInt8) (hrd : ∀ L, Rd [] L (.p s) (l.map .str)) (hl : l.length ≤ big40) : Con Try.prog 85 [.p s, .p (.str k)] [] (.p (.int .i64 (idxG (fun x => k == x) l 0))) [] [] := by
  have hlen : (l.map AV.str).length = l.length := by simp
  unfold big40 at hl
  refine con_of Try.func85 rfl (by kernel_rfl) rfl fun F w0 β0 => ?_
  refine K_tell rfl ?_
  refine go ?_
  refine K_op rfl rfl (opr_len_rd hT rfl rfl (hrd _)) rfl ?_
  rw [hlen]
  refine go ?_
  refine J_loop (fun q : IxG (fun x => k == x) l => [(0, .p s), (1, .p (.str k)), (7, .p (.int .i64 (l.length : Int))), (8, .p (.int .i64 (q.i : Int)))]) (fun _ => []) (fun _ => []) (fun q => l.length - q.i) ⟨0, by omega, rfl⟩ ⟨rfl, rfl, rfl, rfl, trivial⟩ rfl rfl (fun q => ?_)
  have hi := q.h
  have he := q.e
  refine go ?_
  by_cases h : q.i < l.length
  · have hx : l[q.i]? = some l[q.i] := List.getElem?_eq_getElem h
    generalize l[q.i] = x at hx
    have hxk := map_get AV.str hx
    rw [idxG_step _ hx] at he
    refine K_condT rfl (decide_eq_true (by omega)) ?_
    refine go ?_
    refine K_op rfl rfl (opr_index hT rfl rfl rfl rfl rfl (hrd _) (by omega) (by rw [hlen]; omega)) rfl ?_
    refine go ?_
    refine K_op rfl rfl (opr_load_el hT rfl rfl (hrd _) hxk rfl rfl) rfl ?_
    refine go ?_
    by_cases hk : (k == x) = true
    · rw [if_pos hk] at he
      rw [← he]
      refine K_condT rfl hk ?_
      refine go ?_
      exact J_done hT rfl rfl rfl
    · rw [if_neg hk] at he
      refine K_condF rfl (by simpa using hk) ?_
      refine go ?_
      refine J_again ⟨q.i + 1, by omega, he⟩ (by show l.length - (q.i + 1) < l.length - q.i; omega) ⟨rfl, rfl, rfl, congrArg (fun z => TV.p (.int .i64 z)) (by rw [IntWalk.i64_in _ (by omega)]; rfl), trivial⟩ rfl rfl
  rw [List.drop_eq_nil_of_le (by omega), idxG] at he
  rw [← he]
  refine K_condF rfl (decide_eq_false (by omega)) ?_
  refine go ?_
  exact J_done hT rfl rfl rfl
theorem strContains_spec (s : AV) (l : List (List UInt8)) (k : List UInt8) (hrd : ∀ L, Rd [] L (.p s) (l.map .str)) (hl : l.length ≤ big40) : Con Try.prog 70 [.p s, .p (.str k)] [] (.p (.bool (l.any fun x => k == x))) [] [] := by
  have c1 := strIndex_spec s l k hrd hl
  rw [← idxG_any _ l 0]
  generalize idxG (fun x => k == x) l 0 = z at c1
  refine con_of Try.func70 rfl (by kernel_rfl) rfl fun F w0 β0 => ?_
  refine K_tell rfl ?_
  refine go ?_
  refine K_op rfl rfl (opr_callP rfl rfl (c1) rfl rfl rfl rfl) rfl ?_
  refine go ?_
  exact J_done hT rfl rfl rfl
/-! ### IndexFunc -/
set_option maxHeartbeats 4000000 in
theorem rgIndexFunc_spec (s : AV) (l : List Rg) (f : Nat) (cap : AV) (g : Rg → Bool) (hrd : ∀ L, Rd [] L (.p s) (l.map rgV)) (hl : l.length ≤ big40) (hf : ∀ x ∈ l, Con Try.prog f [.p (rgV x), .p cap] [] (.p (.bool (g x))) [] []) : Con Try.prog 86 [.p s, .fn f [.p cap]] [] (.p (.int .i64 (idxG g l 0))) [] [] := by
  have hlen : (l.map rgV).length = l.length := by simp
  unfold big40 at hl
  refine con_of Try.func86 rfl (by kernel_rfl) rfl fun F w0 β0 => ?_
  refine K_tell rfl ?_
  refine go ?_
  refine K_op rfl rfl (opr_len_rd hT rfl rfl (hrd _)) rfl ?_
  rw [hlen]
  refine go ?_
  refine J_loop (fun q : IxG g l => [(0, .p s), (1, .fn f [.p cap]), (7, .p (.int .i64 (l.length : Int))), (8, .p (.int .i64 (q.i : Int)))]) (fun _ => []) (fun _ => []) (fun q => l.length - q.i) ⟨0, by omega, rfl⟩ ⟨rfl, rfl, rfl, rfl, trivial⟩ rfl rfl (fun q => ?_)
  have hi := q.h
  have he := q.e
  refine go ?_
  by_cases h : q.i < l.length
  · have hx : l[q.i]? = some l[q.i] := List.getElem?_eq_getElem h
    have hfx := hf _ (List.getElem_mem h)
    generalize l[q.i] = x at hx hfx
    have hxk := map_get rgV hx
    rw [idxG_step _ hx] at he
    refine K_condT rfl (decide_eq_true (by omega)) ?_
    refine go ?_
    refine K_op rfl rfl (opr_index hT rfl rfl rfl rfl rfl (hrd _) (by omega) (by rw [hlen]; omega)) rfl ?_
    refine go ?_
    refine K_op rfl rfl (opr_load_el hT rfl rfl (hrd _) hxk rfl rfl) rfl ?_
    refine go ?_
    refine K_op rfl rfl (opr_callP rfl rfl (hfx) rfl rfl rfl rfl) rfl ?_
    refine go ?_
    by_cases hk : g x = true
    · rw [if_pos hk] at he
      rw [← he]
      refine K_condT rfl hk ?_
      refine go ?_
      exact J_done hT rfl rfl rfl
    · rw [if_neg hk] at he
      refine K_condF rfl (by simpa using hk) ?_
      refine go ?_
      refine J_again ⟨q.i + 1, by omega, he⟩ (by show l.length - (q.i + 1) < l.length - q.i; omega) ⟨rfl, rfl, rfl, congrArg (fun z => TV.p (.int .i64 z)) (by rw [IntWalk.i64_in _ (by omega)]; rfl), trivial⟩ rfl rfl
  rw [List.drop_eq_nil_of_le (by omega), idxG] at he
  rw [← he]
  refine K_condF rfl (decide_eq_false (by omega)) ?_
  refine go ?_
  exact J_done hT rfl rfl rfl
theorem rgContainsFunc_spec (s : AV) (l : List Rg) (f : Nat) (cap : AV) (g : Rg → Bool) (hrd : ∀ L, Rd [] L (.p s) (l.map rgV)) (hl : l.length ≤ big40) (hf : ∀ x ∈ l, Con Try.prog f [.p (rgV x), .p cap] [] (.p (.bool (g x))) [] []) : Con Try.prog 71 [.p s, .fn f [.p cap]] [] (.p (.bool (l.any g))) [] [] := by
  have c1 := rgIndexFunc_spec s l f cap g hrd hl hf
  rw [← idxG_any g l 0]
  generalize idxG g l 0 = z at c1
  refine con_of Try.func71 rfl (by kernel_rfl) rfl fun F w0 β0 => ?_
  refine K_tell rfl ?_
  refine go ?_
  refine K_op rfl rfl (opr_callP rfl rfl (c1) rfl rfl rfl rfl) rfl ?_
  refine go ?_
  exact J_done hT rfl rfl rfl
end Go.Proofs.Ytbdijekfplpnlaa

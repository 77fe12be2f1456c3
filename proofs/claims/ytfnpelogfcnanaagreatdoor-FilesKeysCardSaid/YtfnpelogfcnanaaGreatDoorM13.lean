/- Contracts and plain laws, several texts joined: F18u, F18v. -/
import Derived.Test.YtfnpelogfcnanaaGreatDoorGo
import Derived.Test.YtfnpelogfcnanaaGreatDoorM12
/- The model of layer 18 (the reference): Make, remove, unlink, Remove, Unlink, List. -/
-- @D
namespace Go.Proofs.YtfnpelogfcnanaaGreatDoor
set_option maxRecDepth 20000
open Go.Awp Tr
abbrev eT (e : Int) (f : MF) : TV := .tup [.p (.int .i64 e), fsT f]
theorem spot_dir {f : MF} {a : MS} (h : f.spot a) (h1 : a.i ≠ 1) : ∃ z, f.at a.d = some z ∧ z.k = 2 ∧ a.i = z.entry a.m := by
  rcases h with rfl | h
  · exact absurd rfl h1
  · exact h
theorem nod_new (i k n : Int) : nodA ⟨i, k, n, [], []⟩ = .agg [.int .u32 i, .int .u8 k, .int .i64 n, .str [], .ps []] := rfl
/-- A node that has no entries is handed on without a slice. -/
theorem rWith_new (f : MF) (i k n : Int) (hf : f.length ≤ 100000) : Con Tryz.prog 89 [fsA f, .p (.agg [.int .u32 i, .int .u8 k, .int .i64 n, .str [], .nils])] [] (fsT (f.with ⟨i, k, n, [], []⟩)) [] [] := by
  have c := rWith_spec f ⟨i, k, n, [], []⟩ hf
  rw [nod_new] at c
  exact ⟨c.can, fun F w β vs hS hr => c.run F w β vs hS ⟨hr.1, fun j z v hz hv => by
    match j with
    | 0 => exact hr.2 0 z v hz hv
    | 1 =>
      obtain rfl : TV.p (.agg [.int .u32 i, .int .u8 k, .int .i64 n, .str [], .ps []]) = z := by simpa using hz
      have := hr.2 1 _ v rfl hv
      cases this with | p q =>
      cases q with | agg _ us hl hq =>
      refine .p (.agg _ us hl fun a y u hy hu => ?_)
      match a with
      | 0 => exact hq 0 y u hy hu
      | 1 => exact hq 1 y u hy hu
      | 2 => exact hq 2 y u hy hu
      | 3 => exact hq 3 y u hy hu
      | 4 =>
        obtain rfl : AV.ps [] = y := by simpa using hy
        exact nils_ps _ _ _ (hq 4 _ u rfl hu)
      | a + 5 => simp at hy
    | j + 2 => simp at hz⟩⟩
set_option maxHeartbeats 8000000 in
theorem rmake_spec {f : MF} {c : Nat} (hf : f.ok c) (hc : c ≤ 50000) (p : List UInt8) (k i : Int) (hi : U32 i) : Con Tryz.prog 44 [fsA f, .p (.str p), .p (.int .u8 k), .p (.int .u32 i)] [] (eT (f.make p k i).1 (f.make p k i).2) [] [] := by
  have c1 := rfind18_spec hf (by omega) p
  have hsp := findP_spot hf (p := p)
  unfold MF.make
  generalize f.findP p = q at c1 hsp
  obtain ⟨a, e⟩ := q
  dsimp only at c1 hsp ⊢
  by_cases he : e ≠ 0
  · rw [if_pos he]
    refine con_of Tryz.func44 rfl (by kernel_rfl) rfl fun F w0 β0 => ?_
    refine K_tell rfl ?_
    refine go ?_
    refine K_op rfl rfl (opr_callP rfl rfl (c1) rfl rfl rfl rfl) rfl ?_
    refine go ?_
    refine K_condT rfl (by simp [he]) ?_
    refine go ?_
    refine J_drawS 3 (by kernel_rfl) (by kernel_rfl) ?_
    apply Exists.intro
    refine gdW ?_
    refine go ?_
    exact J_done hT rfl rfl rfl
  rw [if_neg he]
  obtain rfl : e = 0 := by simpa using he
  by_cases h0 : a.i ≠ 0
  · rw [if_pos h0]
    refine con_of Tryz.func44 rfl (by kernel_rfl) rfl fun F w0 β0 => ?_
    refine K_tell rfl ?_
    refine go ?_
    refine K_op rfl rfl (opr_callP rfl rfl (c1) rfl rfl rfl rfl) rfl ?_
    refine go ?_
    refine K_condT rfl (by simp [h0]) ?_
    refine go ?_
    refine J_drawS 2 (by kernel_rfl) (by kernel_rfl) ?_
    apply Exists.intro
    refine gdW ?_
    refine go ?_
    exact J_done hT rfl rfl rfl
  rw [if_neg h0]
  simp only [ne_eq, Decidable.not_not] at h0
  obtain ⟨z, hz, hzk, hze⟩ := spot_dir (hsp rfl) (by omega)
  dsimp only
  by_cases hk : k = 1
  · rw [if_pos hk]
    have c2 := rWith_new f i 1 1 (hf.wk.sz (by omega)).l
    have w2 := hf.wk.with ⟨i, 1, 1, [], []⟩ (Nat.zero_le _) (by dsimp only; omega) (by simp [Rises])
    obtain ⟨z2, hz2⟩ := has_with (f := f) ⟨i, 1, 1, [], []⟩ ⟨z, hz⟩
    generalize f.with ⟨i, 1, 1, [], []⟩ = f2 at c2 w2 hz2
    have c3 := rnamed_spec f2 a.d a.m i z2 hi (w2.sz (by omega)) hz2 (w2.r _ (at_mem hz2).1)
    generalize f2.named a.d a.m i = f3 at c3
    refine con_of Tryz.func44 rfl (by kernel_rfl) rfl fun F w0 β0 => ?_
    refine K_tell rfl ?_
    refine go ?_
    refine K_op rfl rfl (opr_callP rfl rfl (c1) rfl rfl rfl rfl) rfl ?_
    refine go ?_
    refine K_condF rfl (by simp [h0]) ?_
    refine go ?_
    refine K_condT rfl (by simp [hk]) ?_
    refine go ?_
    refine K_op rfl rfl (opr_callP rfl rfl (c2) rfl rfl rfl rfl) rfl ?_
    refine go ?_
    refine K_op rfl rfl (opr_callP rfl rfl (c3) rfl rfl rfl rfl) rfl ?_
    refine go ?_
    exact J_done hT rfl rfl rfl
  · rw [if_neg hk]
    have c2 := rWith_new f i 2 2 (hf.wk.sz (by omega)).l
    have w2 := hf.wk.with ⟨i, 2, 2, [], []⟩ (Nat.zero_le _) (by have := hf.wk.l; obtain ⟨y, hy⟩ := hf.root; have := List.length_pos_of_mem (at_mem hy).1; dsimp only; omega) (by simp [Rises])
    obtain ⟨z2, hz2⟩ := has_with (f := f) ⟨i, 2, 2, [], []⟩ ⟨z, hz⟩
    generalize f.with ⟨i, 2, 2, [], []⟩ = f2 at c2 w2 hz2
    have c3 := rlinked_spec f2 a.d 1 z2 (w2.sz (by omega)) hz2 (by decide)
    have w3 := w2.linked a.d 1 (by decide)
    obtain ⟨z3, hz3⟩ := has_linked (f := f2) a.d 1 ⟨z2, hz2⟩
    generalize f2.linked a.d 1 = f3 at c3 w3 hz3
    have c4 := rnamed_spec f3 a.d a.m i z3 hi (w3.sz (by omega)) hz3 (w3.r _ (at_mem hz3).1)
    generalize f3.named a.d a.m i = f4 at c4
    refine con_of Tryz.func44 rfl (by kernel_rfl) rfl fun F w0 β0 => ?_
    refine K_tell rfl ?_
    refine go ?_
    refine K_op rfl rfl (opr_callP rfl rfl (c1) rfl rfl rfl rfl) rfl ?_
    refine go ?_
    refine K_condF rfl (by simp [h0]) ?_
    refine go ?_
    refine K_condF rfl (by simp [hk]) ?_
    refine go ?_
    refine K_op rfl rfl (opr_callP rfl rfl (c2) rfl rfl rfl rfl) rfl ?_
    refine go ?_
    refine K_op rfl rfl (opr_callP rfl rfl (c3) rfl rfl rfl rfl) rfl ?_
    refine go ?_
    refine K_op rfl rfl (opr_callP rfl rfl (c4) rfl rfl rfl rfl) rfl ?_
    refine go ?_
    exact J_done hT rfl rfl rfl
end Go.Proofs.YtfnpelogfcnanaaGreatDoor

/- The model of layer 18 (the reference): List, Link, under, Rename. -/
-- @D
namespace Go.Proofs.YtfnpelogfcnanaaGreatDoor
set_option maxRecDepth 20000
open Go.Awp Tr
structure UnI (a b : List (List UInt8)) where
  i : Nat
  h : i ≤ a.length
  e : a.take i = b.take i
end Go.Proofs.YtfnpelogfcnanaaGreatDoor

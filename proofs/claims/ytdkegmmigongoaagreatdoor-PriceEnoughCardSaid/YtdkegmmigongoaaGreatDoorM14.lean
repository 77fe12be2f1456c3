import Derived.Test.YtdkegmmigongoaaGreatDoorGo
import Derived.Test.YtdkegmmigongoaaGreatDoorM13
namespace Go.Proofs.YtdkegmmigongoaaGreatDoor
set_option maxRecDepth 20000
open Go.Awp Tr
abbrev eT (e : Int) (f : MF) : TV := .tup [.p (.int .i64 e), fsT f]
theorem spot_dir {f : MF} {a : MS} (h : f.spot a) (h1 : a.i ≠ 1) : ∃ z, f.at a.d = some z ∧ z.k = 2 ∧ a.i = z.entry a.m := by
 rcases h with rfl | h
 ·exact absurd rfl h1
 ·exact h
theorem nod_new (i k n : Int) : nodA ⟨i, k, n, [], []⟩ = .agg [.int .u32 i, .int .u8 k, .int .i64 n, .str [], .ps []] := rfl
theorem rWith_new (f : MF) (i k n : Int) (hf : f.length ≤ 100000) : Con Tryz.prog 86 [fsA f, .p (.agg [.int .u32 i, .int .u8 k, .int .i64 n, .str [], .nils])] [] (fsT (f.with ⟨i, k, n, [], []⟩)) [] [] := by
 have c := rWith_spec f ⟨i, k, n, [], []⟩ hf
 rw [nod_new] at c
 exact ⟨c.can, fun F w β vs hS hr => c.run F w β vs hS ⟨hr.1, fun j z v hz hv => by
  match j with
  | 0 => exact hr.2 0 z v hz hv
  | 1 =>
   obtain rfl : TV.p (.agg [.int .u32 i, .int .u8 k, .int .i64 n, .str [], .ps []]) = z := by simpa using hz
   have := hr.2 1 _ v rfl hv
   cases this with | p q =>
   cases q with | agg _ us hl hq =>
   refine .p (.agg _ us hl fun a y u hy hu => ?_)
   match a with
   | 0 => exact hq 0 y u hy hu
   | 1 => exact hq 1 y u hy hu
   | 2 => exact hq 2 y u hy hu
   | 3 => exact hq 3 y u hy hu
   | 4 =>
    obtain rfl : AV.ps [] = y := by simpa using hy
    exact nils_ps _ _ _ (hq 4 _ u rfl hu)
   | a + 5 => simp at hy
  | j + 2 => simp at hz⟩⟩
set_option maxHeartbeats 8000000 in
theorem rmake_spec {f : MF} {c : Nat} (hf : f.ok c) (hc : c ≤ 50000) (p : List UInt8) (k i : Int) (hi : U32 i) : Con Tryz.prog 44 [fsA f, .p (.str p), .p (.int .u8 k), .p (.int .u32 i)] [] (eT (f.make p k i).1 (f.make p k i).2) [] [] := by
 have c1 := rfind18_spec hf (by omega) p
 have hsp := findP_spot hf (p := p)
 unfold MF.make
 generalize f.findP p = q at c1 hsp
 obtain ⟨a, e⟩ := q
 dsimp only at c1 hsp ⊢
 by_cases he : e ≠ 0
 ·rw [if_pos he]
  refine con_of Tryz.func44 rfl (by kernel_rfl) rfl fun F w0 β0 => ?_
  refine K_tell rfl ?_
  refine go ?_
  refine K_op rfl rfl (opr_callP rfl rfl (c1) rfl rfl rfl rfl) rfl ?_
  refine go ?_
  refine K_condT rfl (by simp [he]) ?_
  refine go ?_
  refine J_drawS 3 (by kernel_rfl) (by kernel_rfl) ?_
  apply Exists.intro
  refine gdW ?_
  refine go ?_
  exact J_done hT rfl rfl rfl
 rw [if_neg he]
 obtain rfl : e = 0 := by simpa using he
 by_cases h0 : a.i ≠ 0
 ·rw [if_pos h0]
  refine con_of Tryz.func44 rfl (by kernel_rfl) rfl fun F w0 β0 => ?_
  refine K_tell rfl ?_
  refine go ?_
  refine K_op rfl rfl (opr_callP rfl rfl (c1) rfl rfl rfl rfl) rfl ?_
  refine go ?_
  refine K_condT rfl (by simp [h0]) ?_
  refine go ?_
  refine J_drawS 2 (by kernel_rfl) (by kernel_rfl) ?_
  apply Exists.intro
  refine gdW ?_
  refine go ?_
  exact J_done hT rfl rfl rfl
 rw [if_neg h0]
 simp only [ne_eq, Decidable.not_not] at h0
 obtain ⟨z, hz, hzk, hze⟩ := spot_dir (hsp rfl) (by omega)
 dsimp only
 by_cases hk : k = 1
 ·rw [if_pos hk]
  have c2 := rWith_new f i 1 1 (hf.wk.sz (by omega)).l
  have w2 := hf.wk.with ⟨i, 1, 1, [], []⟩ (Nat.zero_le _) (by dsimp only; omega) (by simp [Rises])
  obtain ⟨z2, hz2⟩ := has_with (f := f) ⟨i, 1, 1, [], []⟩ ⟨z, hz⟩
  generalize f.with ⟨i, 1, 1, [], []⟩ = f2 at c2 w2 hz2
  have c3 := rnamed_spec f2 a.d a.m i z2 hi (w2.sz (by omega)) hz2 (w2.r _ (at_mem hz2).1)
  generalize f2.named a.d a.m i = f3 at c3
  refine con_of Tryz.func44 rfl (by kernel_rfl) rfl fun F w0 β0 => ?_
  refine K_tell rfl ?_
  refine go ?_
  refine K_op rfl rfl (opr_callP rfl rfl (c1) rfl rfl rfl rfl) rfl ?_
  refine go ?_
  refine K_condF rfl (by simp [h0]) ?_
  refine go ?_
  refine K_condT rfl (by simp [hk]) ?_
  refine go ?_
  refine K_op rfl rfl (opr_callP rfl rfl (c2) rfl rfl rfl rfl) rfl ?_
  refine go ?_
  refine K_op rfl rfl (opr_callP rfl rfl (c3) rfl rfl rfl rfl) rfl ?_
  refine go ?_
  exact J_done hT rfl rfl rfl
 ·rw [if_neg hk]
  have c2 := rWith_new f i 2 2 (hf.wk.sz (by omega)).l
  have w2 := hf.wk.with ⟨i, 2, 2, [], []⟩ (Nat.zero_le _) (by have := hf.wk.l; obtain ⟨y, hy⟩ := hf.root; have := List.length_pos_of_mem (at_mem hy).1; dsimp only; omega) (by simp [Rises])
  obtain ⟨z2, hz2⟩ := has_with (f := f) ⟨i, 2, 2, [], []⟩ ⟨z, hz⟩
  generalize f.with ⟨i, 2, 2, [], []⟩ = f2 at c2 w2 hz2
  have c3 := rlinked_spec f2 a.d 1 z2 (w2.sz (by omega)) hz2 (by decide)
  have w3 := w2.linked a.d 1 (by decide)
  obtain ⟨z3, hz3⟩ := has_linked (f := f2) a.d 1 ⟨z2, hz2⟩
  generalize f2.linked a.d 1 = f3 at c3 w3 hz3
  have c4 := rnamed_spec f3 a.d a.m i z3 hi (w3.sz (by omega)) hz3 (w3.r _ (at_mem hz3).1)
  generalize f3.named a.d a.m i = f4 at c4
  refine con_of Tryz.func44 rfl (by kernel_rfl) rfl fun F w0 β0 => ?_
  refine K_tell rfl ?_
  refine go ?_
  refine K_op rfl rfl (opr_callP rfl rfl (c1) rfl rfl rfl rfl) rfl ?_
  refine go ?_
  refine K_condF rfl (by simp [h0]) ?_
  refine go ?_
  refine K_condF rfl (by simp [hk]) ?_
  refine go ?_
  refine K_op rfl rfl (opr_callP rfl rfl (c2) rfl rfl rfl rfl) rfl ?_
  refine go ?_
  refine K_op rfl rfl (opr_callP rfl rfl (c3) rfl rfl rfl rfl) rfl ?_
  refine go ?_
  refine K_op rfl rfl (opr_callP rfl rfl (c4) rfl rfl rfl rfl) rfl ?_
  refine go ?_
  exact J_done hT rfl rfl rfl
theorem dir_ne {f : MF} {c : Nat} (hf : f.ok c) {a : MS} {z n : MN} (hz : f.at a.d = some z) (hze : a.i = z.entry a.m) (h0 : a.i ≠ 0) (hn : f.at a.i = some n) (hk : n.e = [] ∨ (z.k = 2 ∧ n.k ≠ 2)) : a.d ≠ a.i := fun e => by
 rw [e, hn] at hz
 obtain rfl := Option.some.inj hz
 rcases hk with hk | ⟨h1, h2⟩
 ·rw [hze] at h0
  exact ((entry_has hf (at_mem hn).1 a.m).resolve_left h0).2 hk
 ·exact h2 h1
set_option maxHeartbeats 8000000 in
theorem rremove_spec {f : MF} {c : Nat} (hf : f.ok c) (hc : c ≤ 50000) (a : MS) (n : MN) (hn : f.at a.i = some n) (h0 : a.i ≠ 0) (hd : n.k = 2 → n.e = [] → ∃ z, f.at a.d = some z ∧ z.k = 2 ∧ a.i = z.entry a.m) : Con Tryz.prog 96 [fsA f, msA a] [] (eT (f.rmv a).1 (f.rmv a).2) [] [] := by
 have c1 := rNode_spec f a n (hf.wk.sz (by omega)).l hn
 have hlen : (ents n.e).length = n.e.length := by simp
 unfold MF.rmv
 rw [hn]
 dsimp only
 by_cases hk : n.k ≠ 2
 ·rw [if_pos hk]
  refine con_of Tryz.func96 rfl (by kernel_rfl) rfl fun F w0 β0 => ?_
  refine K_tell rfl ?_
  refine go ?_
  refine K_op rfl rfl (opr_callP rfl rfl (c1) rfl rfl rfl rfl) rfl ?_
  refine go ?_
  refine K_condT rfl (by simp [hk]) ?_
  refine go ?_
  refine J_drawS 2 (by kernel_rfl) (by kernel_rfl) ?_
  apply Exists.intro
  refine gdW ?_
  refine go ?_
  exact J_done hT rfl rfl rfl
 rw [if_neg hk]
 simp only [ne_eq, Decidable.not_not] at hk
 by_cases hl : n.e.length > 0
 ·rw [if_pos hl]
  refine con_of Tryz.func96 rfl (by kernel_rfl) rfl fun F w0 β0 => ?_
  refine K_tell rfl ?_
  refine go ?_
  refine K_op rfl rfl (opr_callP rfl rfl (c1) rfl rfl rfl rfl) rfl ?_
  refine go ?_
  refine K_condF rfl (by simp [hk]) ?_
  refine go ?_
  refine K_condT rfl (decide_eq_true (by rw [hlen]; omega)) ?_
  refine go ?_
  refine J_drawS 2 (by kernel_rfl) (by kernel_rfl) ?_
  apply Exists.intro
  refine gdW ?_
  refine go ?_
  exact J_done hT rfl rfl rfl
 rw [if_neg hl]
 have hne : n.e = [] := List.eq_nil_of_length_eq_zero (by omega)
 obtain ⟨z, hz, hzk, hze⟩ := hd hk hne
 have hda := dir_ne hf hz hze h0 hn (.inl hne)
 have c2 := rWithout_spec f a.i (hf.wk.sz (by omega)).l
 have w2 := hf.wk.without a.i
 obtain ⟨z2, hz2⟩ := has_without (f := f) ⟨z, hz⟩ hda
 generalize f.without a.i = f2 at c2 w2 hz2
 have c3 := rlinked_spec f2 a.d (-1) z2 (w2.sz (by omega)) hz2 (by decide)
 have w3 := w2.linked a.d (-1) (by decide)
 obtain ⟨z3, hz3⟩ := has_linked (f := f2) a.d (-1) ⟨z2, hz2⟩
 generalize f2.linked a.d (-1) = f3 at c3 w3 hz3
 have c4 := rnamed_spec f3 a.d a.m 0 z3 (by decide) (w3.sz (by omega)) hz3 (w3.r _ (at_mem hz3).1)
 generalize f3.named a.d a.m 0 = f4 at c4
 refine con_of Tryz.func96 rfl (by kernel_rfl) rfl fun F w0 β0 => ?_
 refine K_tell rfl ?_
 refine go ?_
 refine K_op rfl rfl (opr_callP rfl rfl (c1) rfl rfl rfl rfl) rfl ?_
 refine go ?_
 refine K_condF rfl (by simp [hk]) ?_
 refine go ?_
 refine K_condF rfl (decide_eq_false (by rw [hlen]; omega)) ?_
 refine go ?_
 refine K_op rfl rfl (opr_callP rfl rfl (c2) rfl rfl rfl rfl) rfl ?_
 refine go ?_
 refine K_op rfl rfl (opr_callP rfl rfl (c3) rfl rfl rfl rfl) rfl ?_
 refine go ?_
 refine K_op rfl rfl (opr_callP rfl rfl (c4) rfl rfl rfl rfl) rfl ?_
 refine go ?_
 exact J_done hT rfl rfl rfl
set_option maxHeartbeats 8000000 in
theorem runlink_spec {f : MF} {c : Nat} (hf : f.ok c) (hc : c ≤ 50000) (a : MS) (n : MN) (hn : f.at a.i = some n) (h0 : a.i ≠ 0) (hd : n.k ≠ 2 → ∃ z, f.at a.d = some z ∧ z.k = 2 ∧ a.i = z.entry a.m) : Con Tryz.prog 97 [fsA f, msA a] [] (eT (f.unl a).1 (f.unl a).2) [] [] := by
 have c1 := rNode_spec f a n (hf.wk.sz (by omega)).l hn
 unfold MF.unl
 rw [hn]
 dsimp only
 by_cases hk : n.k = 2
 ·rw [if_pos hk]
  refine con_of Tryz.func97 rfl (by kernel_rfl) rfl fun F w0 β0 => ?_
  refine K_tell rfl ?_
  refine go ?_
  refine K_op rfl rfl (opr_callP rfl rfl (c1) rfl rfl rfl rfl) rfl ?_
  refine go ?_
  refine K_condT rfl (by simp [hk]) ?_
  refine go ?_
  refine J_drawS 2 (by kernel_rfl) (by kernel_rfl) ?_
  apply Exists.intro
  refine gdW ?_
  refine go ?_
  exact J_done hT rfl rfl rfl
 rw [if_neg hk]
 obtain ⟨z, hz, hzk, hze⟩ := hd hk
 have hda := dir_ne hf hz hze h0 hn (.inr ⟨hzk, hk⟩)
 by_cases hl : n.n = 1
 ·rw [if_pos hl]
  have c2 := rWithout_spec f a.i (hf.wk.sz (by omega)).l
  have w2 := hf.wk.without a.i
  obtain ⟨z2, hz2⟩ := has_without (f := f) ⟨z, hz⟩ hda
  generalize f.without a.i = f2 at c2 w2 hz2
  have c4 := rnamed_spec f2 a.d a.m 0 z2 (by decide) (w2.sz (by omega)) hz2 (w2.r _ (at_mem hz2).1)
  generalize f2.named a.d a.m 0 = f4 at c4
  refine con_of Tryz.func97 rfl (by kernel_rfl) rfl fun F w0 β0 => ?_
  refine K_tell rfl ?_
  refine go ?_
  refine K_op rfl rfl (opr_callP rfl rfl (c1) rfl rfl rfl rfl) rfl ?_
  refine go ?_
  refine K_condF rfl (by simp [hk]) ?_
  refine go ?_
  refine K_condT rfl (by simp [hl]) ?_
  refine go ?_
  refine K_op rfl rfl (opr_callP rfl rfl (c2) rfl rfl rfl rfl) rfl ?_
  refine go ?_
  refine K_op rfl rfl (opr_callP rfl rfl (c4) rfl rfl rfl rfl) rfl ?_
  refine go ?_
  exact J_done hT rfl rfl rfl
 ·rw [if_neg hl]
  have c2 := rlinked_spec f a.i (-1) n (hf.wk.sz (by omega)) hn (by decide)
  have w2 := hf.wk.linked a.i (-1) (by decide)
  obtain ⟨z2, hz2⟩ := has_linked (f := f) a.i (-1) ⟨z, hz⟩
  generalize f.linked a.i (-1) = f2 at c2 w2 hz2
  have c4 := rnamed_spec f2 a.d a.m 0 z2 (by decide) (w2.sz (by omega)) hz2 (w2.r _ (at_mem hz2).1)
  generalize f2.named a.d a.m 0 = f4 at c4
  refine con_of Tryz.func97 rfl (by kernel_rfl) rfl fun F w0 β0 => ?_
  refine K_tell rfl ?_
  refine go ?_
  refine K_op rfl rfl (opr_callP rfl rfl (c1) rfl rfl rfl rfl) rfl ?_
  refine go ?_
  refine K_condF rfl (by simp [hk]) ?_
  refine go ?_
  refine K_condF rfl (by simp [hl]) ?_
  refine go ?_
  refine K_op rfl rfl (opr_callP rfl rfl (c2) rfl rfl rfl rfl) rfl ?_
  refine go ?_
  refine K_op rfl rfl (opr_callP rfl rfl (c4) rfl rfl rfl rfl) rfl ?_
  refine go ?_
  exact J_done hT rfl rfl rfl
set_option maxHeartbeats 8000000 in
theorem rRemove_spec {f : MF} {c : Nat} (hf : f.ok c) (hc : c ≤ 50000) (p : List UInt8) : Con Tryz.prog 51 [fsA f, .p (.str p)] [] (eT (f.remove p).1 (f.remove p).2) [] [] := by
 have c1 := rfind18_spec hf (by omega) p
 have hsp := findP_spot hf (p := p)
 unfold MF.remove
 generalize f.findP p = q at c1 hsp
 obtain ⟨a, e⟩ := q
 dsimp only at c1 hsp ⊢
 by_cases he : e ≠ 0
 ·rw [if_pos he]
  refine con_of Tryz.func51 rfl (by kernel_rfl) rfl fun F w0 β0 => ?_
  refine K_tell rfl ?_
  refine go ?_
  refine K_op rfl rfl (opr_callP rfl rfl (c1) rfl rfl rfl rfl) rfl ?_
  refine go ?_
  refine K_condT rfl (by simp [he]) ?_
  refine go ?_
  refine J_drawS 3 (by kernel_rfl) (by kernel_rfl) ?_
  apply Exists.intro
  refine gdW ?_
  refine go ?_
  exact J_done hT rfl rfl rfl
 rw [if_neg he]
 obtain rfl : e = 0 := by simpa using he
 by_cases h1 : a.i = 1
 ·rw [if_pos h1]
  refine con_of Tryz.func51 rfl (by kernel_rfl) rfl fun F w0 β0 => ?_
  refine K_tell rfl ?_
  refine go ?_
  refine K_op rfl rfl (opr_callP rfl rfl (c1) rfl rfl rfl rfl) rfl ?_
  refine go ?_
  refine K_condT rfl (by simp [h1]) ?_
  refine go ?_
  refine J_drawS 2 (by kernel_rfl) (by kernel_rfl) ?_
  apply Exists.intro
  refine gdW ?_
  refine go ?_
  exact J_done hT rfl rfl rfl
 rw [if_neg h1]
 by_cases h0 : a.i = 0
 ·rw [if_pos h0]
  refine con_of Tryz.func51 rfl (by kernel_rfl) rfl fun F w0 β0 => ?_
  refine K_tell rfl ?_
  refine go ?_
  refine K_op rfl rfl (opr_callP rfl rfl (c1) rfl rfl rfl rfl) rfl ?_
  refine go ?_
  refine K_condF rfl (by simp [h1]) ?_
  refine go ?_
  refine K_condT rfl (by simp [h0]) ?_
  refine go ?_
  refine J_drawS 2 (by kernel_rfl) (by kernel_rfl) ?_
  apply Exists.intro
  refine gdW ?_
  refine go ?_
  exact J_done hT rfl rfl rfl
 rw [if_neg h0]
 obtain ⟨n, hn⟩ := (spot_has hf (hsp rfl)).resolve_left h0
 have c2 := rremove_spec hf hc a n hn h0 (fun _ _ => spot_dir (hsp rfl) h1)
 generalize f.rmv a = r at c2
 obtain ⟨e2, f2⟩ := r
 dsimp only at c2 ⊢
 refine con_of Tryz.func51 rfl (by kernel_rfl) rfl fun F w0 β0 => ?_
 refine K_tell rfl ?_
 refine go ?_
 refine K_op rfl rfl (opr_callP rfl rfl (c1) rfl rfl rfl rfl) rfl ?_
 refine go ?_
 refine K_condF rfl (by simp [h1]) ?_
 refine go ?_
 refine K_condF rfl (by simp [h0]) ?_
 refine go ?_
 refine K_op rfl rfl (opr_callP rfl rfl (c2) rfl rfl rfl rfl) rfl ?_
 refine go ?_
 exact J_done hT rfl rfl rfl
set_option maxHeartbeats 8000000 in
theorem rUnlink_spec {f : MF} {c : Nat} (hf : f.ok c) (hc : c ≤ 50000) (h1k : f.kind 1 = 2) (p : List UInt8) : Con Tryz.prog 50 [fsA f, .p (.str p)] [] (eT (f.unlink p).1 (f.unlink p).2) [] [] := by
 have c1 := rfind18_spec hf (by omega) p
 have hsp := findP_spot hf (p := p)
 unfold MF.unlink
 generalize f.findP p = q at c1 hsp
 obtain ⟨a, e⟩ := q
 dsimp only at c1 hsp ⊢
 by_cases he : e ≠ 0
 ·rw [if_pos he]
  refine con_of Tryz.func50 rfl (by kernel_rfl) rfl fun F w0 β0 => ?_
  refine K_tell rfl ?_
  refine go ?_
  refine K_op rfl rfl (opr_callP rfl rfl (c1) rfl rfl rfl rfl) rfl ?_
  refine go ?_
  refine K_condT rfl (by simp [he]) ?_
  refine go ?_
  refine J_drawS 3 (by kernel_rfl) (by kernel_rfl) ?_
  apply Exists.intro
  refine gdW ?_
  refine go ?_
  exact J_done hT rfl rfl rfl
 rw [if_neg he]
 obtain rfl : e = 0 := by simpa using he
 by_cases h0 : a.i = 0
 ·rw [if_pos h0]
  refine con_of Tryz.func50 rfl (by kernel_rfl) rfl fun F w0 β0 => ?_
  refine K_tell rfl ?_
  refine go ?_
  refine K_op rfl rfl (opr_callP rfl rfl (c1) rfl rfl rfl rfl) rfl ?_
  refine go ?_
  refine K_condT rfl (by simp [h0]) ?_
  refine go ?_
  refine J_drawS 2 (by kernel_rfl) (by kernel_rfl) ?_
  apply Exists.intro
  refine gdW ?_
  refine go ?_
  exact J_done hT rfl rfl rfl
 rw [if_neg h0]
 obtain ⟨n, hn⟩ := (spot_has hf (hsp rfl)).resolve_left h0
 have c2 := runlink_spec hf hc a n hn h0 (fun hk => by
  refine spot_dir (hsp rfl) fun e1 => hk ?_
  rw [e1] at hn
  unfold MF.kind at h1k
  rw [hn] at h1k
  exact h1k)
 generalize f.unl a = r at c2
 obtain ⟨e2, f2⟩ := r
 dsimp only at c2 ⊢
 refine con_of Tryz.func50 rfl (by kernel_rfl) rfl fun F w0 β0 => ?_
 refine K_tell rfl ?_
 refine go ?_
 refine K_op rfl rfl (opr_callP rfl rfl (c1) rfl rfl rfl rfl) rfl ?_
 refine go ?_
 refine K_condF rfl (by simp [h0]) ?_
 refine go ?_
 refine K_op rfl rfl (opr_callP rfl rfl (c2) rfl rfl rfl rfl) rfl ?_
 refine go ?_
 exact J_done hT rfl rfl rfl
theorem nmS_take {l : List KV} {i : Nat} {x : KV} (hx : l[i]? = some x) : (l.take i).map (fun y => AV.str y.1) ++ [.str x.1] = (l.take (i + 1)).map fun y => AV.str y.1 := map_take1 (fun y : KV => AV.str y.1) hx
set_option maxHeartbeats 8000000 in
theorem rList_spec {f : MF} {c : Nat} (hf : f.ok c) (hc : c ≤ 50000) (p : List UInt8) : ∃ x, AVLe x (.ps ((f.list p).1.map .str)) ∧ Con Tryz.prog 52 [fsA f, .p (.str p)] [] (.tup [.p x, .p (.int .i64 (f.list p).2)]) [] [] := by
 have c1 := rfind18_spec hf (by omega) p
 have hsp := findP_spot hf (p := p)
 unfold MF.list
 generalize f.findP p = q at c1 hsp
 obtain ⟨a, e⟩ := q
 dsimp only at c1 hsp ⊢
 by_cases he : e ≠ 0
 ·rw [if_pos he]
  refine ⟨.cz, cz_ps, ?_⟩
  refine con_of Tryz.func52 rfl (by kernel_rfl) rfl fun F w0 β0 => ?_
  refine K_tell rfl ?_
  refine go ?_
  refine K_op rfl rfl (opr_callP rfl rfl (c1) rfl rfl rfl rfl) rfl ?_
  refine go ?_
  refine K_condT rfl (by simp [he]) ?_
  refine go ?_
  exact J_done hT rfl rfl rfl
 rw [if_neg he]
 obtain rfl : e = 0 := by simpa using he
 by_cases h0 : a.i = 0
 ·rw [if_pos h0]
  refine ⟨.cz, cz_ps, ?_⟩
  refine con_of Tryz.func52 rfl (by kernel_rfl) rfl fun F w0 β0 => ?_
  refine K_tell rfl ?_
  refine go ?_
  refine K_op rfl rfl (opr_callP rfl rfl (c1) rfl rfl rfl rfl) rfl ?_
  refine go ?_
  refine K_condT rfl (by simp [h0]) ?_
  refine go ?_
  exact J_done hT rfl rfl rfl
 rw [if_neg h0]
 obtain ⟨n, hn⟩ := (spot_has hf (hsp rfl)).resolve_left h0
 rw [hn]
 dsimp only
 have c2 := rNode_spec f a n (hf.wk.sz (by omega)).l hn
 by_cases hk : n.k ≠ 2
 ·rw [if_pos hk]
  refine ⟨.cz, cz_ps, ?_⟩
  refine con_of Tryz.func52 rfl (by kernel_rfl) rfl fun F w0 β0 => ?_
  refine K_tell rfl ?_
  refine go ?_
  refine K_op rfl rfl (opr_callP rfl rfl (c1) rfl rfl rfl rfl) rfl ?_
  refine go ?_
  refine K_condF rfl (by simp [h0]) ?_
  refine go ?_
  refine K_op rfl rfl (opr_callP rfl rfl (c2) rfl rfl rfl rfl) rfl ?_
  refine go ?_
  refine K_condT rfl (by simp [hk]) ?_
  refine go ?_
  exact J_done hT rfl rfl rfl
 rw [if_neg hk]
 refine ⟨_, AVLe.refl _, ?_⟩
 have hel := hf.wk.e n (at_mem hn).1
 have hlen : (ents n.e).length = n.e.length := by simp
 have em : (n.e.map (·.1)).map AV.str = n.e.map fun y => AV.str y.1 := by rw [List.map_map]; rfl
 dsimp only
 rw [em]
 refine con_of Tryz.func52 rfl (by kernel_rfl) rfl fun F w0 β0 => ?_
 refine K_tell rfl ?_
 refine go ?_
 refine K_op rfl rfl (opr_callP rfl rfl (c1) rfl rfl rfl rfl) rfl ?_
 refine go ?_
 refine K_condF rfl (by simp [h0]) ?_
 refine go ?_
 refine K_op rfl rfl (opr_callP rfl rfl (c2) rfl rfl rfl rfl) rfl ?_
 refine go ?_
 refine K_condF rfl (by simpa using hk) ?_
 refine go ?_
 refine J_lazyE 6 9 (e := 1) rfl rfl (.inr rfl) ?_
 refine J_loop (fun q : Ix n.e.length => [(6, .sl (.l 3) q.i 0 q.i), (9, .ad (.l 2) 0), (35, .p (.int .i64 (n.e.length : Int))), (36, .p (.int .i64 (q.i : Int)))]) (fun _ => []) (fun q => [fB f, msB a, nB n, .arr 9 true 1 ((n.e.take q.i).map fun y => AV.str y.1)]) (fun q => n.e.length - q.i) ⟨0, by omega⟩ ⟨rfl, rfl, (by rw [← hlen]; rfl), rfl, trivial⟩ rfl rfl (fun q => ?_)
 have hi := q.h
 have hlt : ((n.e.take q.i).map fun y => AV.str y.1).length = q.i := by simp; omega
 refine go ?_
 by_cases h : q.i < n.e.length
 ·have hx : n.e[q.i]? = some n.e[q.i] := List.getElem?_eq_getElem h
  generalize n.e[q.i] = y at hx
  have hxk := ents_get hx
  refine K_condT rfl (decide_eq_true (by omega)) ?_
  refine go ?_
  refine K_op rfl rfl (opr_index hT rfl rfl rfl rfl rfl (.ps _) (by omega) (by rw [hlen]; omega)) rfl ?_
  refine go ?_
  refine K_op rfl rfl (opr_load_el hT rfl rfl (.ps _) hxk rfl rfl) rfl ?_
  refine go ?_
  refine K_op rfl rfl (opr_app_own hT rfl rfl rfl rfl hlt rfl rfl (.rd (.ps _)) hbs_ps (str_cl16 [y.1]) (str_size [y.1]) (by decide) (by show (q.i + 1) * 16 ≤ _; omega)) rfl ?_
  refine go ?_
  refine J_again ⟨q.i + 1, by omega⟩ (by show n.e.length - (q.i + 1) < n.e.length - q.i; omega) ⟨rfl, rfl, rfl, congrArg (fun z => TV.p (.int .i64 z)) (by rw [IntWalk.i64_in _ (by omega)]; rfl), trivial⟩ rfl (by dsimp only; rw [← nmS_take hx]; rfl)
 have hq : q.i = n.e.length := by omega
 rw [hq, List.take_length] at hlt ⊢
 refine K_condF rfl (decide_eq_false (by omega)) ?_
 refine J_freeze_all 6 3 rfl rfl hlt ?_
 refine go ?_
 exact J_done hT rfl rfl rfl
structure UnI (a b : List (List UInt8)) where
 i : Nat
 h : i ≤ a.length
 e : a.take i = b.take i
set_option maxHeartbeats 8000000 in
theorem runder_spec (o p : List UInt8) (ho : (splitN o).2 = 0) (hp : (splitN p).2 = 0) : Con Tryz.prog 95 [.p (.str o), .p (.str p)] [] (.p (.bool (underB (namesP o) (namesP p)))) [] [] := by
 have c1 := rsplit16_spec o
 have c2 := rsplit16_spec p
 have l1 := (rsplitN_eq o).2 ho
 have l2 := (rsplitN_eq p).2 hp
 have h1 := namesP_len o
 have h2 := namesP_len p
 generalize (rsplitN o).1 = x1 at c1 l1
 generalize (rsplitN p).1 = x2 at c2 l2
 generalize (rsplitN o).2 = e1 at c1
 generalize (rsplitN p).2 = e2 at c2
 generalize namesP o = a at l1 h1
 generalize namesP p = b at l2 h2
 have ha : (a.map AV.str).length = a.length := by simp
 have hb : (b.map AV.str).length = b.length := by simp
 unfold underB
 refine con_of Tryz.func95 rfl (by kernel_rfl) rfl fun F w0 β0 => ?_
 refine K_tell rfl ?_
 refine go ?_
 refine K_op rfl rfl (opr_callP rfl rfl (c1) rfl rfl rfl rfl) rfl ?_
 refine go ?_
 refine K_op rfl rfl (opr_callP rfl rfl (c2) rfl rfl rfl rfl) rfl ?_
 refine go ?_
 refine J_le 5 _ rfl l1 ?_
 refine J_le 20 _ rfl l1 ?_
 refine J_le 7 _ rfl l2 ?_
 refine go ?_
 by_cases hl : a.length ≥ b.length
 ·refine K_condT rfl (decide_eq_true (by rw [ha, hb]; omega)) ?_
  rw [decide_eq_false (show ¬ (a.length : Int) < (b.length : Int) by omega), Bool.false_and]
  refine go ?_
  exact J_done hT rfl rfl rfl
 rw [decide_eq_true (show (a.length : Int) < (b.length : Int) by omega), Bool.true_and]
 refine K_condF rfl (decide_eq_false (by rw [ha, hb]; omega)) ?_
 refine go ?_
 refine J_loop (fun q : UnI a b => [(5, .p (.ps (a.map .str))), (7, .p (.ps (b.map .str))), (26, .p (.int .i64 (a.length : Int))), (27, .p (.int .i64 (q.i : Int)))]) (fun _ => []) (fun _ => []) (fun q => a.length - q.i) ⟨0, by omega, rfl⟩ ⟨rfl, rfl, (by rw [← ha]; rfl), rfl, trivial⟩ rfl rfl (fun q => ?_)
 have hi := q.h
 have he := q.e
 refine go ?_
 by_cases h : q.i < a.length
 ·have hx : a[q.i]? = some a[q.i] := List.getElem?_eq_getElem h
  have hy : b[q.i]? = some (b[q.i]'(by omega)) := List.getElem?_eq_getElem _
  generalize a[q.i] = x at hx
  generalize b[q.i]'(by omega) = y at hy
  have hxk : (a.map AV.str)[((q.i : Nat) : Int).toNat]? = some (.str x) := by rw [Int.toNat_natCast, List.getElem?_map, hx]; rfl
  have hyk : (b.map AV.str)[((q.i : Nat) : Int).toNat]? = some (.str y) := by rw [Int.toNat_natCast, List.getElem?_map, hy]; rfl
  refine K_condT rfl (decide_eq_true (by omega)) ?_
  refine go ?_
  refine J_draw [_] [] (by kernel_rfl) (by kernel_rfl) rfl ?_
  refine gd ?_
  refine T_opD rfl rfl rfl rfl rfl (opr_index hT rfl rfl rfl rfl rfl (.ps _) (by omega) (by rw [ha]; omega)) rfl ?_
  refine gd ?_
  refine T_opD rfl rfl rfl rfl rfl (opr_load_el hT rfl rfl (.ps _) hxk rfl rfl) rfl ?_
  refine gd ?_
  refine T_opD rfl rfl rfl rfl rfl (opr_index hT rfl rfl rfl rfl rfl (.ps _) (by omega) (by rw [hb]; omega)) rfl ?_
  refine gd ?_
  refine T_opD rfl rfl rfl rfl rfl (opr_load_el hT rfl rfl (.ps _) hyk rfl rfl) rfl ?_
  refine gd ?_
  by_cases hk : x = y
  ·refine K_condF rfl (by simp [hk]) ?_
   refine go ?_
   refine J_again ⟨q.i + 1, by omega, by rw [take_snoc hx, take_snoc hy, he, hk]⟩ (by show a.length - (q.i + 1) < a.length - q.i; omega) ⟨rfl, rfl, rfl, congrArg (fun z => TV.p (.int .i64 z)) (by rw [IntWalk.i64_in _ (by omega)]; rfl), trivial⟩ rfl rfl
  ·refine K_condT rfl (by simp [hk]) ?_
   have hne : ¬ a = b.take a.length := fun e => hk (by
    have h3 : (b.take a.length)[q.i]? = some y := by rw [List.getElem?_take, if_pos h]; exact hy
    rw [← e, hx] at h3
    exact Option.some.inj h3)
   rw [decide_eq_false hne]
   refine go ?_
   exact J_done hT rfl rfl rfl
 have hq : q.i = a.length := by omega
 rw [hq, List.take_length] at he
 rw [decide_eq_true he]
 refine K_condF rfl (decide_eq_false (by omega)) ?_
 refine go ?_
 exact J_done hT rfl rfl rfl
set_option maxHeartbeats 8000000 in
theorem rLink_spec {f : MF} {c : Nat} (hf : f.ok c) (hc : c ≤ 40000) (hu : ∀ x ∈ f, U32 x.i) (o p : List UInt8) : Con Tryz.prog 49 [fsA f, .p (.str o), .p (.str p)] [] (eT (f.link o p).1 (f.link o p).2) [] [] := by
 have c1 := rfind18_spec hf (by omega) o
 have hsp := findP_spot hf (p := o)
 have c2 := rfind18_spec hf (by omega) p
 have hsp2 := findP_spot hf (p := p)
 unfold MF.link
 generalize f.findP o = q at c1 hsp
 generalize f.findP p = q2 at c2 hsp2
 obtain ⟨a, e⟩ := q
 obtain ⟨b, e2⟩ := q2
 dsimp only at c1 c2 hsp hsp2 ⊢
 by_cases he : e ≠ 0
 ·rw [if_pos he]
  refine con_of Tryz.func49 rfl (by kernel_rfl) rfl fun F w0 β0 => ?_
  refine K_tell rfl ?_
  refine go ?_
  refine K_op rfl rfl (opr_callP rfl rfl (c1) rfl rfl rfl rfl) rfl ?_
  refine go ?_
  refine K_condT rfl (by simp [he]) ?_
  refine go ?_
  refine J_drawS 3 (by kernel_rfl) (by kernel_rfl) ?_
  apply Exists.intro
  refine gdW ?_
  refine go ?_
  exact J_done hT rfl rfl rfl
 rw [if_neg he]
 obtain rfl : e = 0 := by simpa using he
 by_cases h0 : a.i = 0
 ·rw [if_pos h0]
  refine con_of Tryz.func49 rfl (by kernel_rfl) rfl fun F w0 β0 => ?_
  refine K_tell rfl ?_
  refine go ?_
  refine K_op rfl rfl (opr_callP rfl rfl (c1) rfl rfl rfl rfl) rfl ?_
  refine go ?_
  refine K_condT rfl (by simp [h0]) ?_
  refine go ?_
  refine J_drawS 2 (by kernel_rfl) (by kernel_rfl) ?_
  apply Exists.intro
  refine gdW ?_
  refine go ?_
  exact J_done hT rfl rfl rfl
 rw [if_neg h0]
 obtain ⟨n, hn⟩ := (spot_has hf (hsp rfl)).resolve_left h0
 have hai : U32 a.i := by
  have := at_mem hn
  rw [← this.2]; exact hu n this.1
 have c3 := rNode_spec f a n (hf.wk.sz (by omega)).l hn
 rw [hn]
 dsimp only
 by_cases hk : n.k = 2
 ·rw [if_pos hk]
  refine con_of Tryz.func49 rfl (by kernel_rfl) rfl fun F w0 β0 => ?_
  refine K_tell rfl ?_
  refine go ?_
  refine K_op rfl rfl (opr_callP rfl rfl (c1) rfl rfl rfl rfl) rfl ?_
  refine go ?_
  refine K_condF rfl (by simp [h0]) ?_
  refine go ?_
  refine K_op rfl rfl (opr_callP rfl rfl (c3) rfl rfl rfl rfl) rfl ?_
  refine go ?_
  refine K_condT rfl (by simp [hk]) ?_
  refine go ?_
  refine J_drawS 2 (by kernel_rfl) (by kernel_rfl) ?_
  apply Exists.intro
  refine gdW ?_
  refine go ?_
  exact J_done hT rfl rfl rfl
 rw [if_neg hk]
 by_cases he2 : e2 ≠ 0
 ·rw [if_pos he2]
  refine con_of Tryz.func49 rfl (by kernel_rfl) rfl fun F w0 β0 => ?_
  refine K_tell rfl ?_
  refine go ?_
  refine K_op rfl rfl (opr_callP rfl rfl (c1) rfl rfl rfl rfl) rfl ?_
  refine go ?_
  refine K_condF rfl (by simp [h0]) ?_
  refine go ?_
  refine K_op rfl rfl (opr_callP rfl rfl (c3) rfl rfl rfl rfl) rfl ?_
  refine go ?_
  refine K_condF rfl (by simp [hk]) ?_
  refine go ?_
  refine K_op rfl rfl (opr_callP rfl rfl (c2) rfl rfl rfl rfl) rfl ?_
  refine go ?_
  refine K_condT rfl (by simp [he2]) ?_
  refine go ?_
  refine J_drawS 3 (by kernel_rfl) (by kernel_rfl) ?_
  apply Exists.intro
  refine gdW ?_
  refine go ?_
  exact J_done hT rfl rfl rfl
 rw [if_neg he2]
 obtain rfl : e2 = 0 := by simpa using he2
 by_cases h2 : b.i ≠ 0
 ·rw [if_pos h2]
  refine con_of Tryz.func49 rfl (by kernel_rfl) rfl fun F w0 β0 => ?_
  refine K_tell rfl ?_
  refine go ?_
  refine K_op rfl rfl (opr_callP rfl rfl (c1) rfl rfl rfl rfl) rfl ?_
  refine go ?_
  refine K_condF rfl (by simp [h0]) ?_
  refine go ?_
  refine K_op rfl rfl (opr_callP rfl rfl (c3) rfl rfl rfl rfl) rfl ?_
  refine go ?_
  refine K_condF rfl (by simp [hk]) ?_
  refine go ?_
  refine K_op rfl rfl (opr_callP rfl rfl (c2) rfl rfl rfl rfl) rfl ?_
  refine go ?_
  refine K_condT rfl (by simp [h2]) ?_
  refine go ?_
  refine J_drawS 2 (by kernel_rfl) (by kernel_rfl) ?_
  apply Exists.intro
  refine gdW ?_
  refine go ?_
  exact J_done hT rfl rfl rfl
 rw [if_neg h2]
 simp only [ne_eq, Decidable.not_not] at h2
 by_cases hm : n.n ≥ 1000
 ·rw [if_pos hm]
  refine con_of Tryz.func49 rfl (by kernel_rfl) rfl fun F w0 β0 => ?_
  refine K_tell rfl ?_
  refine go ?_
  refine K_op rfl rfl (opr_callP rfl rfl (c1) rfl rfl rfl rfl) rfl ?_
  refine go ?_
  refine K_condF rfl (by simp [h0]) ?_
  refine go ?_
  refine K_op rfl rfl (opr_callP rfl rfl (c3) rfl rfl rfl rfl) rfl ?_
  refine go ?_
  refine K_condF rfl (by simp [hk]) ?_
  refine go ?_
  refine K_op rfl rfl (opr_callP rfl rfl (c2) rfl rfl rfl rfl) rfl ?_
  refine go ?_
  refine K_condF rfl (by simp [h2]) ?_
  refine go ?_
  refine K_op rfl rfl (opr_callP rfl rfl (c3) rfl rfl rfl rfl) rfl ?_
  refine go ?_
  refine K_condT rfl (decide_eq_true hm) ?_
  refine go ?_
  refine J_drawS 2 (by kernel_rfl) (by kernel_rfl) ?_
  apply Exists.intro
  refine gdW ?_
  refine go ?_
  exact J_done hT rfl rfl rfl
 rw [if_neg hm]
 dsimp only
 obtain ⟨z, hz, _, _⟩ := spot_dir (hsp2 rfl) (by omega)
 have c4 := rlinked_spec f a.i 1 n (hf.wk.sz (by omega)) hn (by decide)
 have w4 := hf.wk.linked a.i 1 (by decide)
 obtain ⟨z2, hz2⟩ := has_linked (f := f) a.i 1 ⟨z, hz⟩
 generalize f.linked a.i 1 = f2 at c4 w4 hz2
 have c5 := rnamed_spec f2 b.d b.m a.i z2 hai (w4.sz (by omega)) hz2 (w4.r _ (at_mem hz2).1)
 generalize f2.named b.d b.m a.i = f3 at c5
 refine con_of Tryz.func49 rfl (by kernel_rfl) rfl fun F w0 β0 => ?_
 refine K_tell rfl ?_
 refine go ?_
 refine K_op rfl rfl (opr_callP rfl rfl (c1) rfl rfl rfl rfl) rfl ?_
 refine go ?_
 refine K_condF rfl (by simp [h0]) ?_
 refine go ?_
 refine K_op rfl rfl (opr_callP rfl rfl (c3) rfl rfl rfl rfl) rfl ?_
 refine go ?_
 refine K_condF rfl (by simp [hk]) ?_
 refine go ?_
 refine K_op rfl rfl (opr_callP rfl rfl (c2) rfl rfl rfl rfl) rfl ?_
 refine go ?_
 refine K_condF rfl (by simp [h2]) ?_
 refine go ?_
 refine K_op rfl rfl (opr_callP rfl rfl (c3) rfl rfl rfl rfl) rfl ?_
 refine go ?_
 refine K_condF rfl (decide_eq_false hm) ?_
 refine go ?_
 refine K_op rfl rfl (opr_callP rfl rfl (c4) rfl rfl rfl rfl) rfl ?_
 refine go ?_
 refine K_op rfl rfl (opr_callP rfl rfl (c5) rfl rfl rfl rfl) rfl ?_
 refine go ?_
 exact J_done hT rfl rfl rfl
end Go.Proofs.YtdkegmmigongoaaGreatDoor

import Derived.Test.YtdkegmmigongoaaGreatDoorGo
import Derived.Test.YtdkegmmigongoaaGreatDoorM14
import Derived.Test.YtdkegmmigongoaaGreatDoorM12
import Derived.Test.YtdkegmmigongoaaGreatDoorM8
import Derived.Test.YtdkegmmigongoaaGreatDoorM10
import Derived.Test.YtdkegmmigongoaaGreatDoorM2
import Derived.Test.YtdkegmmigongoaaGreatDoorM11
import Derived.Test.YtdkegmmigongoaaGreatDoorM13
namespace Go.Proofs.YtdkegmmigongoaaGreatDoor
set_option maxRecDepth 20000
open Go.Awp Tr
theorem findP_err {f : MF} {p : List UInt8} (h : (f.findP p).2 = 0) : (splitN p).2 = 0 := by
 unfold MF.findP at h
 split at h
 ·rename_i h0; exact absurd h h0
 ·rename_i h0; simpa using h0
structure MF.mvOk (f : MF) (c : Nat) (s t : MS) : Prop where
 wk : f.wk c
 s : f.has s.d
 t : f.has t.d
theorem mv_rmv {f : MF} {c : Nat} (hf : f.ok c) {s t : MS} {n zs zt : MN} (hn : f.at t.i = some n) (h0 : t.i ≠ 0) (hs : f.at s.d = some zs) (hse : s.i = zs.entry s.m) (hs0 : s.i ≠ 0) (ht : f.at t.d = some zt) (hte : t.i = zt.entry t.m) (hr : (f.rmv t).1 = 0) : (f.rmv t).2.mvOk (c + 2) s t := by
 unfold MF.rmv at hr ⊢
 rw [hn] at hr ⊢
 dsimp only at hr ⊢
 by_cases hk : n.k ≠ 2
 ·rw [if_pos hk] at hr; cases hr
 rw [if_neg hk] at hr ⊢
 by_cases hl : n.e.length > 0
 ·rw [if_pos hl] at hr; cases hr
 rw [if_neg hl]
 have hne : n.e = [] := List.eq_nil_of_length_eq_zero (by omega)
 have h1 : t.d ≠ t.i := dir_ne hf ht hte h0 hn (.inl hne)
 have h2 : s.d ≠ t.i := fun e => by
  rw [e, hn] at hs
  obtain rfl := Option.some.inj hs
  rw [hse] at hs0
  exact ((entry_has hf (at_mem hn).1 s.m).resolve_left hs0).2 hne
 exact ⟨((hf.wk.without _).linked _ _ (by decide)).named _ _ _, has_named _ _ _ (has_linked _ _ (has_without ⟨_, hs⟩ h2)), has_named _ _ _ (has_linked _ _ (has_without ⟨_, ht⟩ h1))⟩
theorem mv_unl {f : MF} {c : Nat} (hf : f.ok c) {s t : MS} {n zs zt : MN} (hn : f.at t.i = some n) (h0 : t.i ≠ 0) (hs : f.at s.d = some zs) (hsk : zs.k = 2) (ht : f.at t.d = some zt) (htk : zt.k = 2) (hr : (f.unl t).1 = 0) : (f.unl t).2.mvOk (c + 2) s t := by
 unfold MF.unl at hr ⊢
 rw [hn] at hr ⊢
 dsimp only at hr ⊢
 by_cases hk : n.k = 2
 ·rw [if_pos hk] at hr; cases hr
 rw [if_neg hk]
 have key : ∀ {d : Int} {z : MN}, f.at d = some z → z.k = 2 → d ≠ t.i := fun {d z} hz hzk e => by
  rw [e, hn] at hz
  obtain rfl := Option.some.inj hz
  exact hk hzk
 dsimp only
 split
 ·exact ⟨((hf.wk.without _).named _ _ _).mono (by omega), has_named _ _ _ (has_without ⟨_, hs⟩ (key hs hsk)), has_named _ _ _ (has_without ⟨_, ht⟩ (key ht htk))⟩
 ·exact ⟨(hf.wk.linked _ _ (by decide)).named _ _ _, has_named _ _ _ (has_linked _ _ ⟨_, hs⟩), has_named _ _ _ (has_linked _ _ ⟨_, ht⟩)⟩
theorem mv_specs {f : MF} {c : Nat} {s t : MS} (h : f.mvOk c s t) (hc : c ≤ 50000) (hi : U32 s.i) : ∃ f1 f2 f3, Con Tryz.prog 88 [fsA f, .p (.int .u32 s.d), .p (.str s.m), .p (.int .u32 0)] [] (fsT f1) [] [] ∧
  Con Tryz.prog 88 [fsA f1, .p (.int .u32 t.d), .p (.str t.m), .p (.int .u32 s.i)] [] (fsT f2) [] [] ∧ Con Tryz.prog 87 [fsA f2, .p (.int .u32 s.d), .p (.int .i64 (-1))] [] (fsT f3) [] [] ∧
  Con Tryz.prog 87 [fsA f3, .p (.int .u32 t.d), .p (.int .i64 1)] [] (fsT (f.moved s t true)) [] [] ∧ f.moved s t false = f2 := by
 obtain ⟨z, hz⟩ := h.s
 have c1 := rnamed_spec f s.d s.m 0 z (by decide) (h.wk.sz (by omega)) hz (h.wk.r _ (at_mem hz).1)
 have w1 := h.wk.named s.d s.m 0
 obtain ⟨z1, hz1⟩ := has_named s.d s.m 0 h.t
 have s1 := has_named s.d s.m 0 h.s
 have c2 := rnamed_spec (f.named s.d s.m 0) t.d t.m s.i z1 hi (w1.sz (by omega)) hz1 (w1.r _ (at_mem hz1).1)
 have w2 := w1.named t.d t.m s.i
 obtain ⟨z2, hz2⟩ := has_named t.d t.m s.i s1
 have t2 := has_named t.d t.m s.i ⟨z1, hz1⟩
 have c3 := rlinked_spec _ s.d (-1) z2 (w2.sz (by omega)) hz2 (by decide)
 have w3 := w2.linked s.d (-1) (by decide)
 obtain ⟨z3, hz3⟩ := has_linked s.d (-1) t2
 have c4 := rlinked_spec _ t.d 1 z3 (w3.sz (by omega)) hz3 (by decide)
 exact ⟨_, _, _, c1, c2, c3, c4, rfl⟩
theorem kind_at {f : MF} {i : Int} {n : MN} (h : f.at i = some n) : f.kind i = n.k := by unfold MF.kind; rw [h]
set_option maxHeartbeats 32000000 in
theorem rRename_spec {f : MF} {c : Nat} (hf : f.ok c) (hc : c ≤ 40000) (hu : ∀ x ∈ f, U32 x.i) (o p : List UInt8) : Con Tryz.prog 48 [fsA f, .p (.str o), .p (.str p)] [] (eT (f.rename o p).1 (f.rename o p).2) [] [] := by
 have c1 := rfind18_spec hf (by omega) o
 have hsp := findP_spot hf (p := o)
 have hse := findP_err (f := f) (p := o)
 have c2 := rfind18_spec hf (by omega) p
 have hsp2 := findP_spot hf (p := p)
 have hse2 := findP_err (f := f) (p := p)
 unfold MF.rename
 generalize f.findP o = q at c1 hsp hse
 generalize f.findP p = q2 at c2 hsp2 hse2
 obtain ⟨a, e⟩ := q
 obtain ⟨b, e2⟩ := q2
 dsimp only at c1 c2 hsp hsp2 hse hse2 ⊢
 by_cases he : e ≠ 0
 ·rw [if_pos he]
  refine con_of Tryz.func48 rfl (by kernel_rfl) rfl fun F w0 β0 => ?_
  refine K_tell rfl ?_
  refine go ?_
  refine K_op rfl rfl (opr_callP rfl rfl (c1) rfl rfl rfl rfl) rfl ?_
  refine go ?_
  refine K_condT rfl (by simp [he]) ?_
  refine go ?_
  refine J_drawS 3 (by kernel_rfl) (by kernel_rfl) ?_
  apply Exists.intro
  refine gdW ?_
  refine go ?_
  exact J_done hT rfl rfl rfl
 rw [if_neg he]
 obtain rfl : e = 0 := by simpa using he
 by_cases h1 : a.i = 1
 ·rw [if_pos h1]
  refine con_of Tryz.func48 rfl (by kernel_rfl) rfl fun F w0 β0 => ?_
  refine K_tell rfl ?_
  refine go ?_
  refine K_op rfl rfl (opr_callP rfl rfl (c1) rfl rfl rfl rfl) rfl ?_
  refine go ?_
  refine K_condT rfl (by simp [h1]) ?_
  refine go ?_
  refine J_drawS 2 (by kernel_rfl) (by kernel_rfl) ?_
  apply Exists.intro
  refine gdW ?_
  refine go ?_
  exact J_done hT rfl rfl rfl
 rw [if_neg h1]
 by_cases h0 : a.i = 0
 ·rw [if_pos h0]
  refine con_of Tryz.func48 rfl (by kernel_rfl) rfl fun F w0 β0 => ?_
  refine K_tell rfl ?_
  refine go ?_
  refine K_op rfl rfl (opr_callP rfl rfl (c1) rfl rfl rfl rfl) rfl ?_
  refine go ?_
  refine K_condF rfl (by simp [h1]) ?_
  refine go ?_
  refine K_condT rfl (by simp [h0]) ?_
  refine go ?_
  refine J_drawS 2 (by kernel_rfl) (by kernel_rfl) ?_
  apply Exists.intro
  refine gdW ?_
  refine go ?_
  exact J_done hT rfl rfl rfl
 rw [if_neg h0]
 by_cases he2 : e2 ≠ 0
 ·rw [if_pos he2]
  refine con_of Tryz.func48 rfl (by kernel_rfl) rfl fun F w0 β0 => ?_
  refine K_tell rfl ?_
  refine go ?_
  refine K_op rfl rfl (opr_callP rfl rfl (c1) rfl rfl rfl rfl) rfl ?_
  refine go ?_
  refine K_condF rfl (by simp [h1]) ?_
  refine go ?_
  refine K_condF rfl (by simp [h0]) ?_
  refine go ?_
  refine K_op rfl rfl (opr_callP rfl rfl (c2) rfl rfl rfl rfl) rfl ?_
  refine go ?_
  refine K_condT rfl (by simp [he2]) ?_
  refine go ?_
  refine J_drawS 3 (by kernel_rfl) (by kernel_rfl) ?_
  apply Exists.intro
  refine gdW ?_
  refine go ?_
  exact J_done hT rfl rfl rfl
 rw [if_neg he2]
 obtain rfl : e2 = 0 := by simpa using he2
 by_cases b1 : b.i = 1
 ·rw [if_pos b1]
  refine con_of Tryz.func48 rfl (by kernel_rfl) rfl fun F w0 β0 => ?_
  refine K_tell rfl ?_
  refine go ?_
  refine K_op rfl rfl (opr_callP rfl rfl (c1) rfl rfl rfl rfl) rfl ?_
  refine go ?_
  refine K_condF rfl (by simp [h1]) ?_
  refine go ?_
  refine K_condF rfl (by simp [h0]) ?_
  refine go ?_
  refine K_op rfl rfl (opr_callP rfl rfl (c2) rfl rfl rfl rfl) rfl ?_
  refine go ?_
  refine K_condT rfl (by simp [b1]) ?_
  refine go ?_
  refine J_drawS 2 (by kernel_rfl) (by kernel_rfl) ?_
  apply Exists.intro
  refine gdW ?_
  refine go ?_
  exact J_done hT rfl rfl rfl
 rw [if_neg b1]
 by_cases b2 : b.i = a.i
 ·rw [if_pos b2]
  refine con_of Tryz.func48 rfl (by kernel_rfl) rfl fun F w0 β0 => ?_
  refine K_tell rfl ?_
  refine go ?_
  refine K_op rfl rfl (opr_callP rfl rfl (c1) rfl rfl rfl rfl) rfl ?_
  refine go ?_
  refine K_condF rfl (by simp [h1]) ?_
  refine go ?_
  refine K_condF rfl (by simp [h0]) ?_
  refine go ?_
  refine K_op rfl rfl (opr_callP rfl rfl (c2) rfl rfl rfl rfl) rfl ?_
  refine go ?_
  refine K_condF rfl (by simp [b1]) ?_
  refine go ?_
  refine K_condT rfl (by simp [b2]) ?_
  refine go ?_
  refine J_drawS 2 (by kernel_rfl) (by kernel_rfl) ?_
  apply Exists.intro
  refine gdW ?_
  refine go ?_
  exact J_done hT rfl rfl rfl
 rw [if_neg b2]
 obtain ⟨n, hn⟩ := (spot_has hf (hsp rfl)).resolve_left h0
 have hai : U32 a.i := by
  have := at_mem hn
  rw [← this.2]; exact hu n this.1
 have c3 := rNode_spec f a n (hf.wk.sz (by omega)).l hn
 have c4 := runder_spec o p (hse rfl) (hse2 rfl)
 rw [kind_at hn]
 generalize underB (namesP o) (namesP p) = u at c4
 obtain ⟨zs, hzs, hzsk, hzse⟩ := spot_dir (hsp rfl) h1
 obtain ⟨zt, hzt, hztk, hzte⟩ := spot_dir (hsp2 rfl) b1
 by_cases hk : n.k = 2
 ·have hkb : (n.k == 2) = true := by simp [hk]
  cases u with
  | true =>
   rw [if_pos (by simp [hk])]
   refine con_of Tryz.func48 rfl (by kernel_rfl) rfl fun F w0 β0 => ?_
   refine K_tell rfl ?_
   refine go ?_
   refine K_op rfl rfl (opr_callP rfl rfl (c1) rfl rfl rfl rfl) rfl ?_
   refine go ?_
   refine K_condF rfl (by simp [h1]) ?_
   refine go ?_
   refine K_condF rfl (by simp [h0]) ?_
   refine go ?_
   refine K_op rfl rfl (opr_callP rfl rfl (c2) rfl rfl rfl rfl) rfl ?_
   refine go ?_
   refine K_condF rfl (by simp [b1]) ?_
   refine go ?_
   refine K_condF rfl (by simp [b2]) ?_
   refine go ?_
   refine K_op rfl rfl (opr_callP rfl rfl (c3) rfl rfl rfl rfl) rfl ?_
   iterate 4 (refine g1 ?_)
   refine J_val 11 (.p (.bool true)) rfl (congrArg (fun b => TV.p (.bool b)) (by simp [hk])) ?_
   refine go ?_
   refine K_yes rfl rfl rfl (opr_callP rfl rfl (c4) rfl rfl rfl rfl) rfl ?_
   refine go ?_
   refine J_drawS 2 (by kernel_rfl) (by kernel_rfl) ?_
   apply Exists.intro
   refine gdW ?_
   refine go ?_
   exact J_done hT rfl rfl rfl
  | false =>
   rw [if_neg (by simp)]
   by_cases g0 : b.i = 0
   ·rw [if_pos g0]
    obtain ⟨f1, f2, f3, m1, m2, m3, m4, m5⟩ := mv_specs (c := c) (f := f) (s := a) (t := b) ⟨hf.wk, ⟨_, hzs⟩, ⟨_, hzt⟩⟩ (by omega) hai
    rw [hkb]
    dsimp only
    generalize f.moved a b true = f4 at m4
    refine con_of Tryz.func48 rfl (by kernel_rfl) rfl fun F w0 β0 => ?_
    refine K_tell rfl ?_
    refine go ?_
    refine K_op rfl rfl (opr_callP rfl rfl (c1) rfl rfl rfl rfl) rfl ?_
    refine go ?_
    refine K_condF rfl (by simp [h1]) ?_
    refine go ?_
    refine K_condF rfl (by simp [h0]) ?_
    refine go ?_
    refine K_op rfl rfl (opr_callP rfl rfl (c2) rfl rfl rfl rfl) rfl ?_
    refine go ?_
    refine K_condF rfl (by simp [b1]) ?_
    refine go ?_
    refine K_condF rfl (by simp [b2]) ?_
    refine go ?_
    refine K_op rfl rfl (opr_callP rfl rfl (c3) rfl rfl rfl rfl) rfl ?_
    iterate 4 (refine g1 ?_)
    refine J_val 11 (.p (.bool true)) rfl (congrArg (fun b => TV.p (.bool b)) (by simp [hk])) ?_
    refine go ?_
    refine K_yes rfl rfl rfl (opr_callP rfl rfl (c4) rfl rfl rfl rfl) rfl ?_
    refine go ?_
    refine K_condF rfl (by simp [g0]) ?_
    refine go ?_
    refine K_op rfl rfl (opr_callP rfl rfl (m1) rfl rfl rfl rfl) rfl ?_
    refine go ?_
    refine K_op rfl rfl (opr_callP rfl rfl (m2) rfl rfl rfl rfl) rfl ?_
    refine go ?_
    refine K_op rfl rfl (opr_callP rfl rfl (m3) rfl rfl rfl rfl) rfl ?_
    refine go ?_
    refine K_op rfl rfl (opr_callP rfl rfl (m4) rfl rfl rfl rfl) rfl ?_
    refine go ?_
    refine J_drawS 2 (by kernel_rfl) (by kernel_rfl) ?_
    apply Exists.intro
    refine gdW ?_
    refine go ?_
    exact J_done hT rfl rfl rfl
   rw [if_neg g0, if_pos hk]
   obtain ⟨nt, hnt⟩ := (spot_has hf (hsp2 rfl)).resolve_left g0
   have d1 := rremove_spec hf (by omega) b nt hnt g0 (fun _ _ => ⟨zt, hzt, hztk, hzte⟩)
   have d2 := mv_rmv hf hnt g0 hzs hzse h0 hzt hzte
   generalize f.rmv b = q at d1 d2
   obtain ⟨eq, fq⟩ := q
   dsimp only at d1 d2 ⊢
   by_cases hq : eq ≠ 0
   ·rw [if_pos hq]
    refine con_of Tryz.func48 rfl (by kernel_rfl) rfl fun F w0 β0 => ?_
    refine K_tell rfl ?_
    refine go ?_
    refine K_op rfl rfl (opr_callP rfl rfl (c1) rfl rfl rfl rfl) rfl ?_
    refine go ?_
    refine K_condF rfl (by simp [h1]) ?_
    refine go ?_
    refine K_condF rfl (by simp [h0]) ?_
    refine go ?_
    refine K_op rfl rfl (opr_callP rfl rfl (c2) rfl rfl rfl rfl) rfl ?_
    refine go ?_
    refine K_condF rfl (by simp [b1]) ?_
    refine go ?_
    refine K_condF rfl (by simp [b2]) ?_
    refine go ?_
    refine K_op rfl rfl (opr_callP rfl rfl (c3) rfl rfl rfl rfl) rfl ?_
    iterate 4 (refine g1 ?_)
    refine J_val 11 (.p (.bool true)) rfl (congrArg (fun b => TV.p (.bool b)) (by simp [hk])) ?_
    refine go ?_
    refine K_yes rfl rfl rfl (opr_callP rfl rfl (c4) rfl rfl rfl rfl) rfl ?_
    refine go ?_
    refine K_condT rfl (by simp [g0]) ?_
    refine go ?_
    refine K_op rfl rfl (opr_callP rfl rfl (d1) rfl rfl rfl rfl) rfl ?_
    refine go ?_
    refine K_condT rfl (by simp [hq]) ?_
    refine go ?_
    refine J_drawS 3 (by kernel_rfl) (by kernel_rfl) ?_
    apply Exists.intro
    refine gdW ?_
    refine go ?_
    exact J_done hT rfl rfl rfl
   rw [if_neg hq]
   obtain rfl : eq = 0 := by simpa using hq
   obtain ⟨f1, f2, f3, m1, m2, m3, m4, m5⟩ := mv_specs (d2 rfl) (by omega) hai
   rw [hkb]
   dsimp only
   generalize fq.moved a b true = f4 at m4
   refine con_of Tryz.func48 rfl (by kernel_rfl) rfl fun F w0 β0 => ?_
   refine K_tell rfl ?_
   refine go ?_
   refine K_op rfl rfl (opr_callP rfl rfl (c1) rfl rfl rfl rfl) rfl ?_
   refine go ?_
   refine K_condF rfl (by simp [h1]) ?_
   refine go ?_
   refine K_condF rfl (by simp [h0]) ?_
   refine go ?_
   refine K_op rfl rfl (opr_callP rfl rfl (c2) rfl rfl rfl rfl) rfl ?_
   refine go ?_
   refine K_condF rfl (by simp [b1]) ?_
   refine go ?_
   refine K_condF rfl (by simp [b2]) ?_
   refine go ?_
   refine K_op rfl rfl (opr_callP rfl rfl (c3) rfl rfl rfl rfl) rfl ?_
   iterate 4 (refine g1 ?_)
   refine J_val 11 (.p (.bool true)) rfl (congrArg (fun b => TV.p (.bool b)) (by simp [hk])) ?_
   refine go ?_
   refine K_yes rfl rfl rfl (opr_callP rfl rfl (c4) rfl rfl rfl rfl) rfl ?_
   refine go ?_
   refine K_condT rfl (by simp [g0]) ?_
   refine go ?_
   refine K_op rfl rfl (opr_callP rfl rfl (d1) rfl rfl rfl rfl) rfl ?_
   refine go ?_
   refine K_op rfl rfl (opr_callP rfl rfl (m1) rfl rfl rfl rfl) rfl ?_
   refine go ?_
   refine K_op rfl rfl (opr_callP rfl rfl (m2) rfl rfl rfl rfl) rfl ?_
   refine go ?_
   refine K_op rfl rfl (opr_callP rfl rfl (m3) rfl rfl rfl rfl) rfl ?_
   refine go ?_
   refine K_op rfl rfl (opr_callP rfl rfl (m4) rfl rfl rfl rfl) rfl ?_
   refine go ?_
   refine J_drawS 2 (by kernel_rfl) (by kernel_rfl) ?_
   apply Exists.intro
   refine gdW ?_
   refine go ?_
   exact J_done hT rfl rfl rfl
 ·have hkb : (n.k == 2) = false := by simp [hk]
  rw [if_neg (by simp [hk])]
  by_cases g0 : b.i = 0
  ·rw [if_pos g0]
   obtain ⟨f1, f2, f3, m1, m2, m3, m4, m5⟩ := mv_specs (c := c) (f := f) (s := a) (t := b) ⟨hf.wk, ⟨_, hzs⟩, ⟨_, hzt⟩⟩ (by omega) hai
   rw [hkb]
   dsimp only
   rw [m5]
   refine con_of Tryz.func48 rfl (by kernel_rfl) rfl fun F w0 β0 => ?_
   refine K_tell rfl ?_
   refine go ?_
   refine K_op rfl rfl (opr_callP rfl rfl (c1) rfl rfl rfl rfl) rfl ?_
   refine go ?_
   refine K_condF rfl (by simp [h1]) ?_
   refine go ?_
   refine K_condF rfl (by simp [h0]) ?_
   refine go ?_
   refine K_op rfl rfl (opr_callP rfl rfl (c2) rfl rfl rfl rfl) rfl ?_
   refine go ?_
   refine K_condF rfl (by simp [b1]) ?_
   refine go ?_
   refine K_condF rfl (by simp [b2]) ?_
   refine go ?_
   refine K_op rfl rfl (opr_callP rfl rfl (c3) rfl rfl rfl rfl) rfl ?_
   iterate 4 (refine g1 ?_)
   refine J_val 11 (.p (.bool false)) rfl (congrArg (fun b => TV.p (.bool b)) (by simp [hk])) ?_
   refine go ?_
   refine K_condF rfl (by simp [g0]) ?_
   refine go ?_
   refine K_op rfl rfl (opr_callP rfl rfl (m1) rfl rfl rfl rfl) rfl ?_
   refine go ?_
   refine K_op rfl rfl (opr_callP rfl rfl (m2) rfl rfl rfl rfl) rfl ?_
   refine go ?_
   refine J_drawS 2 (by kernel_rfl) (by kernel_rfl) ?_
   apply Exists.intro
   refine gdW ?_
   refine go ?_
   exact J_done hT rfl rfl rfl
  rw [if_neg g0, if_neg hk]
  obtain ⟨nt, hnt⟩ := (spot_has hf (hsp2 rfl)).resolve_left g0
  have d1 := runlink_spec hf (by omega) b nt hnt g0 (fun _ => ⟨zt, hzt, hztk, hzte⟩)
  have d2 := mv_unl (s := a) hf hnt g0 hzs hzsk hzt hztk
  generalize f.unl b = q at d1 d2
  obtain ⟨eq, fq⟩ := q
  dsimp only at d1 d2 ⊢
  by_cases hq : eq ≠ 0
  ·rw [if_pos hq]
   refine con_of Tryz.func48 rfl (by kernel_rfl) rfl fun F w0 β0 => ?_
   refine K_tell rfl ?_
   refine go ?_
   refine K_op rfl rfl (opr_callP rfl rfl (c1) rfl rfl rfl rfl) rfl ?_
   refine go ?_
   refine K_condF rfl (by simp [h1]) ?_
   refine go ?_
   refine K_condF rfl (by simp [h0]) ?_
   refine go ?_
   refine K_op rfl rfl (opr_callP rfl rfl (c2) rfl rfl rfl rfl) rfl ?_
   refine go ?_
   refine K_condF rfl (by simp [b1]) ?_
   refine go ?_
   refine K_condF rfl (by simp [b2]) ?_
   refine go ?_
   refine K_op rfl rfl (opr_callP rfl rfl (c3) rfl rfl rfl rfl) rfl ?_
   iterate 4 (refine g1 ?_)
   refine J_val 11 (.p (.bool false)) rfl (congrArg (fun b => TV.p (.bool b)) (by simp [hk])) ?_
   refine go ?_
   refine K_condT rfl (by simp [g0]) ?_
   refine go ?_
   refine K_op rfl rfl (opr_callP rfl rfl (d1) rfl rfl rfl rfl) rfl ?_
   refine go ?_
   refine K_condT rfl (by simp [hq]) ?_
   refine go ?_
   refine J_drawS 3 (by kernel_rfl) (by kernel_rfl) ?_
   apply Exists.intro
   refine gdW ?_
   refine go ?_
   exact J_done hT rfl rfl rfl
  rw [if_neg hq]
  obtain rfl : eq = 0 := by simpa using hq
  obtain ⟨f1, f2, f3, m1, m2, m3, m4, m5⟩ := mv_specs (d2 rfl) (by omega) hai
  rw [hkb]
  dsimp only
  rw [m5]
  refine con_of Tryz.func48 rfl (by kernel_rfl) rfl fun F w0 β0 => ?_
  refine K_tell rfl ?_
  refine go ?_
  refine K_op rfl rfl (opr_callP rfl rfl (c1) rfl rfl rfl rfl) rfl ?_
  refine go ?_
  refine K_condF rfl (by simp [h1]) ?_
  refine go ?_
  refine K_condF rfl (by simp [h0]) ?_
  refine go ?_
  refine K_op rfl rfl (opr_callP rfl rfl (c2) rfl rfl rfl rfl) rfl ?_
  refine go ?_
  refine K_condF rfl (by simp [b1]) ?_
  refine go ?_
  refine K_condF rfl (by simp [b2]) ?_
  refine go ?_
  refine K_op rfl rfl (opr_callP rfl rfl (c3) rfl rfl rfl rfl) rfl ?_
  iterate 4 (refine g1 ?_)
  refine J_val 11 (.p (.bool false)) rfl (congrArg (fun b => TV.p (.bool b)) (by simp [hk])) ?_
  refine go ?_
  refine K_condT rfl (by simp [g0]) ?_
  refine go ?_
  refine K_op rfl rfl (opr_callP rfl rfl (d1) rfl rfl rfl rfl) rfl ?_
  refine go ?_
  refine K_op rfl rfl (opr_callP rfl rfl (m1) rfl rfl rfl rfl) rfl ?_
  refine go ?_
  refine K_op rfl rfl (opr_callP rfl rfl (m2) rfl rfl rfl rfl) rfl ?_
  refine go ?_
  refine J_drawS 2 (by kernel_rfl) (by kernel_rfl) ?_
  apply Exists.intro
  refine gdW ?_
  refine go ?_
  exact J_done hT rfl rfl rfl
def do18 (s : VS) (m : MF) (k : Int) (p o : List UInt8) (i : Int) : (Int × VS) × (Int × MF) :=
 if k = 0 then (s.make p 1 i, m.make p 1 i) else if k = 1 then (s.make p 2 i, m.make p 2 i) else if k = 2 then (s.remove p, m.remove p) else if k = 4 then (s.link p o, m.link p o) else if k = 5 then (s.unlink p, m.unlink p) else if k = 6 then (s.rename p o, m.rename p o) else ((0, s), (0, m))
def doT (s : VS) (m : MF) (k : Int) (p o : List UInt8) (i : Int) : (Bool × MF × Bool) × VS :=
 if k = 3 then ((decide ((s.dlist p).1.2 = (m.list p).2) && decide ((s.dlist p).1.1 = (m.list p).1), m, false), (s.dlist p).2)
 else if (do18 s m k p o i).1.1 = 21 then ((true, m, true), (do18 s m k p o i).1.2) else ((decide ((do18 s m k p o i).1.1 = (do18 s m k p o i).2.1), (do18 s m k p o i).2.2, false), (do18 s m k p o i).1.2)
theorem opr_at {P : Program} {o : Oper} {env : Env} {H L H' L' : List AObj} {x y : TV} (h : OpR P o env H L x H' L') (e : x = y) : OpR P o env H L y H' L' := e ▸ h
def subL (c d : Int) (l : List KV) : List KV := (l.filter fun x => decide (keyH c d <+: x.1)).map fun x => (x.1.drop 5, x.2)
abbrev L8 (c : Int) : Prop := 0 ≤ c ∧ c ≤ 255
theorem key_iff {c d c' d' : Int} {x y : List UInt8} (hc : L8 c) (hc' : L8 c') (hd : U32 d) (hd' : U32 d') : keyH c d ++ x = keyH c' d' ++ y ↔ c = c' ∧ d = d' ∧ x = y :=
 ⟨fun e => key_inj hc hc' hd hd' e, fun ⟨e1, e2, e3⟩ => by rw [e1, e2, e3]⟩
theorem sub_mem {c d : Int} {l : List KV} {x v : List UInt8} : (x, v) ∈ subL c d l ↔ (keyH c d ++ x, v) ∈ l := by
 unfold subL
 rw [List.mem_map]
 constructor
 ·rintro ⟨y, hy, e⟩
  rw [List.mem_filter, decide_eq_true_eq] at hy
  obtain ⟨h1, r, h2⟩ := hy
  obtain ⟨e1, e2⟩ := Prod.mk.inj e
  rw [← h2, drop_app5] at e1
  subst e1 e2
  rw [h2]
  exact h1
 ·intro h
  exact ⟨_, List.mem_filter.2 ⟨h, decide_eq_true (List.prefix_append _ _)⟩, by dsimp only; rw [drop_app5]⟩
theorem sub_rises {c d : Int} {l : List KV} (h : Rises l) : Rises (subL c d l) := by
 unfold subL Rises
 rw [List.pairwise_map]
 have h2 : (l.filter fun x => decide (keyH c d <+: x.1)).Pairwise fun a b => lt a.1 b.1 := List.Pairwise.sublist List.filter_sublist h
 refine List.Pairwise.imp_of_mem (fun {a b} ha hb hab => ?_) h2
 rw [List.mem_filter, decide_eq_true_eq] at ha hb
 obtain ⟨_, r, hr⟩ := ha
 obtain ⟨_, t, ht⟩ := hb
 dsimp only
 unfold lt at hab ⊢
 rw [← hr, ← ht] at hab ⊢
 rw [bl_append] at hab
 rw [drop_app5, drop_app5]
 exact hab
theorem sub_get {c d : Int} {l : List KV} (h : Rises l) (x : List UInt8) : lget x (subL c d l) = lget (keyH c d ++ x) l := by
 cases hg : lget (keyH c d ++ x) l with
 | some v => exact (lget_some (sub_rises h)).2 (sub_mem.2 ((lget_some h).1 hg))
 | none =>
  cases hq : lget x (subL c d l) with
  | none => rfl
  | some v =>
   have := (lget_some h).2 (sub_mem.1 ((lget_some (sub_rises h)).1 hq))
   rw [hg] at this
   cases this
theorem sub_set {c d c' d' : Int} (hc : L8 c) (hc' : L8 c') (hd : U32 d) (hd' : U32 d') {l : List KV} (h : Rises l) (x v : List UInt8) : subL c d (lset (keyH c' d' ++ x) v l) = if c = c' ∧ d = d' then lset x v (subL c d l) else subL c d l := by
 split
 ·rename_i e
  obtain ⟨rfl, rfl⟩ := e
  refine rises_ext (sub_rises (lset_rises h)) (lset_rises (sub_rises h)) fun ⟨y, w⟩ => ?_
  rw [sub_mem, lset_mem_iff h, lset_mem_iff (sub_rises h), sub_mem]
  simp only [Prod.mk.injEq, key_iff hc hc' hd hd', true_and, ne_eq]
 ·rename_i e
  refine rises_ext (sub_rises (lset_rises h)) (sub_rises h) fun ⟨y, w⟩ => ?_
  rw [sub_mem, lset_mem_iff h, sub_mem]
  have key : ¬ (keyH c d ++ y = keyH c' d' ++ x) := fun q => by
   have := (key_iff hc hc' hd hd').1 q
   exact e ⟨this.1, this.2.1⟩
  simp only [Prod.mk.injEq, key, false_and, false_or, ne_eq, not_false_eq_true, and_true]
theorem sub_cut {c d c' d' : Int} (hc : L8 c) (hc' : L8 c') (hd : U32 d) (hd' : U32 d') {l : List KV} (h : Rises l) (x : List UInt8) : subL c d (lcut (keyH c' d' ++ x) l) = if c = c' ∧ d = d' then lcut x (subL c d l) else subL c d l := by
 split
 ·rename_i e
  obtain ⟨rfl, rfl⟩ := e
  refine rises_ext (sub_rises (lcut_rises h)) (lcut_rises (sub_rises h)) fun ⟨y, w⟩ => ?_
  rw [sub_mem, lcut_mem, lcut_mem, sub_mem]
  simp only [key_iff hc hc' hd hd', true_and, ne_eq]
 ·rename_i e
  refine rises_ext (sub_rises (lcut_rises h)) (sub_rises h) fun ⟨y, w⟩ => ?_
  rw [sub_mem, lcut_mem, sub_mem]
  have key : ¬ (keyH c d ++ y = keyH c' d' ++ x) := fun q => by
   have := (key_iff hc hc' hd hd').1 q
   exact e ⟨this.1, this.2.1⟩
  simp only [key, ne_eq, not_false_eq_true, and_true]
theorem get_set {c d c' d' : Int} (hc : L8 c) (hc' : L8 c') (hd : U32 d) (hd' : U32 d') {l : List KV} (h : Rises l) (x y v : List UInt8) : lget (keyH c d ++ x) (lset (keyH c' d' ++ y) v l) = if c = c' ∧ d = d' ∧ x = y then some v else lget (keyH c d ++ x) l := by
 rw [lget_lset h]
 by_cases e : c = c' ∧ d = d' ∧ x = y
 ·rw [if_pos e, if_pos ((key_iff hc hc' hd hd').2 e)]
 ·rw [if_neg e, if_neg fun q => e ((key_iff hc hc' hd hd').1 q)]
theorem get_cut {c d c' d' : Int} (hc : L8 c) (hc' : L8 c') (hd : U32 d) (hd' : U32 d') {l : List KV} (x y : List UInt8) : lget (keyH c d ++ x) (lcut (keyH c' d' ++ y) l) = if c = c' ∧ d = d' ∧ x = y then none else lget (keyH c d ++ x) l := by
 rw [lget_lcut]
 by_cases e : c = c' ∧ d = d' ∧ x = y
 ·rw [if_pos e, if_pos ((key_iff hc hc' hd hd').2 e)]
 ·rw [if_neg e, if_neg fun q => e ((key_iff hc hc' hd hd').1 q)]
def refB (j : Int) (y : KV) : Bool := (y.1.headD 0 == 69) && (y.2 == beB 4 j)
def refs (j : Int) (l : List KV) : Nat := l.countP (refB j)
def n1 (b : Bool) : Nat := if b = true then 1 else 0
theorem head_key (c d : Int) (x : List UInt8) : (keyH c d ++ x).headD 0 = UInt8.ofNat c.toNat := rfl
theorem be4_inj {i j : Int} (hi : U32 i) (hj : U32 j) : beB 4 i = beB 4 j ↔ i = j :=
 ⟨fun e => by rw [← beV_be4 i hi, ← beV_be4 j hj, e], fun e => by rw [e]⟩
theorem refs_other {c d : Int} (hc : c = 73 ∨ c = 68) (j : Int) (x v : List UInt8) : refB j (keyH c d ++ x, v) = false := by
 unfold refB
 rw [head_key]
 rcases hc with rfl | rfl <;> rfl
theorem refs_set_no {c d : Int} (hc : c = 73 ∨ c = 68) {l : List KV} (h : Rises l) (j : Int) (x v : List UInt8) : refs j (lset (keyH c d ++ x) v l) = refs j l := by
 have := count_set (refB j) (k := keyH c d ++ x) (v := v) h
 unfold refs
 rw [refs_other hc] at this
 cases hg : lget (keyH c d ++ x) l with
 | none => rw [hg] at this; simpa using this
 | some u => rw [hg] at this; dsimp only at this; rw [refs_other hc] at this; simpa using this
theorem refs_cut_no {c d : Int} (hc : c = 73 ∨ c = 68) {l : List KV} (h : Rises l) (j : Int) (x : List UInt8) : refs j (lcut (keyH c d ++ x) l) = refs j l := by
 have := count_cut (refB j) (k := keyH c d ++ x) h
 unfold refs
 cases hg : lget (keyH c d ++ x) l with
 | none => rw [hg] at this; simpa using this
 | some u => rw [hg] at this; dsimp only at this; rw [refs_other hc] at this; simpa using this
theorem refB_ent {d : Int} (j : Int) (x v : List UInt8) : refB j (keyH 69 d ++ x, v) = (v == beB 4 j) := by
 unfold refB
 rw [head_key]
 rfl
theorem refs_set {d i : Int} (hi : U32 i) {l : List KV} (h : Rises l) {j : Int} (hj : U32 j) (x : List UInt8) (hn : lget (keyH 69 d ++ x) l = none) : refs j (lset (keyH 69 d ++ x) (beB 4 i) l) = refs j l + (if i = j then 1 else 0) := by
 have := count_set (refB j) (k := keyH 69 d ++ x) (v := beB 4 i) h
 rw [hn, refB_ent] at this
 unfold refs
 by_cases e : i = j
 ·subst e; simpa using this
 ·have e2 : (beB 4 i == beB 4 j) = false := by simpa using fun q => e ((be4_inj hi hj).1 q)
  rw [e2] at this
  rw [if_neg e]
  simpa using this
theorem refs_cut {d i : Int} (hi : U32 i) {l : List KV} (h : Rises l) {j : Int} (hj : U32 j) (x : List UInt8) (hn : lget (keyH 69 d ++ x) l = some (beB 4 i)) : refs j (lcut (keyH 69 d ++ x) l) + (if i = j then 1 else 0) = refs j l := by
 have := count_cut (refB j) (k := keyH 69 d ++ x) h
 rw [hn] at this
 dsimp only at this
 rw [refB_ent] at this
 unfold refs
 by_cases e : i = j
 ·subst e; simpa using this
 ·have e2 : (beB 4 i == beB 4 j) = false := by simpa using fun q => e ((be4_inj hi hj).1 q)
  rw [e2] at this
  rw [if_neg e]
  simpa using this
def trim0 (s : List UInt8) : List UInt8 := (s.reverse.dropWhile (· == 0)).reverse
def blkOf (b : List UInt8) : List KV := (List.range ((b.length + 63) / 64)).filterMap fun n => if trim0 ((b.drop (64 * n)).take 64) = [] then none else some (beB 2 (n : Int), trim0 ((b.drop (64 * n)).take 64))
theorem blkOf_nil : blkOf [] = [] := rfl
def subsN (m : MF) (e : List KV) : Nat := e.countP fun y => m.kind (beV y.2) == 2
structure Rel (l : List KV) (m : MF) (par : Int → Int) : Prop where
 ri : Rises l
 fst : ∀ x ∈ m, m.at x.i = some x
 u : ∀ j x, m.at j = some x → U32 j ∧ j ≠ 0
 root : ∃ x, m.at 1 = some x ∧ x.k = 2
 rpar : par 1 = 1
 nod : ∀ j x, m.at j = some x → ndOf j (lget (keyH 73 j) l) = some (x.k, x.n, (x.b.length : Int), par j)
 non : ∀ j, U32 j → m.at j = none → lget (keyH 73 j) l = none
 ent : ∀ j x, m.at j = some x → x.e = subL 69 j l
 eno : ∀ j, U32 j → m.at j = none → subL 69 j l = []
 blk : ∀ j x, m.at j = some x → subL 68 j l = blkOf x.b
 bno : ∀ j, U32 j → m.at j = none → subL 68 j l = []
 nam : ∀ j x, m.at j = some x → ∀ nm v, lget nm x.e = some v → nameB nm = true ∧ ∃ c z, v = beB 4 c ∧ m.at c = some z ∧ c ≠ 1 ∧ (z.k = 2 → par c = j)
 kin : ∀ j x, m.at j = some x → (x.k = 2 ∧ x.b = []) ∨ (x.k = 1 ∧ x.e = [] ∧ par j = 0)
 lkf : ∀ j x, m.at j = some x → x.k = 1 → x.n = (refs j l : Int)
 lkd : ∀ j x, m.at j = some x → x.k = 2 → x.n = 2 + (subsN m x.e : Int)
 one : ∀ j x, m.at j = some x → x.k = 2 → refs j l = if j = 1 then 0 else 1
 key : ∀ y ∈ l, ∃ c j r, (c = 73 ∧ r = [] ∨ c = 69 ∨ c = 68) ∧ U32 j ∧ y.1 = keyH c j ++ r
def par0 (j : Int) : Int := if j = 1 then 1 else 0
theorem Rel.new : Rel [] newM par0 := by
 have hat : ∀ j x, MF.at newM j = some x → j = 1 ∧ x = ⟨1, 2, 2, [], []⟩ := fun j x h => by
  have h1 := at_mem h
  have : x = ⟨1, 2, 2, [], []⟩ := by simpa [newM] using h1.1
  subst this
  exact ⟨h1.2.symm, rfl⟩
 have hsub : ∀ c j, subL c j [] = [] := fun _ _ => rfl
 refine ⟨by simp [Rises], fun x hx => ?_, fun j x h => ?_, ⟨_, rfl, rfl⟩, rfl, fun j x h => ?_, fun _ _ _ => rfl, fun j x h => ?_, fun _ _ _ => rfl, fun j x h => ?_, fun _ _ _ => rfl, fun j x h nm v hv => ?_, fun j x h => ?_, fun j x h hk => ?_, fun j x h hk => ?_, fun j x h hk => ?_, by simp⟩
 ·have : x = ⟨1, 2, 2, [], []⟩ := by simpa [newM] using hx
  subst this; rfl
 all_goals obtain ⟨rfl, rfl⟩ := hat j x h
 ·exact ⟨by decide, by decide⟩
 ·rfl
 ·rfl
 ·rfl
 ·cases hv
 ·exact .inl ⟨rfl, rfl⟩
 ·cases hk
 ·rfl
 ·rfl
structure SpSim (m : MF) (par : Int → Int) (a : Sp) (b : MS) : Prop where
 hd : a.d = b.d
 hm : a.m = b.m
 hi : a.i = b.i
 hn : a.i ≠ 0 → ∃ x, m.at a.i = some x ∧ a.n = (x.k, x.n, (x.b.length : Int), par a.i)
theorem nameB_len {x : List UInt8} (h : nameB x = true) : x.length ≤ 32 := by
 unfold nameB at h
 simp only [Bool.and_eq_true, decide_eq_true_eq] at h
 omega
theorem entK_is {d : Int} {m : List UInt8} (h : m.length ≤ 32) : entryK d m = keyH 69 d ++ m := by unfold entryK; rw [if_neg (by omega)]
theorem load_row {s : VS} {n : Nat} (h : VJ s n) (j : Int) : s.load j = ndOf j (lget (keyH 73 j) s.shown.row) := by
 unfold VS.load
 rw [get_row _ _ h.rs]
theorem child_row {s : VS} {n : Nat} (h : VJ s n) (j : Int) {x : List UInt8} (hx : x.length ≤ 32) : s.child j x = chOf (lget (keyH 69 j ++ x) s.shown.row) := by
 unfold VS.child
 rw [get_row _ _ h.rs, entK_is hx]
theorem gF_be4' {i : Int} (h : U32 i) : gF (beB 4 i) 0 = i := by
 unfold gF
 rw [List.drop_zero, List.take_of_length_le (by rw [beB_len]; omega), beV_be4 i h]
theorem chOf_be4' {i : Int} (h : U32 i) : chOf (some (beB 4 i)) = some i := by
 unfold chOf
 rw [if_pos (by simp [beB_len])]
 simp only [Option.getD_some, gF_be4' h]
theorem Rel.load {s : VS} {n : Nat} (h : VJ s n) {m : MF} {par : Int → Int} (R : Rel s.shown.row m par) {j : Int} {x : MN} (hx : m.at j = some x) : s.load j = some (x.k, x.n, (x.b.length : Int), par j) := by
 rw [load_row h]; exact R.nod j x hx
theorem stepF_sim {s : VS} {n : Nat} (h : VJ s n) {m : MF} {par : Int → Int} (R : Rel s.shown.row m par) {a : Sp} {x : MN} (hx : m.at a.i = some x) {nm : List UInt8} (hn : nameB nm = true) : SpSim m par (stepF s a nm).1 ⟨a.i, nm, x.entry nm⟩ := by
 have hc := child_row h a.i (nameB_len hn)
 rw [← sub_get R.ri, ← R.ent _ _ hx] at hc
 unfold stepF MN.entry
 cases hg : lget nm x.e with
 | none =>
  rw [hg] at hc
  have hc : s.child a.i nm = none := hc
  rw [hc]
  exact ⟨rfl, rfl, rfl, fun q => absurd rfl q⟩
 | some v =>
  obtain ⟨_, c, z, rfl, hz, hc1, _⟩ := R.nam _ _ hx nm v hg
  obtain ⟨hcu, hc0⟩ := R.u c z hz
  rw [hg, chOf_be4' hcu] at hc
  rw [hc]
  dsimp only
  have hl := R.load h hz
  rw [hl, beV_be4 c hcu, if_pos ⟨rfl, hc0⟩]
  exact ⟨rfl, rfl, rfl, fun _ => ⟨z, hz, rfl⟩⟩
theorem goF_sim {s : VS} {n : Nat} (h : VJ s n) {m : MF} {par : Int → Int} (R : Rel s.shown.row m par) : ∀ (N : List (List UInt8)) (a : Sp) (b : MS) (ks : List (List UInt8)), (∀ x ∈ N, nameB x = true) → SpSim m par a b → (goF s N a ks).2.1 = (m.go N b).2 ∧ ((m.go N b).2 = 0 → SpSim m par (goF s N a ks).1 (m.go N b).1)
 | [], a, b, ks, _, hs => ⟨rfl, fun _ => hs⟩
 | nm :: r, a, b, ks, hN, hs => by
  rw [goF_cons]
  unfold MF.go
  rw [← hs.hi]
  by_cases h0 : a.i = 0
  ·rw [if_pos h0, if_pos h0]; exact ⟨rfl, fun e => by cases e⟩
  rw [if_neg h0, if_neg h0]
  obtain ⟨x, hx, hax⟩ := hs.hn h0
  rw [hx]
  dsimp only
  have hk : a.n.1 = x.k := by rw [hax]
  rw [hk]
  by_cases hk2 : x.k ≠ 2
  ·rw [if_pos hk2, if_pos hk2]; exact ⟨rfl, fun e => by cases e⟩
  rw [if_neg hk2, if_neg hk2]
  exact goF_sim h R r _ _ _ (fun y hy => hN y (by simp [hy])) (stepF_sim h R hx (hN nm (by simp)))
theorem find_sim {s : VS} {n : Nat} (h : VJ s n) {m : MF} {par : Int → Int} (R : Rel s.shown.row m par) (p : List UInt8) : (s.find p).2.1 = (m.findP p).2 ∧ ((m.findP p).2 = 0 → SpSim m par (s.find p).1 (m.findP p).1) := by
 unfold VS.find MF.findP
 by_cases he : (splitN p).2 ≠ 0
 ·rw [if_pos he, if_pos he]; exact ⟨rfl, fun e => absurd e he⟩
 rw [if_neg he, if_neg he]
 have hN := (splitN_eq (l := p) (by simpa using he)).2.2
 refine goF_sim h R (namesP p) (spR s) ⟨0, [], 1⟩ _ hN ⟨rfl, rfl, rfl, fun _ => ?_⟩
 obtain ⟨x, hx, _⟩ := R.root
 refine ⟨x, hx, ?_⟩
 have := R.load h hx
 unfold spR
 dsimp only
 rw [this]; rfl
theorem Rel.spot {l : List KV} {m : MF} {par : Int → Int} (R : Rel l m par) {c : Nat} (hw : m.wk c) : m.ok c :=
 ⟨hw, R.root.elim fun x h => ⟨x, h.1⟩, fun x hx y hy => by
  have hr := hw.r x hx
  have hg := (lget_some hr).2 (show (y.1, y.2) ∈ x.e from hy)
  obtain ⟨_, c, z, h1, h2, _⟩ := R.nam _ _ (R.fst x hx) _ _ hg
  rw [h1, beV_be4 c (R.u c z h2).1]
  exact ⟨z, h2⟩⟩
end Go.Proofs.YtdkegmmigongoaaGreatDoor

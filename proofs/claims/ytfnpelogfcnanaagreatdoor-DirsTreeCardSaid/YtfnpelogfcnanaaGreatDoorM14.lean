/- Contracts and plain laws, several texts joined: F18w, F18y, F18z. -/
import Derived.Test.YtfnpelogfcnanaaGreatDoorGo
import Derived.Test.YtfnpelogfcnanaaGreatDoorM13
import Derived.Test.YtfnpelogfcnanaaGreatDoorM11
import Derived.Test.YtfnpelogfcnanaaGreatDoorM8
/- The model of layer 18 (the reference): Rename. -/
-- @D
namespace Go.Proofs.YtfnpelogfcnanaaGreatDoor
set_option maxRecDepth 20000
open Go.Awp Tr
theorem findP_err {f : MF} {p : List UInt8} (h : (f.findP p).2 = 0) : (splitN p).2 = 0 := by
  unfold MF.findP at h
  split at h
  · rename_i h0; exact absurd h h0
  · rename_i h0; simpa using h0
/-- Where things are moved, all is there. -/
structure MF.mvOk (f : MF) (c : Nat) (s t : MS) : Prop where
  wk : f.wk c
  s : f.has s.d
  t : f.has t.d
/-- The moving, as the code does it. -/
theorem mv_rmv {f : MF} {c : Nat} (hf : f.ok c) {s t : MS} {n zs zt : MN} (hn : f.at t.i = some n) (h0 : t.i ≠ 0) (hs : f.at s.d = some zs) (hse : s.i = zs.entry s.m) (hs0 : s.i ≠ 0) (ht : f.at t.d = some zt) (hte : t.i = zt.entry t.m) (hr : (f.rmv t).1 = 0) : (f.rmv t).2.mvOk (c + 2) s t := by
  unfold MF.rmv at hr ⊢
  rw [hn] at hr ⊢
  dsimp only at hr ⊢
  by_cases hk : n.k ≠ 2
  · rw [if_pos hk] at hr; cases hr
  rw [if_neg hk] at hr ⊢
  by_cases hl : n.e.length > 0
  · rw [if_pos hl] at hr; cases hr
  rw [if_neg hl]
  have hne : n.e = [] := List.eq_nil_of_length_eq_zero (by omega)
  have h1 : t.d ≠ t.i := dir_ne hf ht hte h0 hn (.inl hne)
  have h2 : s.d ≠ t.i := fun e => by
    rw [e, hn] at hs
    obtain rfl := Option.some.inj hs
    rw [hse] at hs0
    exact ((entry_has hf (at_mem hn).1 s.m).resolve_left hs0).2 hne
  exact ⟨((hf.wk.without _).linked _ _ (by decide)).named _ _ _, has_named _ _ _ (has_linked _ _ (has_without ⟨_, hs⟩ h2)), has_named _ _ _ (has_linked _ _ (has_without ⟨_, ht⟩ h1))⟩
theorem mv_unl {f : MF} {c : Nat} (hf : f.ok c) {s t : MS} {n zs zt : MN} (hn : f.at t.i = some n) (h0 : t.i ≠ 0) (hs : f.at s.d = some zs) (hsk : zs.k = 2) (ht : f.at t.d = some zt) (htk : zt.k = 2) (hr : (f.unl t).1 = 0) : (f.unl t).2.mvOk (c + 2) s t := by
  unfold MF.unl at hr ⊢
  rw [hn] at hr ⊢
  dsimp only at hr ⊢
  by_cases hk : n.k = 2
  · rw [if_pos hk] at hr; cases hr
  rw [if_neg hk]
  have key : ∀ {d : Int} {z : MN}, f.at d = some z → z.k = 2 → d ≠ t.i := fun {d z} hz hzk e => by
    rw [e, hn] at hz
    obtain rfl := Option.some.inj hz
    exact hk hzk
  dsimp only
  split
  · exact ⟨((hf.wk.without _).named _ _ _).mono (by omega), has_named _ _ _ (has_without ⟨_, hs⟩ (key hs hsk)), has_named _ _ _ (has_without ⟨_, ht⟩ (key ht htk))⟩
  · exact ⟨(hf.wk.linked _ _ (by decide)).named _ _ _, has_named _ _ _ (has_linked _ _ ⟨_, hs⟩), has_named _ _ _ (has_linked _ _ ⟨_, ht⟩)⟩
theorem mv_specs {f : MF} {c : Nat} {s t : MS} (h : f.mvOk c s t) (hc : c ≤ 50000) (hi : U32 s.i) : ∃ f1 f2 f3, Con Tryz.prog 91 [fsA f, .p (.int .u32 s.d), .p (.str s.m), .p (.int .u32 0)] [] (fsT f1) [] [] ∧
    Con Tryz.prog 91 [fsA f1, .p (.int .u32 t.d), .p (.str t.m), .p (.int .u32 s.i)] [] (fsT f2) [] [] ∧ Con Tryz.prog 90 [fsA f2, .p (.int .u32 s.d), .p (.int .i64 (-1))] [] (fsT f3) [] [] ∧
    Con Tryz.prog 90 [fsA f3, .p (.int .u32 t.d), .p (.int .i64 1)] [] (fsT (f.moved s t true)) [] [] ∧ f.moved s t false = f2 := by
  obtain ⟨z, hz⟩ := h.s
  have c1 := rnamed_spec f s.d s.m 0 z (by decide) (h.wk.sz (by omega)) hz (h.wk.r _ (at_mem hz).1)
  have w1 := h.wk.named s.d s.m 0
  obtain ⟨z1, hz1⟩ := has_named s.d s.m 0 h.t
  have s1 := has_named s.d s.m 0 h.s
  have c2 := rnamed_spec (f.named s.d s.m 0) t.d t.m s.i z1 hi (w1.sz (by omega)) hz1 (w1.r _ (at_mem hz1).1)
  have w2 := w1.named t.d t.m s.i
  obtain ⟨z2, hz2⟩ := has_named t.d t.m s.i s1
  have t2 := has_named t.d t.m s.i ⟨z1, hz1⟩
  have c3 := rlinked_spec _ s.d (-1) z2 (w2.sz (by omega)) hz2 (by decide)
  have w3 := w2.linked s.d (-1) (by decide)
  obtain ⟨z3, hz3⟩ := has_linked s.d (-1) t2
  have c4 := rlinked_spec _ t.d 1 z3 (w3.sz (by omega)) hz3 (by decide)
  exact ⟨_, _, _, c1, c2, c3, c4, rfl⟩
theorem kind_at {f : MF} {i : Int} {n : MN} (h : f.at i = some n) : f.kind i = n.k := by unfold MF.kind; rw [h]
set_option maxHeartbeats 32000000 in
theorem rRename_spec {f : MF} {c : Nat} (hf : f.ok c) (hc : c ≤ 40000) (hu : ∀ x ∈ f, U32 x.i) (o p : List UInt8) : Con Tryz.prog 52 [fsA f, .p (.str o), .p (.str p)] [] (eT (f.rename o p).1 (f.rename o p).2) [] [] := by
  have c1 := rfind18_spec hf (by omega) o
  have hsp := findP_spot hf (p := o)
  have hse := findP_err (f := f) (p := o)
  have c2 := rfind18_spec hf (by omega) p
  have hsp2 := findP_spot hf (p := p)
  have hse2 := findP_err (f := f) (p := p)
  unfold MF.rename
  generalize f.findP o = q at c1 hsp hse
  generalize f.findP p = q2 at c2 hsp2 hse2
  obtain ⟨a, e⟩ := q
  obtain ⟨b, e2⟩ := q2
  dsimp only at c1 c2 hsp hsp2 hse hse2 ⊢
  by_cases he : e ≠ 0
  · rw [if_pos he]
    refine con_of Tryz.func52 rfl (by kernel_rfl) rfl fun F w0 β0 => ?_
    refine K_tell rfl ?_
    refine go ?_
    refine K_op rfl rfl (opr_callP rfl rfl (c1) rfl rfl rfl rfl) rfl ?_
    refine go ?_
    refine K_condT rfl (by simp [he]) ?_
    refine go ?_
    refine J_drawS 3 (by kernel_rfl) (by kernel_rfl) ?_
    apply Exists.intro
    refine gdW ?_
    refine go ?_
    exact J_done hT rfl rfl rfl
  rw [if_neg he]
  obtain rfl : e = 0 := by simpa using he
  by_cases h1 : a.i = 1
  · rw [if_pos h1]
    refine con_of Tryz.func52 rfl (by kernel_rfl) rfl fun F w0 β0 => ?_
    refine K_tell rfl ?_
    refine go ?_
    refine K_op rfl rfl (opr_callP rfl rfl (c1) rfl rfl rfl rfl) rfl ?_
    refine go ?_
    refine K_condT rfl (by simp [h1]) ?_
    refine go ?_
    refine J_drawS 2 (by kernel_rfl) (by kernel_rfl) ?_
    apply Exists.intro
    refine gdW ?_
    refine go ?_
    exact J_done hT rfl rfl rfl
  rw [if_neg h1]
  by_cases h0 : a.i = 0
  · rw [if_pos h0]
    refine con_of Tryz.func52 rfl (by kernel_rfl) rfl fun F w0 β0 => ?_
    refine K_tell rfl ?_
    refine go ?_
    refine K_op rfl rfl (opr_callP rfl rfl (c1) rfl rfl rfl rfl) rfl ?_
    refine go ?_
    refine K_condF rfl (by simp [h1]) ?_
    refine go ?_
    refine K_condT rfl (by simp [h0]) ?_
    refine go ?_
    refine J_drawS 2 (by kernel_rfl) (by kernel_rfl) ?_
    apply Exists.intro
    refine gdW ?_
    refine go ?_
    exact J_done hT rfl rfl rfl
  rw [if_neg h0]
  by_cases he2 : e2 ≠ 0
  · rw [if_pos he2]
    refine con_of Tryz.func52 rfl (by kernel_rfl) rfl fun F w0 β0 => ?_
    refine K_tell rfl ?_
    refine go ?_
    refine K_op rfl rfl (opr_callP rfl rfl (c1) rfl rfl rfl rfl) rfl ?_
    refine go ?_
    refine K_condF rfl (by simp [h1]) ?_
    refine go ?_
    refine K_condF rfl (by simp [h0]) ?_
    refine go ?_
    refine K_op rfl rfl (opr_callP rfl rfl (c2) rfl rfl rfl rfl) rfl ?_
    refine go ?_
    refine K_condT rfl (by simp [he2]) ?_
    refine go ?_
    refine J_drawS 3 (by kernel_rfl) (by kernel_rfl) ?_
    apply Exists.intro
    refine gdW ?_
    refine go ?_
    exact J_done hT rfl rfl rfl
  rw [if_neg he2]
  obtain rfl : e2 = 0 := by simpa using he2
  by_cases b1 : b.i = 1
  · rw [if_pos b1]
    refine con_of Tryz.func52 rfl (by kernel_rfl) rfl fun F w0 β0 => ?_
    refine K_tell rfl ?_
    refine go ?_
    refine K_op rfl rfl (opr_callP rfl rfl (c1) rfl rfl rfl rfl) rfl ?_
    refine go ?_
    refine K_condF rfl (by simp [h1]) ?_
    refine go ?_
    refine K_condF rfl (by simp [h0]) ?_
    refine go ?_
    refine K_op rfl rfl (opr_callP rfl rfl (c2) rfl rfl rfl rfl) rfl ?_
    refine go ?_
    refine K_condT rfl (by simp [b1]) ?_
    refine go ?_
    refine J_drawS 2 (by kernel_rfl) (by kernel_rfl) ?_
    apply Exists.intro
    refine gdW ?_
    refine go ?_
    exact J_done hT rfl rfl rfl
  rw [if_neg b1]
  by_cases b2 : b.i = a.i
  · rw [if_pos b2]
    refine con_of Tryz.func52 rfl (by kernel_rfl) rfl fun F w0 β0 => ?_
    refine K_tell rfl ?_
    refine go ?_
    refine K_op rfl rfl (opr_callP rfl rfl (c1) rfl rfl rfl rfl) rfl ?_
    refine go ?_
    refine K_condF rfl (by simp [h1]) ?_
    refine go ?_
    refine K_condF rfl (by simp [h0]) ?_
    refine go ?_
    refine K_op rfl rfl (opr_callP rfl rfl (c2) rfl rfl rfl rfl) rfl ?_
    refine go ?_
    refine K_condF rfl (by simp [b1]) ?_
    refine go ?_
    refine K_condT rfl (by simp [b2]) ?_
    refine go ?_
    refine J_drawS 2 (by kernel_rfl) (by kernel_rfl) ?_
    apply Exists.intro
    refine gdW ?_
    refine go ?_
    exact J_done hT rfl rfl rfl
  rw [if_neg b2]
  obtain ⟨n, hn⟩ := (spot_has hf (hsp rfl)).resolve_left h0
  have hai : U32 a.i := by
    have := at_mem hn
    rw [← this.2]; exact hu n this.1
  have c3 := rNode_spec f a n (hf.wk.sz (by omega)).l hn
  have c4 := runder_spec o p (hse rfl) (hse2 rfl)
  rw [kind_at hn]
  generalize underB (namesP o) (namesP p) = u at c4
  obtain ⟨zs, hzs, hzsk, hzse⟩ := spot_dir (hsp rfl) h1
  obtain ⟨zt, hzt, hztk, hzte⟩ := spot_dir (hsp2 rfl) b1
  by_cases hk : n.k = 2
  · have hkb : (n.k == 2) = true := by simp [hk]
    cases u with
    | true =>
      rw [if_pos (by simp [hk])]
      refine con_of Tryz.func52 rfl (by kernel_rfl) rfl fun F w0 β0 => ?_
      refine K_tell rfl ?_
      refine go ?_
      refine K_op rfl rfl (opr_callP rfl rfl (c1) rfl rfl rfl rfl) rfl ?_
      refine go ?_
      refine K_condF rfl (by simp [h1]) ?_
      refine go ?_
      refine K_condF rfl (by simp [h0]) ?_
      refine go ?_
      refine K_op rfl rfl (opr_callP rfl rfl (c2) rfl rfl rfl rfl) rfl ?_
      refine go ?_
      refine K_condF rfl (by simp [b1]) ?_
      refine go ?_
      refine K_condF rfl (by simp [b2]) ?_
      refine go ?_
      refine K_op rfl rfl (opr_callP rfl rfl (c3) rfl rfl rfl rfl) rfl ?_
      iterate 4 (refine g1 ?_)
      refine J_val 11 (.p (.bool true)) rfl (congrArg (fun b => TV.p (.bool b)) (by simp [hk])) ?_
      refine go ?_
      refine K_yes rfl rfl rfl (opr_callP rfl rfl (c4) rfl rfl rfl rfl) rfl ?_
      refine go ?_
      refine J_drawS 2 (by kernel_rfl) (by kernel_rfl) ?_
      apply Exists.intro
      refine gdW ?_
      refine go ?_
      exact J_done hT rfl rfl rfl
    | false =>
      rw [if_neg (by simp)]
      by_cases g0 : b.i = 0
      · rw [if_pos g0]
        obtain ⟨f1, f2, f3, m1, m2, m3, m4, m5⟩ := mv_specs (c := c) (f := f) (s := a) (t := b) ⟨hf.wk, ⟨_, hzs⟩, ⟨_, hzt⟩⟩ (by omega) hai
        rw [hkb]
        dsimp only
        generalize f.moved a b true = f4 at m4
        refine con_of Tryz.func52 rfl (by kernel_rfl) rfl fun F w0 β0 => ?_
        refine K_tell rfl ?_
        refine go ?_
        refine K_op rfl rfl (opr_callP rfl rfl (c1) rfl rfl rfl rfl) rfl ?_
        refine go ?_
        refine K_condF rfl (by simp [h1]) ?_
        refine go ?_
        refine K_condF rfl (by simp [h0]) ?_
        refine go ?_
        refine K_op rfl rfl (opr_callP rfl rfl (c2) rfl rfl rfl rfl) rfl ?_
        refine go ?_
        refine K_condF rfl (by simp [b1]) ?_
        refine go ?_
        refine K_condF rfl (by simp [b2]) ?_
        refine go ?_
        refine K_op rfl rfl (opr_callP rfl rfl (c3) rfl rfl rfl rfl) rfl ?_
        iterate 4 (refine g1 ?_)
        refine J_val 11 (.p (.bool true)) rfl (congrArg (fun b => TV.p (.bool b)) (by simp [hk])) ?_
        refine go ?_
        refine K_yes rfl rfl rfl (opr_callP rfl rfl (c4) rfl rfl rfl rfl) rfl ?_
        refine go ?_
        refine K_condF rfl (by simp [g0]) ?_
        refine go ?_
        refine K_op rfl rfl (opr_callP rfl rfl (m1) rfl rfl rfl rfl) rfl ?_
        refine go ?_
        refine K_op rfl rfl (opr_callP rfl rfl (m2) rfl rfl rfl rfl) rfl ?_
        refine go ?_
        refine K_op rfl rfl (opr_callP rfl rfl (m3) rfl rfl rfl rfl) rfl ?_
        refine go ?_
        refine K_op rfl rfl (opr_callP rfl rfl (m4) rfl rfl rfl rfl) rfl ?_
        refine go ?_
        refine J_drawS 2 (by kernel_rfl) (by kernel_rfl) ?_
        apply Exists.intro
        refine gdW ?_
        refine go ?_
        exact J_done hT rfl rfl rfl
      rw [if_neg g0, if_pos hk]
      obtain ⟨nt, hnt⟩ := (spot_has hf (hsp2 rfl)).resolve_left g0
      have d1 := rremove_spec hf (by omega) b nt hnt g0 (fun _ _ => ⟨zt, hzt, hztk, hzte⟩)
      have d2 := mv_rmv hf hnt g0 hzs hzse h0 hzt hzte
      generalize f.rmv b = q at d1 d2
      obtain ⟨eq, fq⟩ := q
      dsimp only at d1 d2 ⊢
      by_cases hq : eq ≠ 0
      · rw [if_pos hq]
        refine con_of Tryz.func52 rfl (by kernel_rfl) rfl fun F w0 β0 => ?_
        refine K_tell rfl ?_
        refine go ?_
        refine K_op rfl rfl (opr_callP rfl rfl (c1) rfl rfl rfl rfl) rfl ?_
        refine go ?_
        refine K_condF rfl (by simp [h1]) ?_
        refine go ?_
        refine K_condF rfl (by simp [h0]) ?_
        refine go ?_
        refine K_op rfl rfl (opr_callP rfl rfl (c2) rfl rfl rfl rfl) rfl ?_
        refine go ?_
        refine K_condF rfl (by simp [b1]) ?_
        refine go ?_
        refine K_condF rfl (by simp [b2]) ?_
        refine go ?_
        refine K_op rfl rfl (opr_callP rfl rfl (c3) rfl rfl rfl rfl) rfl ?_
        iterate 4 (refine g1 ?_)
        refine J_val 11 (.p (.bool true)) rfl (congrArg (fun b => TV.p (.bool b)) (by simp [hk])) ?_
        refine go ?_
        refine K_yes rfl rfl rfl (opr_callP rfl rfl (c4) rfl rfl rfl rfl) rfl ?_
        refine go ?_
        refine K_condT rfl (by simp [g0]) ?_
        refine go ?_
        refine K_op rfl rfl (opr_callP rfl rfl (d1) rfl rfl rfl rfl) rfl ?_
        refine go ?_
        refine K_condT rfl (by simp [hq]) ?_
        refine go ?_
        refine J_drawS 3 (by kernel_rfl) (by kernel_rfl) ?_
        apply Exists.intro
        refine gdW ?_
        refine go ?_
        exact J_done hT rfl rfl rfl
      rw [if_neg hq]
      obtain rfl : eq = 0 := by simpa using hq
      obtain ⟨f1, f2, f3, m1, m2, m3, m4, m5⟩ := mv_specs (d2 rfl) (by omega) hai
      rw [hkb]
      dsimp only
      generalize fq.moved a b true = f4 at m4
      refine con_of Tryz.func52 rfl (by kernel_rfl) rfl fun F w0 β0 => ?_
      refine K_tell rfl ?_
      refine go ?_
      refine K_op rfl rfl (opr_callP rfl rfl (c1) rfl rfl rfl rfl) rfl ?_
      refine go ?_
      refine K_condF rfl (by simp [h1]) ?_
      refine go ?_
      refine K_condF rfl (by simp [h0]) ?_
      refine go ?_
      refine K_op rfl rfl (opr_callP rfl rfl (c2) rfl rfl rfl rfl) rfl ?_
      refine go ?_
      refine K_condF rfl (by simp [b1]) ?_
      refine go ?_
      refine K_condF rfl (by simp [b2]) ?_
      refine go ?_
      refine K_op rfl rfl (opr_callP rfl rfl (c3) rfl rfl rfl rfl) rfl ?_
      iterate 4 (refine g1 ?_)
      refine J_val 11 (.p (.bool true)) rfl (congrArg (fun b => TV.p (.bool b)) (by simp [hk])) ?_
      refine go ?_
      refine K_yes rfl rfl rfl (opr_callP rfl rfl (c4) rfl rfl rfl rfl) rfl ?_
      refine go ?_
      refine K_condT rfl (by simp [g0]) ?_
      refine go ?_
      refine K_op rfl rfl (opr_callP rfl rfl (d1) rfl rfl rfl rfl) rfl ?_
      refine go ?_
      refine K_op rfl rfl (opr_callP rfl rfl (m1) rfl rfl rfl rfl) rfl ?_
      refine go ?_
      refine K_op rfl rfl (opr_callP rfl rfl (m2) rfl rfl rfl rfl) rfl ?_
      refine go ?_
      refine K_op rfl rfl (opr_callP rfl rfl (m3) rfl rfl rfl rfl) rfl ?_
      refine go ?_
      refine K_op rfl rfl (opr_callP rfl rfl (m4) rfl rfl rfl rfl) rfl ?_
      refine go ?_
      refine J_drawS 2 (by kernel_rfl) (by kernel_rfl) ?_
      apply Exists.intro
      refine gdW ?_
      refine go ?_
      exact J_done hT rfl rfl rfl
  · have hkb : (n.k == 2) = false := by simp [hk]
    rw [if_neg (by simp [hk])]
    by_cases g0 : b.i = 0
    · rw [if_pos g0]
      obtain ⟨f1, f2, f3, m1, m2, m3, m4, m5⟩ := mv_specs (c := c) (f := f) (s := a) (t := b) ⟨hf.wk, ⟨_, hzs⟩, ⟨_, hzt⟩⟩ (by omega) hai
      rw [hkb]
      dsimp only
      rw [m5]
      refine con_of Tryz.func52 rfl (by kernel_rfl) rfl fun F w0 β0 => ?_
      refine K_tell rfl ?_
      refine go ?_
      refine K_op rfl rfl (opr_callP rfl rfl (c1) rfl rfl rfl rfl) rfl ?_
      refine go ?_
      refine K_condF rfl (by simp [h1]) ?_
      refine go ?_
      refine K_condF rfl (by simp [h0]) ?_
      refine go ?_
      refine K_op rfl rfl (opr_callP rfl rfl (c2) rfl rfl rfl rfl) rfl ?_
      refine go ?_
      refine K_condF rfl (by simp [b1]) ?_
      refine go ?_
      refine K_condF rfl (by simp [b2]) ?_
      refine go ?_
      refine K_op rfl rfl (opr_callP rfl rfl (c3) rfl rfl rfl rfl) rfl ?_
      iterate 4 (refine g1 ?_)
      refine J_val 11 (.p (.bool false)) rfl (congrArg (fun b => TV.p (.bool b)) (by simp [hk])) ?_
      refine go ?_
      refine K_condF rfl (by simp [g0]) ?_
      refine go ?_
      refine K_op rfl rfl (opr_callP rfl rfl (m1) rfl rfl rfl rfl) rfl ?_
      refine go ?_
      refine K_op rfl rfl (opr_callP rfl rfl (m2) rfl rfl rfl rfl) rfl ?_
      refine go ?_
      refine J_drawS 2 (by kernel_rfl) (by kernel_rfl) ?_
      apply Exists.intro
      refine gdW ?_
      refine go ?_
      exact J_done hT rfl rfl rfl
    rw [if_neg g0, if_neg hk]
    obtain ⟨nt, hnt⟩ := (spot_has hf (hsp2 rfl)).resolve_left g0
    have d1 := runlink_spec hf (by omega) b nt hnt g0 (fun _ => ⟨zt, hzt, hztk, hzte⟩)
    have d2 := mv_unl (s := a) hf hnt g0 hzs hzsk hzt hztk
    generalize f.unl b = q at d1 d2
    obtain ⟨eq, fq⟩ := q
    dsimp only at d1 d2 ⊢
    by_cases hq : eq ≠ 0
    · rw [if_pos hq]
      refine con_of Tryz.func52 rfl (by kernel_rfl) rfl fun F w0 β0 => ?_
      refine K_tell rfl ?_
      refine go ?_
      refine K_op rfl rfl (opr_callP rfl rfl (c1) rfl rfl rfl rfl) rfl ?_
      refine go ?_
      refine K_condF rfl (by simp [h1]) ?_
      refine go ?_
      refine K_condF rfl (by simp [h0]) ?_
      refine go ?_
      refine K_op rfl rfl (opr_callP rfl rfl (c2) rfl rfl rfl rfl) rfl ?_
      refine go ?_
      refine K_condF rfl (by simp [b1]) ?_
      refine go ?_
      refine K_condF rfl (by simp [b2]) ?_
      refine go ?_
      refine K_op rfl rfl (opr_callP rfl rfl (c3) rfl rfl rfl rfl) rfl ?_
      iterate 4 (refine g1 ?_)
      refine J_val 11 (.p (.bool false)) rfl (congrArg (fun b => TV.p (.bool b)) (by simp [hk])) ?_
      refine go ?_
      refine K_condT rfl (by simp [g0]) ?_
      refine go ?_
      refine K_op rfl rfl (opr_callP rfl rfl (d1) rfl rfl rfl rfl) rfl ?_
      refine go ?_
      refine K_condT rfl (by simp [hq]) ?_
      refine go ?_
      refine J_drawS 3 (by kernel_rfl) (by kernel_rfl) ?_
      apply Exists.intro
      refine gdW ?_
      refine go ?_
      exact J_done hT rfl rfl rfl
    rw [if_neg hq]
    obtain rfl : eq = 0 := by simpa using hq
    obtain ⟨f1, f2, f3, m1, m2, m3, m4, m5⟩ := mv_specs (d2 rfl) (by omega) hai
    rw [hkb]
    dsimp only
    rw [m5]
    refine con_of Tryz.func52 rfl (by kernel_rfl) rfl fun F w0 β0 => ?_
    refine K_tell rfl ?_
    refine go ?_
    refine K_op rfl rfl (opr_callP rfl rfl (c1) rfl rfl rfl rfl) rfl ?_
    refine go ?_
    refine K_condF rfl (by simp [h1]) ?_
    refine go ?_
    refine K_condF rfl (by simp [h0]) ?_
    refine go ?_
    refine K_op rfl rfl (opr_callP rfl rfl (c2) rfl rfl rfl rfl) rfl ?_
    refine go ?_
    refine K_condF rfl (by simp [b1]) ?_
    refine go ?_
    refine K_condF rfl (by simp [b2]) ?_
    refine go ?_
    refine K_op rfl rfl (opr_callP rfl rfl (c3) rfl rfl rfl rfl) rfl ?_
    iterate 4 (refine g1 ?_)
    refine J_val 11 (.p (.bool false)) rfl (congrArg (fun b => TV.p (.bool b)) (by simp [hk])) ?_
    refine go ?_
    refine K_condT rfl (by simp [g0]) ?_
    refine go ?_
    refine K_op rfl rfl (opr_callP rfl rfl (d1) rfl rfl rfl rfl) rfl ?_
    refine go ?_
    refine K_op rfl rfl (opr_callP rfl rfl (m1) rfl rfl rfl rfl) rfl ?_
    refine go ?_
    refine K_op rfl rfl (opr_callP rfl rfl (m2) rfl rfl rfl rfl) rfl ?_
    refine go ?_
    refine J_drawS 2 (by kernel_rfl) (by kernel_rfl) ?_
    apply Exists.intro
    refine gdW ?_
    refine go ?_
    exact J_done hT rfl rfl rfl
end Go.Proofs.YtfnpelogfcnanaaGreatDoor

/- flintlaw18: do. -/
-- @D
namespace Go.Proofs.YtfnpelogfcnanaaGreatDoor
set_option maxRecDepth 20000
open Go.Awp Tr
/-- An operation in a view, and of the model. -/
def do18 (s : VS) (m : MF) (k : Int) (p o : List UInt8) (i : Int) : (Int × VS) × (Int × MF) :=
  if k = 0 then (s.make p 1 i, m.make p 1 i) else if k = 1 then (s.make p 2 i, m.make p 2 i) else if k = 2 then (s.remove p, m.remove p) else if k = 4 then (s.link p o, m.link p o) else if k = 5 then (s.unlink p, m.unlink p) else if k = 6 then (s.rename p o, m.rename p o) else ((0, s), (0, m))
def doT (s : VS) (m : MF) (k : Int) (p o : List UInt8) (i : Int) : (Bool × MF × Bool) × VS :=
  if k = 3 then ((decide ((s.dlist p).1.2 = (m.list p).2) && decide ((s.dlist p).1.1 = (m.list p).1), m, false), (s.dlist p).2)
  else if (do18 s m k p o i).1.1 = 21 then ((true, m, true), (do18 s m k p o i).1.2) else ((decide ((do18 s m k p o i).1.1 = (do18 s m k p o i).2.1), (do18 s m k p o i).2.2, false), (do18 s m k p o i).1.2)
abbrev opA (k : Int) (p o : List UInt8) : TV := .p (.agg [.int .i64 k, .str p, .str o])
set_option maxHeartbeats 16000000 in
theorem do_make0 {s : VS} {n c : Nat} (h : VJ s n) (hn : n ≤ 90000) {m : MF} (hf : m.ok c) (hc : c ≤ 40000) (hu : ∀ x ∈ m, U32 x.i) (h1k : m.kind 1 = 2) (k : Int) (hk : k = 0) (p o : List UInt8) (i : Int) (hi : U32 i) :
    Con Tryz.prog 15 [vP, fsA m, opA k p o, .p (.int .u32 i)] (vH s) (.tup [.p (.bool (doT s m k p o i).1.1), fsT (doT s m k p o i).1.2.1, .p (.bool (doT s m k p o i).1.2.2)]) (vH (doT s m k p o i).2) [] := by
    subst hk
    unfold doT
    rw [if_neg (by decide)]
    have hdo : do18 s m 0 p o i = (s.make p 1 i, m.make p 1 i) := rfl
    rw [hdo]
    dsimp only
    have c1 := make_spec h (by omega) p 1 i hi
    have c2 := rmake_spec hf (by omega) p 1 i hi
    generalize s.make p 1 i = q at c1
    generalize m.make p 1 i = r at c2
    obtain ⟨e, s1⟩ := q
    obtain ⟨f, m1⟩ := r
    dsimp only at c1 c2 ⊢
    refine con_of Tryz.func15 rfl (by kernel_rfl) rfl fun F w0 β0 => ?_
    refine K_tell rfl ?_
    refine go ?_
    refine K_op rfl rfl (opr_callS [.o 0, .o 1] rfl rfl (c1) rfl rfl rfl ⟨⟨rfl, rfl⟩, ⟨rfl, rfl⟩, trivial⟩ rfl rfl rfl rfl) rfl ?_
    refine go ?_
    refine K_op rfl rfl (opr_callP rfl rfl (c2) rfl rfl rfl rfl) rfl ?_
    refine go ?_
    by_cases he : e = 21
    · rw [if_pos he]
      refine K_condT rfl (by simp [he]) ?_
      refine go ?_
      refine J_drawS 2 (by kernel_rfl) (by kernel_rfl) ?_
      apply Exists.intro
      refine gdW ?_
      refine go ?_
      exact J_done hT rfl rfl rfl
    · rw [if_neg he]
      refine K_condF rfl (by simp [he]) ?_
      refine go ?_
      refine J_drawS 5 (by kernel_rfl) (by kernel_rfl) ?_
      apply Exists.intro
      refine gdW ?_
      refine go ?_
      exact J_done hT rfl rfl rfl
set_option maxHeartbeats 16000000 in
theorem do_make1 {s : VS} {n c : Nat} (h : VJ s n) (hn : n ≤ 90000) {m : MF} (hf : m.ok c) (hc : c ≤ 40000) (hu : ∀ x ∈ m, U32 x.i) (h1k : m.kind 1 = 2) (k : Int) (hk : k = 1) (p o : List UInt8) (i : Int) (hi : U32 i) :
    Con Tryz.prog 15 [vP, fsA m, opA k p o, .p (.int .u32 i)] (vH s) (.tup [.p (.bool (doT s m k p o i).1.1), fsT (doT s m k p o i).1.2.1, .p (.bool (doT s m k p o i).1.2.2)]) (vH (doT s m k p o i).2) [] := by
    subst hk
    unfold doT
    rw [if_neg (by decide)]
    have hdo : do18 s m 1 p o i = (s.make p 2 i, m.make p 2 i) := rfl
    rw [hdo]
    dsimp only
    have c1 := make_spec h (by omega) p 2 i hi
    have c2 := rmake_spec hf (by omega) p 2 i hi
    generalize s.make p 2 i = q at c1
    generalize m.make p 2 i = r at c2
    obtain ⟨e, s1⟩ := q
    obtain ⟨f, m1⟩ := r
    dsimp only at c1 c2 ⊢
    refine con_of Tryz.func15 rfl (by kernel_rfl) rfl fun F w0 β0 => ?_
    refine K_tell rfl ?_
    refine go ?_
    refine K_op rfl rfl (opr_callS [.o 0, .o 1] rfl rfl (c1) rfl rfl rfl ⟨⟨rfl, rfl⟩, ⟨rfl, rfl⟩, trivial⟩ rfl rfl rfl rfl) rfl ?_
    refine go ?_
    refine K_op rfl rfl (opr_callP rfl rfl (c2) rfl rfl rfl rfl) rfl ?_
    refine go ?_
    by_cases he : e = 21
    · rw [if_pos he]
      refine K_condT rfl (by simp [he]) ?_
      refine go ?_
      refine J_drawS 2 (by kernel_rfl) (by kernel_rfl) ?_
      apply Exists.intro
      refine gdW ?_
      refine go ?_
      exact J_done hT rfl rfl rfl
    · rw [if_neg he]
      refine K_condF rfl (by simp [he]) ?_
      refine go ?_
      refine J_drawS 5 (by kernel_rfl) (by kernel_rfl) ?_
      apply Exists.intro
      refine gdW ?_
      refine go ?_
      exact J_done hT rfl rfl rfl
set_option maxHeartbeats 16000000 in
theorem do_remove {s : VS} {n c : Nat} (h : VJ s n) (hn : n ≤ 90000) {m : MF} (hf : m.ok c) (hc : c ≤ 40000) (hu : ∀ x ∈ m, U32 x.i) (h1k : m.kind 1 = 2) (k : Int) (hk : k = 2) (p o : List UInt8) (i : Int) (hi : U32 i) :
    Con Tryz.prog 15 [vP, fsA m, opA k p o, .p (.int .u32 i)] (vH s) (.tup [.p (.bool (doT s m k p o i).1.1), fsT (doT s m k p o i).1.2.1, .p (.bool (doT s m k p o i).1.2.2)]) (vH (doT s m k p o i).2) [] := by
    subst hk
    unfold doT
    rw [if_neg (by decide)]
    have hdo : do18 s m 2 p o i = (s.remove p, m.remove p) := rfl
    rw [hdo]
    dsimp only
    have c1 := remove_spec h (by omega) p
    have c2 := rRemove_spec hf (by omega) p
    generalize s.remove p = q at c1
    generalize m.remove p = r at c2
    obtain ⟨e, s1⟩ := q
    obtain ⟨f, m1⟩ := r
    dsimp only at c1 c2 ⊢
    refine con_of Tryz.func15 rfl (by kernel_rfl) rfl fun F w0 β0 => ?_
    refine K_tell rfl ?_
    refine go ?_
    refine K_op rfl rfl (opr_callS [.o 0, .o 1] rfl rfl (c1) rfl rfl rfl ⟨⟨rfl, rfl⟩, ⟨rfl, rfl⟩, trivial⟩ rfl rfl rfl rfl) rfl ?_
    refine go ?_
    refine K_op rfl rfl (opr_callP rfl rfl (c2) rfl rfl rfl rfl) rfl ?_
    refine go ?_
    by_cases he : e = 21
    · rw [if_pos he]
      refine K_condT rfl (by simp [he]) ?_
      refine go ?_
      refine J_drawS 2 (by kernel_rfl) (by kernel_rfl) ?_
      apply Exists.intro
      refine gdW ?_
      refine go ?_
      exact J_done hT rfl rfl rfl
    · rw [if_neg he]
      refine K_condF rfl (by simp [he]) ?_
      refine go ?_
      refine J_drawS 5 (by kernel_rfl) (by kernel_rfl) ?_
      apply Exists.intro
      refine gdW ?_
      refine go ?_
      exact J_done hT rfl rfl rfl
set_option maxHeartbeats 16000000 in
theorem do_link {s : VS} {n c : Nat} (h : VJ s n) (hn : n ≤ 90000) {m : MF} (hf : m.ok c) (hc : c ≤ 40000) (hu : ∀ x ∈ m, U32 x.i) (h1k : m.kind 1 = 2) (k : Int) (hk : k = 4) (p o : List UInt8) (i : Int) (hi : U32 i) :
    Con Tryz.prog 15 [vP, fsA m, opA k p o, .p (.int .u32 i)] (vH s) (.tup [.p (.bool (doT s m k p o i).1.1), fsT (doT s m k p o i).1.2.1, .p (.bool (doT s m k p o i).1.2.2)]) (vH (doT s m k p o i).2) [] := by
    subst hk
    unfold doT
    rw [if_neg (by decide)]
    have hdo : do18 s m 4 p o i = (s.link p o, m.link p o) := rfl
    rw [hdo]
    dsimp only
    have c1 := link_spec h (by omega) p o
    have c2 := rLink_spec hf (by omega) hu p o
    generalize s.link p o = q at c1
    generalize m.link p o = r at c2
    obtain ⟨e, s1⟩ := q
    obtain ⟨f, m1⟩ := r
    dsimp only at c1 c2 ⊢
    refine con_of Tryz.func15 rfl (by kernel_rfl) rfl fun F w0 β0 => ?_
    refine K_tell rfl ?_
    refine go ?_
    refine K_op rfl rfl (opr_callS [.o 0, .o 1] rfl rfl (c1) rfl rfl rfl ⟨⟨rfl, rfl⟩, ⟨rfl, rfl⟩, trivial⟩ rfl rfl rfl rfl) rfl ?_
    refine go ?_
    refine K_op rfl rfl (opr_callP rfl rfl (c2) rfl rfl rfl rfl) rfl ?_
    refine go ?_
    by_cases he : e = 21
    · rw [if_pos he]
      refine K_condT rfl (by simp [he]) ?_
      refine go ?_
      refine J_drawS 2 (by kernel_rfl) (by kernel_rfl) ?_
      apply Exists.intro
      refine gdW ?_
      refine go ?_
      exact J_done hT rfl rfl rfl
    · rw [if_neg he]
      refine K_condF rfl (by simp [he]) ?_
      refine go ?_
      refine J_drawS 5 (by kernel_rfl) (by kernel_rfl) ?_
      apply Exists.intro
      refine gdW ?_
      refine go ?_
      exact J_done hT rfl rfl rfl
set_option maxHeartbeats 16000000 in
theorem do_unlink {s : VS} {n c : Nat} (h : VJ s n) (hn : n ≤ 90000) {m : MF} (hf : m.ok c) (hc : c ≤ 40000) (hu : ∀ x ∈ m, U32 x.i) (h1k : m.kind 1 = 2) (k : Int) (hk : k = 5) (p o : List UInt8) (i : Int) (hi : U32 i) :
    Con Tryz.prog 15 [vP, fsA m, opA k p o, .p (.int .u32 i)] (vH s) (.tup [.p (.bool (doT s m k p o i).1.1), fsT (doT s m k p o i).1.2.1, .p (.bool (doT s m k p o i).1.2.2)]) (vH (doT s m k p o i).2) [] := by
    subst hk
    unfold doT
    rw [if_neg (by decide)]
    have hdo : do18 s m 5 p o i = (s.unlink p, m.unlink p) := rfl
    rw [hdo]
    dsimp only
    have c1 := unlink_spec h (by omega) p
    have c2 := rUnlink_spec hf (by omega) h1k p
    generalize s.unlink p = q at c1
    generalize m.unlink p = r at c2
    obtain ⟨e, s1⟩ := q
    obtain ⟨f, m1⟩ := r
    dsimp only at c1 c2 ⊢
    refine con_of Tryz.func15 rfl (by kernel_rfl) rfl fun F w0 β0 => ?_
    refine K_tell rfl ?_
    refine go ?_
    refine K_op rfl rfl (opr_callS [.o 0, .o 1] rfl rfl (c1) rfl rfl rfl ⟨⟨rfl, rfl⟩, ⟨rfl, rfl⟩, trivial⟩ rfl rfl rfl rfl) rfl ?_
    refine go ?_
    refine K_op rfl rfl (opr_callP rfl rfl (c2) rfl rfl rfl rfl) rfl ?_
    refine go ?_
    by_cases he : e = 21
    · rw [if_pos he]
      refine K_condT rfl (by simp [he]) ?_
      refine go ?_
      refine J_drawS 2 (by kernel_rfl) (by kernel_rfl) ?_
      apply Exists.intro
      refine gdW ?_
      refine go ?_
      exact J_done hT rfl rfl rfl
    · rw [if_neg he]
      refine K_condF rfl (by simp [he]) ?_
      refine go ?_
      refine J_drawS 5 (by kernel_rfl) (by kernel_rfl) ?_
      apply Exists.intro
      refine gdW ?_
      refine go ?_
      exact J_done hT rfl rfl rfl
set_option maxHeartbeats 16000000 in
theorem do_rename {s : VS} {n c : Nat} (h : VJ s n) (hn : n ≤ 90000) {m : MF} (hf : m.ok c) (hc : c ≤ 40000) (hu : ∀ x ∈ m, U32 x.i) (h1k : m.kind 1 = 2) (k : Int) (hk : k = 6) (p o : List UInt8) (i : Int) (hi : U32 i) :
    Con Tryz.prog 15 [vP, fsA m, opA k p o, .p (.int .u32 i)] (vH s) (.tup [.p (.bool (doT s m k p o i).1.1), fsT (doT s m k p o i).1.2.1, .p (.bool (doT s m k p o i).1.2.2)]) (vH (doT s m k p o i).2) [] := by
    subst hk
    unfold doT
    rw [if_neg (by decide)]
    have hdo : do18 s m 6 p o i = (s.rename p o, m.rename p o) := rfl
    rw [hdo]
    dsimp only
    have c1 := rename_spec h (by omega) p o
    have c2 := rRename_spec hf (by omega) hu p o
    generalize s.rename p o = q at c1
    generalize m.rename p o = r at c2
    obtain ⟨e, s1⟩ := q
    obtain ⟨f, m1⟩ := r
    dsimp only at c1 c2 ⊢
    refine con_of Tryz.func15 rfl (by kernel_rfl) rfl fun F w0 β0 => ?_
    refine K_tell rfl ?_
    refine go ?_
    refine K_op rfl rfl (opr_callS [.o 0, .o 1] rfl rfl (c1) rfl rfl rfl ⟨⟨rfl, rfl⟩, ⟨rfl, rfl⟩, trivial⟩ rfl rfl rfl rfl) rfl ?_
    refine go ?_
    refine K_op rfl rfl (opr_callP rfl rfl (c2) rfl rfl rfl rfl) rfl ?_
    refine go ?_
    by_cases he : e = 21
    · rw [if_pos he]
      refine K_condT rfl (by simp [he]) ?_
      refine go ?_
      refine J_drawS 2 (by kernel_rfl) (by kernel_rfl) ?_
      apply Exists.intro
      refine gdW ?_
      refine go ?_
      exact J_done hT rfl rfl rfl
    · rw [if_neg he]
      refine K_condF rfl (by simp [he]) ?_
      refine go ?_
      refine J_drawS 5 (by kernel_rfl) (by kernel_rfl) ?_
      apply Exists.intro
      refine gdW ?_
      refine go ?_
      exact J_done hT rfl rfl rfl
end Go.Proofs.YtfnpelogfcnanaaGreatDoor

/- flintlaw18: do whole. -/
-- @D
namespace Go.Proofs.YtfnpelogfcnanaaGreatDoor
set_option maxRecDepth 20000
open Go.Awp Tr
theorem opr_at {P : Program} {o : Oper} {env : Env} {H L H' L' : List AObj} {x y : TV} (h : OpR P o env H L x H' L') (e : x = y) : OpR P o env H L y H' L' := e ▸ h
set_option maxHeartbeats 16000000 in
theorem do_list {s : VS} {n c : Nat} (h : VJ s n) (hn : n ≤ 90000) {m : MF} (hf : m.ok c) (hc : c ≤ 40000) (p o : List UInt8) (i : Int) :
    Con Tryz.prog 15 [vP, fsA m, opA 3 p o, .p (.int .u32 i)] (vH s) (.tup [.p (.bool (doT s m 3 p o i).1.1), fsT (doT s m 3 p o i).1.2.1, .p (.bool (doT s m 3 p o i).1.2.2)]) (vH (doT s m 3 p o i).2) [] := by
  unfold doT
  rw [if_pos rfl]
  dsimp only
  obtain ⟨x1, l1, c1⟩ := dlist_spec h (by omega) p
  obtain ⟨x2, l2, c2⟩ := rList_spec hf (by omega) p
  have hlen : (s.dlist p).1.1.length ≤ big40 := by
    have hz := h.zs
    unfold VS.dlist
    split
    · exact Nat.zero_le _
    · split
      · exact Nat.zero_le _
      · dsimp only
        unfold namesL
        rw [List.length_map]
        refine Nat.le_trans (List.length_filter_le _ _) ?_
        rw [row_len]
        unfold big40; omega
  have c3 := same16_spec (.ps ((s.dlist p).1.1.map .str)) (.ps ((m.list p).1.map .str)) (s.dlist p).1.1 (m.list p).1 (fun _ => .ps _) (fun _ => .ps _) hlen
  generalize s.dlist p = q at c1 c3 l1
  generalize m.list p = r at c2 c3 l2
  obtain ⟨⟨a, e⟩, s1⟩ := q
  obtain ⟨b, f⟩ := r
  dsimp only at c1 c2 c3 l1 l2 ⊢
  by_cases he : e = f
  · skip
    refine con_of Tryz.func15 rfl (by kernel_rfl) rfl fun F w0 β0 => ?_
    refine K_tell rfl ?_
    refine go ?_
    refine K_op rfl rfl (opr_callS [.o 0, .o 1] rfl rfl (c1) rfl rfl rfl ⟨⟨rfl, rfl⟩, ⟨rfl, rfl⟩, trivial⟩ rfl rfl rfl rfl) rfl ?_
    refine go ?_
    refine K_op rfl rfl (opr_callP rfl rfl (c2) rfl rfl rfl rfl) rfl ?_
    refine go ?_
    refine J_le 15 _ rfl l1 ?_
    refine J_le 17 _ rfl l2 ?_
    refine J_drawS 10 (by kernel_rfl) (by kernel_rfl) ?_
    apply Exists.intro
    refine T_opD rfl rfl rfl rfl rfl (stepN_ok hT rfl) rfl ?_
    refine T_opD rfl rfl rfl rfl rfl (stepN_ok hT rfl) rfl ?_
    refine T_opD rfl rfl rfl rfl rfl (opr_at (stepN_ok hT rfl) (show TV.p (.bool (e == f)) = .p (.bool true) by rw [he]; simp)) rfl ?_
    refine gdW ?_
    refine T_yesD rfl rfl rfl rfl rfl rfl (opr_call0P rfl rfl c3 rfl rfl rfl) rfl ?_
    refine gdW ?_
    refine go ?_
    have e1 : (decide (e = f) && decide (a = b)) = decide (a = b) := by rw [decide_eq_true he]; rfl
    rw [e1]
    exact J_done hT rfl rfl rfl
  · skip
    refine con_of Tryz.func15 rfl (by kernel_rfl) rfl fun F w0 β0 => ?_
    refine K_tell rfl ?_
    refine go ?_
    refine K_op rfl rfl (opr_callS [.o 0, .o 1] rfl rfl (c1) rfl rfl rfl ⟨⟨rfl, rfl⟩, ⟨rfl, rfl⟩, trivial⟩ rfl rfl rfl rfl) rfl ?_
    refine go ?_
    refine K_op rfl rfl (opr_callP rfl rfl (c2) rfl rfl rfl rfl) rfl ?_
    refine go ?_
    refine J_drawS 10 (by kernel_rfl) (by kernel_rfl) ?_
    apply Exists.intro
    refine T_opD rfl rfl rfl rfl rfl (stepN_ok hT rfl) rfl ?_
    refine T_opD rfl rfl rfl rfl rfl (stepN_ok hT rfl) rfl ?_
    refine T_opD rfl rfl rfl rfl rfl (opr_at (stepN_ok hT rfl) (show TV.p (.bool (e == f)) = .p (.bool false) by simp [he])) rfl ?_
    refine gdW ?_
    refine go ?_
    have e1 : (decide (e = f) && decide (a = b)) = false := by rw [decide_eq_false he]; rfl
    rw [e1]
    exact J_done hT rfl rfl rfl
set_option maxHeartbeats 16000000 in
theorem do_none (s : VS) (m : MF) (k : Int) (hk : k ≠ 0 ∧ k ≠ 1 ∧ k ≠ 2 ∧ k ≠ 3 ∧ k ≠ 4 ∧ k ≠ 5 ∧ k ≠ 6) (p o : List UInt8) (i : Int) :
    Con Tryz.prog 15 [vP, fsA m, opA k p o, .p (.int .u32 i)] (vH s) (.tup [.p (.bool (doT s m k p o i).1.1), fsT (doT s m k p o i).1.2.1, .p (.bool (doT s m k p o i).1.2.2)]) (vH (doT s m k p o i).2) [] := by
  obtain ⟨h0, h1, h2, h3, h4, h5, h6⟩ := hk
  have e : doT s m k p o i = ((true, m, false), s) := by
    unfold doT do18
    rw [if_neg h3, if_neg h0, if_neg h1, if_neg h2, if_neg h4, if_neg h5, if_neg h6, if_neg (show ¬ (((0 : Int), s), (0 : Int), m).1.1 = 21 from (by decide : ¬ (0 : Int) = 21))]; rfl
  rw [e]
  dsimp only
  refine con_of Tryz.func15 rfl (by kernel_rfl) rfl fun F w0 β0 => ?_
  refine K_tell rfl ?_
  refine go ?_
  refine K_condF rfl (by simp [h0]) ?_
  refine go ?_
  refine K_condF rfl (by simp [h1]) ?_
  refine go ?_
  refine K_condF rfl (by simp [h2]) ?_
  refine go ?_
  refine K_condF rfl (by simp [h3]) ?_
  refine go ?_
  refine K_condF rfl (by simp [h4]) ?_
  refine go ?_
  refine K_condF rfl (by simp [h5]) ?_
  refine go ?_
  refine K_condF rfl (by simp [h6]) ?_
  refine go ?_
  refine J_drawS 5 (by kernel_rfl) (by kernel_rfl) ?_
  apply Exists.intro
  refine gdW ?_
  refine go ?_
  exact J_done hT rfl rfl rfl
theorem do_spec {s : VS} {n c : Nat} (h : VJ s n) (hn : n ≤ 90000) {m : MF} (hf : m.ok c) (hc : c ≤ 40000) (hu : ∀ x ∈ m, U32 x.i) (h1k : m.kind 1 = 2) (k : Int) (p o : List UInt8) (i : Int) (hi : U32 i) :
    Con Tryz.prog 15 [vP, fsA m, opA k p o, .p (.int .u32 i)] (vH s) (.tup [.p (.bool (doT s m k p o i).1.1), fsT (doT s m k p o i).1.2.1, .p (.bool (doT s m k p o i).1.2.2)]) (vH (doT s m k p o i).2) [] := by
  by_cases h0 : k = 0
  · exact do_make0 h hn hf hc hu h1k k h0 p o i hi
  by_cases h1 : k = 1
  · exact do_make1 h hn hf hc hu h1k k h1 p o i hi
  by_cases h2 : k = 2
  · exact do_remove h hn hf hc hu h1k k h2 p o i hi
  by_cases h3 : k = 3
  · subst h3; exact do_list h hn hf hc p o i
  by_cases h4 : k = 4
  · exact do_link h hn hf hc hu h1k k h4 p o i hi
  by_cases h5 : k = 5
  · exact do_unlink h hn hf hc hu h1k k h5 p o i hi
  by_cases h6 : k = 6
  · exact do_rename h hn hf hc hu h1k k h6 p o i hi
  exact do_none s m k ⟨h0, h1, h2, h3, h4, h5, h6⟩ p o i
end Go.Proofs.YtfnpelogfcnanaaGreatDoor

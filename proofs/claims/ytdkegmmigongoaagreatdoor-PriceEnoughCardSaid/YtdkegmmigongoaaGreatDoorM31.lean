import Derived.Test.YtdkegmmigongoaaGreatDoorGo
import Derived.Test.YtdkegmmigongoaaGreatDoorM30
import Derived.Test.YtdkegmmigongoaaGreatDoorM19
import Derived.Test.YtdkegmmigongoaaGreatDoorM14
import Derived.Test.YtdkegmmigongoaaGreatDoorM2
import Derived.Test.YtdkegmmigongoaaGreatDoorM4
import Derived.Test.YtdkegmmigongoaaGreatDoorM7
import Derived.Test.YtdkegmmigongoaaGreatDoorM5
namespace Go.Proofs.YtdkegmmigongoaaGreatDoor
set_option maxRecDepth 20000
open Go.Awp Tr
def mfr (f : MF) (l : List Int) (o : Op20) (fr : Int) : Int := if (o.kind = 4 ∨ o.kind = 5) ∧ (mdo f l o fr).1.e = 0 then fr + 1 else fr
theorem mopen_eq (f : MF) (l : List Int) (o : Op20) (i : Int) (hk : o.kind = 6) : mdo f l o i = ((mopen f l o.path).1, f, (mopen f l o.path).2) := by
 unfold mdo mopen
 rw [if_neg (show ¬ o.kind = 4 by omega), if_neg (show ¬ o.kind = 5 by omega), if_pos hk]
 repeat' split
 all_goals rfl
structure R20 (f : MF) (l : List Int) (fr : Int) (c : Nat) : Prop where
 ok : f.ok c
 hc : c ≤ 30000
 u : ∀ x ∈ f, U32 x.i
 k1 : f.kind 1 = 2
 b : ∀ x ∈ f, x.b.length ≤ 100000
 st : ∀ p, Nd.ok (f.stat p).1
 l : l.length = 16
 fr : 0 ≤ fr ∧ fr ≤ 1000000
theorem tup_rep0 {x y : AV} {z : TV} (h : AVLe x y) : TVLe (.tup [.p x, z]) (.tup [.p y, z]) := fun w β G v q => by
 cases q with | tup _ vs hl hr =>
 refine .tup _ vs hl fun j u a hu ha => ?_
 match j, hu with
 | 0, hu =>
  obtain rfl := Option.some.inj hu
  have := hr 0 (.p x) a rfl ha
  cases this with | p q => exact .p (h _ _ _ q)
 | 1, hu => exact hr 1 u a hu ha
abbrev DoR (f : MF) (l : List Int) (fr : Int) (o : Op20) (d : AV) : Prop := ∃ x n, Bs x (mdo f l o fr).1.data ∧ Sl AV.str n (mdo f l o fr).1.names ∧ Con Tryz.prog 23 [deA f l fr, oA20 o d] [] (.tup [resT (mdo f l o fr).1 x n, deT (mdo f l o fr).2.1 (mdo f l o fr).2.2 (mfr f l o fr)]) [] []
set_option maxHeartbeats 16000000 in
theorem rdo4 {f : MF} {l : List Int} {fr : Int} {c : Nat} (h : R20 f l fr c) (o : Op20) (hk : o.kind = 4) (d : AV) : DoR f l fr o d := by
 obtain ⟨k, p, q, hd, fm, n, b⟩ := o
 obtain rfl : k = 4 := hk
 have hfr := h.fr
 have c1 := rmake_spec h.ok (by have := h.hc; omega) p 1 fr (by unfold U32; omega)
 unfold DoR mfr mdo
 dsimp only
 rw [if_pos rfl]
 generalize f.make p 1 fr = r at c1
 obtain ⟨e, g⟩ := r
 dsimp only at c1 ⊢
 refine ⟨.nils, .nils, .nils, .nils, ?_⟩
 by_cases he : e = 0
 ·obtain rfl := he
  have c2 := rchanged20 f l (fr + 1) 0 g
  have e42 : IntKind.u32.wrap (fr + 1) = fr + 1 := u32_in _ (by omega)
  rw [if_pos ⟨.inl rfl, rfl⟩]
  refine con_of Tryz.func23 rfl (by kernel_rfl) rfl fun F w0 β0 => ?_
  refine K_tell rfl ?_
  refine go ?_
  refine K_op rfl rfl (opr_callP rfl rfl (c1) rfl rfl rfl rfl) rfl ?_
  refine go ?_
  rw [e42]
  refine K_op rfl rfl (opr_callP rfl rfl (c2) rfl rfl rfl rfl) rfl ?_
  refine go ?_
  exact J_done hT rfl rfl rfl
 ·have c2 := rchanged20 f l fr e g
  rw [if_neg (fun q => he q.2)]
  refine con_of Tryz.func23 rfl (by kernel_rfl) rfl fun F w0 β0 => ?_
  refine K_tell rfl ?_
  refine go ?_
  refine K_op rfl rfl (opr_callP rfl rfl (c1) rfl rfl rfl rfl) rfl ?_
  refine go ?_
  refine K_condF rfl (by simpa using he) ?_
  refine go ?_
  refine K_op rfl rfl (opr_callP rfl rfl (c2) rfl rfl rfl rfl) rfl ?_
  refine go ?_
  exact J_done hT rfl rfl rfl
set_option maxHeartbeats 16000000 in
theorem rdo5 {f : MF} {l : List Int} {fr : Int} {c : Nat} (h : R20 f l fr c) (o : Op20) (hk : o.kind = 5) (d : AV) : DoR f l fr o d := by
 obtain ⟨k, p, q, hd, fm, n, b⟩ := o
 obtain rfl : k = 5 := hk
 have hfr := h.fr
 have c1 := rmake_spec h.ok (by have := h.hc; omega) p 2 fr (by unfold U32; omega)
 unfold DoR mfr mdo
 dsimp only
 rw [if_neg (show ¬ ((5 : Int) = 4) by decide), if_pos rfl]
 generalize f.make p 2 fr = r at c1
 obtain ⟨e, g⟩ := r
 dsimp only at c1 ⊢
 refine ⟨.nils, .nils, .nils, .nils, ?_⟩
 by_cases he : e = 0
 ·obtain rfl := he
  have c2 := rchanged20 f l (fr + 1) 0 g
  have e42 : IntKind.u32.wrap (fr + 1) = fr + 1 := u32_in _ (by omega)
  rw [if_pos ⟨.inr rfl, rfl⟩]
  refine con_of Tryz.func23 rfl (by kernel_rfl) rfl fun F w0 β0 => ?_
  refine K_tell rfl ?_
  refine go ?_
  refine K_op rfl rfl (opr_callP rfl rfl (c1) rfl rfl rfl rfl) rfl ?_
  refine go ?_
  rw [e42]
  refine K_op rfl rfl (opr_callP rfl rfl (c2) rfl rfl rfl rfl) rfl ?_
  refine go ?_
  exact J_done hT rfl rfl rfl
 ·have c2 := rchanged20 f l fr e g
  rw [if_neg (fun q => he q.2)]
  refine con_of Tryz.func23 rfl (by kernel_rfl) rfl fun F w0 β0 => ?_
  refine K_tell rfl ?_
  refine go ?_
  refine K_op rfl rfl (opr_callP rfl rfl (c1) rfl rfl rfl rfl) rfl ?_
  refine go ?_
  refine K_condF rfl (by simpa using he) ?_
  refine go ?_
  refine K_op rfl rfl (opr_callP rfl rfl (c2) rfl rfl rfl rfl) rfl ?_
  refine go ?_
  exact J_done hT rfl rfl rfl
set_option maxHeartbeats 16000000 in
theorem rdo11 {f : MF} {l : List Int} {fr : Int} {c : Nat} (h : R20 f l fr c) (o : Op20) (hk : o.kind = 11) (d : AV) : DoR f l fr o d := by
 obtain ⟨k, p, q, hd, fm, n, b⟩ := o
 obtain rfl : k = 11 := hk
 have hc := h.hc
 have c1 := rRename_spec h.ok (by omega) h.u p q
 unfold DoR mfr
 rw [if_neg (fun q => by rcases q.1 with q | q <;> dsimp only at q <;> omega)]
 unfold mdo
 dsimp only
 rw [if_neg (show ¬ ((11 : Int) = 4) by decide), if_neg (show ¬ ((11 : Int) = 5) by decide), if_neg (show ¬ ((11 : Int) = 6) by decide), if_neg (show ¬ ((11 : Int) = 7) by decide), if_neg (show ¬ ((11 : Int) = 8) by decide), if_neg (show ¬ ((11 : Int) = 9) by decide), if_neg (show ¬ ((11 : Int) = 10) by decide), if_pos rfl]
 generalize f.rename p q = r at c1
 obtain ⟨e, g⟩ := r
 dsimp only at c1 ⊢
 have c2 := rchanged20 f l fr e g
 refine ⟨.nils, .nils, .nils, .nils, ?_⟩
 refine con_of Tryz.func23 rfl (by kernel_rfl) rfl fun F w0 β0 => ?_
 refine K_tell rfl ?_
 refine go ?_
 refine K_op rfl rfl (opr_callP rfl rfl (c1) rfl rfl rfl rfl) rfl ?_
 refine go ?_
 refine K_op rfl rfl (opr_callP rfl rfl (c2) rfl rfl rfl rfl) rfl ?_
 refine go ?_
 exact J_done hT rfl rfl rfl
set_option maxHeartbeats 16000000 in
theorem rdo12 {f : MF} {l : List Int} {fr : Int} {c : Nat} (h : R20 f l fr c) (o : Op20) (hk : o.kind = 12) (d : AV) : DoR f l fr o d := by
 obtain ⟨k, p, q, hd, fm, n, b⟩ := o
 obtain rfl : k = 12 := hk
 have hc := h.hc
 have c1 := rLink_spec h.ok (by omega) h.u p q
 unfold DoR mfr
 rw [if_neg (fun q => by rcases q.1 with q | q <;> dsimp only at q <;> omega)]
 unfold mdo
 dsimp only
 rw [if_neg (show ¬ ((12 : Int) = 4) by decide), if_neg (show ¬ ((12 : Int) = 5) by decide), if_neg (show ¬ ((12 : Int) = 6) by decide), if_neg (show ¬ ((12 : Int) = 7) by decide), if_neg (show ¬ ((12 : Int) = 8) by decide), if_neg (show ¬ ((12 : Int) = 9) by decide), if_neg (show ¬ ((12 : Int) = 10) by decide), if_neg (show ¬ ((12 : Int) = 11) by decide), if_pos rfl]
 generalize f.link p q = r at c1
 obtain ⟨e, g⟩ := r
 dsimp only at c1 ⊢
 have c2 := rchanged20 f l fr e g
 refine ⟨.nils, .nils, .nils, .nils, ?_⟩
 refine con_of Tryz.func23 rfl (by kernel_rfl) rfl fun F w0 β0 => ?_
 refine K_tell rfl ?_
 refine go ?_
 refine K_op rfl rfl (opr_callP rfl rfl (c1) rfl rfl rfl rfl) rfl ?_
 refine go ?_
 refine K_op rfl rfl (opr_callP rfl rfl (c2) rfl rfl rfl rfl) rfl ?_
 refine go ?_
 exact J_done hT rfl rfl rfl
set_option maxHeartbeats 16000000 in
theorem rdo13 {f : MF} {l : List Int} {fr : Int} {c : Nat} (h : R20 f l fr c) (o : Op20) (hk : o.kind = 13) (d : AV) : DoR f l fr o d := by
 obtain ⟨k, p, q, hd, fm, n, b⟩ := o
 obtain rfl : k = 13 := hk
 have hc := h.hc
 have c1 := rUnlink_spec h.ok (by omega) h.k1 p
 unfold DoR mfr
 rw [if_neg (fun q => by rcases q.1 with q | q <;> dsimp only at q <;> omega)]
 unfold mdo
 dsimp only
 rw [if_neg (show ¬ ((13 : Int) = 4) by decide), if_neg (show ¬ ((13 : Int) = 5) by decide), if_neg (show ¬ ((13 : Int) = 6) by decide), if_neg (show ¬ ((13 : Int) = 7) by decide), if_neg (show ¬ ((13 : Int) = 8) by decide), if_neg (show ¬ ((13 : Int) = 9) by decide), if_neg (show ¬ ((13 : Int) = 10) by decide), if_neg (show ¬ ((13 : Int) = 11) by decide), if_neg (show ¬ ((13 : Int) = 12) by decide), if_pos rfl]
 generalize f.unlink p = r at c1
 obtain ⟨e, g⟩ := r
 dsimp only at c1 ⊢
 have c2 := rchanged20 f l fr e g
 refine ⟨.nils, .nils, .nils, .nils, ?_⟩
 refine con_of Tryz.func23 rfl (by kernel_rfl) rfl fun F w0 β0 => ?_
 refine K_tell rfl ?_
 refine go ?_
 refine K_op rfl rfl (opr_callP rfl rfl (c1) rfl rfl rfl rfl) rfl ?_
 refine go ?_
 refine K_op rfl rfl (opr_callP rfl rfl (c2) rfl rfl rfl rfl) rfl ?_
 refine go ?_
 exact J_done hT rfl rfl rfl
set_option maxHeartbeats 16000000 in
theorem rdo14 {f : MF} {l : List Int} {fr : Int} {c : Nat} (h : R20 f l fr c) (o : Op20) (hk : o.kind = 14) (d : AV) : DoR f l fr o d := by
 obtain ⟨k, p, q, hd, fm, n, b⟩ := o
 obtain rfl : k = 14 := hk
 have hc := h.hc
 have c1 := rRemove_spec h.ok (by omega) p
 unfold DoR mfr
 rw [if_neg (fun q => by rcases q.1 with q | q <;> dsimp only at q <;> omega)]
 unfold mdo
 dsimp only
 rw [if_neg (show ¬ ((14 : Int) = 4) by decide), if_neg (show ¬ ((14 : Int) = 5) by decide), if_neg (show ¬ ((14 : Int) = 6) by decide), if_neg (show ¬ ((14 : Int) = 7) by decide), if_neg (show ¬ ((14 : Int) = 8) by decide), if_neg (show ¬ ((14 : Int) = 9) by decide), if_neg (show ¬ ((14 : Int) = 10) by decide), if_neg (show ¬ ((14 : Int) = 11) by decide), if_neg (show ¬ ((14 : Int) = 12) by decide), if_neg (show ¬ ((14 : Int) = 13) by decide), if_pos rfl]
 generalize f.remove p = r at c1
 obtain ⟨e, g⟩ := r
 dsimp only at c1 ⊢
 have c2 := rchanged20 f l fr e g
 refine ⟨.nils, .nils, .nils, .nils, ?_⟩
 refine con_of Tryz.func23 rfl (by kernel_rfl) rfl fun F w0 β0 => ?_
 refine K_tell rfl ?_
 refine go ?_
 refine K_op rfl rfl (opr_callP rfl rfl (c1) rfl rfl rfl rfl) rfl ?_
 refine go ?_
 refine K_op rfl rfl (opr_callP rfl rfl (c2) rfl rfl rfl rfl) rfl ?_
 refine go ?_
 exact J_done hT rfl rfl rfl
set_option maxHeartbeats 16000000 in
theorem rdo15 {f : MF} {l : List Int} {fr : Int} {c : Nat} (h : R20 f l fr c) (o : Op20) (hk : o.kind = 15) (d : AV) : DoR f l fr o d := by
 obtain ⟨k, p, q, hd, fm, n, b⟩ := o
 obtain rfl : k = 15 := hk
 have hc := h.hc
 obtain ⟨y, hy, c1⟩ := rList_spec h.ok (by omega) p
 unfold DoR mfr
 rw [if_neg (fun q => by rcases q.1 with q | q <;> dsimp only at q <;> omega)]
 unfold mdo
 dsimp only
 rw [if_neg (show ¬ ((15 : Int) = 4) by decide), if_neg (show ¬ ((15 : Int) = 5) by decide), if_neg (show ¬ ((15 : Int) = 6) by decide), if_neg (show ¬ ((15 : Int) = 7) by decide), if_neg (show ¬ ((15 : Int) = 8) by decide), if_neg (show ¬ ((15 : Int) = 9) by decide), if_neg (show ¬ ((15 : Int) = 10) by decide), if_neg (show ¬ ((15 : Int) = 11) by decide), if_neg (show ¬ ((15 : Int) = 12) by decide), if_neg (show ¬ ((15 : Int) = 13) by decide), if_neg (show ¬ ((15 : Int) = 14) by decide), if_pos rfl]
 generalize f.list p = r at c1 hy
 obtain ⟨ns, e⟩ := r
 dsimp only at c1 hy ⊢
 refine ⟨.nils, .ps (ns.map .str), .nils, .ps _, ?_⟩
 refine con_of Tryz.func23 rfl (by kernel_rfl) rfl fun F w0 β0 => ?_
 refine K_tell rfl ?_
 refine go ?_
 refine K_op rfl rfl (opr_callP rfl rfl (c1) rfl rfl rfl rfl) rfl ?_
 refine J_rep 143 (.tup [.p (.ps (ns.map .str)), .p (.int .i64 e)]) rfl (tup_rep0 hy) ?_
 refine go ?_
 refine J_draw [[deB f l fr, opB ⟨15, p, q, hd, fm, n, b⟩ (.p d), resB0, deB0], [deB f l fr, opB ⟨15, p, q, hd, fm, n, b⟩ (.p d), resB { rs0 e with names := ns } .nils (.ps (ns.map .str)), deB0], [deB f l fr, opB ⟨15, p, q, hd, fm, n, b⟩ (.p d), resB { rs0 e with names := ns } .nils (.ps (ns.map .str)), deB f l fr]] [4, 5] (by kernel_rfl) (by kernel_rfl) rfl ?_
 refine gdW ?_
 refine go ?_
 exact J_done hT rfl rfl rfl
set_option maxHeartbeats 16000000 in
theorem rdo16 {f : MF} {l : List Int} {fr : Int} {c : Nat} (h : R20 f l fr c) (o : Op20) (hk : o.kind = 16) (d : AV) : DoR f l fr o d := by
 obtain ⟨k, p, q, hd, fm, n, b⟩ := o
 obtain rfl : k = 16 := hk
 have hc := h.hc
 have c1 := rstat20 h.ok (by omega) p (h.st p)
 unfold DoR mfr
 rw [if_neg (fun q => by rcases q.1 with q | q <;> dsimp only at q <;> omega)]
 unfold mdo
 dsimp only
 rw [if_neg (show ¬ ((16 : Int) = 4) by decide), if_neg (show ¬ ((16 : Int) = 5) by decide), if_neg (show ¬ ((16 : Int) = 6) by decide), if_neg (show ¬ ((16 : Int) = 7) by decide), if_neg (show ¬ ((16 : Int) = 8) by decide), if_neg (show ¬ ((16 : Int) = 9) by decide), if_neg (show ¬ ((16 : Int) = 10) by decide), if_neg (show ¬ ((16 : Int) = 11) by decide), if_neg (show ¬ ((16 : Int) = 12) by decide), if_neg (show ¬ ((16 : Int) = 13) by decide), if_neg (show ¬ ((16 : Int) = 14) by decide), if_neg (show ¬ ((16 : Int) = 15) by decide), if_pos rfl]
 generalize f.stat p = r at c1
 obtain ⟨x, e⟩ := r
 dsimp only at c1 ⊢
 refine ⟨.nils, .nils, .nils, .nils, ?_⟩
 refine con_of Tryz.func23 rfl (by kernel_rfl) rfl fun F w0 β0 => ?_
 refine K_tell rfl ?_
 refine go ?_
 refine K_op rfl rfl (opr_callP rfl rfl (c1) rfl rfl rfl rfl) rfl ?_
 refine go ?_
 refine J_draw [[deB f l fr, opB ⟨16, p, q, hd, fm, n, b⟩ (.p d), resB0, deB0, ndB x], [deB f l fr, opB ⟨16, p, q, hd, fm, n, b⟩ (.p d), resB { rs0 e with st := x } .nils .nils, deB0, ndB x], [deB f l fr, opB ⟨16, p, q, hd, fm, n, b⟩ (.p d), resB { rs0 e with st := x } .nils .nils, deB f l fr, ndB x]] [4, 5] (by kernel_rfl) (by kernel_rfl) rfl ?_
 refine gdW ?_
 refine go ?_
 exact J_done hT rfl rfl rfl
set_option maxHeartbeats 16000000 in
theorem rdo6 {f : MF} {l : List Int} {fr : Int} {c : Nat} (h : R20 f l fr c) (o : Op20) (hk : o.kind = 6) (d : AV) : DoR f l fr o d := by
 obtain ⟨k, p, q, hd, fm, n, b⟩ := o
 obtain rfl : k = 6 := hk
 have hc := h.hc
 have c1 := ropen20 h.ok (by omega) h.l fr p
 unfold DoR mfr
 rw [if_neg (fun q => by rcases q.1 with q | q <;> dsimp only at q <;> omega)]
 rw [mopen_eq f l ⟨6, p, q, hd, fm, n, b⟩ fr rfl]
 dsimp only
 have hda : (mopen f l p).1.data = [] ∧ (mopen f l p).1.names = [] := by
  unfold mopen
  repeat' split
  all_goals exact ⟨rfl, rfl⟩
 rw [hda.1, hda.2]
 generalize mopen f l p = r at c1
 obtain ⟨r, l2⟩ := r
 dsimp only at c1 ⊢
 refine ⟨.nils, .nils, .nils, .nils, ?_⟩
 refine con_of Tryz.func23 rfl (by kernel_rfl) rfl fun F w0 β0 => ?_
 refine K_tell rfl ?_
 refine go ?_
 refine K_op rfl rfl (opr_callP rfl rfl (c1) rfl rfl rfl rfl) rfl ?_
 refine go ?_
 exact J_done hT rfl rfl rfl
set_option maxHeartbeats 16000000 in
theorem rdo7 {f : MF} {l : List Int} {fr : Int} {c : Nat} (h : R20 f l fr c) (o : Op20) (ho : o.ok) (hk : 7 ≤ o.kind ∧ o.kind ≤ 10) {d : AV} (hd : Bs d o.b) : DoR f l fr o d := by
 obtain ⟨x, hx, c1⟩ := rhandled20 h.ok (by have := h.hc; omega) h.b h.l fr o ho hk hd
 unfold DoR mfr
 rw [if_neg (fun q => by rcases q.1 with q | q <;> omega)]
 have hn : (mdo f l o fr).1.names = [] := by
  unfold mdo
  rw [if_neg (show ¬ o.kind = 4 by omega), if_neg (show ¬ o.kind = 5 by omega), if_neg (show ¬ o.kind = 6 by omega)]
  repeat' split
  all_goals first | rfl | omega
 rw [hn]
 have hx' := hx.or
 generalize mdo f l o fr = r at c1 hx hx'
 obtain ⟨r, g, l2⟩ := r
 dsimp only at c1 hx hx' ⊢
 refine ⟨x, .nils, hx, .nils, ?_⟩
 obtain ⟨k, p, q, hd2, fm, n, b⟩ := o
 dsimp only at hk c1 ⊢
 clear hx
 generalize r.data = rd at hx'
 have hk4 : k = 7 ∨ k = 8 ∨ k = 9 ∨ k = 10 := by omega
 rcases hx' with rfl | rfl | rfl
 all_goals rcases hk4 with rfl | rfl | rfl | rfl
 all_goals
  skip
  refine con_of Tryz.func23 rfl (by kernel_rfl) rfl fun F w0 β0 => ?_
  refine K_tell rfl ?_
  refine go ?_
  refine K_op rfl rfl (opr_callP rfl rfl (c1) rfl rfl rfl rfl) rfl ?_
  refine go ?_
  exact J_done hT rfl rfl rfl
set_option maxHeartbeats 16000000 in
theorem rdoX {f : MF} {l : List Int} {fr : Int} {c : Nat} (_ : R20 f l fr c) (o : Op20) (hk : o.kind < 4 ∨ 16 < o.kind) (d : AV) : DoR f l fr o d := by
 have c1 := rfailed20 28
 unfold DoR mfr
 rw [if_neg (fun q => by rcases q.1 with q | q <;> omega)]
 unfold mdo
 rw [if_neg (show ¬ o.kind = 4 by omega), if_neg (show ¬ o.kind = 5 by omega), if_neg (show ¬ o.kind = 6 by omega), if_neg (show ¬ o.kind = 7 by omega), if_neg (show ¬ o.kind = 8 by omega), if_neg (show ¬ o.kind = 9 by omega), if_neg (show ¬ o.kind = 10 by omega), if_neg (show ¬ o.kind = 11 by omega), if_neg (show ¬ o.kind = 12 by omega), if_neg (show ¬ o.kind = 13 by omega), if_neg (show ¬ o.kind = 14 by omega), if_neg (show ¬ o.kind = 15 by omega), if_neg (show ¬ o.kind = 16 by omega)]
 obtain ⟨k, p, q, hd, fm, n, b⟩ := o
 dsimp only at hk ⊢
 refine ⟨.nils, .nils, .nils, .nils, ?_⟩
 refine con_of Tryz.func23 rfl (by kernel_rfl) rfl fun F w0 β0 => ?_
 refine K_tell rfl ?_
 refine go ?_
 refine K_condF rfl (by simp; omega) ?_
 refine go ?_
 refine K_condF rfl (by simp; omega) ?_
 refine go ?_
 refine K_condF rfl (by simp; omega) ?_
 refine go ?_
 refine K_condF rfl (by simp; omega) ?_
 refine go ?_
 refine K_condF rfl (by simp; omega) ?_
 refine go ?_
 refine K_condF rfl (by simp; omega) ?_
 refine go ?_
 refine K_condF rfl (by simp; omega) ?_
 refine go ?_
 refine K_condF rfl (by simp; omega) ?_
 refine go ?_
 refine K_condF rfl (by simp; omega) ?_
 refine go ?_
 refine K_condF rfl (by simp; omega) ?_
 refine go ?_
 refine K_condF rfl (by simp; omega) ?_
 refine go ?_
 refine K_condF rfl (by simp; omega) ?_
 refine go ?_
 refine K_condF rfl (by simp; omega) ?_
 refine go ?_
 refine J_draw [[deB f l fr, opB ⟨k, p, q, hd, fm, n, b⟩ (.p d), resB0, deB0], [deB f l fr, opB ⟨k, p, q, hd, fm, n, b⟩ (.p d), resB (rs0 28) .nils .nils, deB0], [deB f l fr, opB ⟨k, p, q, hd, fm, n, b⟩ (.p d), resB (rs0 28) .nils .nils, deB f l fr]] [2, 3] (by kernel_rfl) (by kernel_rfl) rfl ?_
 refine gdW ?_
 refine T_opD rfl rfl rfl rfl rfl (opr_call0P rfl rfl c1 rfl rfl rfl) rfl ?_
 refine gdW ?_
 refine go ?_
 exact J_done hT rfl rfl rfl
theorem rdo20 {f : MF} {l : List Int} {fr : Int} {c : Nat} (h : R20 f l fr c) (o : Op20) (ho : o.ok) {d : AV} (hd : Bs d o.b) : DoR f l fr o d := by
 by_cases k4 : o.kind = 4
 ·exact rdo4 h o k4 d
 by_cases k5 : o.kind = 5
 ·exact rdo5 h o k5 d
 by_cases k6 : o.kind = 6
 ·exact rdo6 h o k6 d
 by_cases k7 : 7 ≤ o.kind ∧ o.kind ≤ 10
 ·exact rdo7 h o ho k7 hd
 by_cases k11 : o.kind = 11
 ·exact rdo11 h o k11 d
 by_cases k12 : o.kind = 12
 ·exact rdo12 h o k12 d
 by_cases k13 : o.kind = 13
 ·exact rdo13 h o k13 d
 by_cases k14 : o.kind = 14
 ·exact rdo14 h o k14 d
 by_cases k15 : o.kind = 15
 ·exact rdo15 h o k15 d
 by_cases k16 : o.kind = 16
 ·exact rdo16 h o k16 d
 exact rdoX h o (by omega) d
def openL : List Int → Nat → List Int
 | [], _ => []
 | x :: r, i => if x = 0 then openL r (i + 1) else (i : Int) :: openL r (i + 1)
structure OpI (l : List Int) where
 i : Nat
 h : i ≤ l.length
 acc : List Int
 hl : acc.length ≤ i
 e : acc ++ openL (l.drop i) i = openL l 0
set_option maxHeartbeats 4000000 in
theorem rnew20_spec : Con Tryz.prog 21 [fsA newM] [] (deT newM noH 2) [] [] := by
 refine con_of Tryz.func21 rfl (by kernel_rfl) rfl fun F w0 β0 => ?_
 refine K_tell rfl ?_
 refine go ?_
 refine J_unroll 2 ?_
 refine J_round ?_
 refine go ?_
 refine K_op rfl rfl (opr_index hT rfl rfl rfl rfl rfl (.ps _) (by decide) (by decide)) rfl ?_
 refine go ?_
 refine K_op rfl rfl (opr_load_el hT rfl rfl (.ps _) (show (nods newM)[0]? = some (nodA ⟨1, 2, 2, [], []⟩) from rfl) rfl rfl) rfl ?_
 refine go ?_
 refine J_round ?_
 refine go ?_
 refine J_drawS 5 (by kernel_rfl) (by kernel_rfl) ?_
 apply Exists.intro
 refine gdW ?_
 refine T_opD rfl rfl rfl rfl rfl (opr_frz (opr_make (n := 16) hT rfl rfl rfl rfl rfl rfl rfl rfl rfl (by decide)) List.length_replicate rfl) rfl ?_
 refine gdW ?_
 refine go ?_
 exact J_done hT rfl rfl rfl
theorem make_al {m : MF} {P : Int → Prop} (h : m.al P) (p : List UInt8) (k i : Int) (he : (m.make p k i).1 ≠ 0) : (m.make p k i).2.al P := by
 unfold MF.make at he ⊢
 split
 ·exact h
 split
 ·exact h
 rename_i h1 h2
 rw [if_neg h1, if_neg h2] at he
 exact absurd rfl he
theorem mdo_al2 {m : MF} {P : Int → Prop} (h : m.al P) (h1 : P 1) (l : List Int) (o : Op20) (i : Int) (hn : ¬ ((o.kind = 4 ∨ o.kind = 5) ∧ (mdo m l o i).1.e = 0)) : (mdo m l o i).2.1.al P := by
 by_cases k4 : o.kind = 4
 ·have he : (mdo m l o i).1.e ≠ 0 := fun e => hn ⟨.inl k4, e⟩
  unfold mdo at he ⊢
  rw [if_pos k4] at he ⊢
  exact make_al h _ _ _ he
 by_cases k5 : o.kind = 5
 ·have he : (mdo m l o i).1.e ≠ 0 := fun e => hn ⟨.inr k5, e⟩
  unfold mdo at he ⊢
  rw [if_neg k4, if_pos k5] at he ⊢
  exact make_al h _ _ _ he
 have e : mdo m l o i = mdo m l o 1 := by
  unfold mdo
  rw [if_neg k4, if_neg k5, if_neg k4, if_neg k5]
 rw [e]
 exact mdo_al h l o h1
theorem D20.stepF {s : VS} {l : List Int} {m : MF} {fr : Int} {i : Nat} (d : D20 s l m (· < fr) i) (hi : i ≤ 200) (o : Op20) (h2 : 2 ≤ fr) (hf : fr ≤ 4294967290) :
  (sdo s l o fr).1.e = 21 ∨ ((sdo s l o fr).1 = (mdo m l o fr).1 ∧ (sdo s l o fr).2.2 = (mdo m l o fr).2.2 ∧ D20 (sdo s l o fr).2.1 (sdo s l o fr).2.2 (mdo m l o fr).2.1 (· < mfr m l o fr) (i + 1)) := by
 refine (d.step (Q := (· < fr + 1)) hi o (j := fr) (by unfold U32; omega) (by omega) (by omega) (fun k h => by omega) (by omega)).imp_right fun ⟨q1, q2, q3⟩ => ⟨q1, q2, ?_⟩
 refine ⟨q3.v, q3.r, q3.w, ?_, q3.l⟩
 unfold mfr
 by_cases hc : (o.kind = 4 ∨ o.kind = 5) ∧ (mdo m l o fr).1.e = 0
 ·rw [if_pos hc]; exact q3.p
 ·rw [if_neg hc]; exact mdo_al2 d.p (by show (1 : Int) < fr; omega) l o fr hc
theorem mfr_bd (m : MF) (l : List Int) (o : Op20) (fr : Int) : fr ≤ mfr m l o fr ∧ mfr m l o fr ≤ fr + 1 := by
 unfold mfr; split <;> omega
theorem D20.asked {s : VS} {l : List Int} {m : MF} {P : Int → Prop} {i : Nat} (d : D20 s l m P i) (hi : i ≤ 200) (fr : Int) (hf : 0 ≤ fr ∧ fr ≤ 1000000) : R20 m l fr (6 * i + 2) := by
 obtain ⟨par, R⟩ := d.r
 refine ⟨R.spot d.w, by omega, fun x hx => (R.u _ _ (R.fst x hx)).1, ?_, fun x hx => ?_, fun p => ?_, d.l.1, hf⟩
 ·obtain ⟨x, h1, h2⟩ := R.root
  unfold MF.kind; rw [h1]; exact h2
 ·have hat := R.fst x hx
  rcases R.kin _ _ hat with q | q
  ·rw [q.2]; exact Nat.zero_le _
  ·exact Nat.le_trans (R.bl hat q.1).1 (by decide)
 ·obtain ⟨_, h2, _⟩ := lead_sim d.v R p
  obtain ⟨_, h4⟩ := lead_u s p
  rw [← h2]
  exact ⟨h4.1, h4.2.1, h4.2.2.1, by dsimp only; decide⟩
theorem TVLe.trans {x y z : TV} (h : TVLe x y) (k : TVLe y z) : TVLe x z := fun w β G v q => k _ _ _ _ (h _ _ _ _ q)
def isz (k v : List UInt8) : Int := if 48 < k.length ∨ 64 < v.length then 0 else 32 + (k.length : Int) + (v.length : Int)
theorem isz_b (k v : List UInt8) : 0 ≤ isz k v ∧ isz k v ≤ 144 := by
 unfold isz
 split <;> omega
theorem rsz_spec (k v : List UInt8) : Con Tryz.prog 31 [.p (.str k), .p (.str v)] [] (.p (.int .i64 (isz k v))) [] [] := by
 by_cases h : 48 < k.length ∨ 64 < v.length
 ·unfold isz
  rw [if_pos h]
  refine con_of Tryz.func31 rfl (by kernel_rfl) rfl fun F w0 β0 => ?_
  refine K_tell rfl ?_
  refine go ?_
  refine K_condT rfl (by rcases h with h | h <;> simp <;> omega) ?_
  refine go ?_
  exact J_done hT rfl rfl rfl
 ·have := size_spec k v (by omega) (by omega) []
  unfold isz
  rw [if_neg h]
  exact this
end Go.Proofs.YtdkegmmigongoaaGreatDoor

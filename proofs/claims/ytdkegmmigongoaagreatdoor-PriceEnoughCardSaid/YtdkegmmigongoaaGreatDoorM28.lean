import Derived.Test.YtdkegmmigongoaaGreatDoorGo
import Derived.Test.YtdkegmmigongoaaGreatDoorM27
import Derived.Test.YtdkegmmigongoaaGreatDoorM24
import Derived.Test.YtdkegmmigongoaaGreatDoorM11
namespace Go.Proofs.YtdkegmmigongoaaGreatDoor
set_option maxRecDepth 20000
open Go.Awp Tr
abbrev opB (o : Op20) (d : TV) : AObj := .box 33 [.p (.int .u8 o.kind), .p (.str o.path), .p (.str o.other), .p (.int .i64 o.h), .p (.int .i64 o.from_), .p (.int .i64 o.n), d]
abbrev resB0 : AObj := .box 40 [.p (.int .i64 0), .p (.int .i64 0), .p .nils, .p .nils, .p (.int .u8 0), .p (.int .u32 0), .p (.int .u32 0), .p (.int .u32 0)]
set_option maxHeartbeats 8000000 in
theorem readdir_d {s : VS} {m : Nat} (h : VJ s m) (hm : m ≤ 90000) {l : List Int} (hl : l.length = 16) (o : Op20) (hk : o.kind = 15) (i : Int) : DoOk 81 o anyD s l i := by
 obtain ⟨n, hn, c1⟩ := dlist_spec h (by omega) o.path
 unfold DoOk sdo
 rw [if_neg (show ¬ o.kind = 4 by omega), if_neg (show ¬ o.kind = 5 by omega), if_neg (show ¬ o.kind = 6 by omega), if_neg (show ¬ o.kind = 7 by omega), if_neg (show ¬ o.kind = 8 by omega), if_neg (show ¬ o.kind = 9 by omega), if_neg (show ¬ o.kind = 10 by omega), if_neg (show ¬ o.kind = 11 by omega), if_neg (show ¬ o.kind = 12 by omega), if_neg (show ¬ o.kind = 13 by omega), if_neg (show ¬ o.kind = 14 by omega), if_pos hk]
 generalize s.dlist o.path = r at c1 hn
 obtain ⟨⟨ns, e⟩, s2⟩ := r
 dsimp only at c1 hn ⊢
 obtain ⟨a0, a1, a2, a3, a4, a5, a6, a7, a8, a9, a10, a11, a12, a13, a14, a15, rfl⟩ := len16 hl
 refine ⟨.nils, .ps (ns.map .str), .nils, .ps _, ?_⟩
 refine con_of Tryz.func81 rfl (by kernel_rfl) rfl fun F w0 β0 => ?_
 refine K_tell rfl ?_
 refine go ?_
 refine J_drawH1 6 (dH s2 [a0, a1, a2, a3, a4, a5, a6, a7, a8, a9, a10, a11, a12, a13, a14, a15] i) (by kernel_rfl) (by kernel_rfl) ?_
 refine gdJ ?_
 refine T_stH rfl rfl rfl rfl rfl rfl (opr_callS [.o 1, .o 2] rfl rfl (c1) rfl rfl rfl ⟨⟨rfl, rfl⟩, ⟨rfl, rfl⟩, trivial⟩ rfl rfl rfl rfl) rfl ?_
 refine gdJ ?_
 refine J_le 5 (.ps (ns.map .str)) rfl hn ?_
 refine go ?_
 exact J_done hT rfl rfl rfl
set_option maxHeartbeats 8000000 in
theorem stat_d {s : VS} {m : Nat} (h : VJ s m) (hm : m ≤ 90000) {l : List Int} (hl : l.length = 16) (o : Op20) (hk : o.kind = 16) (i : Int) : DoOk 82 o anyD s l i := by
 have c1 := wlead_spec h (by omega) o.path
 unfold DoOk sdo
 rw [if_neg (show ¬ o.kind = 4 by omega), if_neg (show ¬ o.kind = 5 by omega), if_neg (show ¬ o.kind = 6 by omega), if_neg (show ¬ o.kind = 7 by omega), if_neg (show ¬ o.kind = 8 by omega), if_neg (show ¬ o.kind = 9 by omega), if_neg (show ¬ o.kind = 10 by omega), if_neg (show ¬ o.kind = 11 by omega), if_neg (show ¬ o.kind = 12 by omega), if_neg (show ¬ o.kind = 13 by omega), if_neg (show ¬ o.kind = 14 by omega), if_neg (show ¬ o.kind = 15 by omega), if_pos hk]
 generalize s.lead o.path = r at c1
 generalize s.rdp o.path = s2 at c1
 obtain ⟨⟨j, x⟩, e⟩ := r
 dsimp only at c1 ⊢
 obtain ⟨a0, a1, a2, a3, a4, a5, a6, a7, a8, a9, a10, a11, a12, a13, a14, a15, rfl⟩ := len16 hl
 refine ⟨.nils, .nils, .nils, .nils, ?_⟩
 refine con_of Tryz.func82 rfl (by kernel_rfl) rfl fun F w0 β0 => ?_
 refine K_tell rfl ?_
 refine go ?_
 refine J_drawFl2 11 6 13 (dH s2 [a0, a1, a2, a3, a4, a5, a6, a7, a8, a9, a10, a11, a12, a13, a14, a15] i) [opB o anyD, resB0, ndB (0, 0, 0, 0)] [opB o anyD, resB0, ndB x] (by kernel_rfl) (by kernel_rfl) rfl ?_
 refine gdG ?_
 refine G_stB rfl rfl rfl rfl rfl rfl rfl rfl rfl (opr_callS [.o 1, .o 2] rfl rfl c1 rfl rfl rfl ⟨⟨rfl, rfl⟩, ⟨rfl, rfl⟩, trivial⟩ rfl rfl rfl rfl) (opr_callS [.o 1, .o 2] rfl rfl c1 rfl rfl rfl ⟨⟨rfl, rfl⟩, ⟨rfl, rfl⟩, trivial⟩ rfl rfl rfl rfl) rfl ?_
 refine gdG ?_
 refine go ?_
 exact J_done hT rfl rfl rfl
theorem strange_d (s : VS) {l : List Int} (hl : l.length = 16) (o : Op20) (hk : o.kind < 4 ∨ 16 < o.kind) (i : Int) : DoOk 83 o anyD s l i := by
 have c1 := failed_spec 28
 unfold DoOk sdo
 rw [if_neg (show ¬ o.kind = 4 by omega), if_neg (show ¬ o.kind = 5 by omega), if_neg (show ¬ o.kind = 6 by omega), if_neg (show ¬ o.kind = 7 by omega), if_neg (show ¬ o.kind = 8 by omega), if_neg (show ¬ o.kind = 9 by omega), if_neg (show ¬ o.kind = 10 by omega), if_neg (show ¬ o.kind = 11 by omega), if_neg (show ¬ o.kind = 12 by omega), if_neg (show ¬ o.kind = 13 by omega), if_neg (show ¬ o.kind = 14 by omega), if_neg (show ¬ o.kind = 15 by omega), if_neg (show ¬ o.kind = 16 by omega)]
 obtain ⟨a0, a1, a2, a3, a4, a5, a6, a7, a8, a9, a10, a11, a12, a13, a14, a15, rfl⟩ := len16 hl
 refine ⟨.nils, .nils, .nils, .nils, ?_⟩
 refine con_of Tryz.func83 rfl (by kernel_rfl) rfl fun F w0 β0 => ?_
 refine K_tell rfl ?_
 refine go ?_
 refine K_op rfl rfl (opr_callP rfl rfl (c1) rfl rfl rfl rfl) rfl ?_
 refine go ?_
 exact J_done hT rfl rfl rfl
structure SV (s s' : VS) : Prop where
 w : s'.writes = s.writes
 sh : s'.shown = s.shown
theorem SV.refl (s : VS) : SV s s := ⟨rfl, rfl⟩
theorem SV.trans {a b c : VS} (h : SV a b) (k : SV b c) : SV a c := ⟨k.w.trans h.w, k.sh.trans h.sh⟩
theorem SV.rds (s : VS) (ks : List (List UInt8)) : SV s (s.rds ks) := ⟨rfl, rfl⟩
theorem SV.rdp (s : VS) (p : List UInt8) : SV s (s.rdp p) := ⟨rfl, rfl⟩
theorem SV.rd (s : VS) (k : List UInt8) : SV s (s.rd k) := ⟨rfl, rfl⟩
theorem SV.range (s : VS) (a b : List UInt8) : SV s (s.range a b) := by
 unfold VS.range
 split <;> exact ⟨rfl, rfl⟩
abbrev F01 (e : Int) : Prop := e = 21 ∨ e = 0
structure Rf (s : VS) (q q' : Int × VS) : Prop where
 n : F01 q.1 ∨ SV s q.2
 a : F01 q.1 ∨ q'.1 = q.1
theorem Rf.no {s : VS} {q q' : Int × VS} (h : F01 q.1) : Rf s q q' := ⟨.inl h, .inl h⟩
theorem Rf.up {s0 s : VS} {q q' : Int × VS} (h : SV s0 s) (k : Rf s q q') : Rf s0 q q' := ⟨k.n.imp_right h.trans, k.a⟩
theorem fread_len (s : VS) (i o n : Int) : (s.fread i o n).1.2 = 0 ∨ (s.fread i o n).1.1 = [] := by
 unfold VS.fread
 repeat' split
 all_goals first | exact .inl rfl | exact .inr rfl
theorem heldI_lt {l : List Int} {h : Int} (q : heldI l h ≠ 0) : 0 ≤ h ∧ h < 16 := by
 unfold heldI at q
 split at q
 ·exact absurd rfl q
 ·omega
theorem freeH_lt : ∀ (l : List Int) (i : Nat), freeH l i < 0 ∨ ((i : Int) ≤ freeH l i ∧ freeH l i < ((i + l.length : Nat) : Int))
 | [], i => .inl (by show (-1 : Int) < 0; decide)
 | x :: r, i => by
  rw [freeH_cons]
  split
  ·right; rw [List.length_cons]; omega
  ·rcases freeH_lt r (i + 1) with h | h
   ·exact .inl h
   ·right
    rw [List.length_cons]
    omega
set_option maxHeartbeats 16000000 in
theorem shut_d {s : VS} {m : Nat} (_ : VJ s m) (_ : m ≤ 90000) {l : List Int} (hl : l.length = 16) (hlu : ∀ x ∈ l, U32 x) (o : Op20) (hk : o.kind = 7) (i : Int) : DoOk 73 o anyD s l i := by
 have hu := heldI_u hlu o.h
 have c0 := held_spec s l hl i o.h
 have cf := failed_spec 16
 unfold DoOk sdo
 rw [if_neg (show ¬ o.kind = 4 by omega), if_neg (show ¬ o.kind = 5 by omega), if_neg (show ¬ o.kind = 6 by omega), if_pos hk]
 by_cases h0 : heldI l o.h = 0
 ·rw [if_pos h0]
  rw [h0] at c0
  obtain ⟨a0, a1, a2, a3, a4, a5, a6, a7, a8, a9, a10, a11, a12, a13, a14, a15, rfl⟩ := len16 hl
  refine ⟨.nils, .nils, .nils, .nils, ?_⟩
  refine con_of Tryz.func73 rfl (by kernel_rfl) rfl fun F w0 β0 => ?_
  refine K_tell rfl ?_
  refine go ?_
  refine K_op rfl rfl (opr_callS [.o 0, .o 1, .o 2] rfl rfl (c0) rfl rfl rfl ⟨⟨rfl, rfl⟩, ⟨rfl, rfl⟩, ⟨rfl, rfl⟩, trivial⟩ rfl rfl rfl rfl) rfl ?_
  refine go ?_
  refine K_op rfl rfl (opr_callP rfl rfl (cf) rfl rfl rfl rfl) rfl ?_
  refine go ?_
  exact J_done hT rfl rfl rfl
 rw [if_neg h0]
 obtain ⟨b0, b1⟩ := heldI_lt h0
 generalize heldI l o.h = z at c0 h0
 obtain ⟨a0, a1, a2, a3, a4, a5, a6, a7, a8, a9, a10, a11, a12, a13, a14, a15, rfl⟩ := len16 hl
 obtain ⟨k0, p0, t0, z0, f0, n0, d0⟩ := o
 dsimp only at b0 b1 c0 ⊢
 refine ⟨.nils, .nils, .nils, .nils, ?_⟩
 rcases cell16 b0 b1 with rfl | rfl | rfl | rfl | rfl | rfl | rfl | rfl | rfl | rfl | rfl | rfl | rfl | rfl | rfl | rfl
 ·skip
  refine con_of Tryz.func73 rfl (by kernel_rfl) rfl fun F w0 β0 => ?_
  refine K_tell rfl ?_
  refine go ?_
  refine K_op rfl rfl (opr_callS [.o 0, .o 1, .o 2] rfl rfl (c0) rfl rfl rfl ⟨⟨rfl, rfl⟩, ⟨rfl, rfl⟩, ⟨rfl, rfl⟩, trivial⟩ rfl rfl rfl rfl) rfl ?_
  refine go ?_
  refine K_condF rfl (by simp [h0]) ?_
  refine go ?_
  refine J_drawH1 6 (dH s [0, a1, a2, a3, a4, a5, a6, a7, a8, a9, a10, a11, a12, a13, a14, a15] i) (by kernel_rfl) (by kernel_rfl) ?_
  refine gdJ ?_
  refine go ?_
  exact J_done hT rfl rfl rfl
 ·skip
  refine con_of Tryz.func73 rfl (by kernel_rfl) rfl fun F w0 β0 => ?_
  refine K_tell rfl ?_
  refine go ?_
  refine K_op rfl rfl (opr_callS [.o 0, .o 1, .o 2] rfl rfl (c0) rfl rfl rfl ⟨⟨rfl, rfl⟩, ⟨rfl, rfl⟩, ⟨rfl, rfl⟩, trivial⟩ rfl rfl rfl rfl) rfl ?_
  refine go ?_
  refine K_condF rfl (by simp [h0]) ?_
  refine go ?_
  refine J_drawH1 6 (dH s [a0, 0, a2, a3, a4, a5, a6, a7, a8, a9, a10, a11, a12, a13, a14, a15] i) (by kernel_rfl) (by kernel_rfl) ?_
  refine gdJ ?_
  refine go ?_
  exact J_done hT rfl rfl rfl
 ·skip
  refine con_of Tryz.func73 rfl (by kernel_rfl) rfl fun F w0 β0 => ?_
  refine K_tell rfl ?_
  refine go ?_
  refine K_op rfl rfl (opr_callS [.o 0, .o 1, .o 2] rfl rfl (c0) rfl rfl rfl ⟨⟨rfl, rfl⟩, ⟨rfl, rfl⟩, ⟨rfl, rfl⟩, trivial⟩ rfl rfl rfl rfl) rfl ?_
  refine go ?_
  refine K_condF rfl (by simp [h0]) ?_
  refine go ?_
  refine J_drawH1 6 (dH s [a0, a1, 0, a3, a4, a5, a6, a7, a8, a9, a10, a11, a12, a13, a14, a15] i) (by kernel_rfl) (by kernel_rfl) ?_
  refine gdJ ?_
  refine go ?_
  exact J_done hT rfl rfl rfl
 ·skip
  refine con_of Tryz.func73 rfl (by kernel_rfl) rfl fun F w0 β0 => ?_
  refine K_tell rfl ?_
  refine go ?_
  refine K_op rfl rfl (opr_callS [.o 0, .o 1, .o 2] rfl rfl (c0) rfl rfl rfl ⟨⟨rfl, rfl⟩, ⟨rfl, rfl⟩, ⟨rfl, rfl⟩, trivial⟩ rfl rfl rfl rfl) rfl ?_
  refine go ?_
  refine K_condF rfl (by simp [h0]) ?_
  refine go ?_
  refine J_drawH1 6 (dH s [a0, a1, a2, 0, a4, a5, a6, a7, a8, a9, a10, a11, a12, a13, a14, a15] i) (by kernel_rfl) (by kernel_rfl) ?_
  refine gdJ ?_
  refine go ?_
  exact J_done hT rfl rfl rfl
 ·skip
  refine con_of Tryz.func73 rfl (by kernel_rfl) rfl fun F w0 β0 => ?_
  refine K_tell rfl ?_
  refine go ?_
  refine K_op rfl rfl (opr_callS [.o 0, .o 1, .o 2] rfl rfl (c0) rfl rfl rfl ⟨⟨rfl, rfl⟩, ⟨rfl, rfl⟩, ⟨rfl, rfl⟩, trivial⟩ rfl rfl rfl rfl) rfl ?_
  refine go ?_
  refine K_condF rfl (by simp [h0]) ?_
  refine go ?_
  refine J_drawH1 6 (dH s [a0, a1, a2, a3, 0, a5, a6, a7, a8, a9, a10, a11, a12, a13, a14, a15] i) (by kernel_rfl) (by kernel_rfl) ?_
  refine gdJ ?_
  refine go ?_
  exact J_done hT rfl rfl rfl
 ·skip
  refine con_of Tryz.func73 rfl (by kernel_rfl) rfl fun F w0 β0 => ?_
  refine K_tell rfl ?_
  refine go ?_
  refine K_op rfl rfl (opr_callS [.o 0, .o 1, .o 2] rfl rfl (c0) rfl rfl rfl ⟨⟨rfl, rfl⟩, ⟨rfl, rfl⟩, ⟨rfl, rfl⟩, trivial⟩ rfl rfl rfl rfl) rfl ?_
  refine go ?_
  refine K_condF rfl (by simp [h0]) ?_
  refine go ?_
  refine J_drawH1 6 (dH s [a0, a1, a2, a3, a4, 0, a6, a7, a8, a9, a10, a11, a12, a13, a14, a15] i) (by kernel_rfl) (by kernel_rfl) ?_
  refine gdJ ?_
  refine go ?_
  exact J_done hT rfl rfl rfl
 ·skip
  refine con_of Tryz.func73 rfl (by kernel_rfl) rfl fun F w0 β0 => ?_
  refine K_tell rfl ?_
  refine go ?_
  refine K_op rfl rfl (opr_callS [.o 0, .o 1, .o 2] rfl rfl (c0) rfl rfl rfl ⟨⟨rfl, rfl⟩, ⟨rfl, rfl⟩, ⟨rfl, rfl⟩, trivial⟩ rfl rfl rfl rfl) rfl ?_
  refine go ?_
  refine K_condF rfl (by simp [h0]) ?_
  refine go ?_
  refine J_drawH1 6 (dH s [a0, a1, a2, a3, a4, a5, 0, a7, a8, a9, a10, a11, a12, a13, a14, a15] i) (by kernel_rfl) (by kernel_rfl) ?_
  refine gdJ ?_
  refine go ?_
  exact J_done hT rfl rfl rfl
 ·skip
  refine con_of Tryz.func73 rfl (by kernel_rfl) rfl fun F w0 β0 => ?_
  refine K_tell rfl ?_
  refine go ?_
  refine K_op rfl rfl (opr_callS [.o 0, .o 1, .o 2] rfl rfl (c0) rfl rfl rfl ⟨⟨rfl, rfl⟩, ⟨rfl, rfl⟩, ⟨rfl, rfl⟩, trivial⟩ rfl rfl rfl rfl) rfl ?_
  refine go ?_
  refine K_condF rfl (by simp [h0]) ?_
  refine go ?_
  refine J_drawH1 6 (dH s [a0, a1, a2, a3, a4, a5, a6, 0, a8, a9, a10, a11, a12, a13, a14, a15] i) (by kernel_rfl) (by kernel_rfl) ?_
  refine gdJ ?_
  refine go ?_
  exact J_done hT rfl rfl rfl
 ·skip
  refine con_of Tryz.func73 rfl (by kernel_rfl) rfl fun F w0 β0 => ?_
  refine K_tell rfl ?_
  refine go ?_
  refine K_op rfl rfl (opr_callS [.o 0, .o 1, .o 2] rfl rfl (c0) rfl rfl rfl ⟨⟨rfl, rfl⟩, ⟨rfl, rfl⟩, ⟨rfl, rfl⟩, trivial⟩ rfl rfl rfl rfl) rfl ?_
  refine go ?_
  refine K_condF rfl (by simp [h0]) ?_
  refine go ?_
  refine J_drawH1 6 (dH s [a0, a1, a2, a3, a4, a5, a6, a7, 0, a9, a10, a11, a12, a13, a14, a15] i) (by kernel_rfl) (by kernel_rfl) ?_
  refine gdJ ?_
  refine go ?_
  exact J_done hT rfl rfl rfl
 ·skip
  refine con_of Tryz.func73 rfl (by kernel_rfl) rfl fun F w0 β0 => ?_
  refine K_tell rfl ?_
  refine go ?_
  refine K_op rfl rfl (opr_callS [.o 0, .o 1, .o 2] rfl rfl (c0) rfl rfl rfl ⟨⟨rfl, rfl⟩, ⟨rfl, rfl⟩, ⟨rfl, rfl⟩, trivial⟩ rfl rfl rfl rfl) rfl ?_
  refine go ?_
  refine K_condF rfl (by simp [h0]) ?_
  refine go ?_
  refine J_drawH1 6 (dH s [a0, a1, a2, a3, a4, a5, a6, a7, a8, 0, a10, a11, a12, a13, a14, a15] i) (by kernel_rfl) (by kernel_rfl) ?_
  refine gdJ ?_
  refine go ?_
  exact J_done hT rfl rfl rfl
 ·skip
  refine con_of Tryz.func73 rfl (by kernel_rfl) rfl fun F w0 β0 => ?_
  refine K_tell rfl ?_
  refine go ?_
  refine K_op rfl rfl (opr_callS [.o 0, .o 1, .o 2] rfl rfl (c0) rfl rfl rfl ⟨⟨rfl, rfl⟩, ⟨rfl, rfl⟩, ⟨rfl, rfl⟩, trivial⟩ rfl rfl rfl rfl) rfl ?_
  refine go ?_
  refine K_condF rfl (by simp [h0]) ?_
  refine go ?_
  refine J_drawH1 6 (dH s [a0, a1, a2, a3, a4, a5, a6, a7, a8, a9, 0, a11, a12, a13, a14, a15] i) (by kernel_rfl) (by kernel_rfl) ?_
  refine gdJ ?_
  refine go ?_
  exact J_done hT rfl rfl rfl
 ·skip
  refine con_of Tryz.func73 rfl (by kernel_rfl) rfl fun F w0 β0 => ?_
  refine K_tell rfl ?_
  refine go ?_
  refine K_op rfl rfl (opr_callS [.o 0, .o 1, .o 2] rfl rfl (c0) rfl rfl rfl ⟨⟨rfl, rfl⟩, ⟨rfl, rfl⟩, ⟨rfl, rfl⟩, trivial⟩ rfl rfl rfl rfl) rfl ?_
  refine go ?_
  refine K_condF rfl (by simp [h0]) ?_
  refine go ?_
  refine J_drawH1 6 (dH s [a0, a1, a2, a3, a4, a5, a6, a7, a8, a9, a10, 0, a12, a13, a14, a15] i) (by kernel_rfl) (by kernel_rfl) ?_
  refine gdJ ?_
  refine go ?_
  exact J_done hT rfl rfl rfl
 ·skip
  refine con_of Tryz.func73 rfl (by kernel_rfl) rfl fun F w0 β0 => ?_
  refine K_tell rfl ?_
  refine go ?_
  refine K_op rfl rfl (opr_callS [.o 0, .o 1, .o 2] rfl rfl (c0) rfl rfl rfl ⟨⟨rfl, rfl⟩, ⟨rfl, rfl⟩, ⟨rfl, rfl⟩, trivial⟩ rfl rfl rfl rfl) rfl ?_
  refine go ?_
  refine K_condF rfl (by simp [h0]) ?_
  refine go ?_
  refine J_drawH1 6 (dH s [a0, a1, a2, a3, a4, a5, a6, a7, a8, a9, a10, a11, 0, a13, a14, a15] i) (by kernel_rfl) (by kernel_rfl) ?_
  refine gdJ ?_
  refine go ?_
  exact J_done hT rfl rfl rfl
 ·skip
  refine con_of Tryz.func73 rfl (by kernel_rfl) rfl fun F w0 β0 => ?_
  refine K_tell rfl ?_
  refine go ?_
  refine K_op rfl rfl (opr_callS [.o 0, .o 1, .o 2] rfl rfl (c0) rfl rfl rfl ⟨⟨rfl, rfl⟩, ⟨rfl, rfl⟩, ⟨rfl, rfl⟩, trivial⟩ rfl rfl rfl rfl) rfl ?_
  refine go ?_
  refine K_condF rfl (by simp [h0]) ?_
  refine go ?_
  refine J_drawH1 6 (dH s [a0, a1, a2, a3, a4, a5, a6, a7, a8, a9, a10, a11, a12, 0, a14, a15] i) (by kernel_rfl) (by kernel_rfl) ?_
  refine gdJ ?_
  refine go ?_
  exact J_done hT rfl rfl rfl
 ·skip
  refine con_of Tryz.func73 rfl (by kernel_rfl) rfl fun F w0 β0 => ?_
  refine K_tell rfl ?_
  refine go ?_
  refine K_op rfl rfl (opr_callS [.o 0, .o 1, .o 2] rfl rfl (c0) rfl rfl rfl ⟨⟨rfl, rfl⟩, ⟨rfl, rfl⟩, ⟨rfl, rfl⟩, trivial⟩ rfl rfl rfl rfl) rfl ?_
  refine go ?_
  refine K_condF rfl (by simp [h0]) ?_
  refine go ?_
  refine J_drawH1 6 (dH s [a0, a1, a2, a3, a4, a5, a6, a7, a8, a9, a10, a11, a12, a13, 0, a15] i) (by kernel_rfl) (by kernel_rfl) ?_
  refine gdJ ?_
  refine go ?_
  exact J_done hT rfl rfl rfl
 ·skip
  refine con_of Tryz.func73 rfl (by kernel_rfl) rfl fun F w0 β0 => ?_
  refine K_tell rfl ?_
  refine go ?_
  refine K_op rfl rfl (opr_callS [.o 0, .o 1, .o 2] rfl rfl (c0) rfl rfl rfl ⟨⟨rfl, rfl⟩, ⟨rfl, rfl⟩, ⟨rfl, rfl⟩, trivial⟩ rfl rfl rfl rfl) rfl ?_
  refine go ?_
  refine K_condF rfl (by simp [h0]) ?_
  refine go ?_
  refine J_drawH1 6 (dH s [a0, a1, a2, a3, a4, a5, a6, a7, a8, a9, a10, a11, a12, a13, a14, 0] i) (by kernel_rfl) (by kernel_rfl) ?_
  refine gdJ ?_
  refine go ?_
  exact J_done hT rfl rfl rfl
set_option maxHeartbeats 16000000 in
theorem read_d {s : VS} {m : Nat} (h : VJ s m) (hm : m ≤ 90000) {l : List Int} (hl : l.length = 16) (hlu : ∀ x ∈ l, U32 x) (o : Op20) (hk : o.kind = 8) (i : Int) (hf : -9223372036854775808 ≤ o.from_ ∧ o.from_ ≤ 9223372036854775807) (hn : -9223372036854775808 ≤ o.n ∧ o.n ≤ 9223372036854775807) : DoOk 74 o anyD s l i := by
 have hu := heldI_u hlu o.h
 have c0 := held_spec s l hl i o.h
 have cf := failed_spec 16
 unfold DoOk sdo
 rw [if_neg (show ¬ o.kind = 4 by omega), if_neg (show ¬ o.kind = 5 by omega), if_neg (show ¬ o.kind = 6 by omega), if_neg (show ¬ o.kind = 7 by omega), if_pos hk]
 by_cases h0 : heldI l o.h = 0
 ·rw [if_pos h0]
  rw [h0] at c0
  obtain ⟨a0, a1, a2, a3, a4, a5, a6, a7, a8, a9, a10, a11, a12, a13, a14, a15, rfl⟩ := len16 hl
  refine ⟨.nils, .nils, .nils, .nils, ?_⟩
  refine con_of Tryz.func74 rfl (by kernel_rfl) rfl fun F w0 β0 => ?_
  refine K_tell rfl ?_
  refine go ?_
  refine K_op rfl rfl (opr_callS [.o 0, .o 1, .o 2] rfl rfl (c0) rfl rfl rfl ⟨⟨rfl, rfl⟩, ⟨rfl, rfl⟩, ⟨rfl, rfl⟩, trivial⟩ rfl rfl rfl rfl) rfl ?_
  refine go ?_
  refine K_op rfl rfl (opr_callP rfl rfl (cf) rfl rfl rfl rfl) rfl ?_
  refine go ?_
  exact J_done hT rfl rfl rfl
 rw [if_neg h0]
 have c1 := fread_spec h (by omega) (heldI l o.h) hu o.from_ o.n hf hn
 have hfl := fread_len s (heldI l o.h) o.from_ o.n
 generalize s.fread (heldI l o.h) o.from_ o.n = r at c1 hfl
 generalize heldI l o.h = z at c0 h0 c1
 obtain ⟨⟨b, e⟩, s2⟩ := r
 dsimp only at c1 hfl ⊢
 obtain ⟨a0, a1, a2, a3, a4, a5, a6, a7, a8, a9, a10, a11, a12, a13, a14, a15, rfl⟩ := len16 hl
 unfold bytA at c1
 dsimp only at c1
 by_cases he : e = 0
 ·rw [if_pos he] at c1
  refine ⟨.ps (bv b), .nils, .ps b, .nils, ?_⟩
  refine con_of Tryz.func74 rfl (by kernel_rfl) rfl fun F w0 β0 => ?_
  refine K_tell rfl ?_
  refine go ?_
  refine K_op rfl rfl (opr_callS [.o 0, .o 1, .o 2] rfl rfl (c0) rfl rfl rfl ⟨⟨rfl, rfl⟩, ⟨rfl, rfl⟩, ⟨rfl, rfl⟩, trivial⟩ rfl rfl rfl rfl) rfl ?_
  refine go ?_
  refine K_condF rfl (by simp [h0]) ?_
  refine go ?_
  refine J_drawH1 9 (dH s2 [a0, a1, a2, a3, a4, a5, a6, a7, a8, a9, a10, a11, a12, a13, a14, a15] i) (by kernel_rfl) (by kernel_rfl) ?_
  refine gdJ ?_
  refine T_stH rfl rfl rfl rfl rfl rfl (opr_callS [.o 1, .o 2] rfl rfl (c1) rfl rfl rfl ⟨⟨rfl, rfl⟩, ⟨rfl, rfl⟩, trivial⟩ rfl rfl rfl rfl) rfl ?_
  refine gdJ ?_
  refine go ?_
  rw [bv_length]
  exact J_done hT rfl rfl rfl
 ·rw [if_neg he] at c1
  obtain rfl : b = [] := hfl.resolve_left he
  refine ⟨.nils, .nils, .nils, .nils, ?_⟩
  refine con_of Tryz.func74 rfl (by kernel_rfl) rfl fun F w0 β0 => ?_
  refine K_tell rfl ?_
  refine go ?_
  refine K_op rfl rfl (opr_callS [.o 0, .o 1, .o 2] rfl rfl (c0) rfl rfl rfl ⟨⟨rfl, rfl⟩, ⟨rfl, rfl⟩, ⟨rfl, rfl⟩, trivial⟩ rfl rfl rfl rfl) rfl ?_
  refine go ?_
  refine K_condF rfl (by simp [h0]) ?_
  refine go ?_
  refine J_drawH1 9 (dH s2 [a0, a1, a2, a3, a4, a5, a6, a7, a8, a9, a10, a11, a12, a13, a14, a15] i) (by kernel_rfl) (by kernel_rfl) ?_
  refine gdJ ?_
  refine T_stH rfl rfl rfl rfl rfl rfl (opr_callS [.o 1, .o 2] rfl rfl (c1) rfl rfl rfl ⟨⟨rfl, rfl⟩, ⟨rfl, rfl⟩, trivial⟩ rfl rfl rfl rfl) rfl ?_
  refine gdJ ?_
  refine go ?_
  exact J_done hT rfl rfl rfl
set_option maxHeartbeats 16000000 in
theorem write_d {s : VS} {m : Nat} (h : VJ s m) (hm : m ≤ 90000) {l : List Int} (hl : l.length = 16) (hlu : ∀ x ∈ l, U32 x) (o : Op20) (hk : o.kind = 9) (i : Int) (hf : -9223372036854775808 ≤ o.from_ ∧ o.from_ ≤ 9223372036854775807) (hb : o.b.length ≤ 140737488355328) : DoOk 75 o (.p (.ps (bv o.b))) s l i := by
 have hu := heldI_u hlu o.h
 have c0 := held_spec s l hl i o.h
 have cf := failed_spec 16
 unfold DoOk sdo
 rw [if_neg (show ¬ o.kind = 4 by omega), if_neg (show ¬ o.kind = 5 by omega), if_neg (show ¬ o.kind = 6 by omega), if_neg (show ¬ o.kind = 7 by omega), if_neg (show ¬ o.kind = 8 by omega), if_pos hk]
 by_cases h0 : heldI l o.h = 0
 ·rw [if_pos h0]
  rw [h0] at c0
  obtain ⟨a0, a1, a2, a3, a4, a5, a6, a7, a8, a9, a10, a11, a12, a13, a14, a15, rfl⟩ := len16 hl
  refine ⟨.nils, .nils, .nils, .nils, ?_⟩
  refine con_of Tryz.func75 rfl (by kernel_rfl) rfl fun F w0 β0 => ?_
  refine K_tell rfl ?_
  refine go ?_
  refine K_op rfl rfl (opr_callS [.o 0, .o 1, .o 2] rfl rfl (c0) rfl rfl rfl ⟨⟨rfl, rfl⟩, ⟨rfl, rfl⟩, ⟨rfl, rfl⟩, trivial⟩ rfl rfl rfl rfl) rfl ?_
  refine go ?_
  refine K_op rfl rfl (opr_callP rfl rfl (cf) rfl rfl rfl rfl) rfl ?_
  refine go ?_
  exact J_done hT rfl rfl rfl
 rw [if_neg h0]
 have c1 := fwrite_ps h (by omega) (heldI l o.h) hu o.from_ hf o.b hb
 generalize s.fwrite (heldI l o.h) o.from_ o.b = r at c1
 generalize heldI l o.h = z at c0 h0 c1
 obtain ⟨e, s2⟩ := r
 dsimp only at c1 ⊢
 have c2 := failed_spec e
 have hbl := bv_length o.b
 obtain ⟨a0, a1, a2, a3, a4, a5, a6, a7, a8, a9, a10, a11, a12, a13, a14, a15, rfl⟩ := len16 hl
 refine ⟨.nils, .nils, (by split <;> exact .nils), (by split <;> exact .nils), ?_⟩
 by_cases he : e ≠ 0
 ·rw [if_pos he]
  refine con_of Tryz.func75 rfl (by kernel_rfl) rfl fun F w0 β0 => ?_
  refine K_tell rfl ?_
  refine go ?_
  refine K_op rfl rfl (opr_callS [.o 0, .o 1, .o 2] rfl rfl (c0) rfl rfl rfl ⟨⟨rfl, rfl⟩, ⟨rfl, rfl⟩, ⟨rfl, rfl⟩, trivial⟩ rfl rfl rfl rfl) rfl ?_
  refine go ?_
  refine K_condF rfl (by simp [h0]) ?_
  refine go ?_
  refine J_drawH1 9 (dH s2 [a0, a1, a2, a3, a4, a5, a6, a7, a8, a9, a10, a11, a12, a13, a14, a15] i) (by kernel_rfl) (by kernel_rfl) ?_
  refine gdJ ?_
  refine T_stH rfl rfl rfl rfl rfl rfl (opr_callS [.o 1, .o 2] rfl rfl (c1) rfl rfl rfl ⟨⟨rfl, rfl⟩, ⟨rfl, rfl⟩, trivial⟩ rfl rfl rfl rfl) rfl ?_
  refine gdJ ?_
  refine go ?_
  refine K_condT rfl (by simp [he]) ?_
  refine go ?_
  refine K_op rfl rfl (opr_callP rfl rfl (c2) rfl rfl rfl rfl) rfl ?_
  refine go ?_
  exact J_done hT rfl rfl rfl
 ·rw [if_neg he]
  obtain rfl : e = 0 := by simpa using he
  refine con_of Tryz.func75 rfl (by kernel_rfl) rfl fun F w0 β0 => ?_
  refine K_tell rfl ?_
  refine go ?_
  refine K_op rfl rfl (opr_callS [.o 0, .o 1, .o 2] rfl rfl (c0) rfl rfl rfl ⟨⟨rfl, rfl⟩, ⟨rfl, rfl⟩, ⟨rfl, rfl⟩, trivial⟩ rfl rfl rfl rfl) rfl ?_
  refine go ?_
  refine K_condF rfl (by simp [h0]) ?_
  refine go ?_
  refine J_drawH1 9 (dH s2 [a0, a1, a2, a3, a4, a5, a6, a7, a8, a9, a10, a11, a12, a13, a14, a15] i) (by kernel_rfl) (by kernel_rfl) ?_
  refine gdJ ?_
  refine T_stH rfl rfl rfl rfl rfl rfl (opr_callS [.o 1, .o 2] rfl rfl (c1) rfl rfl rfl ⟨⟨rfl, rfl⟩, ⟨rfl, rfl⟩, trivial⟩ rfl rfl rfl rfl) rfl ?_
  refine gdJ ?_
  refine go ?_
  rw [hbl]
  exact J_done hT rfl rfl rfl
set_option maxHeartbeats 16000000 in
theorem trunc_d {s : VS} {m : Nat} (h : VJ s m) (hm : m ≤ 90000) {l : List Int} (hl : l.length = 16) (hlu : ∀ x ∈ l, U32 x) (o : Op20) (hk : o.kind = 10) (i : Int) (hn : -9223372036854775808 ≤ o.n ∧ o.n ≤ 9223372036854775807) : DoOk 76 o anyD s l i := by
 have hu := heldI_u hlu o.h
 have c0 := held_spec s l hl i o.h
 have cf := failed_spec 16
 unfold DoOk sdo
 rw [if_neg (show ¬ o.kind = 4 by omega), if_neg (show ¬ o.kind = 5 by omega), if_neg (show ¬ o.kind = 6 by omega), if_neg (show ¬ o.kind = 7 by omega), if_neg (show ¬ o.kind = 8 by omega), if_neg (show ¬ o.kind = 9 by omega), if_pos hk]
 by_cases h0 : heldI l o.h = 0
 ·rw [if_pos h0]
  rw [h0] at c0
  obtain ⟨a0, a1, a2, a3, a4, a5, a6, a7, a8, a9, a10, a11, a12, a13, a14, a15, rfl⟩ := len16 hl
  refine ⟨.nils, .nils, .nils, .nils, ?_⟩
  refine con_of Tryz.func76 rfl (by kernel_rfl) rfl fun F w0 β0 => ?_
  refine K_tell rfl ?_
  refine go ?_
  refine K_op rfl rfl (opr_callS [.o 0, .o 1, .o 2] rfl rfl (c0) rfl rfl rfl ⟨⟨rfl, rfl⟩, ⟨rfl, rfl⟩, ⟨rfl, rfl⟩, trivial⟩ rfl rfl rfl rfl) rfl ?_
  refine go ?_
  refine K_op rfl rfl (opr_callP rfl rfl (cf) rfl rfl rfl rfl) rfl ?_
  refine go ?_
  exact J_done hT rfl rfl rfl
 rw [if_neg h0]
 have c1 := ftrunc_spec h (by omega) (heldI l o.h) hu o.n hn
 generalize s.ftrunc (heldI l o.h) o.n = r at c1
 generalize heldI l o.h = z at c0 h0 c1
 obtain ⟨e, s2⟩ := r
 dsimp only at c1 ⊢
 have c2 := failed_spec e
 obtain ⟨a0, a1, a2, a3, a4, a5, a6, a7, a8, a9, a10, a11, a12, a13, a14, a15, rfl⟩ := len16 hl
 refine ⟨.nils, .nils, .nils, .nils, ?_⟩
 refine con_of Tryz.func76 rfl (by kernel_rfl) rfl fun F w0 β0 => ?_
 refine K_tell rfl ?_
 refine go ?_
 refine K_op rfl rfl (opr_callS [.o 0, .o 1, .o 2] rfl rfl (c0) rfl rfl rfl ⟨⟨rfl, rfl⟩, ⟨rfl, rfl⟩, ⟨rfl, rfl⟩, trivial⟩ rfl rfl rfl rfl) rfl ?_
 refine go ?_
 refine K_condF rfl (by simp [h0]) ?_
 refine go ?_
 refine J_drawH2 7 9 (dH s2 [a0, a1, a2, a3, a4, a5, a6, a7, a8, a9, a10, a11, a12, a13, a14, a15] i) (by kernel_rfl) (by kernel_rfl) ?_
 apply Exists.intro
 refine gdH ?_
 refine T_stH rfl rfl rfl rfl rfl rfl (opr_callS [.o 1, .o 2] rfl rfl (c1) rfl rfl rfl ⟨⟨rfl, rfl⟩, ⟨rfl, rfl⟩, trivial⟩ rfl rfl rfl rfl) rfl ?_
 refine gdH ?_
 refine T_opH rfl rfl rfl rfl rfl rfl (opr_call0P rfl rfl c2 rfl rfl rfl) rfl ?_
 refine gdH ?_
 refine go ?_
 exact J_done hT rfl rfl rfl
end Go.Proofs.YtdkegmmigongoaaGreatDoor

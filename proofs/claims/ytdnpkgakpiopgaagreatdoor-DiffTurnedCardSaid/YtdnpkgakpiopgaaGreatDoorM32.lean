import Derived.Test.YtdnpkgakpiopgaaGreatDoorGo
import Derived.Test.YtdnpkgakpiopgaaGreatDoorM31
import Derived.Test.YtdnpkgakpiopgaaGreatDoorM12
import Derived.Test.YtdnpkgakpiopgaaGreatDoorM11
import Derived.Test.YtdnpkgakpiopgaaGreatDoorM28
import Derived.Test.YtdnpkgakpiopgaaGreatDoorM24
namespace Go.Proofs.YtdnpkgakpiopgaaGreatDoor
set_option maxRecDepth 20000
open Go.Awp Tr
set_option maxHeartbeats 8000000 in
theorem create_d {s : VS} {m : Nat} (h : VJ s m) (hm : m ≤ 90000) {l : List Int} (hl : l.length = 16) (o : Op20) (hk : o.kind = 4) {i : Int} (hi : U32 i) : DoOk 71 o anyD s l i := by
 have c1 := zLp h (by omega) o.path 1 i hi
 unfold DoOk sdo
 rw [if_pos hk]
 generalize s.make o.path 1 i = r at c1
 obtain ⟨e, s2⟩ := r
 dsimp only at c1 ⊢
 have c2 := z6 e
 obtain ⟨a0, a1, a2, a3, a4, a5, a6, a7, a8, a9, a10, a11, a12, a13, a14, a15, rfl⟩ := len16 hl
 refine ⟨.nils, .nils, .nils, .nils, ?_⟩
 refine zD Tryz.func71 rfl (by kernel_rfl) rfl fun F w0 β0 => ?_
 refine zE rfl ?_
 refine go ?_
 refine j1 10 12 (dH s2 [a0, a1, a2, a3, a4, a5, a6, a7, a8, a9, a10, a11, a12, a13, a14, a15] i) (by kernel_rfl) (by kernel_rfl) ?_
 apply Exists.intro
 refine gdH ?_
 refine yI rfl rfl rfl rfl rfl rfl (zA [.o 1, .o 2] rfl rfl (c1) rfl rfl rfl ⟨⟨rfl, rfl⟩, ⟨rfl, rfl⟩, trivial⟩ rfl rfl rfl rfl) rfl ?_
 refine gdH ?_
 refine yJ rfl rfl rfl rfl rfl rfl (zM rfl rfl c2 rfl rfl rfl) rfl ?_
 refine gdH ?_
 refine go ?_
 exact zC hT rfl rfl rfl
set_option maxHeartbeats 8000000 in
theorem mkdir_d {s : VS} {m : Nat} (h : VJ s m) (hm : m ≤ 90000) {l : List Int} (hl : l.length = 16) (o : Op20) (hk : o.kind = 5) {i : Int} (hi : U32 i) : DoOk 72 o anyD s l i := by
 have c1 := zLp h (by omega) o.path 2 i hi
 unfold DoOk sdo
 rw [if_neg (show ¬ o.kind = 4 by omega)]
 rw [if_pos hk]
 generalize s.make o.path 2 i = r at c1
 obtain ⟨e, s2⟩ := r
 dsimp only at c1 ⊢
 have c2 := z6 e
 obtain ⟨a0, a1, a2, a3, a4, a5, a6, a7, a8, a9, a10, a11, a12, a13, a14, a15, rfl⟩ := len16 hl
 refine ⟨.nils, .nils, .nils, .nils, ?_⟩
 refine zD Tryz.func72 rfl (by kernel_rfl) rfl fun F w0 β0 => ?_
 refine zE rfl ?_
 refine go ?_
 refine j1 10 12 (dH s2 [a0, a1, a2, a3, a4, a5, a6, a7, a8, a9, a10, a11, a12, a13, a14, a15] i) (by kernel_rfl) (by kernel_rfl) ?_
 apply Exists.intro
 refine gdH ?_
 refine yI rfl rfl rfl rfl rfl rfl (zA [.o 1, .o 2] rfl rfl (c1) rfl rfl rfl ⟨⟨rfl, rfl⟩, ⟨rfl, rfl⟩, trivial⟩ rfl rfl rfl rfl) rfl ?_
 refine gdH ?_
 refine yJ rfl rfl rfl rfl rfl rfl (zM rfl rfl c2 rfl rfl rfl) rfl ?_
 refine gdH ?_
 refine go ?_
 exact zC hT rfl rfl rfl
set_option maxHeartbeats 8000000 in
theorem rename_d {s : VS} {m : Nat} (h : VJ s m) (hm : m ≤ 90000) {l : List Int} (hl : l.length = 16) (o : Op20) (hk : o.kind = 11) {i : Int} (_ : U32 i) : DoOk 78 o anyD s l i := by
 have c1 := zOb h (by omega) o.path o.other
 unfold DoOk sdo
 rw [if_neg (show ¬ o.kind = 4 by omega)]
 rw [if_neg (show ¬ o.kind = 5 by omega)]
 rw [if_neg (show ¬ o.kind = 6 by omega)]
 rw [if_neg (show ¬ o.kind = 7 by omega)]
 rw [if_neg (show ¬ o.kind = 8 by omega)]
 rw [if_neg (show ¬ o.kind = 9 by omega)]
 rw [if_neg (show ¬ o.kind = 10 by omega)]
 rw [if_pos hk]
 generalize s.rename o.path o.other = r at c1
 obtain ⟨e, s2⟩ := r
 dsimp only at c1 ⊢
 have c2 := z6 e
 obtain ⟨a0, a1, a2, a3, a4, a5, a6, a7, a8, a9, a10, a11, a12, a13, a14, a15, rfl⟩ := len16 hl
 refine ⟨.nils, .nils, .nils, .nils, ?_⟩
 refine zD Tryz.func78 rfl (by kernel_rfl) rfl fun F w0 β0 => ?_
 refine zE rfl ?_
 refine go ?_
 refine j1 8 10 (dH s2 [a0, a1, a2, a3, a4, a5, a6, a7, a8, a9, a10, a11, a12, a13, a14, a15] i) (by kernel_rfl) (by kernel_rfl) ?_
 apply Exists.intro
 refine gdH ?_
 refine yI rfl rfl rfl rfl rfl rfl (zA [.o 1, .o 2] rfl rfl (c1) rfl rfl rfl ⟨⟨rfl, rfl⟩, ⟨rfl, rfl⟩, trivial⟩ rfl rfl rfl rfl) rfl ?_
 refine gdH ?_
 refine yJ rfl rfl rfl rfl rfl rfl (zM rfl rfl c2 rfl rfl rfl) rfl ?_
 refine gdH ?_
 refine go ?_
 exact zC hT rfl rfl rfl
set_option maxHeartbeats 8000000 in
theorem link_d {s : VS} {m : Nat} (h : VJ s m) (hm : m ≤ 90000) {l : List Int} (hl : l.length = 16) (o : Op20) (hk : o.kind = 12) {i : Int} (_ : U32 i) : DoOk 79 o anyD s l i := by
 have c1 := zS5 h (by omega) o.path o.other
 unfold DoOk sdo
 rw [if_neg (show ¬ o.kind = 4 by omega)]
 rw [if_neg (show ¬ o.kind = 5 by omega)]
 rw [if_neg (show ¬ o.kind = 6 by omega)]
 rw [if_neg (show ¬ o.kind = 7 by omega)]
 rw [if_neg (show ¬ o.kind = 8 by omega)]
 rw [if_neg (show ¬ o.kind = 9 by omega)]
 rw [if_neg (show ¬ o.kind = 10 by omega)]
 rw [if_neg (show ¬ o.kind = 11 by omega)]
 rw [if_pos hk]
 generalize s.link o.path o.other = r at c1
 obtain ⟨e, s2⟩ := r
 dsimp only at c1 ⊢
 have c2 := z6 e
 obtain ⟨a0, a1, a2, a3, a4, a5, a6, a7, a8, a9, a10, a11, a12, a13, a14, a15, rfl⟩ := len16 hl
 refine ⟨.nils, .nils, .nils, .nils, ?_⟩
 refine zD Tryz.func79 rfl (by kernel_rfl) rfl fun F w0 β0 => ?_
 refine zE rfl ?_
 refine go ?_
 refine j1 8 10 (dH s2 [a0, a1, a2, a3, a4, a5, a6, a7, a8, a9, a10, a11, a12, a13, a14, a15] i) (by kernel_rfl) (by kernel_rfl) ?_
 apply Exists.intro
 refine gdH ?_
 refine yI rfl rfl rfl rfl rfl rfl (zA [.o 1, .o 2] rfl rfl (c1) rfl rfl rfl ⟨⟨rfl, rfl⟩, ⟨rfl, rfl⟩, trivial⟩ rfl rfl rfl rfl) rfl ?_
 refine gdH ?_
 refine yJ rfl rfl rfl rfl rfl rfl (zM rfl rfl c2 rfl rfl rfl) rfl ?_
 refine gdH ?_
 refine go ?_
 exact zC hT rfl rfl rfl
set_option maxHeartbeats 8000000 in
theorem unlink_d {s : VS} {m : Nat} (h : VJ s m) (hm : m ≤ 90000) {l : List Int} (hl : l.length = 16) (o : Op20) (hk : o.kind = 13) {i : Int} (_ : U32 i) : DoOk 80 o anyD s l i := by
 have c1 := zMw h (by omega) o.path
 unfold DoOk sdo
 rw [if_neg (show ¬ o.kind = 4 by omega)]
 rw [if_neg (show ¬ o.kind = 5 by omega)]
 rw [if_neg (show ¬ o.kind = 6 by omega)]
 rw [if_neg (show ¬ o.kind = 7 by omega)]
 rw [if_neg (show ¬ o.kind = 8 by omega)]
 rw [if_neg (show ¬ o.kind = 9 by omega)]
 rw [if_neg (show ¬ o.kind = 10 by omega)]
 rw [if_neg (show ¬ o.kind = 11 by omega)]
 rw [if_neg (show ¬ o.kind = 12 by omega)]
 rw [if_pos hk]
 generalize s.unlink o.path = r at c1
 obtain ⟨e, s2⟩ := r
 dsimp only at c1 ⊢
 have c2 := z6 e
 obtain ⟨a0, a1, a2, a3, a4, a5, a6, a7, a8, a9, a10, a11, a12, a13, a14, a15, rfl⟩ := len16 hl
 refine ⟨.nils, .nils, .nils, .nils, ?_⟩
 refine zD Tryz.func80 rfl (by kernel_rfl) rfl fun F w0 β0 => ?_
 refine zE rfl ?_
 refine go ?_
 refine j1 6 8 (dH s2 [a0, a1, a2, a3, a4, a5, a6, a7, a8, a9, a10, a11, a12, a13, a14, a15] i) (by kernel_rfl) (by kernel_rfl) ?_
 apply Exists.intro
 refine gdH ?_
 refine yI rfl rfl rfl rfl rfl rfl (zA [.o 1, .o 2] rfl rfl (c1) rfl rfl rfl ⟨⟨rfl, rfl⟩, ⟨rfl, rfl⟩, trivial⟩ rfl rfl rfl rfl) rfl ?_
 refine gdH ?_
 refine yJ rfl rfl rfl rfl rfl rfl (zM rfl rfl c2 rfl rfl rfl) rfl ?_
 refine gdH ?_
 refine go ?_
 exact zC hT rfl rfl rfl
set_option maxHeartbeats 8000000 in
theorem rmdir_d {s : VS} {m : Nat} (h : VJ s m) (hm : m ≤ 90000) {l : List Int} (hl : l.length = 16) (o : Op20) (hk : o.kind = 14) {i : Int} (_ : U32 i) : DoOk 81 o anyD s l i := by
 have c1 := zN6 h (by omega) o.path
 unfold DoOk sdo
 rw [if_neg (show ¬ o.kind = 4 by omega)]
 rw [if_neg (show ¬ o.kind = 5 by omega)]
 rw [if_neg (show ¬ o.kind = 6 by omega)]
 rw [if_neg (show ¬ o.kind = 7 by omega)]
 rw [if_neg (show ¬ o.kind = 8 by omega)]
 rw [if_neg (show ¬ o.kind = 9 by omega)]
 rw [if_neg (show ¬ o.kind = 10 by omega)]
 rw [if_neg (show ¬ o.kind = 11 by omega)]
 rw [if_neg (show ¬ o.kind = 12 by omega)]
 rw [if_neg (show ¬ o.kind = 13 by omega)]
 rw [if_pos hk]
 generalize s.remove o.path = r at c1
 obtain ⟨e, s2⟩ := r
 dsimp only at c1 ⊢
 have c2 := z6 e
 obtain ⟨a0, a1, a2, a3, a4, a5, a6, a7, a8, a9, a10, a11, a12, a13, a14, a15, rfl⟩ := len16 hl
 refine ⟨.nils, .nils, .nils, .nils, ?_⟩
 refine zD Tryz.func81 rfl (by kernel_rfl) rfl fun F w0 β0 => ?_
 refine zE rfl ?_
 refine go ?_
 refine j1 6 8 (dH s2 [a0, a1, a2, a3, a4, a5, a6, a7, a8, a9, a10, a11, a12, a13, a14, a15] i) (by kernel_rfl) (by kernel_rfl) ?_
 apply Exists.intro
 refine gdH ?_
 refine yI rfl rfl rfl rfl rfl rfl (zA [.o 1, .o 2] rfl rfl (c1) rfl rfl rfl ⟨⟨rfl, rfl⟩, ⟨rfl, rfl⟩, trivial⟩ rfl rfl rfl rfl) rfl ?_
 refine gdH ?_
 refine yJ rfl rfl rfl rfl rfl rfl (zM rfl rfl c2 rfl rfl rfl) rfl ?_
 refine gdH ?_
 refine go ?_
 exact zC hT rfl rfl rfl
abbrev opB (o : Op20) (d : TV) : AObj := .box 47 [.p (.int .u8 o.kind), .p (.str o.path), .p (.str o.other), .p (.int .i64 o.h), .p (.int .i64 o.from_), .p (.int .i64 o.n), d]
abbrev resB0 : AObj := .box 52 [.p (.int .i64 0), .p (.int .i64 0), .p .nils, .p .nils, .p (.int .u8 0), .p (.int .u32 0), .p (.int .u32 0), .p (.int .u32 0)]
set_option maxHeartbeats 8000000 in
theorem zSd {s : VS} {m : Nat} (h : VJ s m) (hm : m ≤ 90000) {l : List Int} (hl : l.length = 16) (o : Op20) (hk : o.kind = 15) (i : Int) : DoOk 82 o anyD s l i := by
 obtain ⟨n, hn, c1⟩ := zQt h (by omega) o.path
 unfold DoOk sdo
 rw [if_neg (show ¬ o.kind = 4 by omega), if_neg (show ¬ o.kind = 5 by omega), if_neg (show ¬ o.kind = 6 by omega), if_neg (show ¬ o.kind = 7 by omega), if_neg (show ¬ o.kind = 8 by omega), if_neg (show ¬ o.kind = 9 by omega), if_neg (show ¬ o.kind = 10 by omega), if_neg (show ¬ o.kind = 11 by omega), if_neg (show ¬ o.kind = 12 by omega), if_neg (show ¬ o.kind = 13 by omega), if_neg (show ¬ o.kind = 14 by omega), if_pos hk]
 generalize s.dlist o.path = r at c1 hn
 obtain ⟨⟨ns, e⟩, s2⟩ := r
 dsimp only at c1 hn ⊢
 obtain ⟨a0, a1, a2, a3, a4, a5, a6, a7, a8, a9, a10, a11, a12, a13, a14, a15, rfl⟩ := len16 hl
 refine ⟨.nils, .ps (ns.map .str), .nils, .ps _, ?_⟩
 refine zD Tryz.func82 rfl (by kernel_rfl) rfl fun F w0 β0 => ?_
 refine zE rfl ?_
 refine go ?_
 refine yA 6 (dH s2 [a0, a1, a2, a3, a4, a5, a6, a7, a8, a9, a10, a11, a12, a13, a14, a15] i) (by kernel_rfl) (by kernel_rfl) ?_
 refine gdJ ?_
 refine yI rfl rfl rfl rfl rfl rfl (zA [.o 1, .o 2] rfl rfl (c1) rfl rfl rfl ⟨⟨rfl, rfl⟩, ⟨rfl, rfl⟩, trivial⟩ rfl rfl rfl rfl) rfl ?_
 refine gdJ ?_
 refine J_le 5 (.ps (ns.map .str)) rfl hn ?_
 refine go ?_
 exact zC hT rfl rfl rfl
set_option maxHeartbeats 8000000 in
theorem stat_d {s : VS} {m : Nat} (h : VJ s m) (hm : m ≤ 90000) {l : List Int} (hl : l.length = 16) (o : Op20) (hk : o.kind = 16) (i : Int) : DoOk 83 o anyD s l i := by
 have c1 := zHw h (by omega) o.path
 unfold DoOk sdo
 rw [if_neg (show ¬ o.kind = 4 by omega), if_neg (show ¬ o.kind = 5 by omega), if_neg (show ¬ o.kind = 6 by omega), if_neg (show ¬ o.kind = 7 by omega), if_neg (show ¬ o.kind = 8 by omega), if_neg (show ¬ o.kind = 9 by omega), if_neg (show ¬ o.kind = 10 by omega), if_neg (show ¬ o.kind = 11 by omega), if_neg (show ¬ o.kind = 12 by omega), if_neg (show ¬ o.kind = 13 by omega), if_neg (show ¬ o.kind = 14 by omega), if_neg (show ¬ o.kind = 15 by omega), if_pos hk]
 generalize s.lead o.path = r at c1
 generalize s.rdp o.path = s2 at c1
 obtain ⟨⟨j, x⟩, e⟩ := r
 dsimp only at c1 ⊢
 obtain ⟨a0, a1, a2, a3, a4, a5, a6, a7, a8, a9, a10, a11, a12, a13, a14, a15, rfl⟩ := len16 hl
 refine ⟨.nils, .nils, .nils, .nils, ?_⟩
 refine zD Tryz.func83 rfl (by kernel_rfl) rfl fun F w0 β0 => ?_
 refine zE rfl ?_
 refine go ?_
 refine zCj 11 6 13 (dH s2 [a0, a1, a2, a3, a4, a5, a6, a7, a8, a9, a10, a11, a12, a13, a14, a15] i) [opB o anyD, resB0, ndB (0, 0, 0, 0)] [opB o anyD, resB0, ndB x] (by kernel_rfl) (by kernel_rfl) rfl ?_
 refine gdG ?_
 refine zTd rfl rfl rfl rfl rfl rfl rfl rfl rfl (zA [.o 1, .o 2] rfl rfl c1 rfl rfl rfl ⟨⟨rfl, rfl⟩, ⟨rfl, rfl⟩, trivial⟩ rfl rfl rfl rfl) (zA [.o 1, .o 2] rfl rfl c1 rfl rfl rfl ⟨⟨rfl, rfl⟩, ⟨rfl, rfl⟩, trivial⟩ rfl rfl rfl rfl) rfl ?_
 refine gdG ?_
 refine go ?_
 exact zC hT rfl rfl rfl
theorem zV7 (s : VS) {l : List Int} (hl : l.length = 16) (o : Op20) (hk : o.kind < 4 ∨ 16 < o.kind) (i : Int) : DoOk 84 o anyD s l i := by
 have c1 := z6 28
 unfold DoOk sdo
 rw [if_neg (show ¬ o.kind = 4 by omega), if_neg (show ¬ o.kind = 5 by omega), if_neg (show ¬ o.kind = 6 by omega), if_neg (show ¬ o.kind = 7 by omega), if_neg (show ¬ o.kind = 8 by omega), if_neg (show ¬ o.kind = 9 by omega), if_neg (show ¬ o.kind = 10 by omega), if_neg (show ¬ o.kind = 11 by omega), if_neg (show ¬ o.kind = 12 by omega), if_neg (show ¬ o.kind = 13 by omega), if_neg (show ¬ o.kind = 14 by omega), if_neg (show ¬ o.kind = 15 by omega), if_neg (show ¬ o.kind = 16 by omega)]
 obtain ⟨a0, a1, a2, a3, a4, a5, a6, a7, a8, a9, a10, a11, a12, a13, a14, a15, rfl⟩ := len16 hl
 refine ⟨.nils, .nils, .nils, .nils, ?_⟩
 refine zD Tryz.func84 rfl (by kernel_rfl) rfl fun F w0 β0 => ?_
 refine zE rfl ?_
 refine go ?_
 refine zH rfl rfl (zB rfl rfl (c1) rfl rfl rfl rfl) rfl ?_
 refine go ?_
 exact zC hT rfl rfl rfl
structure SV (s s' : VS) : Prop where
 w : s'.writes = s.writes
 sh : s'.shown = s.shown
theorem SV.refl (s : VS) : SV s s := ⟨rfl, rfl⟩
theorem SV.trans {a b c : VS} (h : SV a b) (k : SV b c) : SV a c := ⟨k.w.trans h.w, k.sh.trans h.sh⟩
theorem SV.rds (s : VS) (ks : List (List UInt8)) : SV s (s.rds ks) := ⟨rfl, rfl⟩
theorem SV.rdp (s : VS) (p : List UInt8) : SV s (s.rdp p) := ⟨rfl, rfl⟩
theorem SV.rd (s : VS) (k : List UInt8) : SV s (s.rd k) := ⟨rfl, rfl⟩
theorem SV.range (s : VS) (a b : List UInt8) : SV s (s.range a b) := by
 unfold VS.range
 split <;> exact ⟨rfl, rfl⟩
abbrev F01 (e : Int) : Prop := e = 21 ∨ e = 0
structure Rf (s : VS) (q q' : Int × VS) : Prop where
 n : F01 q.1 ∨ SV s q.2
 a : F01 q.1 ∨ q'.1 = q.1
theorem Rf.no {s : VS} {q q' : Int × VS} (h : F01 q.1) : Rf s q q' := ⟨.inl h, .inl h⟩
theorem Rf.up {s0 s : VS} {q q' : Int × VS} (h : SV s0 s) (k : Rf s q q') : Rf s0 q q' := ⟨k.n.imp_right h.trans, k.a⟩
end Go.Proofs.YtdnpkgakpiopgaaGreatDoor

import Derived.Test.YtdnpkgakpiopgaaGreatDoorGo
import Derived.Test.YtdnpkgakpiopgaaGreatDoorM32
namespace Go.Proofs.YtdnpkgakpiopgaaGreatDoor
set_option maxRecDepth 20000
open Go.Awp Tr
theorem zWa (s : VS) (i o n : Int) : (s.fread i o n).1.2 = 0 ∨ (s.fread i o n).1.1 = [] := by
 unfold VS.fread
 repeat' split
 all_goals first | exact .inl rfl | exact .inr rfl
theorem heldI_lt {l : List Int} {h : Int} (q : heldI l h ≠ 0) : 0 ≤ h ∧ h < 16 := by
 unfold heldI at q
 split at q
 ·exact absurd rfl q
 ·omega
theorem zQo : ∀ (l : List Int) (i : Nat), freeH l i < 0 ∨ ((i : Int) ≤ freeH l i ∧ freeH l i < ((i + l.length : Nat) : Int))
 | [], i => .inl (by show (-1 : Int) < 0; decide)
 | x :: r, i => by
  rw [zIb]
  split
  ·right; rw [List.length_cons]; omega
  ·rcases zQo r (i + 1) with h | h
   ·exact .inl h
   ·right
    rw [List.length_cons]
    omega
set_option maxHeartbeats 16000000 in
theorem shut_d {s : VS} {m : Nat} (_ : VJ s m) (_ : m ≤ 90000) {l : List Int} (hl : l.length = 16) (hlu : ∀ x ∈ l, U32 x) (o : Op20) (hk : o.kind = 7) (i : Int) : DoOk 74 o anyD s l i := by
 have hu := zGh hlu o.h
 have c0 := zDq s l hl i o.h
 have cf := z6 16
 unfold DoOk sdo
 rw [if_neg (show ¬ o.kind = 4 by omega), if_neg (show ¬ o.kind = 5 by omega), if_neg (show ¬ o.kind = 6 by omega), if_pos hk]
 by_cases h0 : heldI l o.h = 0
 ·rw [if_pos h0]
  rw [h0] at c0
  obtain ⟨a0, a1, a2, a3, a4, a5, a6, a7, a8, a9, a10, a11, a12, a13, a14, a15, rfl⟩ := len16 hl
  refine ⟨.nils, .nils, .nils, .nils, ?_⟩
  refine zD Tryz.func74 rfl (by kernel_rfl) rfl fun F w0 β0 => ?_
  refine zE rfl ?_
  refine go ?_
  refine zH rfl rfl (zA [.o 0, .o 1, .o 2] rfl rfl (c0) rfl rfl rfl ⟨⟨rfl, rfl⟩, ⟨rfl, rfl⟩, ⟨rfl, rfl⟩, trivial⟩ rfl rfl rfl rfl) rfl ?_
  refine go ?_
  refine zH rfl rfl (zB rfl rfl (cf) rfl rfl rfl rfl) rfl ?_
  refine go ?_
  exact zC hT rfl rfl rfl
 rw [if_neg h0]
 obtain ⟨b0, b1⟩ := heldI_lt h0
 generalize heldI l o.h = z at c0 h0
 obtain ⟨a0, a1, a2, a3, a4, a5, a6, a7, a8, a9, a10, a11, a12, a13, a14, a15, rfl⟩ := len16 hl
 obtain ⟨k0, p0, t0, z0, f0, n0, d0⟩ := o
 dsimp only at b0 b1 c0 ⊢
 refine ⟨.nils, .nils, .nils, .nils, ?_⟩
 rcases cell16 b0 b1 with rfl | rfl | rfl | rfl | rfl | rfl | rfl | rfl | rfl | rfl | rfl | rfl | rfl | rfl | rfl | rfl
 ·skip
  refine zD Tryz.func74 rfl (by kernel_rfl) rfl fun F w0 β0 => ?_
  refine zE rfl ?_
  refine go ?_
  refine zH rfl rfl (zA [.o 0, .o 1, .o 2] rfl rfl (c0) rfl rfl rfl ⟨⟨rfl, rfl⟩, ⟨rfl, rfl⟩, ⟨rfl, rfl⟩, trivial⟩ rfl rfl rfl rfl) rfl ?_
  refine go ?_
  refine zF rfl (by simp [h0]) ?_
  refine go ?_
  refine yA 6 (dH s [0, a1, a2, a3, a4, a5, a6, a7, a8, a9, a10, a11, a12, a13, a14, a15] i) (by kernel_rfl) (by kernel_rfl) ?_
  refine gdJ ?_
  refine go ?_
  exact zC hT rfl rfl rfl
 ·skip
  refine zD Tryz.func74 rfl (by kernel_rfl) rfl fun F w0 β0 => ?_
  refine zE rfl ?_
  refine go ?_
  refine zH rfl rfl (zA [.o 0, .o 1, .o 2] rfl rfl (c0) rfl rfl rfl ⟨⟨rfl, rfl⟩, ⟨rfl, rfl⟩, ⟨rfl, rfl⟩, trivial⟩ rfl rfl rfl rfl) rfl ?_
  refine go ?_
  refine zF rfl (by simp [h0]) ?_
  refine go ?_
  refine yA 6 (dH s [a0, 0, a2, a3, a4, a5, a6, a7, a8, a9, a10, a11, a12, a13, a14, a15] i) (by kernel_rfl) (by kernel_rfl) ?_
  refine gdJ ?_
  refine go ?_
  exact zC hT rfl rfl rfl
 ·skip
  refine zD Tryz.func74 rfl (by kernel_rfl) rfl fun F w0 β0 => ?_
  refine zE rfl ?_
  refine go ?_
  refine zH rfl rfl (zA [.o 0, .o 1, .o 2] rfl rfl (c0) rfl rfl rfl ⟨⟨rfl, rfl⟩, ⟨rfl, rfl⟩, ⟨rfl, rfl⟩, trivial⟩ rfl rfl rfl rfl) rfl ?_
  refine go ?_
  refine zF rfl (by simp [h0]) ?_
  refine go ?_
  refine yA 6 (dH s [a0, a1, 0, a3, a4, a5, a6, a7, a8, a9, a10, a11, a12, a13, a14, a15] i) (by kernel_rfl) (by kernel_rfl) ?_
  refine gdJ ?_
  refine go ?_
  exact zC hT rfl rfl rfl
 ·skip
  refine zD Tryz.func74 rfl (by kernel_rfl) rfl fun F w0 β0 => ?_
  refine zE rfl ?_
  refine go ?_
  refine zH rfl rfl (zA [.o 0, .o 1, .o 2] rfl rfl (c0) rfl rfl rfl ⟨⟨rfl, rfl⟩, ⟨rfl, rfl⟩, ⟨rfl, rfl⟩, trivial⟩ rfl rfl rfl rfl) rfl ?_
  refine go ?_
  refine zF rfl (by simp [h0]) ?_
  refine go ?_
  refine yA 6 (dH s [a0, a1, a2, 0, a4, a5, a6, a7, a8, a9, a10, a11, a12, a13, a14, a15] i) (by kernel_rfl) (by kernel_rfl) ?_
  refine gdJ ?_
  refine go ?_
  exact zC hT rfl rfl rfl
 ·skip
  refine zD Tryz.func74 rfl (by kernel_rfl) rfl fun F w0 β0 => ?_
  refine zE rfl ?_
  refine go ?_
  refine zH rfl rfl (zA [.o 0, .o 1, .o 2] rfl rfl (c0) rfl rfl rfl ⟨⟨rfl, rfl⟩, ⟨rfl, rfl⟩, ⟨rfl, rfl⟩, trivial⟩ rfl rfl rfl rfl) rfl ?_
  refine go ?_
  refine zF rfl (by simp [h0]) ?_
  refine go ?_
  refine yA 6 (dH s [a0, a1, a2, a3, 0, a5, a6, a7, a8, a9, a10, a11, a12, a13, a14, a15] i) (by kernel_rfl) (by kernel_rfl) ?_
  refine gdJ ?_
  refine go ?_
  exact zC hT rfl rfl rfl
 ·skip
  refine zD Tryz.func74 rfl (by kernel_rfl) rfl fun F w0 β0 => ?_
  refine zE rfl ?_
  refine go ?_
  refine zH rfl rfl (zA [.o 0, .o 1, .o 2] rfl rfl (c0) rfl rfl rfl ⟨⟨rfl, rfl⟩, ⟨rfl, rfl⟩, ⟨rfl, rfl⟩, trivial⟩ rfl rfl rfl rfl) rfl ?_
  refine go ?_
  refine zF rfl (by simp [h0]) ?_
  refine go ?_
  refine yA 6 (dH s [a0, a1, a2, a3, a4, 0, a6, a7, a8, a9, a10, a11, a12, a13, a14, a15] i) (by kernel_rfl) (by kernel_rfl) ?_
  refine gdJ ?_
  refine go ?_
  exact zC hT rfl rfl rfl
 ·skip
  refine zD Tryz.func74 rfl (by kernel_rfl) rfl fun F w0 β0 => ?_
  refine zE rfl ?_
  refine go ?_
  refine zH rfl rfl (zA [.o 0, .o 1, .o 2] rfl rfl (c0) rfl rfl rfl ⟨⟨rfl, rfl⟩, ⟨rfl, rfl⟩, ⟨rfl, rfl⟩, trivial⟩ rfl rfl rfl rfl) rfl ?_
  refine go ?_
  refine zF rfl (by simp [h0]) ?_
  refine go ?_
  refine yA 6 (dH s [a0, a1, a2, a3, a4, a5, 0, a7, a8, a9, a10, a11, a12, a13, a14, a15] i) (by kernel_rfl) (by kernel_rfl) ?_
  refine gdJ ?_
  refine go ?_
  exact zC hT rfl rfl rfl
 ·skip
  refine zD Tryz.func74 rfl (by kernel_rfl) rfl fun F w0 β0 => ?_
  refine zE rfl ?_
  refine go ?_
  refine zH rfl rfl (zA [.o 0, .o 1, .o 2] rfl rfl (c0) rfl rfl rfl ⟨⟨rfl, rfl⟩, ⟨rfl, rfl⟩, ⟨rfl, rfl⟩, trivial⟩ rfl rfl rfl rfl) rfl ?_
  refine go ?_
  refine zF rfl (by simp [h0]) ?_
  refine go ?_
  refine yA 6 (dH s [a0, a1, a2, a3, a4, a5, a6, 0, a8, a9, a10, a11, a12, a13, a14, a15] i) (by kernel_rfl) (by kernel_rfl) ?_
  refine gdJ ?_
  refine go ?_
  exact zC hT rfl rfl rfl
 ·skip
  refine zD Tryz.func74 rfl (by kernel_rfl) rfl fun F w0 β0 => ?_
  refine zE rfl ?_
  refine go ?_
  refine zH rfl rfl (zA [.o 0, .o 1, .o 2] rfl rfl (c0) rfl rfl rfl ⟨⟨rfl, rfl⟩, ⟨rfl, rfl⟩, ⟨rfl, rfl⟩, trivial⟩ rfl rfl rfl rfl) rfl ?_
  refine go ?_
  refine zF rfl (by simp [h0]) ?_
  refine go ?_
  refine yA 6 (dH s [a0, a1, a2, a3, a4, a5, a6, a7, 0, a9, a10, a11, a12, a13, a14, a15] i) (by kernel_rfl) (by kernel_rfl) ?_
  refine gdJ ?_
  refine go ?_
  exact zC hT rfl rfl rfl
 ·skip
  refine zD Tryz.func74 rfl (by kernel_rfl) rfl fun F w0 β0 => ?_
  refine zE rfl ?_
  refine go ?_
  refine zH rfl rfl (zA [.o 0, .o 1, .o 2] rfl rfl (c0) rfl rfl rfl ⟨⟨rfl, rfl⟩, ⟨rfl, rfl⟩, ⟨rfl, rfl⟩, trivial⟩ rfl rfl rfl rfl) rfl ?_
  refine go ?_
  refine zF rfl (by simp [h0]) ?_
  refine go ?_
  refine yA 6 (dH s [a0, a1, a2, a3, a4, a5, a6, a7, a8, 0, a10, a11, a12, a13, a14, a15] i) (by kernel_rfl) (by kernel_rfl) ?_
  refine gdJ ?_
  refine go ?_
  exact zC hT rfl rfl rfl
 ·skip
  refine zD Tryz.func74 rfl (by kernel_rfl) rfl fun F w0 β0 => ?_
  refine zE rfl ?_
  refine go ?_
  refine zH rfl rfl (zA [.o 0, .o 1, .o 2] rfl rfl (c0) rfl rfl rfl ⟨⟨rfl, rfl⟩, ⟨rfl, rfl⟩, ⟨rfl, rfl⟩, trivial⟩ rfl rfl rfl rfl) rfl ?_
  refine go ?_
  refine zF rfl (by simp [h0]) ?_
  refine go ?_
  refine yA 6 (dH s [a0, a1, a2, a3, a4, a5, a6, a7, a8, a9, 0, a11, a12, a13, a14, a15] i) (by kernel_rfl) (by kernel_rfl) ?_
  refine gdJ ?_
  refine go ?_
  exact zC hT rfl rfl rfl
 ·skip
  refine zD Tryz.func74 rfl (by kernel_rfl) rfl fun F w0 β0 => ?_
  refine zE rfl ?_
  refine go ?_
  refine zH rfl rfl (zA [.o 0, .o 1, .o 2] rfl rfl (c0) rfl rfl rfl ⟨⟨rfl, rfl⟩, ⟨rfl, rfl⟩, ⟨rfl, rfl⟩, trivial⟩ rfl rfl rfl rfl) rfl ?_
  refine go ?_
  refine zF rfl (by simp [h0]) ?_
  refine go ?_
  refine yA 6 (dH s [a0, a1, a2, a3, a4, a5, a6, a7, a8, a9, a10, 0, a12, a13, a14, a15] i) (by kernel_rfl) (by kernel_rfl) ?_
  refine gdJ ?_
  refine go ?_
  exact zC hT rfl rfl rfl
 ·skip
  refine zD Tryz.func74 rfl (by kernel_rfl) rfl fun F w0 β0 => ?_
  refine zE rfl ?_
  refine go ?_
  refine zH rfl rfl (zA [.o 0, .o 1, .o 2] rfl rfl (c0) rfl rfl rfl ⟨⟨rfl, rfl⟩, ⟨rfl, rfl⟩, ⟨rfl, rfl⟩, trivial⟩ rfl rfl rfl rfl) rfl ?_
  refine go ?_
  refine zF rfl (by simp [h0]) ?_
  refine go ?_
  refine yA 6 (dH s [a0, a1, a2, a3, a4, a5, a6, a7, a8, a9, a10, a11, 0, a13, a14, a15] i) (by kernel_rfl) (by kernel_rfl) ?_
  refine gdJ ?_
  refine go ?_
  exact zC hT rfl rfl rfl
 ·skip
  refine zD Tryz.func74 rfl (by kernel_rfl) rfl fun F w0 β0 => ?_
  refine zE rfl ?_
  refine go ?_
  refine zH rfl rfl (zA [.o 0, .o 1, .o 2] rfl rfl (c0) rfl rfl rfl ⟨⟨rfl, rfl⟩, ⟨rfl, rfl⟩, ⟨rfl, rfl⟩, trivial⟩ rfl rfl rfl rfl) rfl ?_
  refine go ?_
  refine zF rfl (by simp [h0]) ?_
  refine go ?_
  refine yA 6 (dH s [a0, a1, a2, a3, a4, a5, a6, a7, a8, a9, a10, a11, a12, 0, a14, a15] i) (by kernel_rfl) (by kernel_rfl) ?_
  refine gdJ ?_
  refine go ?_
  exact zC hT rfl rfl rfl
 ·skip
  refine zD Tryz.func74 rfl (by kernel_rfl) rfl fun F w0 β0 => ?_
  refine zE rfl ?_
  refine go ?_
  refine zH rfl rfl (zA [.o 0, .o 1, .o 2] rfl rfl (c0) rfl rfl rfl ⟨⟨rfl, rfl⟩, ⟨rfl, rfl⟩, ⟨rfl, rfl⟩, trivial⟩ rfl rfl rfl rfl) rfl ?_
  refine go ?_
  refine zF rfl (by simp [h0]) ?_
  refine go ?_
  refine yA 6 (dH s [a0, a1, a2, a3, a4, a5, a6, a7, a8, a9, a10, a11, a12, a13, 0, a15] i) (by kernel_rfl) (by kernel_rfl) ?_
  refine gdJ ?_
  refine go ?_
  exact zC hT rfl rfl rfl
 ·skip
  refine zD Tryz.func74 rfl (by kernel_rfl) rfl fun F w0 β0 => ?_
  refine zE rfl ?_
  refine go ?_
  refine zH rfl rfl (zA [.o 0, .o 1, .o 2] rfl rfl (c0) rfl rfl rfl ⟨⟨rfl, rfl⟩, ⟨rfl, rfl⟩, ⟨rfl, rfl⟩, trivial⟩ rfl rfl rfl rfl) rfl ?_
  refine go ?_
  refine zF rfl (by simp [h0]) ?_
  refine go ?_
  refine yA 6 (dH s [a0, a1, a2, a3, a4, a5, a6, a7, a8, a9, a10, a11, a12, a13, a14, 0] i) (by kernel_rfl) (by kernel_rfl) ?_
  refine gdJ ?_
  refine go ?_
  exact zC hT rfl rfl rfl
set_option maxHeartbeats 16000000 in
theorem read_d {s : VS} {m : Nat} (h : VJ s m) (hm : m ≤ 90000) {l : List Int} (hl : l.length = 16) (hlu : ∀ x ∈ l, U32 x) (o : Op20) (hk : o.kind = 8) (i : Int) (hf : -9223372036854775808 ≤ o.from_ ∧ o.from_ ≤ 9223372036854775807) (hn : -9223372036854775808 ≤ o.n ∧ o.n ≤ 9223372036854775807) : DoOk 75 o anyD s l i := by
 have hu := zGh hlu o.h
 have c0 := zDq s l hl i o.h
 have cf := z6 16
 unfold DoOk sdo
 rw [if_neg (show ¬ o.kind = 4 by omega), if_neg (show ¬ o.kind = 5 by omega), if_neg (show ¬ o.kind = 6 by omega), if_neg (show ¬ o.kind = 7 by omega), if_pos hk]
 by_cases h0 : heldI l o.h = 0
 ·rw [if_pos h0]
  rw [h0] at c0
  obtain ⟨a0, a1, a2, a3, a4, a5, a6, a7, a8, a9, a10, a11, a12, a13, a14, a15, rfl⟩ := len16 hl
  refine ⟨.nils, .nils, .nils, .nils, ?_⟩
  refine zD Tryz.func75 rfl (by kernel_rfl) rfl fun F w0 β0 => ?_
  refine zE rfl ?_
  refine go ?_
  refine zH rfl rfl (zA [.o 0, .o 1, .o 2] rfl rfl (c0) rfl rfl rfl ⟨⟨rfl, rfl⟩, ⟨rfl, rfl⟩, ⟨rfl, rfl⟩, trivial⟩ rfl rfl rfl rfl) rfl ?_
  refine go ?_
  refine zH rfl rfl (zB rfl rfl (cf) rfl rfl rfl rfl) rfl ?_
  refine go ?_
  exact zC hT rfl rfl rfl
 rw [if_neg h0]
 have c1 := zQ2 h (by omega) (heldI l o.h) hu o.from_ o.n hf hn
 have hfl := zWa s (heldI l o.h) o.from_ o.n
 generalize s.fread (heldI l o.h) o.from_ o.n = r at c1 hfl
 generalize heldI l o.h = z at c0 h0 c1
 obtain ⟨⟨b, e⟩, s2⟩ := r
 dsimp only at c1 hfl ⊢
 obtain ⟨a0, a1, a2, a3, a4, a5, a6, a7, a8, a9, a10, a11, a12, a13, a14, a15, rfl⟩ := len16 hl
 unfold bytA at c1
 dsimp only at c1
 by_cases he : e = 0
 ·rw [if_pos he] at c1
  refine ⟨.ps (bv b), .nils, .ps b, .nils, ?_⟩
  refine zD Tryz.func75 rfl (by kernel_rfl) rfl fun F w0 β0 => ?_
  refine zE rfl ?_
  refine go ?_
  refine zH rfl rfl (zA [.o 0, .o 1, .o 2] rfl rfl (c0) rfl rfl rfl ⟨⟨rfl, rfl⟩, ⟨rfl, rfl⟩, ⟨rfl, rfl⟩, trivial⟩ rfl rfl rfl rfl) rfl ?_
  refine go ?_
  refine zF rfl (by simp [h0]) ?_
  refine go ?_
  refine yA 9 (dH s2 [a0, a1, a2, a3, a4, a5, a6, a7, a8, a9, a10, a11, a12, a13, a14, a15] i) (by kernel_rfl) (by kernel_rfl) ?_
  refine gdJ ?_
  refine yI rfl rfl rfl rfl rfl rfl (zA [.o 1, .o 2] rfl rfl (c1) rfl rfl rfl ⟨⟨rfl, rfl⟩, ⟨rfl, rfl⟩, trivial⟩ rfl rfl rfl rfl) rfl ?_
  refine gdJ ?_
  refine go ?_
  rw [bv_length]
  exact zC hT rfl rfl rfl
 ·rw [if_neg he] at c1
  obtain rfl : b = [] := hfl.resolve_left he
  refine ⟨.nils, .nils, .nils, .nils, ?_⟩
  refine zD Tryz.func75 rfl (by kernel_rfl) rfl fun F w0 β0 => ?_
  refine zE rfl ?_
  refine go ?_
  refine zH rfl rfl (zA [.o 0, .o 1, .o 2] rfl rfl (c0) rfl rfl rfl ⟨⟨rfl, rfl⟩, ⟨rfl, rfl⟩, ⟨rfl, rfl⟩, trivial⟩ rfl rfl rfl rfl) rfl ?_
  refine go ?_
  refine zF rfl (by simp [h0]) ?_
  refine go ?_
  refine yA 9 (dH s2 [a0, a1, a2, a3, a4, a5, a6, a7, a8, a9, a10, a11, a12, a13, a14, a15] i) (by kernel_rfl) (by kernel_rfl) ?_
  refine gdJ ?_
  refine yI rfl rfl rfl rfl rfl rfl (zA [.o 1, .o 2] rfl rfl (c1) rfl rfl rfl ⟨⟨rfl, rfl⟩, ⟨rfl, rfl⟩, trivial⟩ rfl rfl rfl rfl) rfl ?_
  refine gdJ ?_
  refine go ?_
  exact zC hT rfl rfl rfl
set_option maxHeartbeats 16000000 in
theorem trunc_d {s : VS} {m : Nat} (h : VJ s m) (hm : m ≤ 90000) {l : List Int} (hl : l.length = 16) (hlu : ∀ x ∈ l, U32 x) (o : Op20) (hk : o.kind = 10) (i : Int) (hn : -9223372036854775808 ≤ o.n ∧ o.n ≤ 9223372036854775807) : DoOk 77 o anyD s l i := by
 have hu := zGh hlu o.h
 have c0 := zDq s l hl i o.h
 have cf := z6 16
 unfold DoOk sdo
 rw [if_neg (show ¬ o.kind = 4 by omega), if_neg (show ¬ o.kind = 5 by omega), if_neg (show ¬ o.kind = 6 by omega), if_neg (show ¬ o.kind = 7 by omega), if_neg (show ¬ o.kind = 8 by omega), if_neg (show ¬ o.kind = 9 by omega), if_pos hk]
 by_cases h0 : heldI l o.h = 0
 ·rw [if_pos h0]
  rw [h0] at c0
  obtain ⟨a0, a1, a2, a3, a4, a5, a6, a7, a8, a9, a10, a11, a12, a13, a14, a15, rfl⟩ := len16 hl
  refine ⟨.nils, .nils, .nils, .nils, ?_⟩
  refine zD Tryz.func77 rfl (by kernel_rfl) rfl fun F w0 β0 => ?_
  refine zE rfl ?_
  refine go ?_
  refine zH rfl rfl (zA [.o 0, .o 1, .o 2] rfl rfl (c0) rfl rfl rfl ⟨⟨rfl, rfl⟩, ⟨rfl, rfl⟩, ⟨rfl, rfl⟩, trivial⟩ rfl rfl rfl rfl) rfl ?_
  refine go ?_
  refine zH rfl rfl (zB rfl rfl (cf) rfl rfl rfl rfl) rfl ?_
  refine go ?_
  exact zC hT rfl rfl rfl
 rw [if_neg h0]
 have c1 := zNu h (by omega) (heldI l o.h) hu o.n hn
 generalize s.ftrunc (heldI l o.h) o.n = r at c1
 generalize heldI l o.h = z at c0 h0 c1
 obtain ⟨e, s2⟩ := r
 dsimp only at c1 ⊢
 have c2 := z6 e
 obtain ⟨a0, a1, a2, a3, a4, a5, a6, a7, a8, a9, a10, a11, a12, a13, a14, a15, rfl⟩ := len16 hl
 refine ⟨.nils, .nils, .nils, .nils, ?_⟩
 refine zD Tryz.func77 rfl (by kernel_rfl) rfl fun F w0 β0 => ?_
 refine zE rfl ?_
 refine go ?_
 refine zH rfl rfl (zA [.o 0, .o 1, .o 2] rfl rfl (c0) rfl rfl rfl ⟨⟨rfl, rfl⟩, ⟨rfl, rfl⟩, ⟨rfl, rfl⟩, trivial⟩ rfl rfl rfl rfl) rfl ?_
 refine go ?_
 refine zF rfl (by simp [h0]) ?_
 refine go ?_
 refine j1 7 9 (dH s2 [a0, a1, a2, a3, a4, a5, a6, a7, a8, a9, a10, a11, a12, a13, a14, a15] i) (by kernel_rfl) (by kernel_rfl) ?_
 apply Exists.intro
 refine gdH ?_
 refine yI rfl rfl rfl rfl rfl rfl (zA [.o 1, .o 2] rfl rfl (c1) rfl rfl rfl ⟨⟨rfl, rfl⟩, ⟨rfl, rfl⟩, trivial⟩ rfl rfl rfl rfl) rfl ?_
 refine gdH ?_
 refine yJ rfl rfl rfl rfl rfl rfl (zM rfl rfl c2 rfl rfl rfl) rfl ?_
 refine gdH ?_
 refine go ?_
 exact zC hT rfl rfl rfl
set_option maxHeartbeats 32000000 in
theorem open_d {s : VS} {m : Nat} (h : VJ s m) (hm : m ≤ 90000) {l : List Int} (hl : l.length = 16) (o : Op20) (hk : o.kind = 6) (i : Int) : DoOk 73 o anyD s l i := by
 have c1 := zHw h (by omega) o.path
 have ci := zRa l (by omega)
 have hfr := zQo l 0
 rw [hl] at hfr
 unfold DoOk sdo
 rw [if_neg (show ¬ o.kind = 4 by omega), if_neg (show ¬ o.kind = 5 by omega), if_pos hk]
 generalize s.lead o.path = r at c1
 generalize s.rdp o.path = s2 at c1
 generalize freeH l 0 = z at ci hfr
 obtain ⟨⟨j, x⟩, e⟩ := r
 dsimp only at c1 ⊢
 have ce := z6 e
 have c13 := z6 13
 have c20 := z6 20
 obtain ⟨a0, a1, a2, a3, a4, a5, a6, a7, a8, a9, a10, a11, a12, a13, a14, a15, rfl⟩ := len16 hl
 have start : ∀ {F : Nat → Prop} {w0 : World} {β0 : Hd → Nat} {Q : Exit → Act → World → Prop} {n : Act → World → Prop} {y : Code}, True := fun {_ _ _ _ _ _} => trivial
 clear start
 by_cases he : e ≠ 0
 ·rw [if_pos he]
  refine ⟨.nils, .nils, .nils, .nils, ?_⟩
  refine zD Tryz.func73 rfl (by kernel_rfl) rfl fun F w0 β0 => ?_
  refine zE rfl ?_
  refine go ?_
  refine zCj 11 6 13 (dH s2 [a0, a1, a2, a3, a4, a5, a6, a7, a8, a9, a10, a11, a12, a13, a14, a15] i) [opB o anyD, resB0, ndB (0, 0, 0, 0)] [opB o anyD, resB0, ndB x] (by kernel_rfl) (by kernel_rfl) rfl ?_
  refine gdG ?_
  refine zTd rfl rfl rfl rfl rfl rfl rfl rfl rfl (zA [.o 1, .o 2] rfl rfl c1 rfl rfl rfl ⟨⟨rfl, rfl⟩, ⟨rfl, rfl⟩, trivial⟩ rfl rfl rfl rfl) (zA [.o 1, .o 2] rfl rfl c1 rfl rfl rfl ⟨⟨rfl, rfl⟩, ⟨rfl, rfl⟩, trivial⟩ rfl rfl rfl rfl) rfl ?_
  refine gdG ?_
  refine go ?_
  refine zDx (rows := [a0, a1, a2, a3, a4, a5, a6, a7, a8, a9, a10, a11, a12, a13, a14, a15].map u32V) hT rfl rfl rfl rfl rfl rfl rfl rfl rfl rfl rfl rfl rfl rfl (by decide) (fun r hr => by obtain ⟨_, _, rfl⟩ := List.mem_map.1 hr; rfl) rfl rfl ci ?_
  refine go ?_
  refine zG rfl (by simp [he]) ?_
  refine go ?_
  refine zH rfl rfl (zB rfl rfl (ce) rfl rfl rfl rfl) rfl ?_
  refine go ?_
  exact zC hT rfl rfl rfl
 rw [if_neg he]
 by_cases h1 : x.1 ≠ 1
 ·rw [if_pos h1]
  refine ⟨.nils, .nils, .nils, .nils, ?_⟩
  refine zD Tryz.func73 rfl (by kernel_rfl) rfl fun F w0 β0 => ?_
  refine zE rfl ?_
  refine go ?_
  refine zCj 11 6 13 (dH s2 [a0, a1, a2, a3, a4, a5, a6, a7, a8, a9, a10, a11, a12, a13, a14, a15] i) [opB o anyD, resB0, ndB (0, 0, 0, 0)] [opB o anyD, resB0, ndB x] (by kernel_rfl) (by kernel_rfl) rfl ?_
  refine gdG ?_
  refine zTd rfl rfl rfl rfl rfl rfl rfl rfl rfl (zA [.o 1, .o 2] rfl rfl c1 rfl rfl rfl ⟨⟨rfl, rfl⟩, ⟨rfl, rfl⟩, trivial⟩ rfl rfl rfl rfl) (zA [.o 1, .o 2] rfl rfl c1 rfl rfl rfl ⟨⟨rfl, rfl⟩, ⟨rfl, rfl⟩, trivial⟩ rfl rfl rfl rfl) rfl ?_
  refine gdG ?_
  refine go ?_
  refine zDx (rows := [a0, a1, a2, a3, a4, a5, a6, a7, a8, a9, a10, a11, a12, a13, a14, a15].map u32V) hT rfl rfl rfl rfl rfl rfl rfl rfl rfl rfl rfl rfl rfl rfl (by decide) (fun r hr => by obtain ⟨_, _, rfl⟩ := List.mem_map.1 hr; rfl) rfl rfl ci ?_
  refine go ?_
  refine zF rfl (by simp only [ne_eq, Decidable.not_not] at he; simp [he]) ?_
  refine go ?_
  refine zG rfl (by simp [h1]) ?_
  refine go ?_
  refine zH rfl rfl (zB rfl rfl (c13) rfl rfl rfl rfl) rfl ?_
  refine go ?_
  exact zC hT rfl rfl rfl
 rw [if_neg h1]
 by_cases h2 : z < 0
 ·rw [if_pos h2]
  refine ⟨.nils, .nils, .nils, .nils, ?_⟩
  refine zD Tryz.func73 rfl (by kernel_rfl) rfl fun F w0 β0 => ?_
  refine zE rfl ?_
  refine go ?_
  refine zCj 11 6 13 (dH s2 [a0, a1, a2, a3, a4, a5, a6, a7, a8, a9, a10, a11, a12, a13, a14, a15] i) [opB o anyD, resB0, ndB (0, 0, 0, 0)] [opB o anyD, resB0, ndB x] (by kernel_rfl) (by kernel_rfl) rfl ?_
  refine gdG ?_
  refine zTd rfl rfl rfl rfl rfl rfl rfl rfl rfl (zA [.o 1, .o 2] rfl rfl c1 rfl rfl rfl ⟨⟨rfl, rfl⟩, ⟨rfl, rfl⟩, trivial⟩ rfl rfl rfl rfl) (zA [.o 1, .o 2] rfl rfl c1 rfl rfl rfl ⟨⟨rfl, rfl⟩, ⟨rfl, rfl⟩, trivial⟩ rfl rfl rfl rfl) rfl ?_
  refine gdG ?_
  refine go ?_
  refine zDx (rows := [a0, a1, a2, a3, a4, a5, a6, a7, a8, a9, a10, a11, a12, a13, a14, a15].map u32V) hT rfl rfl rfl rfl rfl rfl rfl rfl rfl rfl rfl rfl rfl rfl (by decide) (fun r hr => by obtain ⟨_, _, rfl⟩ := List.mem_map.1 hr; rfl) rfl rfl ci ?_
  refine go ?_
  refine zF rfl (by simp only [ne_eq, Decidable.not_not] at he; simp [he]) ?_
  refine go ?_
  refine zF rfl (by simp only [ne_eq, Decidable.not_not] at h1; simp [h1]) ?_
  refine go ?_
  refine zG rfl (decide_eq_true h2) ?_
  refine go ?_
  refine zH rfl rfl (zB rfl rfl (c20) rfl rfl rfl rfl) rfl ?_
  refine go ?_
  exact zC hT rfl rfl rfl
 rw [if_neg h2]
 refine ⟨.nils, .nils, .nils, .nils, ?_⟩
 refine zD Tryz.func73 rfl (by kernel_rfl) rfl fun F w0 β0 => ?_
 refine zE rfl ?_
 refine go ?_
 refine zCj 11 6 13 (dH s2 [a0, a1, a2, a3, a4, a5, a6, a7, a8, a9, a10, a11, a12, a13, a14, a15] i) [opB o anyD, resB0, ndB (0, 0, 0, 0)] [opB o anyD, resB0, ndB x] (by kernel_rfl) (by kernel_rfl) rfl ?_
 refine gdG ?_
 refine zTd rfl rfl rfl rfl rfl rfl rfl rfl rfl (zA [.o 1, .o 2] rfl rfl c1 rfl rfl rfl ⟨⟨rfl, rfl⟩, ⟨rfl, rfl⟩, trivial⟩ rfl rfl rfl rfl) (zA [.o 1, .o 2] rfl rfl c1 rfl rfl rfl ⟨⟨rfl, rfl⟩, ⟨rfl, rfl⟩, trivial⟩ rfl rfl rfl rfl) rfl ?_
 refine gdG ?_
 refine go ?_
 refine zDx (rows := [a0, a1, a2, a3, a4, a5, a6, a7, a8, a9, a10, a11, a12, a13, a14, a15].map u32V) hT rfl rfl rfl rfl rfl rfl rfl rfl rfl rfl rfl rfl rfl rfl (by decide) (fun r hr => by obtain ⟨_, _, rfl⟩ := List.mem_map.1 hr; rfl) rfl rfl ci ?_
 refine go ?_
 refine zF rfl (by simp only [ne_eq, Decidable.not_not] at he; simp [he]) ?_
 refine go ?_
 refine zF rfl (by simp only [ne_eq, Decidable.not_not] at h1; simp [h1]) ?_
 refine go ?_
 refine zF rfl (decide_eq_false h2) ?_
 rcases cell16 (h := z) (by omega) (by omega) with rfl | rfl | rfl | rfl | rfl | rfl | rfl | rfl | rfl | rfl | rfl | rfl | rfl | rfl | rfl | rfl
 all_goals
  refine go ?_
  exact zC hT rfl rfl rfl
abbrev dHb (s : VS) (a : List Int) (f : Int) (b : List UInt8) : List AObj := [deskB (.o 1) a f, vB (.o 2) s.base s.shown s.writes s.reads s.ranges.length, vR s.ranges, bA b]
abbrev ownD (b : List UInt8) : TV := .sl (.o 3) b.length 0 b.length
set_option maxHeartbeats 16000000 in
theorem zUu {s : VS} {m : Nat} (h : VJ s m) (hm : m ≤ 90000) {l : List Int} (hl : l.length = 16) (hlu : ∀ x ∈ l, U32 x) (o : Op20) (hk : o.kind = 9) (i : Int) (hf : -9223372036854775808 ≤ o.from_ ∧ o.from_ ≤ 9223372036854775807) (hb : o.b.length ≤ 140737488355328) :
  ∃ x n, Bs x (sdo s l o i).1.data ∧ Sl AV.str n (sdo s l o i).1.names ∧ Con Tryz.prog 76 [vP, opT o (ownD o.b)] (dHb s l i o.b) (resT (sdo s l o i).1 x n) (dHb (sdo s l o i).2.1 (sdo s l o i).2.2 i o.b) [] := by
 have hu := zGh hlu o.h
 have c0 := zDq s l hl i o.h
 have cf := z6 16
 unfold sdo
 rw [if_neg (show ¬ o.kind = 4 by omega), if_neg (show ¬ o.kind = 5 by omega), if_neg (show ¬ o.kind = 6 by omega), if_neg (show ¬ o.kind = 7 by omega), if_neg (show ¬ o.kind = 8 by omega), if_pos hk]
 by_cases h0 : heldI l o.h = 0
 ·rw [if_pos h0]
  rw [h0] at c0
  obtain ⟨a0, a1, a2, a3, a4, a5, a6, a7, a8, a9, a10, a11, a12, a13, a14, a15, rfl⟩ := len16 hl
  refine ⟨.nils, .nils, .nils, .nils, ?_⟩
  refine zD Tryz.func76 rfl (by kernel_rfl) rfl fun F w0 β0 => ?_
  refine zE rfl ?_
  refine go ?_
  refine zH rfl rfl (zA [.o 0, .o 1, .o 2] rfl rfl (c0) rfl rfl rfl ⟨⟨rfl, rfl⟩, ⟨rfl, rfl⟩, ⟨rfl, rfl⟩, trivial⟩ rfl rfl rfl rfl) rfl ?_
  refine go ?_
  refine zH rfl rfl (zB rfl rfl (cf) rfl rfl rfl rfl) rfl ?_
  refine go ?_
  exact zC hT rfl rfl rfl
 rw [if_neg h0]
 have c1 := zRn h (by omega) (heldI l o.h) hu o.from_ hf o.b hb
 generalize s.fwrite (heldI l o.h) o.from_ o.b = r at c1
 generalize heldI l o.h = z at c0 h0 c1
 obtain ⟨e, s2⟩ := r
 dsimp only at c1 ⊢
 have c2 := z6 e
 obtain ⟨a0, a1, a2, a3, a4, a5, a6, a7, a8, a9, a10, a11, a12, a13, a14, a15, rfl⟩ := len16 hl
 refine ⟨.nils, .nils, (by split <;> exact .nils), (by split <;> exact .nils), ?_⟩
 by_cases he : e ≠ 0
 ·rw [if_pos he]
  refine zD Tryz.func76 rfl (by kernel_rfl) rfl fun F w0 β0 => ?_
  refine zE rfl ?_
  refine go ?_
  refine zH rfl rfl (zA [.o 0, .o 1, .o 2] rfl rfl (c0) rfl rfl rfl ⟨⟨rfl, rfl⟩, ⟨rfl, rfl⟩, ⟨rfl, rfl⟩, trivial⟩ rfl rfl rfl rfl) rfl ?_
  refine go ?_
  refine zF rfl (by simp [h0]) ?_
  refine go ?_
  refine yA 9 (dHb s2 [a0, a1, a2, a3, a4, a5, a6, a7, a8, a9, a10, a11, a12, a13, a14, a15] i o.b) (by kernel_rfl) (by kernel_rfl) ?_
  refine gdJ ?_
  refine yI rfl rfl rfl rfl rfl rfl (zA [.o 1, .o 2, .o 3] rfl rfl (c1) rfl rfl rfl ⟨⟨rfl, rfl⟩, ⟨rfl, rfl⟩, ⟨rfl, rfl⟩, trivial⟩ rfl rfl rfl rfl) rfl ?_
  refine gdJ ?_
  refine go ?_
  refine zG rfl (by simp [he]) ?_
  refine go ?_
  refine zH rfl rfl (zB rfl rfl (c2) rfl rfl rfl rfl) rfl ?_
  refine go ?_
  exact zC hT rfl rfl rfl
 ·rw [if_neg he]
  obtain rfl : e = 0 := by simpa using he
  refine zD Tryz.func76 rfl (by kernel_rfl) rfl fun F w0 β0 => ?_
  refine zE rfl ?_
  refine go ?_
  refine zH rfl rfl (zA [.o 0, .o 1, .o 2] rfl rfl (c0) rfl rfl rfl ⟨⟨rfl, rfl⟩, ⟨rfl, rfl⟩, ⟨rfl, rfl⟩, trivial⟩ rfl rfl rfl rfl) rfl ?_
  refine go ?_
  refine zF rfl (by simp [h0]) ?_
  refine go ?_
  refine yA 9 (dHb s2 [a0, a1, a2, a3, a4, a5, a6, a7, a8, a9, a10, a11, a12, a13, a14, a15] i o.b) (by kernel_rfl) (by kernel_rfl) ?_
  refine gdJ ?_
  refine yI rfl rfl rfl rfl rfl rfl (zA [.o 1, .o 2, .o 3] rfl rfl (c1) rfl rfl rfl ⟨⟨rfl, rfl⟩, ⟨rfl, rfl⟩, ⟨rfl, rfl⟩, trivial⟩ rfl rfl rfl rfl) rfl ?_
  refine gdJ ?_
  refine go ?_
  refine zH rfl rfl (zP hT rfl rfl (Rd.full (h := .o 3) (n := o.b.length) (rs := bv o.b) rfl (bv_length o.b))) rfl ?_
  rw [bv_length]
  refine go ?_
  exact zC hT rfl rfl rfl
theorem zTy : Con Tryz.prog 41 [.p (.int .u8 4)] [] (.fn 71 []) [] [] := by
 refine zD Tryz.func41 rfl (by kernel_rfl) rfl fun F w0 β0 => ?_
 refine zE rfl ?_
 refine go ?_
 exact zC hT rfl rfl rfl
theorem zTg : Con Tryz.prog 41 [.p (.int .u8 5)] [] (.fn 72 []) [] [] := by
 refine zD Tryz.func41 rfl (by kernel_rfl) rfl fun F w0 β0 => ?_
 refine zE rfl ?_
 refine go ?_
 exact zC hT rfl rfl rfl
theorem zV3 : Con Tryz.prog 41 [.p (.int .u8 6)] [] (.fn 73 []) [] [] := by
 refine zD Tryz.func41 rfl (by kernel_rfl) rfl fun F w0 β0 => ?_
 refine zE rfl ?_
 refine go ?_
 exact zC hT rfl rfl rfl
theorem zTl : Con Tryz.prog 41 [.p (.int .u8 7)] [] (.fn 74 []) [] [] := by
 refine zD Tryz.func41 rfl (by kernel_rfl) rfl fun F w0 β0 => ?_
 refine zE rfl ?_
 refine go ?_
 exact zC hT rfl rfl rfl
theorem zU2 : Con Tryz.prog 41 [.p (.int .u8 8)] [] (.fn 75 []) [] [] := by
 refine zD Tryz.func41 rfl (by kernel_rfl) rfl fun F w0 β0 => ?_
 refine zE rfl ?_
 refine go ?_
 exact zC hT rfl rfl rfl
theorem zUa : Con Tryz.prog 41 [.p (.int .u8 9)] [] (.fn 76 []) [] [] := by
 refine zD Tryz.func41 rfl (by kernel_rfl) rfl fun F w0 β0 => ?_
 refine zE rfl ?_
 refine go ?_
 exact zC hT rfl rfl rfl
theorem zRg : Con Tryz.prog 41 [.p (.int .u8 10)] [] (.fn 77 []) [] [] := by
 refine zD Tryz.func41 rfl (by kernel_rfl) rfl fun F w0 β0 => ?_
 refine zE rfl ?_
 refine go ?_
 exact zC hT rfl rfl rfl
theorem zRf : Con Tryz.prog 41 [.p (.int .u8 11)] [] (.fn 78 []) [] [] := by
 refine zD Tryz.func41 rfl (by kernel_rfl) rfl fun F w0 β0 => ?_
 refine zE rfl ?_
 refine go ?_
 exact zC hT rfl rfl rfl
theorem zRy : Con Tryz.prog 41 [.p (.int .u8 12)] [] (.fn 79 []) [] [] := by
 refine zD Tryz.func41 rfl (by kernel_rfl) rfl fun F w0 β0 => ?_
 refine zE rfl ?_
 refine go ?_
 exact zC hT rfl rfl rfl
theorem zQr : Con Tryz.prog 41 [.p (.int .u8 13)] [] (.fn 80 []) [] [] := by
 refine zD Tryz.func41 rfl (by kernel_rfl) rfl fun F w0 β0 => ?_
 refine zE rfl ?_
 refine go ?_
 exact zC hT rfl rfl rfl
theorem zRl : Con Tryz.prog 41 [.p (.int .u8 14)] [] (.fn 81 []) [] [] := by
 refine zD Tryz.func41 rfl (by kernel_rfl) rfl fun F w0 β0 => ?_
 refine zE rfl ?_
 refine go ?_
 exact zC hT rfl rfl rfl
theorem zR4 : Con Tryz.prog 41 [.p (.int .u8 15)] [] (.fn 82 []) [] [] := by
 refine zD Tryz.func41 rfl (by kernel_rfl) rfl fun F w0 β0 => ?_
 refine zE rfl ?_
 refine go ?_
 exact zC hT rfl rfl rfl
theorem zRh : Con Tryz.prog 41 [.p (.int .u8 16)] [] (.fn 83 []) [] [] := by
 refine zD Tryz.func41 rfl (by kernel_rfl) rfl fun F w0 β0 => ?_
 refine zE rfl ?_
 refine go ?_
 exact zC hT rfl rfl rfl
set_option maxHeartbeats 4000000 in
theorem zTa (k : Int) (hk : k < 4 ∨ 16 < k) : Con Tryz.prog 41 [.p (.int .u8 k)] [] (.fn 84 []) [] [] := by
 refine zD Tryz.func41 rfl (by kernel_rfl) rfl fun F w0 β0 => ?_
 refine zE rfl ?_
 refine go ?_
 refine zF rfl (by simp; omega) ?_
 refine go ?_
 refine zF rfl (by simp; omega) ?_
 refine go ?_
 refine zF rfl (by simp; omega) ?_
 refine go ?_
 refine zF rfl (by simp; omega) ?_
 refine go ?_
 refine zF rfl (by simp; omega) ?_
 refine go ?_
 refine zF rfl (by simp; omega) ?_
 refine go ?_
 refine zF rfl (by simp; omega) ?_
 refine go ?_
 refine zF rfl (by simp; omega) ?_
 refine go ?_
 refine zF rfl (by simp; omega) ?_
 refine go ?_
 refine zF rfl (by simp; omega) ?_
 refine go ?_
 refine zF rfl (by simp; omega) ?_
 refine go ?_
 refine zF rfl (by simp; omega) ?_
 refine go ?_
 refine zF rfl (by simp; omega) ?_
 refine go ?_
 exact zC hT rfl rfl rfl
theorem how_ok (k : Int) : ∃ f, Con Tryz.prog 41 [.p (.int .u8 k)] [] (.fn f []) [] [] ∧ ((k = 4 ∧ f = 71) ∨ (k = 5 ∧ f = 72) ∨ (k = 6 ∧ f = 73) ∨ (k = 7 ∧ f = 74) ∨ (k = 8 ∧ f = 75) ∨ (k = 9 ∧ f = 76) ∨ (k = 10 ∧ f = 77) ∨ (k = 11 ∧ f = 78) ∨ (k = 12 ∧ f = 79) ∨ (k = 13 ∧ f = 80) ∨ (k = 14 ∧ f = 81) ∨ (k = 15 ∧ f = 82) ∨ (k = 16 ∧ f = 83) ∨ ((k < 4 ∨ 16 < k) ∧ f = 84)) := by
 by_cases h4 : k = 4
 ·subst h4; exact ⟨_, zTy, .inl ⟨rfl, rfl⟩⟩
 by_cases h5 : k = 5
 ·subst h5; exact ⟨_, zTg, .inr (.inl ⟨rfl, rfl⟩)⟩
 by_cases h6 : k = 6
 ·subst h6; exact ⟨_, zV3, .inr (.inr (.inl ⟨rfl, rfl⟩))⟩
 by_cases h7 : k = 7
 ·subst h7; exact ⟨_, zTl, .inr (.inr (.inr (.inl ⟨rfl, rfl⟩)))⟩
 by_cases h8 : k = 8
 ·subst h8; exact ⟨_, zU2, .inr (.inr (.inr (.inr (.inl ⟨rfl, rfl⟩))))⟩
 by_cases h9 : k = 9
 ·subst h9; exact ⟨_, zUa, .inr (.inr (.inr (.inr (.inr (.inl ⟨rfl, rfl⟩)))))⟩
 by_cases h10 : k = 10
 ·subst h10; exact ⟨_, zRg, .inr (.inr (.inr (.inr (.inr (.inr (.inl ⟨rfl, rfl⟩))))))⟩
 by_cases h11 : k = 11
 ·subst h11; exact ⟨_, zRf, .inr (.inr (.inr (.inr (.inr (.inr (.inr (.inl ⟨rfl, rfl⟩)))))))⟩
 by_cases h12 : k = 12
 ·subst h12; exact ⟨_, zRy, .inr (.inr (.inr (.inr (.inr (.inr (.inr (.inr (.inl ⟨rfl, rfl⟩))))))))⟩
 by_cases h13 : k = 13
 ·subst h13; exact ⟨_, zQr, .inr (.inr (.inr (.inr (.inr (.inr (.inr (.inr (.inr (.inl ⟨rfl, rfl⟩)))))))))⟩
 by_cases h14 : k = 14
 ·subst h14; exact ⟨_, zRl, .inr (.inr (.inr (.inr (.inr (.inr (.inr (.inr (.inr (.inr (.inl ⟨rfl, rfl⟩))))))))))⟩
 by_cases h15 : k = 15
 ·subst h15; exact ⟨_, zR4, .inr (.inr (.inr (.inr (.inr (.inr (.inr (.inr (.inr (.inr (.inr (.inl ⟨rfl, rfl⟩)))))))))))⟩
 by_cases h16 : k = 16
 ·subst h16; exact ⟨_, zRh, .inr (.inr (.inr (.inr (.inr (.inr (.inr (.inr (.inr (.inr (.inr (.inr (.inl ⟨rfl, rfl⟩))))))))))))⟩
 exact ⟨_, zTa k (by omega), .inr (.inr (.inr (.inr (.inr (.inr (.inr (.inr (.inr (.inr (.inr (.inr (.inr ⟨by omega, rfl⟩))))))))))))⟩
structure Op20.ok (o : Op20) : Prop where
 n : -9223372036854775808 ≤ o.n ∧ o.n ≤ 9223372036854775807
 f : -9223372036854775808 ≤ o.from_ ∧ o.from_ ≤ 9223372036854775807
 b : o.b.length ≤ 140737488355328
theorem how_do {s : VS} {m : Nat} (h : VJ s m) (hm : m ≤ 90000) {l : List Int} (hl : l.length = 16) (hlu : ∀ x ∈ l, U32 x) (o : Op20) (ho : o.ok) {i : Int} (hi : U32 i) :
  ∃ f, Con Tryz.prog 41 [.p (.int .u8 o.kind)] [] (.fn f []) [] [] ∧ ((o.kind = 9 ∧ f = 76) ∨ (o.kind ≠ 9 ∧ DoOk f o anyD s l i)) := by
 obtain ⟨f, hf, hc⟩ := how_ok o.kind
 refine ⟨f, hf, ?_⟩
 rcases hc with ⟨hk, rfl⟩ | ⟨hk, rfl⟩ | ⟨hk, rfl⟩ | ⟨hk, rfl⟩ | ⟨hk, rfl⟩ | ⟨hk, rfl⟩ | ⟨hk, rfl⟩ | ⟨hk, rfl⟩ | ⟨hk, rfl⟩ | ⟨hk, rfl⟩ | ⟨hk, rfl⟩ | ⟨hk, rfl⟩ | ⟨hk, rfl⟩ | ⟨hk, rfl⟩
 ·exact .inr ⟨by omega, create_d h hm hl o hk hi⟩
 ·exact .inr ⟨by omega, mkdir_d h hm hl o hk hi⟩
 ·exact .inr ⟨by omega, open_d h hm hl o hk i⟩
 ·exact .inr ⟨by omega, shut_d h hm hl hlu o hk i⟩
 ·exact .inr ⟨by omega, read_d h hm hl hlu o hk i ho.f ho.n⟩
 ·exact .inl ⟨hk, rfl⟩
 ·exact .inr ⟨by omega, trunc_d h hm hl hlu o hk i ho.n⟩
 ·exact .inr ⟨by omega, rename_d h hm hl o hk hi⟩
 ·exact .inr ⟨by omega, link_d h hm hl o hk hi⟩
 ·exact .inr ⟨by omega, unlink_d h hm hl o hk hi⟩
 ·exact .inr ⟨by omega, rmdir_d h hm hl o hk hi⟩
 ·exact .inr ⟨by omega, zSd h hm hl o hk i⟩
 ·exact .inr ⟨by omega, stat_d h hm hl o hk i⟩
 ·exact .inr ⟨by omega, zV7 s hl o hk i⟩
end Go.Proofs.YtdnpkgakpiopgaaGreatDoor

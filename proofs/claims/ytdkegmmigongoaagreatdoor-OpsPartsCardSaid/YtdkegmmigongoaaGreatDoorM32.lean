import Derived.Test.YtdkegmmigongoaaGreatDoorGo
import Derived.Test.YtdkegmmigongoaaGreatDoorM31
import Derived.Test.YtdkegmmigongoaaGreatDoorM21
namespace Go.Proofs.YtdkegmmigongoaaGreatDoor
set_option maxRecDepth 20000
open Go.Awp Tr
namespace opsParts
theorem numb {s : VS} {l : List Int} {m : MF} {i : Nat} (d : D20 s l m (fun k => k < (2 + i : Nat)) i) (hi : i ≤ 100) (o : Op20) : (sdo s l o (2 + i : Nat)).1.e = 21 ∨ ∃ m', D20 (sdo s l o (2 + i : Nat)).2.1 (sdo s l o (2 + i : Nat)).2.2 m' (fun k => k < (2 + (i + 1) : Nat)) (i + 1) :=
 (d.step (Q := fun k => k < (2 + (i + 1) : Nat)) (by omega) o (j := (2 + i : Nat)) (by unfold U32; omega) (by omega) (by omega) (fun k h => by omega) (by omega)).imp_right fun ⟨_, _, h⟩ => ⟨_, h⟩
theorem ownP (o : Op20) (hl : o.b.length ≤ 140737488351232) : Con Tryz.prog 16 [oA20 o (.ps (bv o.b))] [] (opT o (.p (.ps (bv o.b)))) [] [] := own_ps o (.ps o.b) hl
def w9 (f : Int) (b : List UInt8) : Op20 := ⟨9, [], [], 0, f, 0, b⟩
theorem sdo9 (s : VS) (l : List Int) (f : Int) (b : List UInt8) (i : Int) : sdo s l (w9 f b) i = if heldI l 0 = 0 then (rs0 16, s, l) else if (s.fwrite (heldI l 0) f b).1 ≠ 0 then (rs0 (s.fwrite (heldI l 0) f b).1, (s.fwrite (heldI l 0) f b).2, l) else ({ rs0 0 with n := (b.length : Int) }, (s.fwrite (heldI l 0) f b).2, l) := by
 unfold sdo w9
 dsimp only
 rw [if_neg (by decide), if_neg (by decide), if_neg (by decide), if_neg (by decide), if_neg (by decide), if_pos rfl]
theorem parts20 {s : VS} {l : List Int} {m : MF} {P : Int → Prop} {i : Nat} (d : D20 s l m P i) (o k : Nat) (b : List UInt8) (hk : k ≤ b.length) (hb : b.length ≤ 1024) (ho : o + b.length ≤ 4096) :
  (sdo s l (w9 o b) 99).2.2 = l ∧ (sdo s l (w9 o (b.take k)) 99).2.2 = l ∧ (sdo (sdo s l (w9 o (b.take k)) 99).2.1 l (w9 (o + k : Nat) (b.drop k)) 99).2.2 = l ∧
  VJ (sdo s l (w9 o b) 99).2.1 (200 * i + 200) ∧ VJ (sdo s l (w9 o (b.take k)) 99).2.1 (200 * i + 200) ∧
  ((sdo s l (w9 o b) 99).1.e = 21 ∨ (sdo s l (w9 o (b.take k)) 99).1.e = 21 ∨ (sdo (sdo s l (w9 o (b.take k)) 99).2.1 l (w9 (o + k : Nat) (b.drop k)) 99).1.e = 21 ∨
   ((sdo s l (w9 o (b.take k)) 99).1.e = (sdo s l (w9 o b) 99).1.e ∧ (sdo (sdo s l (w9 o (b.take k)) 99).2.1 l (w9 (o + k : Nat) (b.drop k)) 99).1.e = (sdo s l (w9 o b) 99).1.e ∧
    (sdo s l (w9 o b) 99).1.n = (sdo s l (w9 o (b.take k)) 99).1.n + (sdo (sdo s l (w9 o (b.take k)) 99).2.1 l (w9 (o + k : Nat) (b.drop k)) 99).1.n ∧ 0 ≤ (sdo s l (w9 o (b.take k)) 99).1.n + (sdo (sdo s l (w9 o (b.take k)) 99).2.1 l (w9 (o + k : Nat) (b.drop k)) 99).1.n ∧ (sdo s l (w9 o b) 99).1.n ≤ 2000 ∧
    (sdo (sdo s l (w9 o (b.take k)) 99).2.1 l (w9 (o + k : Nat) (b.drop k)) 99).2.1.shown.row = (sdo s l (w9 o b) 99).2.1.shown.row ∧
    (∃ m' par', Rel (sdo s l (w9 o b) 99).2.1.shown.row m' par') ∧ VJ (sdo (sdo s l (w9 o (b.take k)) 99).2.1 l (w9 (o + k : Nat) (b.drop k)) 99).2.1 (200 * i + 400))) := by
 obtain ⟨par, R⟩ := d.r
 have hu := heldI_u d.l.2 0
 have v1 := sdo_vj d.v R l (w9 o b) 99
 have v2 := sdo_vj d.v R l (w9 o (b.take k)) 99
 have hk2 : (b.take k).length = k := by rw [List.length_take]; omega
 have hk3 : (b.drop k).length = b.length - k := List.length_drop
 by_cases h0 : heldI l 0 = 0
 ·have e : ∀ (s : VS) (f : Int) (b : List UInt8), sdo s l (w9 f b) 99 = (rs0 16, s, l) := fun s f b => by rw [sdo9, if_pos h0]
  rw [e s o (b.take k)] at v2 ⊢
  rw [e s o b] at v1 ⊢
  dsimp only
  rw [e]
  exact ⟨rfl, rfl, rfl, v1, v2, .inr (.inr (.inr ⟨rfl, rfl, (by show (0 : Int) = 0 + 0; decide), (by show (0 : Int) ≤ 0 + 0; decide), (by show (0 : Int) ≤ 2000; decide), rfl, ⟨m, par, R⟩, v1.mono (by omega)⟩))⟩
 have e : ∀ (s : VS) (f : Int) (b : List UInt8), sdo s l (w9 f b) 99 = if (s.fwrite (heldI l 0) f b).1 ≠ 0 then (rs0 (s.fwrite (heldI l 0) f b).1, (s.fwrite (heldI l 0) f b).2, l) else ({ rs0 0 with n := (b.length : Int) }, (s.fwrite (heldI l 0) f b).2, l) := fun s f b => by rw [sdo9, if_neg h0]
 have ee : ∀ (s : VS) (f : Int) (b : List UInt8), (sdo s l (w9 f b) 99).1.e = (s.fwrite (heldI l 0) f b).1 ∧ (sdo s l (w9 f b) 99).2.1 = (s.fwrite (heldI l 0) f b).2 ∧ (sdo s l (w9 f b) 99).2.2 = l ∧ (sdo s l (w9 f b) 99).1.n = if (s.fwrite (heldI l 0) f b).1 ≠ 0 then 0 else (b.length : Int) := fun s f b => by
  rw [e]
  split
  ·exact ⟨rfl, rfl, rfl, rfl⟩
  ·rename_i hz
   have hz : (s.fwrite (heldI l 0) f b).1 = 0 := by simpa using hz
   exact ⟨hz.symm, rfl, rfl, rfl⟩
 obtain ⟨a1, a2, a3, a4⟩ := ee s o b
 obtain ⟨b1, b2, b3, b4⟩ := ee s o (b.take k)
 have hv2 := fwrite_ok d.v (heldI l 0) o (b.take k)
 rw [a2] at v1
 rw [b2] at v2
 rw [b2]
 obtain ⟨c1, c2, c3, c4⟩ := ee (s.fwrite (heldI l 0) o (b.take k)).2 (o + k : Nat) (b.drop k)
 rw [a1, a2, a3, a4, b1, b3, b4, c1, c2, c3, c4]
 refine ⟨rfl, rfl, rfl, v1, v2, ?_⟩
 by_cases q0 : (s.fwrite (heldI l 0) o b).1 = 21
 ·exact .inl q0
 by_cases q1 : (s.fwrite (heldI l 0) o (b.take k)).1 = 21
 ·exact .inr (.inl q1)
 by_cases q2 : ((s.fwrite (heldI l 0) o (b.take k)).2.fwrite (heldI l 0) (o + k : Nat) (b.drop k)).1 = 21
 ·exact .inr (.inr (.inl q2))
 obtain ⟨f1, f2, f3, f4⟩ := parts_row d.v R hu o k b hk hb ho q0 q1 q2
 have R1 := ((fwrite_sim d.v R hu o b).resolve_left q0).2
 have v3 := fwrite_ok hv2 (heldI l 0) (o + k : Nat) (b.drop k)
 refine .inr (.inr (.inr ⟨f1, f2, ?_, ?_, ?_, f4, ⟨_, _, R1⟩, v3.mono (by omega)⟩))
 ·rw [f1, f2]
  split
  ·rfl
  ·rw [hk2, hk3]; omega
 ·rw [f1, f2]
  split
  ·decide
  ·omega
 ·split
  ·decide
  ·omega
structure St (l : List POp) where
 i : Nat
 h : i ≤ l.length
 s : VS
 k : List Int
 m : MF
 f0 : Int
 d : D20 s k m (fun k => k < (2 + i : Nat)) i
end opsParts
end Go.Proofs.YtdkegmmigongoaaGreatDoor

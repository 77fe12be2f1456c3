import Derived.Test.YtdnpkgakpiopgaaGreatDoorGo
import Derived.Test.YtdnpkgakpiopgaaGreatDoorM23
import Derived.Test.YtdnpkgakpiopgaaGreatDoorM1
namespace Go.Proofs.YtdnpkgakpiopgaaGreatDoor
set_option maxRecDepth 20000
open Go.Awp Tr
def MF.al (m : MF) (P : Int → Prop) : Prop := ∀ x ∈ m, P x.i
theorem MF.al.mono {m : MF} {P Q : Int → Prop} (h : m.al P) (hc : ∀ i, P i → Q i) : m.al Q := fun x hx => hc _ (h x hx)
theorem MF.al.with {m : MF} {P : Int → Prop} (h : m.al P) {x : MN} (hx : P x.i) : (m.with x).al P := fun y hy => by
 rcases zCw hy with rfl | hy
 ·exact hx
 ·exact h y hy
theorem MF.al.without {m : MF} {P : Int → Prop} (h : m.al P) (j : Int) : (m.without j).al P := fun y hy => h y (List.mem_filter.1 hy).1
theorem MF.al.linked {m : MF} {P : Int → Prop} (h : m.al P) (j b : Int) : (m.linked j b).al P := by
 unfold MF.linked; split
 ·rename_i x hx; exact h.with (h x (yY hx).1)
 ·exact h
theorem MF.al.named {m : MF} {P : Int → Prop} (h : m.al P) (d : Int) (nm : List UInt8) (j : Int) : (m.named d nm j).al P := by
 unfold MF.named; split
 ·rename_i x hx; exact h.with (h x (yY hx).1)
 ·exact h
theorem MF.al.rmv {m : MF} {P : Int → Prop} (h : m.al P) (b : MS) : (m.rmv b).2.al P := by
 unfold MF.rmv
 split
 ·exact h
 ·split
  ·exact h
  ·split
   ·exact h
   ·exact ((h.without _).linked _ _).named _ _ _
theorem MF.al.unl {m : MF} {P : Int → Prop} (h : m.al P) (b : MS) : (m.unl b).2.al P := by
 unfold MF.unl
 split
 ·exact h
 ·split
  ·exact h
  ·split
   ·exact (h.without _).named _ _ _
   ·exact (h.linked _ _).named _ _ _
theorem MF.al.moved {m : MF} {P : Int → Prop} (h : m.al P) (s t : MS) (b : Bool) : (m.moved s t b).al P := by
 unfold MF.moved
 split
 ·exact (((h.named _ _ _).named _ _ _).linked _ _).linked _ _
 ·exact (h.named _ _ _).named _ _ _
theorem MF.al.make {m : MF} {P : Int → Prop} (h : m.al P) (p : List UInt8) (k : Int) {i : Int} (hi : P i) : (m.make p k i).2.al P := by
 unfold MF.make
 split
 ·exact h
 split
 ·exact h
 dsimp only
 split
 ·exact (h.with hi).named _ _ _
 ·exact ((h.with hi).linked _ _).named _ _ _
theorem MF.al.remove {m : MF} {P : Int → Prop} (h : m.al P) (p : List UInt8) : (m.remove p).2.al P := by
 unfold MF.remove
 repeat' split
 ·exact h
 ·exact h
 ·exact h
 ·exact h.rmv _
theorem MF.al.unlink {m : MF} {P : Int → Prop} (h : m.al P) (p : List UInt8) : (m.unlink p).2.al P := by
 unfold MF.unlink
 repeat' split
 ·exact h
 ·exact h
 ·exact h.unl _
theorem MF.al.link {m : MF} {P : Int → Prop} (h : m.al P) (o p : List UInt8) : (m.link o p).2.al P := by
 unfold MF.link
 split
 ·exact h
 split
 ·exact h
 split
 ·exact h
 split
 ·exact h
 split
 ·exact h
 split
 ·exact h
 split
 ·exact h
 exact (h.linked _ _).named _ _ _
theorem MF.al.rename {m : MF} {P : Int → Prop} (h : m.al P) (o p : List UInt8) : (m.rename o p).2.al P := by
 unfold MF.rename
 split
 ·exact h
 split
 ·exact h
 split
 ·exact h
 split
 ·exact h
 split
 ·exact h
 split
 ·exact h
 split
 ·exact h
 split
 ·exact h.moved _ _ _
 have hq : (if m.kind (m.findP o).1.i = 2 then m.rmv (m.findP p).1 else m.unl (m.findP p).1).2.al P := by
  split
  ·exact h.rmv _
  ·exact h.unl _
 generalize (if m.kind (m.findP o).1.i = 2 then m.rmv (m.findP p).1 else m.unl (m.findP p).1) = q at hq ⊢
 dsimp only
 split
 ·exact h
 ·exact MF.al.moved hq _ _ _
theorem MF.al.none {m : MF} {P : Int → Prop} (h : m.al P) {i : Int} (hi : ¬ P i) : m.at i = none := by
 cases e : m.at i with
 | none => rfl
 | some x =>
  have h1 := yY e
  have := h x h1.1
  rw [h1.2] at this
  exact absurd this hi
theorem MF.al.fwrite {m : MF} {P : Int → Prop} (h : m.al P) (i o : Int) (b : List UInt8) : (m.fwrite i o b).2.al P := by
 unfold MF.fwrite
 split
 ·exact h
 rename_i x hx
 split
 ·exact h
 split
 ·exact h
 split
 ·exact h
 ·exact h.with (h x (yY (jX hx).1).1)
theorem MF.al.ftrunc {m : MF} {P : Int → Prop} (h : m.al P) (i z : Int) : (m.ftrunc i z).2.al P := by
 unfold MF.ftrunc
 split
 ·exact h
 rename_i x hx
 split
 ·exact h
 split
 ·exact h
 ·exact h.with (h x (yY (jX hx).1).1)
theorem zVf {m : MF} {P : Int → Prop} (h : m.al P) (l : List Int) (o : Op20) {i : Int} (hi : P i) : (mdo m l o i).2.1.al P := by
 unfold mdo
 by_cases k4 : o.kind = 4
 ·rw [if_pos k4]
  exact h.make _ _ hi
 rw [if_neg k4]
 by_cases k5 : o.kind = 5
 ·rw [if_pos k5]
  exact h.make _ _ hi
 rw [if_neg k5]
 by_cases k6 : o.kind = 6
 ·rw [if_pos k6]
  repeat' split
  all_goals exact h
 rw [if_neg k6]
 by_cases k7 : o.kind = 7
 ·rw [if_pos k7]
  split <;> exact h
 rw [if_neg k7]
 by_cases k8 : o.kind = 8
 ·rw [if_pos k8]
  split <;> exact h
 rw [if_neg k8]
 by_cases k9 : o.kind = 9
 ·rw [if_pos k9]
  split
  ·exact h
  split
  ·exact h.fwrite _ _ _
  ·exact h.fwrite _ _ _
 rw [if_neg k9]
 by_cases k10 : o.kind = 10
 ·rw [if_pos k10]
  split
  ·exact h
  ·exact h.ftrunc _ _
 rw [if_neg k10]
 by_cases k11 : o.kind = 11
 ·rw [if_pos k11]
  exact h.rename _ _
 rw [if_neg k11]
 by_cases k12 : o.kind = 12
 ·rw [if_pos k12]
  exact h.link _ _
 rw [if_neg k12]
 by_cases k13 : o.kind = 13
 ·rw [if_pos k13]
  exact h.unlink _
 rw [if_neg k13]
 by_cases k14 : o.kind = 14
 ·rw [if_pos k14]
  exact h.remove _
 rw [if_neg k14]
 by_cases k15 : o.kind = 15
 ·rw [if_pos k15]
  exact h
 rw [if_neg k15]
 by_cases k16 : o.kind = 16
 ·rw [if_pos k16]
  exact h
 rw [if_neg k16]
 exact h
theorem zK3 {m : MF} {c : Nat} (h : m.wk c) (i o : Int) (b : List UInt8) : (m.fwrite i o b).2.wk c := by
 unfold MF.fwrite
 split
 ·exact h
 rename_i x hx
 split
 ·exact h
 split
 ·exact h
 split
 ·exact h
 ·exact zMl h (jX hx).1 _
theorem zUp {m : MF} {c : Nat} (h : m.wk c) (i z : Int) : (m.ftrunc i z).2.wk c := by
 unfold MF.ftrunc
 split
 ·exact h
 rename_i x hx
 split
 ·exact h
 split
 ·exact h
 ·exact zMl h (jX hx).1 _
theorem mdo_wk {m : MF} {c : Nat} (h : m.wk c) (hc : 2 ≤ c) (l : List Int) (o : Op20) (i : Int) : (mdo m l o i).2.1.wk (c + 6) := by
 have h0 : m.wk (c + 6) := h.mono (by omega)
 unfold mdo
 by_cases k4 : o.kind = 4
 ·rw [if_pos k4]
  exact zI8 h hc _ _ _
 rw [if_neg k4]
 by_cases k5 : o.kind = 5
 ·rw [if_pos k5]
  exact zI8 h hc _ _ _
 rw [if_neg k5]
 by_cases k6 : o.kind = 6
 ·rw [if_pos k6]
  repeat' split
  all_goals exact h0
 rw [if_neg k6]
 by_cases k7 : o.kind = 7
 ·rw [if_pos k7]
  split <;> exact h0
 rw [if_neg k7]
 by_cases k8 : o.kind = 8
 ·rw [if_pos k8]
  split <;> exact h0
 rw [if_neg k8]
 by_cases k9 : o.kind = 9
 ·rw [if_pos k9]
  split
  ·exact h0
  split
  ·exact zK3 h0 _ _ _
  ·exact zK3 h0 _ _ _
 rw [if_neg k9]
 by_cases k10 : o.kind = 10
 ·rw [if_pos k10]
  split
  ·exact h0
  ·exact zUp h0 _ _
 rw [if_neg k10]
 by_cases k11 : o.kind = 11
 ·rw [if_pos k11]
  exact zK9 h _ _
 rw [if_neg k11]
 by_cases k12 : o.kind = 12
 ·rw [if_pos k12]
  exact zSy h _ _
 rw [if_neg k12]
 by_cases k13 : o.kind = 13
 ·rw [if_pos k13]
  exact zL8 h _
 rw [if_neg k13]
 by_cases k14 : o.kind = 14
 ·rw [if_pos k14]
  exact zKu h _
 rw [if_neg k14]
 by_cases k15 : o.kind = 15
 ·rw [if_pos k15]
  exact h0
 rw [if_neg k15]
 by_cases k16 : o.kind = 16
 ·rw [if_pos k16]
  exact h0
 rw [if_neg k16]
 exact h0
theorem lead_u (s : VS) (p : List UInt8) : U32 (s.lead p).1.1 ∧ Nd.ok (s.lead p).1.2 := by
 obtain ⟨h1, h2, h3⟩ := (zEr s p).1
 unfold VS.lead
 split
 ·exact ⟨by dsimp only; decide, zO6⟩
 split
 ·exact ⟨by dsimp only; decide, zO6⟩
 ·exact ⟨h2, h3⟩
theorem sdo_vj {s : VS} {n : Nat} (h : VJ s n) {m : MF} {par : Int → Int} (R : Rel s.shown.row m par) (l : List Int) (o : Op20) (i : Int) : VJ (sdo s l o i).2.1 (n + 200) := by
 have h0 : VJ s (n + 200) := h.mono (by omega)
 have hp : VJ (s.rdp o.path) (n + 200) := (h.rdp o.path).mono (by omega)
 unfold sdo
 by_cases k4 : o.kind = 4
 ·rw [if_pos k4]
  exact zIu h _ _ _
 rw [if_neg k4]
 by_cases k5 : o.kind = 5
 ·rw [if_pos k5]
  exact zIu h _ _ _
 rw [if_neg k5]
 by_cases k6 : o.kind = 6
 ·rw [if_pos k6]
  split
  ·exact hp
  split
  ·exact hp
  split
  ·exact hp
  ·exact hp
 rw [if_neg k6]
 by_cases k7 : o.kind = 7
 ·rw [if_pos k7]
  split <;> exact h0
 rw [if_neg k7]
 by_cases k8 : o.kind = 8
 ·rw [if_pos k8]
  split
  ·exact h0
  ·unfold VS.fread
   split
   ·exact (h.rd _).mono (by omega)
   split
   ·exact (h.rd _).mono (by omega)
   ·exact (h.rd _).mono (by omega)
 rw [if_neg k8]
 by_cases k9 : o.kind = 9
 ·rw [if_pos k9]
  split
  ·exact h0
  split
  ·exact (zGg h _ _ _).mono (by omega)
  ·exact (zGg h _ _ _).mono (by omega)
 rw [if_neg k9]
 by_cases k10 : o.kind = 10
 ·rw [if_pos k10]
  split
  ·exact h0
  ·exact (zL0 h _ _).mono (by omega)
 rw [if_neg k10]
 by_cases k11 : o.kind = 11
 ·rw [if_pos k11]
  exact zK6 h R _ _
 rw [if_neg k11]
 by_cases k12 : o.kind = 12
 ·rw [if_pos k12]
  exact zSn h _ _
 rw [if_neg k12]
 by_cases k13 : o.kind = 13
 ·rw [if_pos k13]
  exact zLq h R _
 rw [if_neg k13]
 by_cases k14 : o.kind = 14
 ·rw [if_pos k14]
  exact zKh h _
 rw [if_neg k14]
 by_cases k15 : o.kind = 15
 ·rw [if_pos k15]
  exact zPz h _
 rw [if_neg k15]
 by_cases k16 : o.kind = 16
 ·rw [if_pos k16]
  exact hp
 rw [if_neg k16]
 exact h0
theorem sdo_l {l : List Int} (hl : l.length = 16 ∧ ∀ x ∈ l, U32 x) (s : VS) (o : Op20) (i : Int) : (sdo s l o i).2.2.length = 16 ∧ ∀ x ∈ (sdo s l o i).2.2, U32 x := by
 have hset : ∀ (k : Nat) (y : Int), U32 y → (l.set k y).length = 16 ∧ ∀ x ∈ l.set k y, U32 x := fun k y hy =>
  ⟨by rw [List.length_set]; exact hl.1, fun x hx => by
   rcases List.mem_or_eq_of_mem_set hx with h | h
   ·exact hl.2 x h
   ·rw [h]; exact hy⟩
 unfold sdo
 by_cases k4 : o.kind = 4
 ·rw [if_pos k4]
  exact hl
 rw [if_neg k4]
 by_cases k5 : o.kind = 5
 ·rw [if_pos k5]
  exact hl
 rw [if_neg k5]
 by_cases k6 : o.kind = 6
 ·rw [if_pos k6]
  split
  ·exact hl
  split
  ·exact hl
  split
  ·exact hl
  ·exact hset _ _ (lead_u s o.path).1
 rw [if_neg k6]
 by_cases k7 : o.kind = 7
 ·rw [if_pos k7]
  split
  ·exact hl
  ·exact hset _ _ (by decide)
 rw [if_neg k7]
 by_cases k8 : o.kind = 8
 ·rw [if_pos k8]
  split <;> exact hl
 rw [if_neg k8]
 by_cases k9 : o.kind = 9
 ·rw [if_pos k9]
  split
  ·exact hl
  split <;> exact hl
 rw [if_neg k9]
 by_cases k10 : o.kind = 10
 ·rw [if_pos k10]
  split <;> exact hl
 rw [if_neg k10]
 by_cases k11 : o.kind = 11
 ·rw [if_pos k11]
  exact hl
 rw [if_neg k11]
 by_cases k12 : o.kind = 12
 ·rw [if_pos k12]
  exact hl
 rw [if_neg k12]
 by_cases k13 : o.kind = 13
 ·rw [if_pos k13]
  exact hl
 rw [if_neg k13]
 by_cases k14 : o.kind = 14
 ·rw [if_pos k14]
  exact hl
 rw [if_neg k14]
 by_cases k15 : o.kind = 15
 ·rw [if_pos k15]
  exact hl
 rw [if_neg k15]
 by_cases k16 : o.kind = 16
 ·rw [if_pos k16]
  exact hl
 rw [if_neg k16]
 exact hl
structure D20 (s : VS) (l : List Int) (m : MF) (P : Int → Prop) (i : Nat) : Prop where
 v : VJ s (200 * i)
 r : ∃ par, Rel s.shown.row m par
 w : m.wk (6 * i + 2)
 p : m.al P
 l : l.length = 16 ∧ ∀ x ∈ l, U32 x
def noH : List Int := List.replicate 16 0
theorem D20.new {P : Int → Prop} (h1 : P 1) : D20 (VS.new .nil) noH newM P 0 :=
 ⟨VJ.new (by simp [row, Rises]) (Nat.le_refl _) (by simp [row]), ⟨_, Rel.new⟩,
  ⟨by simp [newM], fun x hx => by rw [show x = ⟨1, 2, 2, [], []⟩ by simpa [newM] using hx]; simp, fun x hx => by rw [show x = ⟨1, 2, 2, [], []⟩ by simpa [newM] using hx]; simp, fun x hx => by rw [show x = ⟨1, 2, 2, [], []⟩ by simpa [newM] using hx]; simp [Rises]⟩,
  fun x hx => by rw [show x = ⟨1, 2, 2, [], []⟩ by simpa [newM] using hx]; exact h1, by decide, fun x hx => by rw [List.eq_of_mem_replicate hx]; decide⟩
theorem D20.step {s : VS} {l : List Int} {m : MF} {P Q : Int → Prop} {i : Nat} (d : D20 s l m P i) (hi : i ≤ 200) (o : Op20) {j : Int} (hj : U32 j) (hj0 : j ≠ 0) (hP : ¬ P j) (hQ : ∀ k, P k → Q k) (hQj : Q j) :
  (sdo s l o j).1.e = 21 ∨ ((sdo s l o j).1 = (mdo m l o j).1 ∧ (sdo s l o j).2.2 = (mdo m l o j).2.2 ∧ D20 (sdo s l o j).2.1 (sdo s l o j).2.2 (mdo m l o j).2.1 Q (i + 1)) := by
 obtain ⟨par, R⟩ := d.r
 refine (zO8 d.v R d.w (by omega) (by omega) d.l.2 o hj hj0 (d.p.none hP)).imp_right fun ⟨h1, h2, h3⟩ => ⟨h1, h2, ?_⟩
 exact ⟨(sdo_vj d.v R l o j).mono (by omega), h3, (mdo_wk d.w (by omega) l o j).mono (by omega), zVf (d.p.mono hQ) l o hQj, sdo_l d.l s o j⟩
section
variable (g : Int → Int)
def renE (e : List KV) : List KV := e.map fun y => (y.1, beB 4 (g (beV y.2)))
def renN (x : MN) : MN := ⟨g x.i, x.k, x.n, x.b, renE g x.e⟩
def renM (m : MF) : MF := m.map (renN g)
structure Ren : Prop where
 inj : ∀ a b, g a = g b → a = b
 u : ∀ a, U32 a → U32 (g a)
 h0 : g 0 = 0
 h1 : g 1 = 1
end
section
variable {g : Int → Int}
theorem Ren.iff (hg : Ren g) (a b : Int) : g a = g b ↔ a = b := ⟨hg.inj a b, fun h => by rw [h]⟩
theorem Ren.z (hg : Ren g) (a : Int) : g a = 0 ↔ a = 0 := by rw [← hg.iff a 0, hg.h0]
theorem Ren.o (hg : Ren g) (a : Int) : g a = 1 ↔ a = 1 := by rw [← hg.iff a 1, hg.h1]
end
section
variable {g : Int → Int}
end
structure AS where
 B : List UInt8
 fs : List (Int × List UInt8)
def AS.fst (s : AS) (i : Int) : Option (List UInt8) := (s.fs.find? fun p => p.1 == i).map (·.2)
section
variable {g : Int → Int}
end
end Go.Proofs.YtdnpkgakpiopgaaGreatDoor

import Derived.Test.YtdkegmmigongoaaGreatDoorGo
import Derived.Test.YtdkegmmigongoaaGreatDoorM22
import Derived.Test.YtdkegmmigongoaaGreatDoorM19
import Derived.Test.YtdkegmmigongoaaGreatDoorM20
import Derived.Test.YtdkegmmigongoaaGreatDoorM25
import Derived.Test.YtdkegmmigongoaaGreatDoorM24
namespace Go.Proofs.YtdkegmmigongoaaGreatDoor
set_option maxRecDepth 20000
open Go.Awp Tr
structure Op20 where
 kind : Int
 path : List UInt8
 other : List UInt8
 h : Int
 from_ : Int
 n : Int
 b : List UInt8
structure RS where
 e : Int
 n : Int
 data : List UInt8
 names : List (List UInt8)
 st : Nd
def rs0 (e : Int) : RS := ⟨e, 0, [], [], (0, 0, 0, 0)⟩
def heldI (l : List Int) (h : Int) : Int := if h < 0 ∨ h ≥ 16 then 0 else l.getD h.toNat 0
def freeH : List Int → Nat → Int
 | [], _ => -1
 | x :: r, i => if x = 0 then (i : Int) else freeH r (i + 1)
def VS.lead (s : VS) (p : List UInt8) : (Int × Nd) × Int :=
 if (s.find p).2.1 ≠ 0 then ((0, (0, 0, 0, 0)), (s.find p).2.1) else if (s.find p).1.i = 0 then ((0, (0, 0, 0, 0)), 10) else (((s.find p).1.i, (s.find p).1.n), 0)
def sdo (s : VS) (l : List Int) (o : Op20) (i : Int) : RS × VS × List Int :=
 if o.kind = 4 then (rs0 (s.make o.path 1 i).1, (s.make o.path 1 i).2, l)
 else if o.kind = 5 then (rs0 (s.make o.path 2 i).1, (s.make o.path 2 i).2, l)
 else if o.kind = 6 then
  if (s.lead o.path).2 ≠ 0 then (rs0 (s.lead o.path).2, s.rdp o.path, l) else if (s.lead o.path).1.2.1 ≠ 1 then (rs0 13, s.rdp o.path, l) else if freeH l 0 < 0 then (rs0 20, s.rdp o.path, l)
  else ({ rs0 0 with n := freeH l 0 }, s.rdp o.path, l.set (freeH l 0).toNat (s.lead o.path).1.1)
 else if o.kind = 7 then (if heldI l o.h = 0 then (rs0 16, s, l) else (rs0 0, s, l.set o.h.toNat 0))
 else if o.kind = 8 then (if heldI l o.h = 0 then (rs0 16, s, l) else (⟨(s.fread (heldI l o.h) o.from_ o.n).1.2, ((s.fread (heldI l o.h) o.from_ o.n).1.1.length : Int), (s.fread (heldI l o.h) o.from_ o.n).1.1, [], (0, 0, 0, 0)⟩, (s.fread (heldI l o.h) o.from_ o.n).2, l))
 else if o.kind = 9 then (if heldI l o.h = 0 then (rs0 16, s, l) else if (s.fwrite (heldI l o.h) o.from_ o.b).1 ≠ 0 then (rs0 (s.fwrite (heldI l o.h) o.from_ o.b).1, (s.fwrite (heldI l o.h) o.from_ o.b).2, l) else ({ rs0 0 with n := (o.b.length : Int) }, (s.fwrite (heldI l o.h) o.from_ o.b).2, l))
 else if o.kind = 10 then (if heldI l o.h = 0 then (rs0 16, s, l) else (rs0 (s.ftrunc (heldI l o.h) o.n).1, (s.ftrunc (heldI l o.h) o.n).2, l))
 else if o.kind = 11 then (rs0 (s.rename o.path o.other).1, (s.rename o.path o.other).2, l)
 else if o.kind = 12 then (rs0 (s.link o.path o.other).1, (s.link o.path o.other).2, l)
 else if o.kind = 13 then (rs0 (s.unlink o.path).1, (s.unlink o.path).2, l)
 else if o.kind = 14 then (rs0 (s.remove o.path).1, (s.remove o.path).2, l)
 else if o.kind = 15 then ({ rs0 (s.dlist o.path).1.2 with names := (s.dlist o.path).1.1 }, (s.dlist o.path).2, l)
 else if o.kind = 16 then ({ rs0 (s.lead o.path).2 with st := ((s.lead o.path).1.2.1, (s.lead o.path).1.2.2.1, (s.lead o.path).1.2.2.2.1, 0) }, s.rdp o.path, l)
 else (rs0 28, s, l)
def MF.stat (f : MF) (p : List UInt8) : Nd × Int :=
 if (f.findP p).2 ≠ 0 then ((0, 0, 0, 0), (f.findP p).2) else if (f.findP p).1.i = 0 then ((0, 0, 0, 0), 10) else match f.at (f.findP p).1.i with
  | some x => ((x.k, x.n, (x.b.length : Int), 0), 0)
  | none => ((0, 0, 0, 0), 0)
def mdo (f : MF) (l : List Int) (o : Op20) (i : Int) : RS × MF × List Int :=
 if o.kind = 4 then (rs0 (f.make o.path 1 i).1, (f.make o.path 1 i).2, l)
 else if o.kind = 5 then (rs0 (f.make o.path 2 i).1, (f.make o.path 2 i).2, l)
 else if o.kind = 6 then
  if (f.findP o.path).2 ≠ 0 then (rs0 (f.findP o.path).2, f, l) else if (f.findP o.path).1.i = 0 then (rs0 10, f, l) else if f.kind (f.findP o.path).1.i ≠ 1 then (rs0 13, f, l) else if freeH l 0 < 0 then (rs0 20, f, l)
  else ({ rs0 0 with n := freeH l 0 }, f, l.set (freeH l 0).toNat (f.findP o.path).1.i)
 else if o.kind = 7 then (if heldI l o.h = 0 then (rs0 16, f, l) else (rs0 0, f, l.set o.h.toNat 0))
 else if o.kind = 8 then (if heldI l o.h = 0 then (rs0 16, f, l) else (⟨(f.fread (heldI l o.h) o.from_ o.n).2, ((f.fread (heldI l o.h) o.from_ o.n).1.length : Int), (f.fread (heldI l o.h) o.from_ o.n).1, [], (0, 0, 0, 0)⟩, f, l))
 else if o.kind = 9 then (if heldI l o.h = 0 then (rs0 16, f, l) else if (f.fwrite (heldI l o.h) o.from_ o.b).1 ≠ 0 then (rs0 (f.fwrite (heldI l o.h) o.from_ o.b).1, (f.fwrite (heldI l o.h) o.from_ o.b).2, l) else ({ rs0 0 with n := (o.b.length : Int) }, (f.fwrite (heldI l o.h) o.from_ o.b).2, l))
 else if o.kind = 10 then (if heldI l o.h = 0 then (rs0 16, f, l) else (rs0 (f.ftrunc (heldI l o.h) o.n).1, (f.ftrunc (heldI l o.h) o.n).2, l))
 else if o.kind = 11 then (rs0 (f.rename o.path o.other).1, (f.rename o.path o.other).2, l)
 else if o.kind = 12 then (rs0 (f.link o.path o.other).1, (f.link o.path o.other).2, l)
 else if o.kind = 13 then (rs0 (f.unlink o.path).1, (f.unlink o.path).2, l)
 else if o.kind = 14 then (rs0 (f.remove o.path).1, (f.remove o.path).2, l)
 else if o.kind = 15 then ({ rs0 (f.list o.path).2 with names := (f.list o.path).1 }, f, l)
 else if o.kind = 16 then ({ rs0 (f.stat o.path).2 with st := (f.stat o.path).1 }, f, l)
 else (rs0 28, f, l)
theorem lead_sim {s : VS} {n : Nat} (h : VJ s n) {m : MF} {par : Int → Int} (R : Rel s.shown.row m par) (p : List UInt8) :
  (s.lead p).2 = (m.stat p).2 ∧ ((s.lead p).1.2.1, (s.lead p).1.2.2.1, (s.lead p).1.2.2.2.1, (0 : Int)) = (m.stat p).1 ∧ (s.lead p).1.1 = (if (m.stat p).2 = 0 then (m.findP p).1.i else 0) ∧ ((s.lead p).2 = 0 → (m.findP p).2 = 0 ∧ (m.findP p).1.i ≠ 0 ∧ (s.lead p).1.2.1 = m.kind (m.findP p).1.i) ∧ ((s.lead p).2 ≠ 0 → (m.findP p).2 ≠ 0 ∧ (s.lead p).2 = (m.findP p).2 ∨ (m.findP p).2 = 0 ∧ (m.findP p).1.i = 0 ∧ (s.lead p).2 = 10) := by
 obtain ⟨he, hs⟩ := find_sim h R p
 unfold VS.lead MF.stat
 rw [he]
 by_cases h0 : (m.findP p).2 ≠ 0
 ·rw [if_pos h0, if_pos h0]
  refine ⟨rfl, rfl, ?_, fun q => absurd q h0, fun _ => .inl ⟨h0, rfl⟩⟩
  rw [if_neg h0]
 rw [if_neg h0, if_neg h0]
 have h0 : (m.findP p).2 = 0 := by simpa using h0
 have hs := hs h0
 rw [hs.hi]
 by_cases h1 : (m.findP p).1.i = 0
 ·rw [if_pos h1, if_pos h1]
  exact ⟨rfl, rfl, by simp, fun q => absurd q (by decide), fun _ => .inr ⟨h0, h1, rfl⟩⟩
 rw [if_neg h1, if_neg h1]
 obtain ⟨x, g1, g2⟩ := hs.hn (by rw [hs.hi]; exact h1)
 rw [hs.hi] at g1
 rw [g1]
 dsimp only
 rw [g2]
 refine ⟨rfl, rfl, by simp, fun _ => ⟨h0, h1, ?_⟩, fun q => absurd rfl q⟩
 unfold MF.kind
 rw [g1]
theorem heldI_u {l : List Int} (hl : ∀ x ∈ l, U32 x) (h : Int) : U32 (heldI l h) := by
 unfold heldI
 split
 ·decide
 ·rw [List.getD_eq_getElem?_getD]
  cases hx : l[h.toNat]? with
  | none => decide
  | some x => exact hl x (List.mem_of_getElem? hx)
theorem do20_sim {s : VS} {n c : Nat} (h : VJ s n) {m : MF} {par : Int → Int} (R : Rel s.shown.row m par) (hw : m.wk c) (hc2 : 2 ≤ c) (hc : c ≤ 90000) {l : List Int} (hl : ∀ x ∈ l, U32 x) (o : Op20) {i : Int} (hiu : U32 i) (hi0 : i ≠ 0) (hi : m.at i = none) :
  (sdo s l o i).1.e = 21 ∨ ((sdo s l o i).1 = (mdo m l o i).1 ∧ (sdo s l o i).2.2 = (mdo m l o i).2.2 ∧ ∃ par', Rel (sdo s l o i).2.1.shown.row (mdo m l o i).2.1 par') := by
 have key : ∀ (q : Int × VS) (r : Int × MF), (q.1 = 21 ∨ (q.1 = r.1 ∧ ∃ par', Rel q.2.shown.row r.2 par')) → ((rs0 q.1, q.2, l) : RS × VS × List Int).1.e = 21 ∨ (((rs0 q.1, q.2, l) : RS × VS × List Int).1 = ((rs0 r.1, r.2, l) : RS × MF × List Int).1 ∧ ((rs0 q.1, q.2, l) : RS × VS × List Int).2.2 = ((rs0 r.1, r.2, l) : RS × MF × List Int).2.2 ∧ ∃ par', Rel ((rs0 q.1, q.2, l) : RS × VS × List Int).2.1.shown.row ((rs0 r.1, r.2, l) : RS × MF × List Int).2.1 par') := fun q r hq => by
  rcases hq with hq | ⟨h1, h2⟩
  ·exact .inl hq
  ·exact .inr ⟨by rw [h1], rfl, h2⟩
 have hR : ∃ par', Rel s.shown.row m par' := ⟨par, R⟩
 obtain ⟨l1, l2, l3, l4, l5⟩ := lead_sim h R o.path
 have hu := heldI_u hl o.h
 unfold sdo mdo
 by_cases k4 : o.kind = 4
 ·rw [if_pos k4, if_pos k4]
  exact key _ _ (make_sim h R hw (by omega) o.path (.inl rfl) hiu hi0 hi)
 rw [if_neg k4, if_neg k4]
 by_cases k5 : o.kind = 5
 ·rw [if_pos k5, if_pos k5]
  exact key _ _ (make_sim h R hw (by omega) o.path (.inr rfl) hiu hi0 hi)
 rw [if_neg k5, if_neg k5]
 by_cases k6 : o.kind = 6
 ·rw [if_pos k6, if_pos k6]
  right
  by_cases e : (s.lead o.path).2 ≠ 0
  ·rw [if_pos e]
   rcases l5 e with ⟨q1, q2⟩ | ⟨q1, q2, q3⟩
   ·rw [if_pos q1, q2]; exact ⟨rfl, rfl, hR⟩
   ·rw [if_neg (by simpa using q1), if_pos q2, q3]; exact ⟨rfl, rfl, hR⟩
  rw [if_neg e]
  obtain ⟨q1, q2, q3⟩ := l4 (by simpa using e)
  have q0 : ¬ (m.findP o.path).2 ≠ 0 := by simpa using q1
  rw [if_neg q0, if_neg q2, q3]
  have q4 : (s.lead o.path).1.1 = (m.findP o.path).1.i := by rw [l3, if_pos (by rw [← l1]; simpa using e)]
  rw [q4]
  split
  ·exact ⟨rfl, rfl, hR⟩
  split
  ·exact ⟨rfl, rfl, hR⟩
  ·exact ⟨rfl, rfl, hR⟩
 rw [if_neg k6, if_neg k6]
 by_cases k7 : o.kind = 7
 ·rw [if_pos k7, if_pos k7]
  right
  split
  ·exact ⟨rfl, rfl, hR⟩
  ·exact ⟨rfl, rfl, hR⟩
 rw [if_neg k7, if_neg k7]
 by_cases k8 : o.kind = 8
 ·rw [if_pos k8, if_pos k8]
  right
  obtain ⟨f1, f2⟩ := fread_sim h R hu o.from_ o.n
  rw [f1, f2]
  split
  ·exact ⟨rfl, rfl, hR⟩
  ·exact ⟨rfl, rfl, hR⟩
 rw [if_neg k8, if_neg k8]
 by_cases k9 : o.kind = 9
 ·rw [if_pos k9, if_pos k9]
  by_cases hz : heldI l o.h = 0
  ·rw [if_pos hz, if_pos hz]; exact .inr ⟨rfl, rfl, hR⟩
  rw [if_neg hz, if_neg hz]
  rcases fwrite_sim h R hu o.from_ o.b with f1 | ⟨f1, f2⟩
  ·left
   rw [if_pos (by rw [f1]; decide)]; exact f1
  ·right
   rw [f1]
   split
   ·exact ⟨rfl, rfl, par, f2⟩
   ·exact ⟨rfl, rfl, par, f2⟩
 rw [if_neg k9, if_neg k9]
 by_cases k10 : o.kind = 10
 ·rw [if_pos k10, if_pos k10]
  by_cases hz : heldI l o.h = 0
  ·rw [if_pos hz, if_pos hz]; exact .inr ⟨rfl, rfl, hR⟩
  rw [if_neg hz, if_neg hz]
  exact key _ _ ((ftrunc_sim h R hu o.n).imp_right fun q => ⟨q.1, par, q.2⟩)
 rw [if_neg k10, if_neg k10]
 by_cases k11 : o.kind = 11
 ·rw [if_pos k11, if_pos k11]
  exact key _ _ (rename_sim h R hw (by omega) o.path o.other)
 rw [if_neg k11, if_neg k11]
 by_cases k12 : o.kind = 12
 ·rw [if_pos k12, if_pos k12]
  exact key _ _ ((link_sim h R o.path o.other).imp_right fun q => ⟨q.1, par, q.2⟩)
 rw [if_neg k12, if_neg k12]
 by_cases k13 : o.kind = 13
 ·rw [if_pos k13, if_pos k13]
  exact key _ _ ((unlink_sim h R o.path).imp_right fun q => ⟨q.1, par, q.2⟩)
 rw [if_neg k13, if_neg k13]
 by_cases k14 : o.kind = 14
 ·rw [if_pos k14, if_pos k14]
  exact key _ _ ((remove_sim h R hw (by omega) o.path).imp_right fun q => ⟨q.1, par, q.2⟩)
 rw [if_neg k14, if_neg k14]
 by_cases k15 : o.kind = 15
 ·rw [if_pos k15, if_pos k15]
  right
  obtain ⟨e1, e2⟩ := list_sim h R o.path
  rw [e1, e2]
  exact ⟨rfl, rfl, hR⟩
 rw [if_neg k15, if_neg k15]
 by_cases k16 : o.kind = 16
 ·rw [if_pos k16, if_pos k16]
  right
  rw [l2, l1]
  exact ⟨rfl, rfl, hR⟩
 rw [if_neg k16, if_neg k16]
 exact .inr ⟨rfl, rfl, hR⟩
def MF.al (m : MF) (P : Int → Prop) : Prop := ∀ x ∈ m, P x.i
theorem MF.al.mono {m : MF} {P Q : Int → Prop} (h : m.al P) (hc : ∀ i, P i → Q i) : m.al Q := fun x hx => hc _ (h x hx)
theorem MF.al.with {m : MF} {P : Int → Prop} (h : m.al P) {x : MN} (hx : P x.i) : (m.with x).al P := fun y hy => by
 rcases with_mem hy with rfl | hy
 ·exact hx
 ·exact h y hy
theorem MF.al.without {m : MF} {P : Int → Prop} (h : m.al P) (j : Int) : (m.without j).al P := fun y hy => h y (List.mem_filter.1 hy).1
theorem MF.al.linked {m : MF} {P : Int → Prop} (h : m.al P) (j b : Int) : (m.linked j b).al P := by
 unfold MF.linked; split
 ·rename_i x hx; exact h.with (h x (at_mem hx).1)
 ·exact h
theorem MF.al.named {m : MF} {P : Int → Prop} (h : m.al P) (d : Int) (nm : List UInt8) (j : Int) : (m.named d nm j).al P := by
 unfold MF.named; split
 ·rename_i x hx; exact h.with (h x (at_mem hx).1)
 ·exact h
theorem MF.al.rmv {m : MF} {P : Int → Prop} (h : m.al P) (b : MS) : (m.rmv b).2.al P := by
 unfold MF.rmv
 split
 ·exact h
 ·split
  ·exact h
  ·split
   ·exact h
   ·exact ((h.without _).linked _ _).named _ _ _
theorem MF.al.unl {m : MF} {P : Int → Prop} (h : m.al P) (b : MS) : (m.unl b).2.al P := by
 unfold MF.unl
 split
 ·exact h
 ·split
  ·exact h
  ·split
   ·exact (h.without _).named _ _ _
   ·exact (h.linked _ _).named _ _ _
theorem MF.al.moved {m : MF} {P : Int → Prop} (h : m.al P) (s t : MS) (b : Bool) : (m.moved s t b).al P := by
 unfold MF.moved
 split
 ·exact (((h.named _ _ _).named _ _ _).linked _ _).linked _ _
 ·exact (h.named _ _ _).named _ _ _
theorem MF.al.make {m : MF} {P : Int → Prop} (h : m.al P) (p : List UInt8) (k : Int) {i : Int} (hi : P i) : (m.make p k i).2.al P := by
 unfold MF.make
 split
 ·exact h
 split
 ·exact h
 dsimp only
 split
 ·exact (h.with hi).named _ _ _
 ·exact ((h.with hi).linked _ _).named _ _ _
theorem MF.al.remove {m : MF} {P : Int → Prop} (h : m.al P) (p : List UInt8) : (m.remove p).2.al P := by
 unfold MF.remove
 repeat' split
 ·exact h
 ·exact h
 ·exact h
 ·exact h.rmv _
theorem MF.al.unlink {m : MF} {P : Int → Prop} (h : m.al P) (p : List UInt8) : (m.unlink p).2.al P := by
 unfold MF.unlink
 repeat' split
 ·exact h
 ·exact h
 ·exact h.unl _
theorem MF.al.link {m : MF} {P : Int → Prop} (h : m.al P) (o p : List UInt8) : (m.link o p).2.al P := by
 unfold MF.link
 split
 ·exact h
 split
 ·exact h
 split
 ·exact h
 split
 ·exact h
 split
 ·exact h
 split
 ·exact h
 split
 ·exact h
 exact (h.linked _ _).named _ _ _
theorem MF.al.rename {m : MF} {P : Int → Prop} (h : m.al P) (o p : List UInt8) : (m.rename o p).2.al P := by
 unfold MF.rename
 split
 ·exact h
 split
 ·exact h
 split
 ·exact h
 split
 ·exact h
 split
 ·exact h
 split
 ·exact h
 split
 ·exact h
 split
 ·exact h.moved _ _ _
 have hq : (if m.kind (m.findP o).1.i = 2 then m.rmv (m.findP p).1 else m.unl (m.findP p).1).2.al P := by
  split
  ·exact h.rmv _
  ·exact h.unl _
 generalize (if m.kind (m.findP o).1.i = 2 then m.rmv (m.findP p).1 else m.unl (m.findP p).1) = q at hq ⊢
 dsimp only
 split
 ·exact h
 ·exact MF.al.moved hq _ _ _
theorem MF.al.none {m : MF} {P : Int → Prop} (h : m.al P) {i : Int} (hi : ¬ P i) : m.at i = none := by
 cases e : m.at i with
 | none => rfl
 | some x =>
  have h1 := at_mem e
  have := h x h1.1
  rw [h1.2] at this
  exact absurd this hi
theorem MF.al.fwrite {m : MF} {P : Int → Prop} (h : m.al P) (i o : Int) (b : List UInt8) : (m.fwrite i o b).2.al P := by
 unfold MF.fwrite
 split
 ·exact h
 rename_i x hx
 split
 ·exact h
 split
 ·exact h
 split
 ·exact h
 ·exact h.with (h x (at_mem (file_at hx).1).1)
theorem MF.al.ftrunc {m : MF} {P : Int → Prop} (h : m.al P) (i z : Int) : (m.ftrunc i z).2.al P := by
 unfold MF.ftrunc
 split
 ·exact h
 rename_i x hx
 split
 ·exact h
 split
 ·exact h
 ·exact h.with (h x (at_mem (file_at hx).1).1)
theorem mdo_al {m : MF} {P : Int → Prop} (h : m.al P) (l : List Int) (o : Op20) {i : Int} (hi : P i) : (mdo m l o i).2.1.al P := by
 unfold mdo
 by_cases k4 : o.kind = 4
 ·rw [if_pos k4]
  exact h.make _ _ hi
 rw [if_neg k4]
 by_cases k5 : o.kind = 5
 ·rw [if_pos k5]
  exact h.make _ _ hi
 rw [if_neg k5]
 by_cases k6 : o.kind = 6
 ·rw [if_pos k6]
  repeat' split
  all_goals exact h
 rw [if_neg k6]
 by_cases k7 : o.kind = 7
 ·rw [if_pos k7]
  split <;> exact h
 rw [if_neg k7]
 by_cases k8 : o.kind = 8
 ·rw [if_pos k8]
  split <;> exact h
 rw [if_neg k8]
 by_cases k9 : o.kind = 9
 ·rw [if_pos k9]
  split
  ·exact h
  split
  ·exact h.fwrite _ _ _
  ·exact h.fwrite _ _ _
 rw [if_neg k9]
 by_cases k10 : o.kind = 10
 ·rw [if_pos k10]
  split
  ·exact h
  ·exact h.ftrunc _ _
 rw [if_neg k10]
 by_cases k11 : o.kind = 11
 ·rw [if_pos k11]
  exact h.rename _ _
 rw [if_neg k11]
 by_cases k12 : o.kind = 12
 ·rw [if_pos k12]
  exact h.link _ _
 rw [if_neg k12]
 by_cases k13 : o.kind = 13
 ·rw [if_pos k13]
  exact h.unlink _
 rw [if_neg k13]
 by_cases k14 : o.kind = 14
 ·rw [if_pos k14]
  exact h.remove _
 rw [if_neg k14]
 by_cases k15 : o.kind = 15
 ·rw [if_pos k15]
  exact h
 rw [if_neg k15]
 by_cases k16 : o.kind = 16
 ·rw [if_pos k16]
  exact h
 rw [if_neg k16]
 exact h
theorem fwrite_wk {m : MF} {c : Nat} (h : m.wk c) (i o : Int) (b : List UInt8) : (m.fwrite i o b).2.wk c := by
 unfold MF.fwrite
 split
 ·exact h
 rename_i x hx
 split
 ·exact h
 split
 ·exact h
 split
 ·exact h
 ·exact wk_data h (file_at hx).1 _
theorem ftrunc_wk {m : MF} {c : Nat} (h : m.wk c) (i z : Int) : (m.ftrunc i z).2.wk c := by
 unfold MF.ftrunc
 split
 ·exact h
 rename_i x hx
 split
 ·exact h
 split
 ·exact h
 ·exact wk_data h (file_at hx).1 _
theorem mdo_wk {m : MF} {c : Nat} (h : m.wk c) (hc : 2 ≤ c) (l : List Int) (o : Op20) (i : Int) : (mdo m l o i).2.1.wk (c + 6) := by
 have h0 : m.wk (c + 6) := h.mono (by omega)
 unfold mdo
 by_cases k4 : o.kind = 4
 ·rw [if_pos k4]
  exact make_wk h hc _ _ _
 rw [if_neg k4]
 by_cases k5 : o.kind = 5
 ·rw [if_pos k5]
  exact make_wk h hc _ _ _
 rw [if_neg k5]
 by_cases k6 : o.kind = 6
 ·rw [if_pos k6]
  repeat' split
  all_goals exact h0
 rw [if_neg k6]
 by_cases k7 : o.kind = 7
 ·rw [if_pos k7]
  split <;> exact h0
 rw [if_neg k7]
 by_cases k8 : o.kind = 8
 ·rw [if_pos k8]
  split <;> exact h0
 rw [if_neg k8]
 by_cases k9 : o.kind = 9
 ·rw [if_pos k9]
  split
  ·exact h0
  split
  ·exact fwrite_wk h0 _ _ _
  ·exact fwrite_wk h0 _ _ _
 rw [if_neg k9]
 by_cases k10 : o.kind = 10
 ·rw [if_pos k10]
  split
  ·exact h0
  ·exact ftrunc_wk h0 _ _
 rw [if_neg k10]
 by_cases k11 : o.kind = 11
 ·rw [if_pos k11]
  exact rename_wk h _ _
 rw [if_neg k11]
 by_cases k12 : o.kind = 12
 ·rw [if_pos k12]
  exact link_wk h _ _
 rw [if_neg k12]
 by_cases k13 : o.kind = 13
 ·rw [if_pos k13]
  exact unlink_wk h _
 rw [if_neg k13]
 by_cases k14 : o.kind = 14
 ·rw [if_pos k14]
  exact remove_wk h _
 rw [if_neg k14]
 by_cases k15 : o.kind = 15
 ·rw [if_pos k15]
  exact h0
 rw [if_neg k15]
 by_cases k16 : o.kind = 16
 ·rw [if_pos k16]
  exact h0
 rw [if_neg k16]
 exact h0
theorem lead_u (s : VS) (p : List UInt8) : U32 (s.lead p).1.1 ∧ Nd.ok (s.lead p).1.2 := by
 obtain ⟨h1, h2, h3⟩ := (find_ok s p).1
 unfold VS.lead
 split
 ·exact ⟨by dsimp only; decide, nd0_ok⟩
 split
 ·exact ⟨by dsimp only; decide, nd0_ok⟩
 ·exact ⟨h2, h3⟩
theorem sdo_vj {s : VS} {n : Nat} (h : VJ s n) {m : MF} {par : Int → Int} (R : Rel s.shown.row m par) (l : List Int) (o : Op20) (i : Int) : VJ (sdo s l o i).2.1 (n + 200) := by
 have h0 : VJ s (n + 200) := h.mono (by omega)
 have hp : VJ (s.rdp o.path) (n + 200) := (h.rdp o.path).mono (by omega)
 unfold sdo
 by_cases k4 : o.kind = 4
 ·rw [if_pos k4]
  exact make_ok h _ _ _
 rw [if_neg k4]
 by_cases k5 : o.kind = 5
 ·rw [if_pos k5]
  exact make_ok h _ _ _
 rw [if_neg k5]
 by_cases k6 : o.kind = 6
 ·rw [if_pos k6]
  split
  ·exact hp
  split
  ·exact hp
  split
  ·exact hp
  ·exact hp
 rw [if_neg k6]
 by_cases k7 : o.kind = 7
 ·rw [if_pos k7]
  split <;> exact h0
 rw [if_neg k7]
 by_cases k8 : o.kind = 8
 ·rw [if_pos k8]
  split
  ·exact h0
  ·unfold VS.fread
   split
   ·exact (h.rd _).mono (by omega)
   split
   ·exact (h.rd _).mono (by omega)
   ·exact (h.rd _).mono (by omega)
 rw [if_neg k8]
 by_cases k9 : o.kind = 9
 ·rw [if_pos k9]
  split
  ·exact h0
  split
  ·exact (fwrite_ok h _ _ _).mono (by omega)
  ·exact (fwrite_ok h _ _ _).mono (by omega)
 rw [if_neg k9]
 by_cases k10 : o.kind = 10
 ·rw [if_pos k10]
  split
  ·exact h0
  ·exact (ftrunc_ok h _ _).mono (by omega)
 rw [if_neg k10]
 by_cases k11 : o.kind = 11
 ·rw [if_pos k11]
  exact rename_ok h R _ _
 rw [if_neg k11]
 by_cases k12 : o.kind = 12
 ·rw [if_pos k12]
  exact link_ok h _ _
 rw [if_neg k12]
 by_cases k13 : o.kind = 13
 ·rw [if_pos k13]
  exact unlink_ok h R _
 rw [if_neg k13]
 by_cases k14 : o.kind = 14
 ·rw [if_pos k14]
  exact remove_ok h _
 rw [if_neg k14]
 by_cases k15 : o.kind = 15
 ·rw [if_pos k15]
  exact dlist_ok h _
 rw [if_neg k15]
 by_cases k16 : o.kind = 16
 ·rw [if_pos k16]
  exact hp
 rw [if_neg k16]
 exact h0
theorem sdo_l {l : List Int} (hl : l.length = 16 ∧ ∀ x ∈ l, U32 x) (s : VS) (o : Op20) (i : Int) : (sdo s l o i).2.2.length = 16 ∧ ∀ x ∈ (sdo s l o i).2.2, U32 x := by
 have hset : ∀ (k : Nat) (y : Int), U32 y → (l.set k y).length = 16 ∧ ∀ x ∈ l.set k y, U32 x := fun k y hy =>
  ⟨by rw [List.length_set]; exact hl.1, fun x hx => by
   rcases List.mem_or_eq_of_mem_set hx with h | h
   ·exact hl.2 x h
   ·rw [h]; exact hy⟩
 unfold sdo
 by_cases k4 : o.kind = 4
 ·rw [if_pos k4]
  exact hl
 rw [if_neg k4]
 by_cases k5 : o.kind = 5
 ·rw [if_pos k5]
  exact hl
 rw [if_neg k5]
 by_cases k6 : o.kind = 6
 ·rw [if_pos k6]
  split
  ·exact hl
  split
  ·exact hl
  split
  ·exact hl
  ·exact hset _ _ (lead_u s o.path).1
 rw [if_neg k6]
 by_cases k7 : o.kind = 7
 ·rw [if_pos k7]
  split
  ·exact hl
  ·exact hset _ _ (by decide)
 rw [if_neg k7]
 by_cases k8 : o.kind = 8
 ·rw [if_pos k8]
  split <;> exact hl
 rw [if_neg k8]
 by_cases k9 : o.kind = 9
 ·rw [if_pos k9]
  split
  ·exact hl
  split <;> exact hl
 rw [if_neg k9]
 by_cases k10 : o.kind = 10
 ·rw [if_pos k10]
  split <;> exact hl
 rw [if_neg k10]
 by_cases k11 : o.kind = 11
 ·rw [if_pos k11]
  exact hl
 rw [if_neg k11]
 by_cases k12 : o.kind = 12
 ·rw [if_pos k12]
  exact hl
 rw [if_neg k12]
 by_cases k13 : o.kind = 13
 ·rw [if_pos k13]
  exact hl
 rw [if_neg k13]
 by_cases k14 : o.kind = 14
 ·rw [if_pos k14]
  exact hl
 rw [if_neg k14]
 by_cases k15 : o.kind = 15
 ·rw [if_pos k15]
  exact hl
 rw [if_neg k15]
 by_cases k16 : o.kind = 16
 ·rw [if_pos k16]
  exact hl
 rw [if_neg k16]
 exact hl
structure D20 (s : VS) (l : List Int) (m : MF) (P : Int → Prop) (i : Nat) : Prop where
 v : VJ s (200 * i)
 r : ∃ par, Rel s.shown.row m par
 w : m.wk (6 * i + 2)
 p : m.al P
 l : l.length = 16 ∧ ∀ x ∈ l, U32 x
def noH : List Int := List.replicate 16 0
theorem D20.new {P : Int → Prop} (h1 : P 1) : D20 (VS.new .nil) noH newM P 0 :=
 ⟨VJ.new (by simp [row, Rises]) (Nat.le_refl _) (by simp [row]), ⟨_, Rel.new⟩,
  ⟨by simp [newM], fun x hx => by rw [show x = ⟨1, 2, 2, [], []⟩ by simpa [newM] using hx]; simp, fun x hx => by rw [show x = ⟨1, 2, 2, [], []⟩ by simpa [newM] using hx]; simp, fun x hx => by rw [show x = ⟨1, 2, 2, [], []⟩ by simpa [newM] using hx]; simp [Rises]⟩,
  fun x hx => by rw [show x = ⟨1, 2, 2, [], []⟩ by simpa [newM] using hx]; exact h1, by decide, fun x hx => by rw [List.eq_of_mem_replicate hx]; decide⟩
theorem D20.step {s : VS} {l : List Int} {m : MF} {P Q : Int → Prop} {i : Nat} (d : D20 s l m P i) (hi : i ≤ 200) (o : Op20) {j : Int} (hj : U32 j) (hj0 : j ≠ 0) (hP : ¬ P j) (hQ : ∀ k, P k → Q k) (hQj : Q j) :
  (sdo s l o j).1.e = 21 ∨ ((sdo s l o j).1 = (mdo m l o j).1 ∧ (sdo s l o j).2.2 = (mdo m l o j).2.2 ∧ D20 (sdo s l o j).2.1 (sdo s l o j).2.2 (mdo m l o j).2.1 Q (i + 1)) := by
 obtain ⟨par, R⟩ := d.r
 refine (do20_sim d.v R d.w (by omega) (by omega) d.l.2 o hj hj0 (d.p.none hP)).imp_right fun ⟨h1, h2, h3⟩ => ⟨h1, h2, ?_⟩
 exact ⟨(sdo_vj d.v R l o j).mono (by omega), h3, (mdo_wk d.w (by omega) l o j).mono (by omega), mdo_al (d.p.mono hQ) l o hQj, sdo_l d.l s o j⟩
abbrev u32V (x : Int) : AV := .int .u32 x
abbrev deskB (h : Hd) (a : List Int) (f : Int) : AObj := .box 80 (.ad h 0 :: ((a.map fun x => TV.p (u32V x)) ++ [.p (.int .u32 f)]))
abbrev dH (s : VS) (a : List Int) (f : Int) : List AObj := [deskB (.o 1) a f, vB (.o 2) s.base s.shown s.writes s.reads s.ranges.length, vR s.ranges]
abbrev resT (r : RS) (d n : AV) : TV := .agg [.p (.int .i64 r.e), .p (.int .i64 r.n), .p d, .p n, .p (.int .u8 r.st.1), .p (.int .u32 r.st.2.1), .p (.int .u32 r.st.2.2.1), .p (.int .u32 r.st.2.2.2)]
abbrev opT (o : Op20) (d : TV) : TV := .agg [.p (.int .u8 o.kind), .p (.str o.path), .p (.str o.other), .p (.int .i64 o.h), .p (.int .i64 o.from_), .p (.int .i64 o.n), d]
abbrev anyD : TV := .p (.cell .top)
theorem len16 {l : List Int} (h : l.length = 16) : ∃ a0 a1 a2 a3 a4 a5 a6 a7 a8 a9 a10 a11 a12 a13 a14 a15, l = [a0, a1, a2, a3, a4, a5, a6, a7, a8, a9, a10, a11, a12, a13, a14, a15] := by
 match l, h with
 | [a0, a1, a2, a3, a4, a5, a6, a7, a8, a9, a10, a11, a12, a13, a14, a15], _ => exact ⟨_, _, _, _, _, _, _, _, _, _, _, _, _, _, _, _, rfl⟩
theorem TVLe.refl (x : TV) : TVLe x x := fun _ _ _ _ h => h
theorem Con.argT {P : Program} {f : FuncId} {args : List TV} {H H' news : List AObj} {r : TV} {x y : TV} (k : Nat) (h : Con P f args H r H' news) (hk : args[k]? = some y) (hxy : TVLe x y) : Con P f (args.set k x) H r H' news :=
 ⟨h.can, fun F w β vs hS hr => h.run F w β vs hS ⟨by rw [hr.1, List.length_set], fun i z v hz hv => by
  by_cases e : i = k
  ·subst e
   rw [hk] at hz
   obtain rfl := Option.some.inj hz
   have hl := (List.getElem?_eq_some_iff.1 hk).1
   exact hxy _ _ _ _ (hr.2 i x v (by rw [List.getElem?_set_self hl]) hv)
  ·exact hr.2 i z v (by rw [List.getElem?_set_ne (Ne.symm e)]; exact hz) hv⟩⟩
theorem agg_repT {xs : List TV} (i : Nat) {x y : TV} (hi : xs[i]? = some x) (hc : TVLe x y) : TVLe (.agg xs) (.agg (xs.set i y)) := fun w β G v h => by
 cases h with
 | agg _ vs hl hr =>
  refine .agg _ vs (by rw [List.length_set]; exact hl) fun j z u hz hu => ?_
  by_cases e : j = i
  ·subst e
   rw [List.getElem?_set_self (List.getElem?_eq_some_iff.1 hi).1] at hz
   obtain rfl := Option.some.inj hz
   exact hc _ _ _ _ (hr j x u hi hu)
  ·rw [List.getElem?_set_ne (Ne.symm e)] at hz
   exact hr j z u hz hu
theorem sl_any (h : Hd) (n st len : Nat) : TVLe (.sl h n st len) anyD := fun w β G v hr => by
 cases hr with | sl _ _ _ _ _ h1 => exact .p (.cell _ _ h1 (.top _))
theorem opT_any (o : Op20) {d : TV} (h : TVLe d anyD) : TVLe (opT o d) (opT o anyD) := agg_repT 6 rfl h
set_option maxHeartbeats 4000000 in
theorem wlead_spec {s : VS} {m : Nat} (h : VJ s m) (hm : m ≤ 900000) (p : List UInt8) : Con Tryz.prog 115 [vP, .p (.str p)] (vH s) (.tup [.p (.int .u32 (s.lead p).1.1), ndT (s.lead p).1.2, .p (.int .i64 (s.lead p).2)]) (vH (s.rdp p)) [] := by
 have c1 := wfind_spec h hm p
 change Con Tryz.prog _ _ _ _ (vH (s.rdp p)) _ at c1
 unfold VS.lead
 generalize s.rdp p = s1 at c1
 generalize (s.find p).1 = a at c1
 generalize (s.find p).2.1 = e at c1
 by_cases h0 : e ≠ 0
 ·rw [if_pos h0]
  refine con_of Tryz.func115 rfl (by kernel_rfl) rfl fun F w0 β0 => ?_
  refine K_tell rfl ?_
  refine go ?_
  refine K_op rfl rfl (opr_callS [.o 0, .o 1] rfl rfl (c1) rfl rfl rfl ⟨⟨rfl, rfl⟩, ⟨rfl, rfl⟩, trivial⟩ rfl rfl rfl rfl) rfl ?_
  refine go ?_
  refine K_condT rfl (by simp [h0]) ?_
  refine go ?_
  exact J_done hT rfl rfl rfl
 rw [if_neg h0]
 obtain rfl : e = 0 := by simpa using h0
 by_cases h1 : a.i = 0
 ·rw [if_pos h1]
  refine con_of Tryz.func115 rfl (by kernel_rfl) rfl fun F w0 β0 => ?_
  refine K_tell rfl ?_
  refine go ?_
  refine K_op rfl rfl (opr_callS [.o 0, .o 1] rfl rfl (c1) rfl rfl rfl ⟨⟨rfl, rfl⟩, ⟨rfl, rfl⟩, trivial⟩ rfl rfl rfl rfl) rfl ?_
  refine go ?_
  refine K_condT rfl (by simp [h1]) ?_
  refine go ?_
  exact J_done hT rfl rfl rfl
 rw [if_neg h1]
 refine con_of Tryz.func115 rfl (by kernel_rfl) rfl fun F w0 β0 => ?_
 refine K_tell rfl ?_
 refine go ?_
 refine K_op rfl rfl (opr_callS [.o 0, .o 1] rfl rfl (c1) rfl rfl rfl ⟨⟨rfl, rfl⟩, ⟨rfl, rfl⟩, trivial⟩ rfl rfl rfl rfl) rfl ?_
 refine go ?_
 refine K_condF rfl (by simp [h1]) ?_
 refine go ?_
 refine J_drawS 5 (by kernel_rfl) (by kernel_rfl) ?_
 apply Exists.intro
 refine gdW ?_
 refine go ?_
 exact J_done hT rfl rfl rfl
theorem freeH_cons (x : Int) (r : List Int) (i : Nat) : freeH (x :: r) i = if x = 0 then (i : Int) else freeH r (i + 1) := rfl
structure FrI (l : List Int) where
 i : Nat
 h : i ≤ l.length
 e : freeH (l.drop i) i = freeH l 0
set_option maxHeartbeats 4000000 in
theorem idx20_spec (l : List Int) (hl : l.length ≤ 1000000) : Con Tryz.prog 116 [.p (.ps (l.map u32V)), .p (.int .u32 0)] [] (.p (.int .i64 (freeH l 0))) [] [] := by
 have hlen : (l.map u32V).length = l.length := by simp
 refine con_of Tryz.func116 rfl (by kernel_rfl) rfl fun F w0 β0 => ?_
 refine K_tell rfl ?_
 refine go ?_
 rw [hlen]
 refine J_loop (fun q : FrI l => [(0, .p (.ps (l.map u32V))), (1, .p (.int .u32 0)), (7, .p (.int .i64 (l.length : Int))), (8, .p (.int .i64 (q.i : Int)))]) (fun _ => []) (fun _ => []) (fun q => l.length - q.i) ⟨0, by omega, rfl⟩ ⟨rfl, rfl, rfl, rfl, trivial⟩ rfl rfl (fun q => ?_)
 have hq := q.h
 have he := q.e
 refine go ?_
 by_cases hlt : q.i < l.length
 ·have hx : l[q.i]? = some l[q.i] := List.getElem?_eq_getElem hlt
  have hd : l.drop q.i = l[q.i] :: l.drop (q.i + 1) := by rw [List.drop_eq_getElem_cons hlt]
  rw [hd] at he
  generalize l[q.i] = x at hx he
  rw [freeH_cons] at he
  have hxm : (l.map u32V)[q.i]? = some (u32V x) := by rw [List.getElem?_map, hx]; rfl
  refine K_condT rfl (decide_eq_true (by omega)) ?_
  refine go ?_
  refine K_op rfl rfl (opr_index hT rfl rfl rfl rfl rfl (.ps _) (by omega) (by rw [hlen]; omega)) rfl ?_
  refine go ?_
  refine K_op rfl rfl (opr_load_el hT rfl rfl (.ps _) hxm rfl rfl) rfl ?_
  refine go ?_
  by_cases h0 : x = 0
  ·rw [if_pos h0] at he
   refine K_condT rfl (by simp [h0]) ?_
   refine go ?_
   rw [← he]
   exact J_done hT rfl rfl rfl
  ·rw [if_neg h0] at he
   refine K_condF rfl (by simp [Ne.symm h0]) ?_
   refine go ?_
   refine J_again ⟨q.i + 1, by omega, he⟩ (by show l.length - (q.i + 1) < l.length - q.i; omega) ⟨rfl, rfl, rfl, congrArg (fun z => TV.p (.int .i64 z)) (by rw [IntWalk.i64_in _ (by omega)]; rfl), trivial⟩ rfl rfl
 ·rw [List.drop_eq_nil_of_le (by omega)] at he
  refine K_condF rfl (decide_eq_false (by omega)) ?_
  refine go ?_
  rw [← he]
  exact J_done hT rfl rfl rfl
theorem cell16 {h : Int} (h0 : 0 ≤ h) (h1 : h < 16) : h = 0 ∨ h = 1 ∨ h = 2 ∨ h = 3 ∨ h = 4 ∨ h = 5 ∨ h = 6 ∨ h = 7 ∨ h = 8 ∨ h = 9 ∨ h = 10 ∨ h = 11 ∨ h = 12 ∨ h = 13 ∨ h = 14 ∨ h = 15 := by omega
set_option maxHeartbeats 16000000 in
theorem held_spec (s : VS) (l : List Int) (hl : l.length = 16) (f h : Int) : Con Tryz.prog 117 [vP, .p (.int .i64 h)] (dH s l f) (.p (.int .u32 (heldI l h))) (dH s l f) [] := by
 obtain ⟨a0, a1, a2, a3, a4, a5, a6, a7, a8, a9, a10, a11, a12, a13, a14, a15, rfl⟩ := len16 hl
 unfold heldI
 by_cases h0 : h < 0 ∨ h ≥ 16
 ·rw [if_pos h0]
  refine con_of Tryz.func117 rfl (by kernel_rfl) rfl fun F w0 β0 => ?_
  refine K_tell rfl ?_
  refine go ?_
  refine K_condT rfl (by rcases h0 with q | q <;> simp [q]) ?_
  refine go ?_
  exact J_done hT rfl rfl rfl
 rw [if_neg h0]
 refine con_of Tryz.func117 rfl (by kernel_rfl) rfl fun F w0 β0 => ?_
 refine K_tell rfl ?_
 refine go ?_
 refine K_condF rfl (by simp; omega) ?_
 rcases cell16 (h := h) (by omega) (by omega) with rfl | rfl | rfl | rfl | rfl | rfl | rfl | rfl | rfl | rfl | rfl | rfl | rfl | rfl | rfl | rfl
 all_goals
  refine go ?_
  exact J_done hT rfl rfl rfl
theorem failed_spec (e : Int) : Con Tryz.prog 39 [.p (.int .i64 e)] [] (resT (rs0 e) .nils .nils) [] [] := by
 refine con_of Tryz.func39 rfl (by kernel_rfl) rfl fun F w0 β0 => ?_
 refine K_tell rfl ?_
 refine go ?_
 exact J_done hT rfl rfl rfl
def DoOk (f : Nat) (o : Op20) (d : TV) (s : VS) (l : List Int) (i : Int) : Prop := ∃ x n, Bs x (sdo s l o i).1.data ∧ Sl AV.str n (sdo s l o i).1.names ∧ Con Tryz.prog f [vP, opT o d] (dH s l i) (resT (sdo s l o i).1 x n) (dH (sdo s l o i).2.1 (sdo s l o i).2.2 i) []
end Go.Proofs.YtdkegmmigongoaaGreatDoor

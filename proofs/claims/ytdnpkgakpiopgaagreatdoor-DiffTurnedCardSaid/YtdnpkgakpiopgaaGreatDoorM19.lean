import Derived.Test.YtdnpkgakpiopgaaGreatDoorGo
import Derived.Test.YtdnpkgakpiopgaaGreatDoorM18
import Derived.Test.YtdnpkgakpiopgaaGreatDoorM15
import Derived.Test.YtdnpkgakpiopgaaGreatDoorM8
import Derived.Test.YtdnpkgakpiopgaaGreatDoorM4
import Derived.Test.YtdnpkgakpiopgaaGreatDoorM5
namespace Go.Proofs.YtdnpkgakpiopgaaGreatDoor
set_option maxRecDepth 20000
open Go.Awp Tr
theorem zIu {s : VS} {n : Nat} (h : VJ s n) (p : List UInt8) (k i : Int) : VJ (s.make p k i).2 (n + 200) := by
 unfold VS.make VS.makeAt
 have h1 : VJ (s.rds (s.find p).2.2) (n + 33) := h.rdp p
 dsimp only
 repeat' split
 ·exact h1.mono (by omega)
 ·exact h1.mono (by omega)
 ·exact (((h1.save _ _).hang _ _ _).links _ _).mono (by omega)
 ·exact ((h1.save _ _).hang _ _ _).mono (by omega)
theorem zKh {s : VS} {n : Nat} (h : VJ s n) (p : List UInt8) : VJ (s.remove p).2 (n + 200) := by
 unfold VS.remove
 have h1 := h.rdp p
 split
 ·exact h1.mono (by omega)
 ·exact (zCy h1 _).mono (by omega)
theorem zPz {s : VS} {n : Nat} (h : VJ s n) (p : List UInt8) : VJ (s.dlist p).2 (n + 200) := by
 unfold VS.dlist
 have h1 := h.rdp p
 repeat' split
 ·exact h1.mono (by omega)
 ·exact h1.mono (by omega)
 ·exact (h1.rngE _).mono (by omega)
theorem zSn {s : VS} {n : Nat} (h : VJ s n) (o p : List UInt8) : VJ (s.link o p).2 (n + 200) := by
 unfold VS.link VS.linkAt
 have h1 := h.rdp o
 have h2 := h1.rdp p
 dsimp only
 repeat' split
 ·exact h1.mono (by omega)
 ·exact h1.mono (by omega)
 ·exact h2.mono (by omega)
 ·exact h2.mono (by omega)
 ·exact h2.mono (by omega)
 ·exact ((h2.hang _ _ _).save _ _).mono (by omega)
theorem blk_len {s : VS} {n : Nat} (h : VJ s n) {m : MF} {par : Int → Int} (R : Rel s.shown.row m par) (k : List UInt8) {i : Int} {z : MN} (hz : m.at i = some z) : ((s.del k).blkR i).length ≤ 64 := by
 refine Nat.le_trans (blkR_len (h.del k) i) ?_
 have h1 : (subL 68 i (s.del k).shown.row).length ≤ (subL 68 i s.shown.row).length := by
  unfold VS.del
  split
  ·show (subL 68 i (s.shown.cut k).row).length ≤ _
   rw [qT _ _ h.rs]
   unfold subL lcut
   rw [List.length_map, List.length_map]
   exact (List.filter_sublist.filter _).length_le
  ·exact Nat.le_refl _
 refine Nat.le_trans h1 ?_
 rw [R.blk i z hz]
 have := zUc z.b
 have := zFj (R.may hz).1
 omega
theorem zG4 {s : VS} {n : Nat} (h : VJ s n) {m : MF} {par : Int → Int} (R : Rel s.shown.row m par) {a : Sp} (hz : ∃ z, m.at a.i = some z) : VJ (s.unlinks a).2 (n + 80) := by
 obtain ⟨z, hz⟩ := hz
 have hb := blk_len h R (entryK a.d a.m) hz
 unfold VS.unlinks
 dsimp only
 have h1 := h.del (entryK a.d a.m)
 repeat' split
 ·exact h.mono (by omega)
 ·exact (h1.save _ _).mono (by omega)
 ·exact ((zCl _ _ (h1.range _ _)).del _).mono (by omega)
theorem zLq {s : VS} {n : Nat} (h : VJ s n) {m : MF} {par : Int → Int} (R : Rel s.shown.row m par) (p : List UInt8) : VJ (s.unlink p).2 (n + 200) := by
 unfold VS.unlink
 have h1 := h.rdp p
 split
 ·exact h1.mono (by omega)
 ·rename_i he
  rcases zAv h R p true with ⟨g, e⟩ | ⟨_, _, _, e⟩ | ⟨_, _, e⟩ | ⟨_, h2, _, _, es⟩
  ·rw [e] at he; exact absurd g he
  ·rw [e] at he; exact absurd (by decide) he
  ·rw [e] at he; exact absurd (by decide) he
  ·obtain ⟨z, g, _⟩ := es.hn (by rw [es.hi]; exact h2)
   exact (zG4 (s := s.rdp p) h1 R ⟨z, g⟩).mono (by omega)
theorem zK6 {s : VS} {n : Nat} (h : VJ s n) {m : MF} {par : Int → Int} (R : Rel s.shown.row m par) (o p : List UInt8) : VJ (s.rename o p).2 (n + 200) := by
 have h1 := h.rdp o
 have h2 := h1.rdp p
 obtain ⟨he, hs⟩ := zBj (s := s.rdp o) h1 R p
 unfold VS.rename VS.renameAt
 by_cases c1 : (s.there o false).2 ≠ 0
 ·rw [if_pos c1]; exact h1.mono (by omega)
 rw [if_neg c1]
 by_cases c2 : ((s.rdp o).find p).2.1 ≠ 0
 ·rw [if_pos c2]; exact h2.mono (by omega)
 rw [if_neg c2]
 rw [he] at c2
 have hs := hs (by simpa using c2)
 split
 ·exact h2.mono (by omega)
 split
 ·exact h2.mono (by omega)
 have hc : VJ (((s.rdp o).rdp p).clears (s.there o false).1 ((s.rdp o).find p).1 o p).2 (n + 33 + 33 + 80) := by
  unfold VS.clears
  split
  ·exact h2.mono (by omega)
  split
  ·exact h2.mono (by omega)
  rename_i h0
  split
  ·exact (zCy h2 _).mono (by omega)
  ·obtain ⟨z, g, _⟩ := hs.hn h0
   exact zG4 (s := (s.rdp o).rdp p) h2 R ⟨z, g⟩
 split
 ·exact hc.mono (by omega)
 unfold VS.movesAt
 dsimp only
 split
 ·exact ((hc.del _).hang _ _ _).mono (by omega)
 ·exact (((((hc.del _).hang _ _ _).save _ _).links _ _).links _ _).mono (by omega)
theorem zI8 {m : MF} {c : Nat} (h : m.wk c) (hc : 2 ≤ c) (p : List UInt8) (k i : Int) : (m.make p k i).2.wk (c + 6) := by
 unfold MF.make
 split
 ·exact h.mono (by omega)
 split
 ·exact h.mono (by omega)
 dsimp only
 split
 ·exact ((h.with _ (by simp) (by dsimp only; omega) (by simp [Rises])).named _ _ _).mono (by omega)
 ·exact (((h.with _ (by simp) (by dsimp only; omega) (by simp [Rises])).linked _ _ (by omega)).named _ _ _).mono (by omega)
theorem zKu {m : MF} {c : Nat} (h : m.wk c) (p : List UInt8) : (m.remove p).2.wk (c + 6) := by
 unfold MF.remove
 repeat' split
 ·exact h.mono (by omega)
 ·exact h.mono (by omega)
 ·exact h.mono (by omega)
 ·exact (zP9 h _).mono (by omega)
theorem zL8 {m : MF} {c : Nat} (h : m.wk c) (p : List UInt8) : (m.unlink p).2.wk (c + 6) := by
 unfold MF.unlink
 repeat' split
 ·exact h.mono (by omega)
 ·exact h.mono (by omega)
 ·exact (zOt h _).mono (by omega)
theorem zSy {m : MF} {c : Nat} (h : m.wk c) (o p : List UInt8) : (m.link o p).2.wk (c + 6) := by
 unfold MF.link
 split
 ·exact h.mono (by omega)
 split
 ·exact h.mono (by omega)
 split
 ·exact h.mono (by omega)
 split
 ·exact h.mono (by omega)
 split
 ·exact h.mono (by omega)
 split
 ·exact h.mono (by omega)
 split
 ·exact h.mono (by omega)
 exact ((h.linked _ _ (by omega)).named _ _ _).mono (by omega)
theorem zPh {m : MF} {c : Nat} (h : m.wk c) (s t : MS) (b : Bool) : (m.moved s t b).wk (c + 4) := by
 unfold MF.moved
 split
 ·exact ((((h.named _ _ _).named _ _ _).linked _ _ (by omega)).linked _ _ (by omega))
 ·exact ((h.named _ _ _).named _ _ _).mono (by omega)
theorem zK9 {m : MF} {c : Nat} (h : m.wk c) (o p : List UInt8) : (m.rename o p).2.wk (c + 6) := by
 unfold MF.rename
 split
 ·exact h.mono (by omega)
 split
 ·exact h.mono (by omega)
 split
 ·exact h.mono (by omega)
 split
 ·exact h.mono (by omega)
 split
 ·exact h.mono (by omega)
 split
 ·exact h.mono (by omega)
 split
 ·exact h.mono (by omega)
 split
 ·exact (zPh h _ _ _).mono (by omega)
 have hq : (if m.kind (m.findP o).1.i = 2 then m.rmv (m.findP p).1 else m.unl (m.findP p).1).2.wk (c + 2) := by
  split
  ·exact zP9 h _
  ·exact zOt h _
 generalize (if m.kind (m.findP o).1.i = 2 then m.rmv (m.findP p).1 else m.unl (m.findP p).1) = q at hq ⊢
 dsimp only
 split
 ·exact h.mono (by omega)
 ·exact zPh hq _ _ _
def MF.lt (m : MF) (B : Int) : Prop := ∀ x ∈ m, x.i < B
theorem MF.lt.mono {m : MF} {B C : Int} (h : m.lt B) (hc : B ≤ C) : m.lt C := fun x hx => by have := h x hx; omega
theorem MF.lt.with {m : MF} {B : Int} (h : m.lt B) {x : MN} (hx : x.i < B) : (m.with x).lt B := fun y hy => by
 rcases zCw hy with rfl | hy
 ·exact hx
 ·exact h y hy
theorem MF.lt.without {m : MF} {B : Int} (h : m.lt B) (j : Int) : (m.without j).lt B := fun y hy => h y (List.mem_filter.1 hy).1
theorem MF.lt.linked {m : MF} {B : Int} (h : m.lt B) (j b : Int) : (m.linked j b).lt B := by
 unfold MF.linked; split
 ·rename_i x hx; exact h.with (h x (yY hx).1)
 ·exact h
theorem MF.lt.named {m : MF} {B : Int} (h : m.lt B) (d : Int) (nm : List UInt8) (j : Int) : (m.named d nm j).lt B := by
 unfold MF.named; split
 ·rename_i x hx; exact h.with (h x (yY hx).1)
 ·exact h
theorem MF.lt.rmv {m : MF} {B : Int} (h : m.lt B) (b : MS) : (m.rmv b).2.lt B := by
 unfold MF.rmv
 split
 ·exact h
 ·split
  ·exact h
  ·split
   ·exact h
   ·exact ((h.without _).linked _ _).named _ _ _
theorem MF.lt.unl {m : MF} {B : Int} (h : m.lt B) (b : MS) : (m.unl b).2.lt B := by
 unfold MF.unl
 split
 ·exact h
 ·split
  ·exact h
  ·split
   ·exact (h.without _).named _ _ _
   ·exact (h.linked _ _).named _ _ _
theorem MF.lt.moved {m : MF} {B : Int} (h : m.lt B) (s t : MS) (b : Bool) : (m.moved s t b).lt B := by
 unfold MF.moved
 split
 ·exact (((h.named _ _ _).named _ _ _).linked _ _).linked _ _
 ·exact (h.named _ _ _).named _ _ _
theorem MF.lt.make {m : MF} {B : Int} (h : m.lt B) (p : List UInt8) (k : Int) {i : Int} (hi : i < B) : (m.make p k i).2.lt B := by
 unfold MF.make
 split
 ·exact h
 split
 ·exact h
 dsimp only
 split
 ·exact (h.with hi).named _ _ _
 ·exact ((h.with hi).linked _ _).named _ _ _
theorem MF.lt.remove {m : MF} {B : Int} (h : m.lt B) (p : List UInt8) : (m.remove p).2.lt B := by
 unfold MF.remove
 repeat' split
 ·exact h
 ·exact h
 ·exact h
 ·exact h.rmv _
theorem MF.lt.unlink {m : MF} {B : Int} (h : m.lt B) (p : List UInt8) : (m.unlink p).2.lt B := by
 unfold MF.unlink
 repeat' split
 ·exact h
 ·exact h
 ·exact h.unl _
theorem MF.lt.link {m : MF} {B : Int} (h : m.lt B) (o p : List UInt8) : (m.link o p).2.lt B := by
 unfold MF.link
 split
 ·exact h
 split
 ·exact h
 split
 ·exact h
 split
 ·exact h
 split
 ·exact h
 split
 ·exact h
 split
 ·exact h
 exact (h.linked _ _).named _ _ _
theorem MF.lt.rename {m : MF} {B : Int} (h : m.lt B) (o p : List UInt8) : (m.rename o p).2.lt B := by
 unfold MF.rename
 split
 ·exact h
 split
 ·exact h
 split
 ·exact h
 split
 ·exact h
 split
 ·exact h
 split
 ·exact h
 split
 ·exact h
 split
 ·exact h.moved _ _ _
 have hq : (if m.kind (m.findP o).1.i = 2 then m.rmv (m.findP p).1 else m.unl (m.findP p).1).2.lt B := by
  split
  ·exact h.rmv _
  ·exact h.unl _
 generalize (if m.kind (m.findP o).1.i = 2 then m.rmv (m.findP p).1 else m.unl (m.findP p).1) = q at hq ⊢
 dsimp only
 split
 ·exact h
 ·exact MF.lt.moved hq _ _ _
theorem MF.lt.none {m : MF} {B : Int} (h : m.lt B) {i : Int} (hi : B ≤ i) : m.at i = none := by
 cases e : m.at i with
 | none => rfl
 | some x =>
  have h1 := yY e
  have := h x h1.1
  omega
structure DOp where
 kind : Int
 path : List UInt8
 other : List UInt8
def putT (t : Tr) (x : KV) : Tr := t.set x.1 x.2
theorem zJm : ∀ (R : List KV) (t : Tr), Rises t.row → Rises (R.foldl putT t).row ∧ (R.foldl putT t).row = R.foldl (fun l x => lset x.1 x.2 l) t.row
 | [], t, h => ⟨h, rfl⟩
 | x :: R, t, h => by
  have e : (putT t x).row = lset x.1 x.2 t.row := qY _ _ _ h
  have ih := zJm R (putT t x) (by rw [e]; exact z7 h)
  rw [e] at ih
  exact ih
theorem zOd {k v : List UInt8} : ∀ {l : List KV}, (∀ x ∈ l, lt x.1 k) → lset k v l = l ++ [(k, v)]
 | [], _ => rfl
 | x :: r, h => by
  have := zC0 k v x r (h x List.mem_cons_self) [] (by simp)
  simp only [List.nil_append] at this
  rw [this, zOd fun y hy => h y (List.mem_cons_of_mem _ hy)]; rfl
theorem zKb : ∀ (R A : List KV), Rises (A ++ R) → R.foldl (fun l x => lset x.1 x.2 l) A = A ++ R
 | [], A, _ => (List.append_nil A).symm
 | x :: R, A, h => by
  have h2 := zCg.1 h
  rw [List.foldl_cons, zOd h2.2.2.1, zKb R (A ++ [x]) (by simpa using h)]
  simp
def basedT (s : VS) : Tr := (s.rangeR [] [255]).foldl putT .nil
theorem zGj {s : VS} {n : Nat} (h : VJ s n) (hk : ∀ y ∈ s.shown.row, Op.bytesLess y.1 [255] = true) : s.rangeR [] [255] = s.shown.row ∧ (basedT s).row = s.shown.row := by
 have e : s.rangeR [] [255] = s.shown.row := by
  unfold VS.rangeR
  rw [if_pos (by decide), zCf _ _ _ h.rs]
  unfold lrange
  rw [List.filter_eq_self]
  intro y hy
  unfold inR
  rw [zHy, hk y hy]; rfl
 refine ⟨e, ?_⟩
 unfold basedT
 rw [(zJm _ .nil (by simp [row, Rises])).2, e]
 exact zKb _ [] (by simpa using h.rs)
theorem zTf {R : List KV} {i : Nat} {x : KV} (hx : R[i]? = some x) : putT ((R.take i).foldl putT .nil) x = (R.take (i + 1)).foldl putT .nil := by
 obtain ⟨h, e⟩ := List.getElem?_eq_some_iff.1 hx
 rw [List.take_add_one, List.foldl_append, hx]; rfl
theorem zQu (R : List KV) (h : Rises R) : ((R.foldl putT .nil).size) = R.length := by
 rw [← yN, (zJm R .nil (by simp [row, Rises])).2]
 show (R.foldl (fun l x => lset x.1 x.2 l) []).length = _
 rw [zKb R [] (by simpa using h)]; rfl
end Go.Proofs.YtdnpkgakpiopgaaGreatDoor
namespace Go.Proofs.YtdnpkgakpiopgaaGreatDoor
set_option maxRecDepth 20000
open Go.Awp Go.RowKit
section
variable {P : Program} {T : Tab} {env : Env} {H L : List AObj} {o : Oper} {x : TV} {w : World}
end
section
variable {P : Program} {ops : List Oper} {env0 : Env} {Hs Ls : List (List AObj)} {ss : List Nat} {xs : List TV}
end
end Go.Proofs.YtdnpkgakpiopgaaGreatDoor
namespace Go.Proofs.YtdnpkgakpiopgaaGreatDoor
set_option maxRecDepth 20000
open Go.Awp Tr
structure D18 (s : VS) (m : MF) (i : Nat) : Prop where
 v : VJ s (200 * i)
 r : ∃ par, Rel s.shown.row m par
 w : m.wk (6 * i + 2)
 l : m.lt (2 + i)
theorem D18.new : D18 (VS.new .nil) newM 0 :=
 ⟨VJ.new (by simp [row, Rises]) (Nat.le_refl _) (by simp [row]), ⟨_, Rel.new⟩,
  ⟨by simp [newM], fun x hx => by rw [show x = ⟨1, 2, 2, [], []⟩ by simpa [newM] using hx]; simp, fun x hx => by rw [show x = ⟨1, 2, 2, [], []⟩ by simpa [newM] using hx]; simp, fun x hx => by rw [show x = ⟨1, 2, 2, [], []⟩ by simpa [newM] using hx]; simp [Rises]⟩,
  fun x hx => by rw [show x = ⟨1, 2, 2, [], []⟩ by simpa [newM] using hx]; simp⟩
theorem D18.u {s : VS} {m : MF} {i : Nat} (h : D18 s m i) : (∀ x ∈ m, U32 x.i) ∧ m.kind 1 = 2 ∧ m.ok (6 * i + 2) := by
 obtain ⟨par, R⟩ := h.r
 refine ⟨fun x hx => (R.u _ _ (R.fst x hx)).1, ?_, R.spot h.w⟩
 obtain ⟨x, h1, h2⟩ := R.root
 unfold MF.kind; rw [h1]; exact h2
theorem D18.step {s : VS} {m : MF} {i : Nat} (h : D18 s m i) (hi : i ≤ 100) (k : Int) (p o : List UInt8) (j : Int) (hj : j = 2 + i) :
  (doT s m k p o j).1.2.2 = true ∨ ((doT s m k p o j).1.1 = true ∧ (doT s m k p o j).1.2.2 = false ∧ D18 (doT s m k p o j).2 (doT s m k p o j).1.2.1 (i + 1)) := by
 obtain ⟨par, R⟩ := h.r
 have hl1 : m.lt (2 + (i + 1 : Nat)) := h.l.mono (by omega)
 have hat : m.at j = none := h.l.none (by omega)
 have hju : U32 j := by unfold U32; omega
 have key : ∀ (q : Int × VS) (r : Int × MF), (q.1 = 21 ∨ (q.1 = r.1 ∧ ∃ par', Rel q.2.shown.row r.2 par')) → VJ q.2 (200 * i + 200) → r.2.wk (6 * i + 2 + 6) → r.2.lt (2 + (i + 1 : Nat)) →
   (if q.1 = 21 then ((true, m, true), q.2) else ((decide (q.1 = r.1), r.2, false), q.2)).1.2.2 = true ∨ ((if q.1 = 21 then ((true, m, true), q.2) else ((decide (q.1 = r.1), r.2, false), q.2)).1.1 = true ∧ (if q.1 = 21 then ((true, m, true), q.2) else ((decide (q.1 = r.1), r.2, false), q.2)).1.2.2 = false ∧ D18 (if q.1 = 21 then ((true, m, true), q.2) else ((decide (q.1 = r.1), r.2, false), q.2)).2 (if q.1 = 21 then ((true, m, true), q.2) else ((decide (q.1 = r.1), r.2, false), q.2)).1.2.1 (i + 1)) := by
  intro q r h1 h2 h3 h4
  by_cases e : q.1 = 21
  ·rw [if_pos e]; exact .inl rfl
  ·rw [if_neg e]
   obtain ⟨h5, h6⟩ := h1.resolve_left e
   exact .inr ⟨decide_eq_true h5, rfl, h2.mono (by omega), h6, h3.mono (by omega), h4⟩
 unfold doT
 by_cases h3 : k = 3
 ·rw [if_pos h3]
  obtain ⟨e1, e2⟩ := zP4 h.v R p
  refine .inr ⟨?_, rfl, (zPz h.v p).mono (by omega), ⟨par, by dsimp only; rw [e2]; exact R⟩, h.w.mono (by omega), hl1⟩
  dsimp only
  rw [e1]; simp
 rw [if_neg h3]
 by_cases h0 : k = 0
 ·have e : do18 s m k p o j = (s.make p 1 j, m.make p 1 j) := by unfold do18; rw [if_pos h0]
  rw [e]
  exact key _ _ (zFl h.v R h.w (by omega) p (.inl rfl) hju (by omega) hat) (zIu h.v p 1 j) (zI8 h.w (by omega) p 1 j) (hl1.make p 1 (by omega))
 by_cases h1 : k = 1
 ·have e : do18 s m k p o j = (s.make p 2 j, m.make p 2 j) := by unfold do18; rw [if_neg h0, if_pos h1]
  rw [e]
  exact key _ _ (zFl h.v R h.w (by omega) p (.inr rfl) hju (by omega) hat) (zIu h.v p 2 j) (zI8 h.w (by omega) p 2 j) (hl1.make p 2 (by omega))
 by_cases h2 : k = 2
 ·have e : do18 s m k p o j = (s.remove p, m.remove p) := by unfold do18; rw [if_neg h0, if_neg h1, if_pos h2]
  rw [e]
  exact key _ _ ((zHp h.v R h.w (by omega) p).imp_right fun q => ⟨q.1, par, q.2⟩) (zKh h.v p) (zKu h.w p) (hl1.remove p)
 by_cases h4 : k = 4
 ·have e : do18 s m k p o j = (s.link p o, m.link p o) := by unfold do18; rw [if_neg h0, if_neg h1, if_neg h2, if_pos h4]
  rw [e]
  exact key _ _ ((zQn h.v R p o).imp_right fun q => ⟨q.1, par, q.2⟩) (zSn h.v p o) (zSy h.w p o) (hl1.link p o)
 by_cases h5 : k = 5
 ·have e : do18 s m k p o j = (s.unlink p, m.unlink p) := by unfold do18; rw [if_neg h0, if_neg h1, if_neg h2, if_neg h4, if_pos h5]
  rw [e]
  exact key _ _ ((zH6 h.v R p).imp_right fun q => ⟨q.1, par, q.2⟩) (zLq h.v R p) (zL8 h.w p) (hl1.unlink p)
 by_cases h6 : k = 6
 ·have e : do18 s m k p o j = (s.rename p o, m.rename p o) := by unfold do18; rw [if_neg h0, if_neg h1, if_neg h2, if_neg h4, if_neg h5, if_pos h6]
  rw [e]
  exact key _ _ (zH1 h.v R h.w (by omega) p o) (zK6 h.v R p o) (zK9 h.w p o) (hl1.rename p o)
 have e : do18 s m k p o j = ((0, s), (0, m)) := by unfold do18; rw [if_neg h0, if_neg h1, if_neg h2, if_neg h4, if_neg h5, if_neg h6]
 rw [e]
 exact key (0, s) (0, m) (.inr ⟨rfl, par, R⟩) (h.v.mono (by omega)) (h.w.mono (by omega)) hl1
theorem key_lt {y c j : Int} {r : List UInt8} (hc : c = 73 ∧ r = [] ∨ c = 69 ∨ c = 68) : Op.bytesLess (keyH c j ++ r) [255] = true := by
 have : c = 73 ∨ c = 69 ∨ c = 68 := by omega
 rcases this with rfl | rfl | rfl <;> rfl
theorem Rel.ff {l : List KV} {m : MF} {par : Int → Int} (R : Rel l m par) : ∀ y ∈ l, Op.bytesLess y.1 [255] = true := fun y hy => by
 obtain ⟨c, j, r, h1, _, h3⟩ := R.key y hy
 rw [h3]; exact key_lt (y := 0) h1
theorem D18.based {s : VS} {m : MF} {i : Nat} (h : D18 s m i) : D18 (VS.new (basedT s)) m i ∧ (basedT s).row = s.shown.row := by
 obtain ⟨par, R⟩ := h.r
 obtain ⟨e1, e2⟩ := zGj h.v R.ff
 refine ⟨⟨VJ.new (by rw [e2]; exact h.v.rs) (by rw [← yN, e2, yN]; exact h.v.zs) (by rw [e2]; exact h.v.val), ⟨par, ?_⟩, h.w, h.l⟩, e2⟩
 show Rel (basedT s).row m par
 rw [e2]; exact R
def sameP (f : Int → Int → Bool) (p : KV × KV) : Bool := decide (p.1.1 = p.2.1) && f (beV p.1.2) (beV p.2.2)
def sameF (a b : MF) : Nat → Int → Int → Bool
 | 0, _, _ => false
 | n + 1, i, k => match a.at i, b.at k with
  | some x, some y => decide (x.k = y.k) && decide (x.n = y.n) && decide (x.b = y.b) && decide (x.e.length = y.e.length) && (x.e.zip y.e).all (sameP (sameF a b n))
  | _, _ => false
def MF.same (a b : MF) : Bool := sameF a b 41 1 1 && decide (a.length = b.length)
structure SmI (f : KV × KV → Bool) (l : List (KV × KV)) where
 i : Nat
 h : i ≤ l.length
 e : (l.drop i).all f = l.all f
def WC (s : VS) : Prop := ∀ x ∈ s.writes.row, lget x.1 s.shown.row = if x.2 = [] then none else some (x.2.drop 1)
theorem WC.new (t : Tr) : WC (VS.new t) := fun x hx => by cases hx
theorem WC.rd {s : VS} (h : WC s) (k : List UInt8) : WC (s.rd k) := h
theorem WC.rds {s : VS} (h : WC s) (ks : List (List UInt8)) : WC (s.rds ks) := h
theorem WC.range {s : VS} (h : WC s) (a b : List UInt8) : WC (s.range a b) := by
 unfold VS.range; split
 ·exact h
 ·exact h
theorem WC.put {s : VS} {n : Nat} (hv : VJ s n) (h : WC s) (k v : List UInt8) : WC (s.put k v) := by
 unfold VS.put
 split
 ·intro x hx
  have hx : x ∈ (s.writes.set k (61 :: v)).row := hx
  show lget x.1 (s.shown.set k v).row = _
  rw [qY _ _ _ hv.rs, yR hv.rs]
  rw [qY _ _ _ hv.rw] at hx
  rcases (y8 hv.rw x).1 hx with rfl | ⟨h1, h2⟩
  ·rw [if_pos rfl]; rfl
  ·rw [if_neg h2]; exact h x h1
 ·exact h
theorem WC.del {s : VS} {n : Nat} (hv : VJ s n) (h : WC s) (k : List UInt8) : WC (s.del k) := by
 unfold VS.del
 split
 ·intro x hx
  have hx : x ∈ (if (s.base.get k).isSome = true then s.writes.set k [] else s.writes.cut k).row := hx
  show lget x.1 (s.shown.cut k).row = _
  rw [qT _ _ hv.rs, qI]
  split at hx
  ·rw [qY _ _ _ hv.rw] at hx
   rcases (y8 hv.rw x).1 hx with rfl | ⟨h1, h2⟩
   ·rw [if_pos rfl]; rfl
   ·rw [if_neg h2]; exact h x h1
  ·rw [qT _ _ hv.rw] at hx
   obtain ⟨h1, h2⟩ := zBm.1 hx
   rw [if_neg h2]; exact h x h1
 ·exact h
theorem WC.save {s : VS} {n : Nat} (hv : VJ s n) (h : WC s) (i : Int) (g : Nd) : WC (s.save i g) := h.put hv _ _
theorem WC.links {s : VS} {n : Nat} (hv : VJ s n) (h : WC s) (d b : Int) : WC (s.links d b) := WC.save (hv.rd _) (h.rd _) _ _
theorem WC.cutsL : ∀ (R : List KV) {s : VS} {n : Nat} (e : Int), VJ s n → WC s → WC (s.cutsL R e).2
 | [], _, _, _, _, h => h
 | x :: R, _, _, _, hv, h => WC.cutsL R _ (hv.del x.1) (h.del hv x.1)
theorem WC.removes {s : VS} {n : Nat} (hv : VJ s n) (h : WC s) (a : Sp) : WC (s.removes a).2 := by
 unfold VS.removes
 split
 ·exact h
 split
 ·exact h.range _ _
 ·have h1 := hv.rngE a.i
  have g1 : WC (s.rngE a.i) := h.range _ _
  have h2 := h1.del (entryK a.d a.m)
  have g2 := g1.del h1 (entryK a.d a.m)
  exact (g2.del h2 _).links (h2.del _) _ _
theorem WC.unlinks {s : VS} {n : Nat} (hv : VJ s n) (h : WC s) (a : Sp) : WC (s.unlinks a).2 := by
 unfold VS.unlinks
 split
 ·exact h
 have h1 := hv.del (entryK a.d a.m)
 have g1 := h.del hv (entryK a.d a.m)
 dsimp only
 split
 ·exact g1.save h1 _ _
 ·have h2 : VJ ((s.del (entryK a.d a.m)).rngB a.i) (n + 1 + 1) := h1.range _ _
  exact (WC.cutsL _ _ h2 (g1.range _ _)).del (zCl _ _ h2) _
theorem WC.make {s : VS} {n : Nat} (hv : VJ s n) (h : WC s) (p : List UInt8) (k i : Int) : WC (s.make p k i).2 := by
 unfold VS.make VS.makeAt
 have h1 : VJ (s.rds (s.find p).2.2) (n + 33) := hv.rdp p
 have g1 : WC (s.rds (s.find p).2.2) := h
 dsimp only
 split
 ·exact g1
 split
 ·exact g1
 have h2 := h1.save i (newN k (s.find p).1.d)
 have g2 := g1.save h1 i (newN k (s.find p).1.d)
 have h3 := h2.hang (s.find p).1.d (s.find p).1.m i
 have g3 := g2.put h2 (entryK (s.find p).1.d (s.find p).1.m) (beB 4 i)
 split
 ·exact g3.links h3 _ _
 ·exact g3
theorem WC.remove {s : VS} {n : Nat} (hv : VJ s n) (h : WC s) (p : List UInt8) : WC (s.remove p).2 := by
 unfold VS.remove
 split
 ·exact h
 ·exact WC.removes (hv.rdp p) h _
theorem WC.unlink {s : VS} {n : Nat} (hv : VJ s n) (h : WC s) (p : List UInt8) : WC (s.unlink p).2 := by
 unfold VS.unlink
 split
 ·exact h
 ·exact WC.unlinks (hv.rdp p) h _
theorem WC.dlist {s : VS} (h : WC s) (p : List UInt8) : WC (s.dlist p).2 := by
 unfold VS.dlist
 split
 ·exact h
 split
 ·exact h
 ·exact WC.range (s := s.rdp p) h _ _
theorem WC.link {s : VS} {n : Nat} (hv : VJ s n) (h : WC s) (o p : List UInt8) : WC (s.link o p).2 := by
 unfold VS.link VS.linkAt
 have h1 := hv.rdp o
 have h2 := h1.rdp p
 have g2 : WC ((s.rdp o).rdp p) := h
 dsimp only
 split
 ·exact h
 split
 ·exact h
 split
 ·exact h
 split
 ·exact h
 split
 ·exact h
 exact (g2.put h2 _ _).save (h2.hang _ _ _) _ _
theorem WC.movesAt {s : VS} {n : Nat} (hv : VJ s n) (h : WC s) (a t : Sp) : WC (s.movesAt a t).2 := by
 unfold VS.movesAt
 dsimp only
 have h1 := hv.del (entryK a.d a.m)
 have g1 := h.del hv (entryK a.d a.m)
 have h2 := h1.hang t.d t.m a.i
 have g2 := g1.put h1 (entryK t.d t.m) (beB 4 a.i)
 split
 ·exact g2
 ·have h3 := h2.save a.i (parN a.n t.d)
  have g3 := g2.save h2 a.i (parN a.n t.d)
  exact (g3.links h3 _ _).links (h3.links _ _) _ _
theorem WC.rename {s : VS} {n : Nat} (hv : VJ s n) (h : WC s) (o p : List UInt8) : WC (s.rename o p).2 := by
 unfold VS.rename VS.renameAt
 have h1 := hv.rdp o
 have h2 := h1.rdp p
 have g2 : WC ((s.rdp o).rdp p) := h
 split
 ·exact h
 split
 ·exact h
 split
 ·exact h
 split
 ·exact h
 have hc : WC (((s.rdp o).rdp p).clears (s.there o false).1 ((s.rdp o).find p).1 o p).2 := by
  unfold VS.clears
  split
  ·exact g2
  split
  ·exact g2
  split
  ·exact g2.removes h2 _
  ·exact g2.unlinks h2 _
 split
 ·exact hc
 ·exact hc.movesAt (zK8 h2 _ _ _ _) _ _
end Go.Proofs.YtdnpkgakpiopgaaGreatDoor

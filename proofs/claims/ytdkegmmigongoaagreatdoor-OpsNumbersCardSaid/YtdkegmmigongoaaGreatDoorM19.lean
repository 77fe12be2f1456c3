import Derived.Test.YtdkegmmigongoaaGreatDoorGo
import Derived.Test.YtdkegmmigongoaaGreatDoorM18
import Derived.Test.YtdkegmmigongoaaGreatDoorM15
import Derived.Test.YtdkegmmigongoaaGreatDoorM7
import Derived.Test.YtdkegmmigongoaaGreatDoorM4
import Derived.Test.YtdkegmmigongoaaGreatDoorM6
namespace Go.Proofs.YtdkegmmigongoaaGreatDoor
set_option maxRecDepth 20000
open Go.Awp Tr
theorem make_ok {s : VS} {n : Nat} (h : VJ s n) (p : List UInt8) (k i : Int) : VJ (s.make p k i).2 (n + 200) := by
 unfold VS.make VS.makeAt
 have h1 : VJ (s.rds (s.find p).2.2) (n + 33) := h.rdp p
 dsimp only
 repeat' split
 ·exact h1.mono (by omega)
 ·exact h1.mono (by omega)
 ·exact (((h1.save _ _).hang _ _ _).links _ _).mono (by omega)
 ·exact ((h1.save _ _).hang _ _ _).mono (by omega)
theorem remove_ok {s : VS} {n : Nat} (h : VJ s n) (p : List UInt8) : VJ (s.remove p).2 (n + 200) := by
 unfold VS.remove
 have h1 := h.rdp p
 split
 ·exact h1.mono (by omega)
 ·exact (removes_ok h1 _).mono (by omega)
theorem dlist_ok {s : VS} {n : Nat} (h : VJ s n) (p : List UInt8) : VJ (s.dlist p).2 (n + 200) := by
 unfold VS.dlist
 have h1 := h.rdp p
 repeat' split
 ·exact h1.mono (by omega)
 ·exact h1.mono (by omega)
 ·exact (h1.rngE _).mono (by omega)
theorem link_ok {s : VS} {n : Nat} (h : VJ s n) (o p : List UInt8) : VJ (s.link o p).2 (n + 200) := by
 unfold VS.link VS.linkAt
 have h1 := h.rdp o
 have h2 := h1.rdp p
 dsimp only
 repeat' split
 ·exact h1.mono (by omega)
 ·exact h1.mono (by omega)
 ·exact h2.mono (by omega)
 ·exact h2.mono (by omega)
 ·exact h2.mono (by omega)
 ·exact ((h2.hang _ _ _).save _ _).mono (by omega)
theorem blk_len {s : VS} {n : Nat} (h : VJ s n) {m : MF} {par : Int → Int} (R : Rel s.shown.row m par) (k : List UInt8) {i : Int} {z : MN} (hz : m.at i = some z) : ((s.del k).blkR i).length ≤ 64 := by
 refine Nat.le_trans (blkR_len (h.del k) i) ?_
 have h1 : (subL 68 i (s.del k).shown.row).length ≤ (subL 68 i s.shown.row).length := by
  unfold VS.del
  split
  ·show (subL 68 i (s.shown.cut k).row).length ≤ _
   rw [cut_row _ _ h.rs]
   unfold subL lcut
   rw [List.length_map, List.length_map]
   exact (List.filter_sublist.filter _).length_le
  ·exact Nat.le_refl _
 refine Nat.le_trans h1 ?_
 rw [R.blk i z hz]
 have := blkOf_len z.b
 have := may_size (R.may hz).1
 omega
theorem unlinks_ok2 {s : VS} {n : Nat} (h : VJ s n) {m : MF} {par : Int → Int} (R : Rel s.shown.row m par) {a : Sp} (hz : ∃ z, m.at a.i = some z) : VJ (s.unlinks a).2 (n + 80) := by
 obtain ⟨z, hz⟩ := hz
 have hb := blk_len h R (entryK a.d a.m) hz
 unfold VS.unlinks
 dsimp only
 have h1 := h.del (entryK a.d a.m)
 repeat' split
 ·exact h.mono (by omega)
 ·exact (h1.save _ _).mono (by omega)
 ·exact ((cutsL_ok _ _ (h1.range _ _)).del _).mono (by omega)
theorem unlink_ok {s : VS} {n : Nat} (h : VJ s n) {m : MF} {par : Int → Int} (R : Rel s.shown.row m par) (p : List UInt8) : VJ (s.unlink p).2 (n + 200) := by
 unfold VS.unlink
 have h1 := h.rdp p
 split
 ·exact h1.mono (by omega)
 ·rename_i he
  rcases there_sim h R p true with ⟨g, e⟩ | ⟨_, _, _, e⟩ | ⟨_, _, e⟩ | ⟨_, h2, _, _, es⟩
  ·rw [e] at he; exact absurd g he
  ·rw [e] at he; exact absurd (by decide) he
  ·rw [e] at he; exact absurd (by decide) he
  ·obtain ⟨z, g, _⟩ := es.hn (by rw [es.hi]; exact h2)
   exact (unlinks_ok2 (s := s.rdp p) h1 R ⟨z, g⟩).mono (by omega)
theorem rename_ok {s : VS} {n : Nat} (h : VJ s n) {m : MF} {par : Int → Int} (R : Rel s.shown.row m par) (o p : List UInt8) : VJ (s.rename o p).2 (n + 200) := by
 have h1 := h.rdp o
 have h2 := h1.rdp p
 obtain ⟨he, hs⟩ := find_sim (s := s.rdp o) h1 R p
 unfold VS.rename VS.renameAt
 by_cases c1 : (s.there o false).2 ≠ 0
 ·rw [if_pos c1]; exact h1.mono (by omega)
 rw [if_neg c1]
 by_cases c2 : ((s.rdp o).find p).2.1 ≠ 0
 ·rw [if_pos c2]; exact h2.mono (by omega)
 rw [if_neg c2]
 rw [he] at c2
 have hs := hs (by simpa using c2)
 split
 ·exact h2.mono (by omega)
 split
 ·exact h2.mono (by omega)
 have hc : VJ (((s.rdp o).rdp p).clears (s.there o false).1 ((s.rdp o).find p).1 o p).2 (n + 33 + 33 + 80) := by
  unfold VS.clears
  split
  ·exact h2.mono (by omega)
  split
  ·exact h2.mono (by omega)
  rename_i h0
  split
  ·exact (removes_ok h2 _).mono (by omega)
  ·obtain ⟨z, g, _⟩ := hs.hn h0
   exact unlinks_ok2 (s := (s.rdp o).rdp p) h2 R ⟨z, g⟩
 split
 ·exact hc.mono (by omega)
 unfold VS.movesAt
 dsimp only
 split
 ·exact ((hc.del _).hang _ _ _).mono (by omega)
 ·exact (((((hc.del _).hang _ _ _).save _ _).links _ _).links _ _).mono (by omega)
theorem make_wk {m : MF} {c : Nat} (h : m.wk c) (hc : 2 ≤ c) (p : List UInt8) (k i : Int) : (m.make p k i).2.wk (c + 6) := by
 unfold MF.make
 split
 ·exact h.mono (by omega)
 split
 ·exact h.mono (by omega)
 dsimp only
 split
 ·exact ((h.with _ (by simp) (by dsimp only; omega) (by simp [Rises])).named _ _ _).mono (by omega)
 ·exact (((h.with _ (by simp) (by dsimp only; omega) (by simp [Rises])).linked _ _ (by omega)).named _ _ _).mono (by omega)
theorem remove_wk {m : MF} {c : Nat} (h : m.wk c) (p : List UInt8) : (m.remove p).2.wk (c + 6) := by
 unfold MF.remove
 repeat' split
 ·exact h.mono (by omega)
 ·exact h.mono (by omega)
 ·exact h.mono (by omega)
 ·exact (rmv_wk h _).mono (by omega)
theorem unlink_wk {m : MF} {c : Nat} (h : m.wk c) (p : List UInt8) : (m.unlink p).2.wk (c + 6) := by
 unfold MF.unlink
 repeat' split
 ·exact h.mono (by omega)
 ·exact h.mono (by omega)
 ·exact (unl_wk h _).mono (by omega)
theorem link_wk {m : MF} {c : Nat} (h : m.wk c) (o p : List UInt8) : (m.link o p).2.wk (c + 6) := by
 unfold MF.link
 split
 ·exact h.mono (by omega)
 split
 ·exact h.mono (by omega)
 split
 ·exact h.mono (by omega)
 split
 ·exact h.mono (by omega)
 split
 ·exact h.mono (by omega)
 split
 ·exact h.mono (by omega)
 split
 ·exact h.mono (by omega)
 exact ((h.linked _ _ (by omega)).named _ _ _).mono (by omega)
theorem moved_wk {m : MF} {c : Nat} (h : m.wk c) (s t : MS) (b : Bool) : (m.moved s t b).wk (c + 4) := by
 unfold MF.moved
 split
 ·exact ((((h.named _ _ _).named _ _ _).linked _ _ (by omega)).linked _ _ (by omega))
 ·exact ((h.named _ _ _).named _ _ _).mono (by omega)
theorem rename_wk {m : MF} {c : Nat} (h : m.wk c) (o p : List UInt8) : (m.rename o p).2.wk (c + 6) := by
 unfold MF.rename
 split
 ·exact h.mono (by omega)
 split
 ·exact h.mono (by omega)
 split
 ·exact h.mono (by omega)
 split
 ·exact h.mono (by omega)
 split
 ·exact h.mono (by omega)
 split
 ·exact h.mono (by omega)
 split
 ·exact h.mono (by omega)
 split
 ·exact (moved_wk h _ _ _).mono (by omega)
 have hq : (if m.kind (m.findP o).1.i = 2 then m.rmv (m.findP p).1 else m.unl (m.findP p).1).2.wk (c + 2) := by
  split
  ·exact rmv_wk h _
  ·exact unl_wk h _
 generalize (if m.kind (m.findP o).1.i = 2 then m.rmv (m.findP p).1 else m.unl (m.findP p).1) = q at hq ⊢
 dsimp only
 split
 ·exact h.mono (by omega)
 ·exact moved_wk hq _ _ _
def MF.lt (m : MF) (B : Int) : Prop := ∀ x ∈ m, x.i < B
theorem MF.lt.mono {m : MF} {B C : Int} (h : m.lt B) (hc : B ≤ C) : m.lt C := fun x hx => by have := h x hx; omega
theorem MF.lt.with {m : MF} {B : Int} (h : m.lt B) {x : MN} (hx : x.i < B) : (m.with x).lt B := fun y hy => by
 rcases with_mem hy with rfl | hy
 ·exact hx
 ·exact h y hy
theorem MF.lt.without {m : MF} {B : Int} (h : m.lt B) (j : Int) : (m.without j).lt B := fun y hy => h y (List.mem_filter.1 hy).1
theorem MF.lt.linked {m : MF} {B : Int} (h : m.lt B) (j b : Int) : (m.linked j b).lt B := by
 unfold MF.linked; split
 ·rename_i x hx; exact h.with (h x (at_mem hx).1)
 ·exact h
theorem MF.lt.named {m : MF} {B : Int} (h : m.lt B) (d : Int) (nm : List UInt8) (j : Int) : (m.named d nm j).lt B := by
 unfold MF.named; split
 ·rename_i x hx; exact h.with (h x (at_mem hx).1)
 ·exact h
theorem MF.lt.rmv {m : MF} {B : Int} (h : m.lt B) (b : MS) : (m.rmv b).2.lt B := by
 unfold MF.rmv
 split
 ·exact h
 ·split
  ·exact h
  ·split
   ·exact h
   ·exact ((h.without _).linked _ _).named _ _ _
theorem MF.lt.unl {m : MF} {B : Int} (h : m.lt B) (b : MS) : (m.unl b).2.lt B := by
 unfold MF.unl
 split
 ·exact h
 ·split
  ·exact h
  ·split
   ·exact (h.without _).named _ _ _
   ·exact (h.linked _ _).named _ _ _
theorem MF.lt.moved {m : MF} {B : Int} (h : m.lt B) (s t : MS) (b : Bool) : (m.moved s t b).lt B := by
 unfold MF.moved
 split
 ·exact (((h.named _ _ _).named _ _ _).linked _ _).linked _ _
 ·exact (h.named _ _ _).named _ _ _
theorem MF.lt.make {m : MF} {B : Int} (h : m.lt B) (p : List UInt8) (k : Int) {i : Int} (hi : i < B) : (m.make p k i).2.lt B := by
 unfold MF.make
 split
 ·exact h
 split
 ·exact h
 dsimp only
 split
 ·exact (h.with hi).named _ _ _
 ·exact ((h.with hi).linked _ _).named _ _ _
theorem MF.lt.remove {m : MF} {B : Int} (h : m.lt B) (p : List UInt8) : (m.remove p).2.lt B := by
 unfold MF.remove
 repeat' split
 ·exact h
 ·exact h
 ·exact h
 ·exact h.rmv _
theorem MF.lt.unlink {m : MF} {B : Int} (h : m.lt B) (p : List UInt8) : (m.unlink p).2.lt B := by
 unfold MF.unlink
 repeat' split
 ·exact h
 ·exact h
 ·exact h.unl _
theorem MF.lt.link {m : MF} {B : Int} (h : m.lt B) (o p : List UInt8) : (m.link o p).2.lt B := by
 unfold MF.link
 split
 ·exact h
 split
 ·exact h
 split
 ·exact h
 split
 ·exact h
 split
 ·exact h
 split
 ·exact h
 split
 ·exact h
 exact (h.linked _ _).named _ _ _
theorem MF.lt.rename {m : MF} {B : Int} (h : m.lt B) (o p : List UInt8) : (m.rename o p).2.lt B := by
 unfold MF.rename
 split
 ·exact h
 split
 ·exact h
 split
 ·exact h
 split
 ·exact h
 split
 ·exact h
 split
 ·exact h
 split
 ·exact h
 split
 ·exact h.moved _ _ _
 have hq : (if m.kind (m.findP o).1.i = 2 then m.rmv (m.findP p).1 else m.unl (m.findP p).1).2.lt B := by
  split
  ·exact h.rmv _
  ·exact h.unl _
 generalize (if m.kind (m.findP o).1.i = 2 then m.rmv (m.findP p).1 else m.unl (m.findP p).1) = q at hq ⊢
 dsimp only
 split
 ·exact h
 ·exact MF.lt.moved hq _ _ _
theorem MF.lt.none {m : MF} {B : Int} (h : m.lt B) {i : Int} (hi : B ≤ i) : m.at i = none := by
 cases e : m.at i with
 | none => rfl
 | some x =>
  have h1 := at_mem e
  have := h x h1.1
  omega
structure DOp where
 kind : Int
 path : List UInt8
 other : List UInt8
end Go.Proofs.YtdkegmmigongoaaGreatDoor
namespace Go.Proofs.YtdkegmmigongoaaGreatDoor
set_option maxRecDepth 20000
open Go.Awp Go.RowKit
section
variable {P : Program} {T : Tab} {env : Env} {H L : List AObj} {o : Oper} {x : TV} {w : World}
end
section
variable {P : Program} {ops : List Oper} {env0 : Env} {Hs Ls : List (List AObj)} {ss : List Nat} {xs : List TV}
end
end Go.Proofs.YtdkegmmigongoaaGreatDoor
namespace Go.Proofs.YtdkegmmigongoaaGreatDoor
set_option maxRecDepth 20000
open Go.Awp Tr
structure D18 (s : VS) (m : MF) (i : Nat) : Prop where
 v : VJ s (200 * i)
 r : ∃ par, Rel s.shown.row m par
 w : m.wk (6 * i + 2)
 l : m.lt (2 + i)
theorem D18.new : D18 (VS.new .nil) newM 0 :=
 ⟨VJ.new (by simp [row, Rises]) (Nat.le_refl _) (by simp [row]), ⟨_, Rel.new⟩,
  ⟨by simp [newM], fun x hx => by rw [show x = ⟨1, 2, 2, [], []⟩ by simpa [newM] using hx]; simp, fun x hx => by rw [show x = ⟨1, 2, 2, [], []⟩ by simpa [newM] using hx]; simp, fun x hx => by rw [show x = ⟨1, 2, 2, [], []⟩ by simpa [newM] using hx]; simp [Rises]⟩,
  fun x hx => by rw [show x = ⟨1, 2, 2, [], []⟩ by simpa [newM] using hx]; simp⟩
theorem D18.u {s : VS} {m : MF} {i : Nat} (h : D18 s m i) : (∀ x ∈ m, U32 x.i) ∧ m.kind 1 = 2 ∧ m.ok (6 * i + 2) := by
 obtain ⟨par, R⟩ := h.r
 refine ⟨fun x hx => (R.u _ _ (R.fst x hx)).1, ?_, R.spot h.w⟩
 obtain ⟨x, h1, h2⟩ := R.root
 unfold MF.kind; rw [h1]; exact h2
theorem D18.step {s : VS} {m : MF} {i : Nat} (h : D18 s m i) (hi : i ≤ 100) (k : Int) (p o : List UInt8) (j : Int) (hj : j = 2 + i) :
  (doT s m k p o j).1.2.2 = true ∨ ((doT s m k p o j).1.1 = true ∧ (doT s m k p o j).1.2.2 = false ∧ D18 (doT s m k p o j).2 (doT s m k p o j).1.2.1 (i + 1)) := by
 obtain ⟨par, R⟩ := h.r
 have hl1 : m.lt (2 + (i + 1 : Nat)) := h.l.mono (by omega)
 have hat : m.at j = none := h.l.none (by omega)
 have hju : U32 j := by unfold U32; omega
 have key : ∀ (q : Int × VS) (r : Int × MF), (q.1 = 21 ∨ (q.1 = r.1 ∧ ∃ par', Rel q.2.shown.row r.2 par')) → VJ q.2 (200 * i + 200) → r.2.wk (6 * i + 2 + 6) → r.2.lt (2 + (i + 1 : Nat)) →
   (if q.1 = 21 then ((true, m, true), q.2) else ((decide (q.1 = r.1), r.2, false), q.2)).1.2.2 = true ∨ ((if q.1 = 21 then ((true, m, true), q.2) else ((decide (q.1 = r.1), r.2, false), q.2)).1.1 = true ∧ (if q.1 = 21 then ((true, m, true), q.2) else ((decide (q.1 = r.1), r.2, false), q.2)).1.2.2 = false ∧ D18 (if q.1 = 21 then ((true, m, true), q.2) else ((decide (q.1 = r.1), r.2, false), q.2)).2 (if q.1 = 21 then ((true, m, true), q.2) else ((decide (q.1 = r.1), r.2, false), q.2)).1.2.1 (i + 1)) := by
  intro q r h1 h2 h3 h4
  by_cases e : q.1 = 21
  ·rw [if_pos e]; exact .inl rfl
  ·rw [if_neg e]
   obtain ⟨h5, h6⟩ := h1.resolve_left e
   exact .inr ⟨decide_eq_true h5, rfl, h2.mono (by omega), h6, h3.mono (by omega), h4⟩
 unfold doT
 by_cases h3 : k = 3
 ·rw [if_pos h3]
  obtain ⟨e1, e2⟩ := list_sim h.v R p
  refine .inr ⟨?_, rfl, (dlist_ok h.v p).mono (by omega), ⟨par, by dsimp only; rw [e2]; exact R⟩, h.w.mono (by omega), hl1⟩
  dsimp only
  rw [e1]; simp
 rw [if_neg h3]
 by_cases h0 : k = 0
 ·have e : do18 s m k p o j = (s.make p 1 j, m.make p 1 j) := by unfold do18; rw [if_pos h0]
  rw [e]
  exact key _ _ (make_sim h.v R h.w (by omega) p (.inl rfl) hju (by omega) hat) (make_ok h.v p 1 j) (make_wk h.w (by omega) p 1 j) (hl1.make p 1 (by omega))
 by_cases h1 : k = 1
 ·have e : do18 s m k p o j = (s.make p 2 j, m.make p 2 j) := by unfold do18; rw [if_neg h0, if_pos h1]
  rw [e]
  exact key _ _ (make_sim h.v R h.w (by omega) p (.inr rfl) hju (by omega) hat) (make_ok h.v p 2 j) (make_wk h.w (by omega) p 2 j) (hl1.make p 2 (by omega))
 by_cases h2 : k = 2
 ·have e : do18 s m k p o j = (s.remove p, m.remove p) := by unfold do18; rw [if_neg h0, if_neg h1, if_pos h2]
  rw [e]
  exact key _ _ ((remove_sim h.v R h.w (by omega) p).imp_right fun q => ⟨q.1, par, q.2⟩) (remove_ok h.v p) (remove_wk h.w p) (hl1.remove p)
 by_cases h4 : k = 4
 ·have e : do18 s m k p o j = (s.link p o, m.link p o) := by unfold do18; rw [if_neg h0, if_neg h1, if_neg h2, if_pos h4]
  rw [e]
  exact key _ _ ((link_sim h.v R p o).imp_right fun q => ⟨q.1, par, q.2⟩) (link_ok h.v p o) (link_wk h.w p o) (hl1.link p o)
 by_cases h5 : k = 5
 ·have e : do18 s m k p o j = (s.unlink p, m.unlink p) := by unfold do18; rw [if_neg h0, if_neg h1, if_neg h2, if_neg h4, if_pos h5]
  rw [e]
  exact key _ _ ((unlink_sim h.v R p).imp_right fun q => ⟨q.1, par, q.2⟩) (unlink_ok h.v R p) (unlink_wk h.w p) (hl1.unlink p)
 by_cases h6 : k = 6
 ·have e : do18 s m k p o j = (s.rename p o, m.rename p o) := by unfold do18; rw [if_neg h0, if_neg h1, if_neg h2, if_neg h4, if_neg h5, if_pos h6]
  rw [e]
  exact key _ _ (rename_sim h.v R h.w (by omega) p o) (rename_ok h.v R p o) (rename_wk h.w p o) (hl1.rename p o)
 have e : do18 s m k p o j = ((0, s), (0, m)) := by unfold do18; rw [if_neg h0, if_neg h1, if_neg h2, if_neg h4, if_neg h5, if_neg h6]
 rw [e]
 exact key (0, s) (0, m) (.inr ⟨rfl, par, R⟩) (h.v.mono (by omega)) (h.w.mono (by omega)) hl1
end Go.Proofs.YtdkegmmigongoaaGreatDoor

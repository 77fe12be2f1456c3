import Derived.Test.YtdkegmmigongoaaGreatDoorGo
import Derived.Test.YtdkegmmigongoaaGreatDoorM19
import Derived.Test.YtdkegmmigongoaaGreatDoorM2
namespace Go.Proofs.YtdkegmmigongoaaGreatDoor
set_option maxRecDepth 20000
open Go.Awp Tr
def WC (s : VS) : Prop := ∀ x ∈ s.writes.row, lget x.1 s.shown.row = if x.2 = [] then none else some (x.2.drop 1)
theorem WC.new (t : Tr) : WC (VS.new t) := fun x hx => by cases hx
theorem WC.rd {s : VS} (h : WC s) (k : List UInt8) : WC (s.rd k) := h
theorem WC.rds {s : VS} (h : WC s) (ks : List (List UInt8)) : WC (s.rds ks) := h
theorem WC.range {s : VS} (h : WC s) (a b : List UInt8) : WC (s.range a b) := by
 unfold VS.range; split
 ·exact h
 ·exact h
theorem WC.put {s : VS} {n : Nat} (hv : VJ s n) (h : WC s) (k v : List UInt8) : WC (s.put k v) := by
 unfold VS.put
 split
 ·intro x hx
  have hx : x ∈ (s.writes.set k (61 :: v)).row := hx
  show lget x.1 (s.shown.set k v).row = _
  rw [set_row _ _ _ hv.rs, lget_lset hv.rs]
  rw [set_row _ _ _ hv.rw] at hx
  rcases (lset_mem_iff hv.rw x).1 hx with rfl | ⟨h1, h2⟩
  ·rw [if_pos rfl]; rfl
  ·rw [if_neg h2]; exact h x h1
 ·exact h
theorem WC.del {s : VS} {n : Nat} (hv : VJ s n) (h : WC s) (k : List UInt8) : WC (s.del k) := by
 unfold VS.del
 split
 ·intro x hx
  have hx : x ∈ (if (s.base.get k).isSome = true then s.writes.set k [] else s.writes.cut k).row := hx
  show lget x.1 (s.shown.cut k).row = _
  rw [cut_row _ _ hv.rs, lget_lcut]
  split at hx
  ·rw [set_row _ _ _ hv.rw] at hx
   rcases (lset_mem_iff hv.rw x).1 hx with rfl | ⟨h1, h2⟩
   ·rw [if_pos rfl]; rfl
   ·rw [if_neg h2]; exact h x h1
  ·rw [cut_row _ _ hv.rw] at hx
   obtain ⟨h1, h2⟩ := lcut_mem.1 hx
   rw [if_neg h2]; exact h x h1
 ·exact h
theorem WC.save {s : VS} {n : Nat} (hv : VJ s n) (h : WC s) (i : Int) (g : Nd) : WC (s.save i g) := h.put hv _ _
theorem WC.links {s : VS} {n : Nat} (hv : VJ s n) (h : WC s) (d b : Int) : WC (s.links d b) := WC.save (hv.rd _) (h.rd _) _ _
theorem WC.cutsL : ∀ (R : List KV) {s : VS} {n : Nat} (e : Int), VJ s n → WC s → WC (s.cutsL R e).2
 | [], _, _, _, _, h => h
 | x :: R, _, _, _, hv, h => WC.cutsL R _ (hv.del x.1) (h.del hv x.1)
theorem WC.removes {s : VS} {n : Nat} (hv : VJ s n) (h : WC s) (a : Sp) : WC (s.removes a).2 := by
 unfold VS.removes
 split
 ·exact h
 split
 ·exact h.range _ _
 ·have h1 := hv.rngE a.i
  have g1 : WC (s.rngE a.i) := h.range _ _
  have h2 := h1.del (entryK a.d a.m)
  have g2 := g1.del h1 (entryK a.d a.m)
  exact (g2.del h2 _).links (h2.del _) _ _
theorem WC.unlinks {s : VS} {n : Nat} (hv : VJ s n) (h : WC s) (a : Sp) : WC (s.unlinks a).2 := by
 unfold VS.unlinks
 split
 ·exact h
 have h1 := hv.del (entryK a.d a.m)
 have g1 := h.del hv (entryK a.d a.m)
 dsimp only
 split
 ·exact g1.save h1 _ _
 ·have h2 : VJ ((s.del (entryK a.d a.m)).rngB a.i) (n + 1 + 1) := h1.range _ _
  exact (WC.cutsL _ _ h2 (g1.range _ _)).del (cutsL_ok _ _ h2) _
theorem WC.make {s : VS} {n : Nat} (hv : VJ s n) (h : WC s) (p : List UInt8) (k i : Int) : WC (s.make p k i).2 := by
 unfold VS.make VS.makeAt
 have h1 : VJ (s.rds (s.find p).2.2) (n + 33) := hv.rdp p
 have g1 : WC (s.rds (s.find p).2.2) := h
 dsimp only
 split
 ·exact g1
 split
 ·exact g1
 have h2 := h1.save i (newN k (s.find p).1.d)
 have g2 := g1.save h1 i (newN k (s.find p).1.d)
 have h3 := h2.hang (s.find p).1.d (s.find p).1.m i
 have g3 := g2.put h2 (entryK (s.find p).1.d (s.find p).1.m) (beB 4 i)
 split
 ·exact g3.links h3 _ _
 ·exact g3
theorem WC.remove {s : VS} {n : Nat} (hv : VJ s n) (h : WC s) (p : List UInt8) : WC (s.remove p).2 := by
 unfold VS.remove
 split
 ·exact h
 ·exact WC.removes (hv.rdp p) h _
theorem WC.unlink {s : VS} {n : Nat} (hv : VJ s n) (h : WC s) (p : List UInt8) : WC (s.unlink p).2 := by
 unfold VS.unlink
 split
 ·exact h
 ·exact WC.unlinks (hv.rdp p) h _
theorem WC.dlist {s : VS} (h : WC s) (p : List UInt8) : WC (s.dlist p).2 := by
 unfold VS.dlist
 split
 ·exact h
 split
 ·exact h
 ·exact WC.range (s := s.rdp p) h _ _
theorem WC.link {s : VS} {n : Nat} (hv : VJ s n) (h : WC s) (o p : List UInt8) : WC (s.link o p).2 := by
 unfold VS.link VS.linkAt
 have h1 := hv.rdp o
 have h2 := h1.rdp p
 have g2 : WC ((s.rdp o).rdp p) := h
 dsimp only
 split
 ·exact h
 split
 ·exact h
 split
 ·exact h
 split
 ·exact h
 split
 ·exact h
 exact (g2.put h2 _ _).save (h2.hang _ _ _) _ _
theorem WC.movesAt {s : VS} {n : Nat} (hv : VJ s n) (h : WC s) (a t : Sp) : WC (s.movesAt a t).2 := by
 unfold VS.movesAt
 dsimp only
 have h1 := hv.del (entryK a.d a.m)
 have g1 := h.del hv (entryK a.d a.m)
 have h2 := h1.hang t.d t.m a.i
 have g2 := g1.put h1 (entryK t.d t.m) (beB 4 a.i)
 split
 ·exact g2
 ·have h3 := h2.save a.i (parN a.n t.d)
  have g3 := g2.save h2 a.i (parN a.n t.d)
  exact (g3.links h3 _ _).links (h3.links _ _) _ _
theorem WC.rename {s : VS} {n : Nat} (hv : VJ s n) (h : WC s) (o p : List UInt8) : WC (s.rename o p).2 := by
 unfold VS.rename VS.renameAt
 have h1 := hv.rdp o
 have h2 := h1.rdp p
 have g2 : WC ((s.rdp o).rdp p) := h
 split
 ·exact h
 split
 ·exact h
 split
 ·exact h
 split
 ·exact h
 have hc : WC (((s.rdp o).rdp p).clears (s.there o false).1 ((s.rdp o).find p).1 o p).2 := by
  unfold VS.clears
  split
  ·exact g2
  split
  ·exact g2
  split
  ·exact g2.removes h2 _
  ·exact g2.unlinks h2 _
 split
 ·exact hc
 ·exact hc.movesAt (clears_ok h2 _ _ _ _) _ _
def sameP (f : Int → Int → Bool) (p : KV × KV) : Bool := decide (p.1.1 = p.2.1) && f (beV p.1.2) (beV p.2.2)
def sameF (a b : MF) : Nat → Int → Int → Bool
 | 0, _, _ => false
 | n + 1, i, k => match a.at i, b.at k with
  | some x, some y => decide (x.k = y.k) && decide (x.n = y.n) && decide (x.b = y.b) && decide (x.e.length = y.e.length) && (x.e.zip y.e).all (sameP (sameF a b n))
  | _, _ => false
def MF.same (a b : MF) : Bool := sameF a b 41 1 1 && decide (a.length = b.length)
structure SmI (f : KV × KV → Bool) (l : List (KV × KV)) where
 i : Nat
 h : i ≤ l.length
 e : (l.drop i).all f = l.all f
def Keep (m m' : MF) (P : Int → List UInt8 → Prop) : Prop := ∀ d x, m.at d = some x → x.k = 2 → ∃ x', m'.at d = some x' ∧ x'.k = 2 ∧ ∀ nm, ¬ P d nm → lget nm x'.e = lget nm x.e
theorem Keep.refl (m : MF) : Keep m m (fun _ _ => False) := fun d x h k => ⟨x, h, k, fun _ _ => rfl⟩
theorem Keep.trans {m m' m'' : MF} {P Q : Int → List UInt8 → Prop} (h : Keep m m' P) (h2 : Keep m' m'' Q) : Keep m m'' (fun d nm => P d nm ∨ Q d nm) := fun d x hx hk => by
 obtain ⟨x', a1, a2, a3⟩ := h d x hx hk
 obtain ⟨x'', b1, b2, b3⟩ := h2 d x' a1 a2
 exact ⟨x'', b1, b2, fun nm q => (b3 nm fun e => q (.inr e)).trans (a3 nm fun e => q (.inl e))⟩
theorem Keep.linked (m : MF) (j b : Int) : Keep m (m.linked j b) (fun _ _ => False) := fun d x h k => by
 rw [at_linked]
 split
 ·rename_i e; subst e; rw [h]; exact ⟨_, rfl, k, fun _ _ => rfl⟩
 ·exact ⟨x, h, k, fun _ _ => rfl⟩
theorem nmE_ne {e : List KV} (h : Rises e) {nm m : List UInt8} (j : Int) (hne : nm ≠ m) : lget nm (nmE e m j) = lget nm e := by
 unfold nmE
 split
 ·rw [lget_lcut, if_neg hne]
 ·rw [lget_lset h, if_neg hne]
theorem Keep.named {m : MF} {c : Nat} (hw : m.wk c) (d0 : Int) (n0 : List UInt8) (j : Int) : Keep m (m.named d0 n0 j) (fun d nm => d = d0 ∧ nm = n0) := fun d x h k => by
 rw [at_named]
 split
 ·rename_i e; subst e; rw [h]
  exact ⟨_, rfl, k, fun nm q => nmE_ne (hw.r x (at_mem h).1) j fun e => q ⟨rfl, e⟩⟩
 ·exact ⟨x, h, k, fun _ _ => rfl⟩
theorem Keep.without {m : MF} {j : Int} (hj : m.kind j ≠ 2) : Keep m (m.without j) (fun _ _ => False) := fun d x h k => by
 rw [at_without, if_neg]
 ·exact ⟨x, h, k, fun _ _ => rfl⟩
 ·intro e; subst e; unfold MF.kind at hj; rw [h] at hj; exact hj k
def Lacks (m : MF) (d : Int) (nm : List UInt8) : Prop := ∀ x, m.at d = some x → lget nm x.e = none
theorem Lacks.named {m : MF} {c : Nat} (hw : m.wk c) {d : Int} {nm : List UInt8} (h : Lacks m d nm) {d' : Int} {nm' : List UInt8} (hne : ¬ (d = d' ∧ nm = nm')) (j : Int) : Lacks (m.named d' nm' j) d nm := fun x hx => by
 rw [at_named] at hx
 split at hx
 ·rename_i e
  subst e
  cases hm : m.at d with
  | none => rw [hm] at hx; cases hx
  | some y =>
   rw [hm] at hx
   obtain rfl := Option.some.inj hx
   dsimp only
   rw [nmE_ne (hw.r y (at_mem hm).1) j (fun e => hne ⟨rfl, e⟩)]
   exact h y hm
 ·exact h x hx
theorem Lacks.linked {m : MF} {d : Int} {nm : List UInt8} (h : Lacks m d nm) (j b : Int) : Lacks (m.linked j b) d nm := fun x hx => by
 rw [at_linked] at hx
 split at hx
 ·rename_i e
  subst e
  cases hm : m.at d with
  | none => rw [hm] at hx; cases hx
  | some y =>
   rw [hm] at hx
   obtain rfl := Option.some.inj hx
   exact h y hm
 ·exact h x hx
end Go.Proofs.YtdkegmmigongoaaGreatDoor

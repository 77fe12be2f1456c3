/- Contracts and plain laws, several texts joined: Go6, F18q, F18p, F18o, F18s2, RelL. -/
import Derived.Test.YtfnpelogfcnanaaGreatDoorM18
import Derived.Test.YtfnpelogfcnanaaGreatDoorGo
/- More rules of the walk: drawn regions that write the caller's objects, with guards. No program is named here. -/
-- @D
namespace Go.Proofs.YtfnpelogfcnanaaGreatDoor
set_option maxRecDepth 20000
open Go.Awp Go.RowKit
section
variable {P : Program} {ops : List Oper} {env0 : Env} {Hs Ls : List (List AObj)} {ss : List Nat} {xs : List TV}
end
end Go.Proofs.YtfnpelogfcnanaaGreatDoor

/- flintlaw18: same. -/
-- @D
namespace Go.Proofs.YtfnpelogfcnanaaGreatDoor
set_option maxRecDepth 20000
open Go.Awp Tr
end Go.Proofs.YtfnpelogfcnanaaGreatDoor

/- flintref18: New. -/
-- @D
namespace Go.Proofs.YtfnpelogfcnanaaGreatDoor
set_option maxRecDepth 20000
open Go.Awp Tr
/-- A row of one node without entries, told with a slice of none. -/
theorem nod1_le (i k n : Int) : AVLe (.ps [.agg [.int .u32 i, .int .u8 k, .int .i64 n, .str [], .nils]]) (.ps [.agg [.int .u32 i, .int .u8 k, .int .i64 n, .str [], .ps []]]) := fun w N v hr => by
  cases hr with
  | ps _ a c e vs hN hb he hc hr hl =>
    refine .ps [.agg [.int .u32 i, .int .u8 k, .int .i64 n, .str [], .ps []]] a c e vs hN hb (fun r hr' => ?_) hc (fun p j r x hp hj => ?_) hl
    · have := he _ List.mem_cons_self
      rw [List.mem_singleton] at hr'
      subst hr'
      exact this
    · match p with
      | 0 =>
        obtain rfl : AV.agg [.int .u32 i, .int .u8 k, .int .i64 n, .str [], .ps []] = r := by simpa using hp
        have h0 := fun (j : Nat) (x : AV) => hr 0 j _ x rfl
        match j with
        | 0 => exact h0 0 x hj
        | 1 => exact h0 1 x hj
        | 2 => exact h0 2 x hj
        | 3 => exact h0 3 x hj
        | 4 =>
          obtain rfl : AV.ps [] = x := by simpa [cellsOf] using hj
          exact nils_ps _ _ _ (h0 4 .nils rfl)
        | j + 5 => simp [cellsOf] at hj
      | p + 1 => simp at hp
theorem rnew18_spec : Con Tryz.prog 13 [] [] (fsT newM) [] [] := by
  refine con_of Tryz.func13 rfl (by kernel_rfl) rfl fun F w0 β0 => ?_
  refine K_tell rfl ?_
  refine go ?_
  refine J_recell 0 0 (.p (.ps (nods newM))) rfl rfl (fun w β G v hr => ?_) ?_
  · cases hr with | p h => exact .p (nod1_le 1 2 2 _ _ _ h)
  exact J_done hT rfl rfl rfl
end Go.Proofs.YtfnpelogfcnanaaGreatDoor

/- An operation of layer 18: a view as the model; what a row of them keeps. -/
-- @D
namespace Go.Proofs.YtfnpelogfcnanaaGreatDoor
set_option maxRecDepth 20000
open Go.Awp Tr
/-- What holds between a view and the model, behind so many operations. -/
structure D18 (s : VS) (m : MF) (i : Nat) : Prop where
  v : VJ s (200 * i)
  r : ∃ par, Rel s.shown.row m par
  w : m.wk (6 * i + 2)
  l : m.lt (2 + i)
theorem D18.new : D18 (VS.new .nil) newM 0 :=
  ⟨VJ.new (by simp [row, Rises]) (Nat.le_refl _) (by simp [row]), ⟨_, Rel.new⟩,
    ⟨by simp [newM], fun x hx => by rw [show x = ⟨1, 2, 2, [], []⟩ by simpa [newM] using hx]; simp, fun x hx => by rw [show x = ⟨1, 2, 2, [], []⟩ by simpa [newM] using hx]; simp, fun x hx => by rw [show x = ⟨1, 2, 2, [], []⟩ by simpa [newM] using hx]; simp [Rises]⟩,
    fun x hx => by rw [show x = ⟨1, 2, 2, [], []⟩ by simpa [newM] using hx]; simp⟩
theorem D18.u {s : VS} {m : MF} {i : Nat} (h : D18 s m i) : (∀ x ∈ m, U32 x.i) ∧ m.kind 1 = 2 ∧ m.ok (6 * i + 2) := by
  obtain ⟨par, R⟩ := h.r
  refine ⟨fun x hx => (R.u _ _ (R.fst x hx)).1, ?_, R.spot h.w⟩
  obtain ⟨x, h1, h2⟩ := R.root
  unfold MF.kind; rw [h1]; exact h2
/-- One operation more: the view is full, or both answer alike. -/
theorem D18.step {s : VS} {m : MF} {i : Nat} (h : D18 s m i) (hi : i ≤ 100) (k : Int) (p o : List UInt8) (j : Int) (hj : j = 2 + i) :
    (doT s m k p o j).1.2.2 = true ∨ ((doT s m k p o j).1.1 = true ∧ (doT s m k p o j).1.2.2 = false ∧ D18 (doT s m k p o j).2 (doT s m k p o j).1.2.1 (i + 1)) := by
  obtain ⟨par, R⟩ := h.r
  have hl1 : m.lt (2 + (i + 1 : Nat)) := h.l.mono (by omega)
  have hat : m.at j = none := h.l.none (by omega)
  have hju : U32 j := by unfold U32; omega
  have key : ∀ (q : Int × VS) (r : Int × MF), (q.1 = 21 ∨ (q.1 = r.1 ∧ ∃ par', Rel q.2.shown.row r.2 par')) → VJ q.2 (200 * i + 200) → r.2.wk (6 * i + 2 + 6) → r.2.lt (2 + (i + 1 : Nat)) →
      (if q.1 = 21 then ((true, m, true), q.2) else ((decide (q.1 = r.1), r.2, false), q.2)).1.2.2 = true ∨ ((if q.1 = 21 then ((true, m, true), q.2) else ((decide (q.1 = r.1), r.2, false), q.2)).1.1 = true ∧ (if q.1 = 21 then ((true, m, true), q.2) else ((decide (q.1 = r.1), r.2, false), q.2)).1.2.2 = false ∧ D18 (if q.1 = 21 then ((true, m, true), q.2) else ((decide (q.1 = r.1), r.2, false), q.2)).2 (if q.1 = 21 then ((true, m, true), q.2) else ((decide (q.1 = r.1), r.2, false), q.2)).1.2.1 (i + 1)) := by
    intro q r h1 h2 h3 h4
    by_cases e : q.1 = 21
    · rw [if_pos e]; exact .inl rfl
    · rw [if_neg e]
      obtain ⟨h5, h6⟩ := h1.resolve_left e
      exact .inr ⟨decide_eq_true h5, rfl, h2.mono (by omega), h6, h3.mono (by omega), h4⟩
  unfold doT
  by_cases h3 : k = 3
  · rw [if_pos h3]
    obtain ⟨e1, e2⟩ := list_sim h.v R p
    refine .inr ⟨?_, rfl, (dlist_ok h.v p).mono (by omega), ⟨par, by dsimp only; rw [e2]; exact R⟩, h.w.mono (by omega), hl1⟩
    dsimp only
    rw [e1]; simp
  rw [if_neg h3]
  by_cases h0 : k = 0
  · have e : do18 s m k p o j = (s.make p 1 j, m.make p 1 j) := by unfold do18; rw [if_pos h0]
    rw [e]
    exact key _ _ (make_sim h.v R h.w (by omega) p (.inl rfl) hju (by omega) hat) (make_ok h.v p 1 j) (make_wk h.w (by omega) p 1 j) (hl1.make p 1 (by omega))
  by_cases h1 : k = 1
  · have e : do18 s m k p o j = (s.make p 2 j, m.make p 2 j) := by unfold do18; rw [if_neg h0, if_pos h1]
    rw [e]
    exact key _ _ (make_sim h.v R h.w (by omega) p (.inr rfl) hju (by omega) hat) (make_ok h.v p 2 j) (make_wk h.w (by omega) p 2 j) (hl1.make p 2 (by omega))
  by_cases h2 : k = 2
  · have e : do18 s m k p o j = (s.remove p, m.remove p) := by unfold do18; rw [if_neg h0, if_neg h1, if_pos h2]
    rw [e]
    exact key _ _ ((remove_sim h.v R h.w (by omega) p).imp_right fun q => ⟨q.1, par, q.2⟩) (remove_ok h.v p) (remove_wk h.w p) (hl1.remove p)
  by_cases h4 : k = 4
  · have e : do18 s m k p o j = (s.link p o, m.link p o) := by unfold do18; rw [if_neg h0, if_neg h1, if_neg h2, if_pos h4]
    rw [e]
    exact key _ _ ((link_sim h.v R p o).imp_right fun q => ⟨q.1, par, q.2⟩) (link_ok h.v p o) (link_wk h.w p o) (hl1.link p o)
  by_cases h5 : k = 5
  · have e : do18 s m k p o j = (s.unlink p, m.unlink p) := by unfold do18; rw [if_neg h0, if_neg h1, if_neg h2, if_neg h4, if_pos h5]
    rw [e]
    exact key _ _ ((unlink_sim h.v R p).imp_right fun q => ⟨q.1, par, q.2⟩) (unlink_ok h.v R p) (unlink_wk h.w p) (hl1.unlink p)
  by_cases h6 : k = 6
  · have e : do18 s m k p o j = (s.rename p o, m.rename p o) := by unfold do18; rw [if_neg h0, if_neg h1, if_neg h2, if_neg h4, if_neg h5, if_pos h6]
    rw [e]
    exact key _ _ (rename_sim h.v R h.w (by omega) p o) (rename_ok h.v R p o) (rename_wk h.w p o) (hl1.rename p o)
  have e : do18 s m k p o j = ((0, s), (0, m)) := by unfold do18; rw [if_neg h0, if_neg h1, if_neg h2, if_neg h4, if_neg h5, if_neg h6]
  rw [e]
  exact key (0, s) (0, m) (.inr ⟨rfl, par, R⟩) (h.v.mono (by omega)) (h.w.mono (by omega)) hl1
theorem key_lt {y c j : Int} {r : List UInt8} (hc : c = 73 ∧ r = [] ∨ c = 69 ∨ c = 68) : Op.bytesLess (keyH c j ++ r) [255] = true := by
  have : c = 73 ∨ c = 69 ∨ c = 68 := by omega
  rcases this with rfl | rfl | rfl <;> rfl
theorem Rel.ff {l : List KV} {m : MF} {par : Int → Int} (R : Rel l m par) : ∀ y ∈ l, Op.bytesLess y.1 [255] = true := fun y hy => by
  obtain ⟨c, j, r, h1, _, h3⟩ := R.key y hy
  rw [h3]; exact key_lt (y := 0) h1
end Go.Proofs.YtfnpelogfcnanaaGreatDoor

/- flintref18: Same. -/
-- @D
namespace Go.Proofs.YtfnpelogfcnanaaGreatDoor
set_option maxRecDepth 20000
open Go.Awp Tr
/-- Two entries, name and what stands below. -/
def sameP (f : Int → Int → Bool) (p : KV × KV) : Bool := decide (p.1.1 = p.2.1) && f (beV p.1.2) (beV p.2.2)
/-- The same from two nodes on, so deep. -/
def sameF (a b : MF) : Nat → Int → Int → Bool
  | 0, _, _ => false
  | n + 1, i, k => match a.at i, b.at k with
    | some x, some y => decide (x.k = y.k) && decide (x.n = y.n) && decide (x.b = y.b) && decide (x.e.length = y.e.length) && (x.e.zip y.e).all (sameP (sameF a b n))
    | _, _ => false
def MF.same (a b : MF) : Bool := sameF a b 41 1 1 && decide (a.length = b.length)
structure SmI (f : KV × KV → Bool) (l : List (KV × KV)) where
  i : Nat
  h : i ≤ l.length
  e : (l.drop i).all f = l.all f
end Go.Proofs.YtfnpelogfcnanaaGreatDoor

/- Writes of a view agree with what it shows. -/
-- @D
namespace Go.Proofs.YtfnpelogfcnanaaGreatDoor
set_option maxRecDepth 20000
open Go.Awp Tr
def WC (s : VS) : Prop := ∀ x ∈ s.writes.row, lget x.1 s.shown.row = if x.2 = [] then none else some (x.2.drop 1)
theorem WC.new (t : Tr) : WC (VS.new t) := fun x hx => by cases hx
theorem WC.rd {s : VS} (h : WC s) (k : List UInt8) : WC (s.rd k) := h
theorem WC.rds {s : VS} (h : WC s) (ks : List (List UInt8)) : WC (s.rds ks) := h
theorem WC.range {s : VS} (h : WC s) (a b : List UInt8) : WC (s.range a b) := by
  unfold VS.range; split
  · exact h
  · exact h
theorem WC.put {s : VS} {n : Nat} (hv : VJ s n) (h : WC s) (k v : List UInt8) : WC (s.put k v) := by
  unfold VS.put
  split
  · intro x hx
    have hx : x ∈ (s.writes.set k (61 :: v)).row := hx
    show lget x.1 (s.shown.set k v).row = _
    rw [set_row _ _ _ hv.rs, lget_lset hv.rs]
    rw [set_row _ _ _ hv.rw] at hx
    rcases (lset_mem_iff hv.rw x).1 hx with rfl | ⟨h1, h2⟩
    · rw [if_pos rfl]; rfl
    · rw [if_neg h2]; exact h x h1
  · exact h
theorem WC.del {s : VS} {n : Nat} (hv : VJ s n) (h : WC s) (k : List UInt8) : WC (s.del k) := by
  unfold VS.del
  split
  · intro x hx
    have hx : x ∈ (if (s.base.get k).isSome = true then s.writes.set k [] else s.writes.cut k).row := hx
    show lget x.1 (s.shown.cut k).row = _
    rw [cut_row _ _ hv.rs, lget_lcut]
    split at hx
    · rw [set_row _ _ _ hv.rw] at hx
      rcases (lset_mem_iff hv.rw x).1 hx with rfl | ⟨h1, h2⟩
      · rw [if_pos rfl]; rfl
      · rw [if_neg h2]; exact h x h1
    · rw [cut_row _ _ hv.rw] at hx
      obtain ⟨h1, h2⟩ := lcut_mem.1 hx
      rw [if_neg h2]; exact h x h1
  · exact h
theorem WC.save {s : VS} {n : Nat} (hv : VJ s n) (h : WC s) (i : Int) (g : Nd) : WC (s.save i g) := h.put hv _ _
theorem WC.links {s : VS} {n : Nat} (hv : VJ s n) (h : WC s) (d b : Int) : WC (s.links d b) := WC.save (hv.rd _) (h.rd _) _ _
theorem WC.cutsL : ∀ (R : List KV) {s : VS} {n : Nat} (e : Int), VJ s n → WC s → WC (s.cutsL R e).2
  | [], _, _, _, _, h => h
  | x :: R, _, _, _, hv, h => WC.cutsL R _ (hv.del x.1) (h.del hv x.1)
theorem WC.removes {s : VS} {n : Nat} (hv : VJ s n) (h : WC s) (a : Sp) : WC (s.removes a).2 := by
  unfold VS.removes
  split
  · exact h
  split
  · exact h.range _ _
  · have h1 := hv.rngE a.i
    have g1 : WC (s.rngE a.i) := h.range _ _
    have h2 := h1.del (entryK a.d a.m)
    have g2 := g1.del h1 (entryK a.d a.m)
    exact (g2.del h2 _).links (h2.del _) _ _
theorem WC.unlinks {s : VS} {n : Nat} (hv : VJ s n) (h : WC s) (a : Sp) : WC (s.unlinks a).2 := by
  unfold VS.unlinks
  split
  · exact h
  have h1 := hv.del (entryK a.d a.m)
  have g1 := h.del hv (entryK a.d a.m)
  dsimp only
  split
  · exact g1.save h1 _ _
  · have h2 : VJ ((s.del (entryK a.d a.m)).rngB a.i) (n + 1 + 1) := h1.range _ _
    exact (WC.cutsL _ _ h2 (g1.range _ _)).del (cutsL_ok _ _ h2) _
theorem WC.make {s : VS} {n : Nat} (hv : VJ s n) (h : WC s) (p : List UInt8) (k i : Int) : WC (s.make p k i).2 := by
  unfold VS.make VS.makeAt
  have h1 : VJ (s.rds (s.find p).2.2) (n + 33) := hv.rdp p
  have g1 : WC (s.rds (s.find p).2.2) := h
  dsimp only
  split
  · exact g1
  split
  · exact g1
  have h2 := h1.save i (newN k (s.find p).1.d)
  have g2 := g1.save h1 i (newN k (s.find p).1.d)
  have h3 := h2.hang (s.find p).1.d (s.find p).1.m i
  have g3 := g2.put h2 (entryK (s.find p).1.d (s.find p).1.m) (beB 4 i)
  split
  · exact g3.links h3 _ _
  · exact g3
theorem WC.remove {s : VS} {n : Nat} (hv : VJ s n) (h : WC s) (p : List UInt8) : WC (s.remove p).2 := by
  unfold VS.remove
  split
  · exact h
  · exact WC.removes (hv.rdp p) h _
theorem WC.unlink {s : VS} {n : Nat} (hv : VJ s n) (h : WC s) (p : List UInt8) : WC (s.unlink p).2 := by
  unfold VS.unlink
  split
  · exact h
  · exact WC.unlinks (hv.rdp p) h _
theorem WC.dlist {s : VS} (h : WC s) (p : List UInt8) : WC (s.dlist p).2 := by
  unfold VS.dlist
  split
  · exact h
  split
  · exact h
  · exact WC.range (s := s.rdp p) h _ _
theorem WC.link {s : VS} {n : Nat} (hv : VJ s n) (h : WC s) (o p : List UInt8) : WC (s.link o p).2 := by
  unfold VS.link VS.linkAt
  have h1 := hv.rdp o
  have h2 := h1.rdp p
  have g2 : WC ((s.rdp o).rdp p) := h
  dsimp only
  split
  · exact h
  split
  · exact h
  split
  · exact h
  split
  · exact h
  split
  · exact h
  exact (g2.put h2 _ _).save (h2.hang _ _ _) _ _
theorem WC.movesAt {s : VS} {n : Nat} (hv : VJ s n) (h : WC s) (a t : Sp) : WC (s.movesAt a t).2 := by
  unfold VS.movesAt
  dsimp only
  have h1 := hv.del (entryK a.d a.m)
  have g1 := h.del hv (entryK a.d a.m)
  have h2 := h1.hang t.d t.m a.i
  have g2 := g1.put h1 (entryK t.d t.m) (beB 4 a.i)
  split
  · exact g2
  · have h3 := h2.save a.i (parN a.n t.d)
    have g3 := g2.save h2 a.i (parN a.n t.d)
    exact (g3.links h3 _ _).links (h3.links _ _) _ _
theorem WC.rename {s : VS} {n : Nat} (hv : VJ s n) (h : WC s) (o p : List UInt8) : WC (s.rename o p).2 := by
  unfold VS.rename VS.renameAt
  have h1 := hv.rdp o
  have h2 := h1.rdp p
  have g2 : WC ((s.rdp o).rdp p) := h
  split
  · exact h
  split
  · exact h
  split
  · exact h
  split
  · exact h
  have hc : WC (((s.rdp o).rdp p).clears (s.there o false).1 ((s.rdp o).find p).1 o p).2 := by
    unfold VS.clears
    split
    · exact g2
    split
    · exact g2
    split
    · exact g2.removes h2 _
    · exact g2.unlinks h2 _
  split
  · exact hc
  · exact hc.movesAt (clears_ok h2 _ _ _ _) _ _
end Go.Proofs.YtfnpelogfcnanaaGreatDoor

/- Contracts and plain laws, several texts joined: RelQ, RelR, RelT, F18l. -/
import Derived.Test.YtfnpelogfcnanaaGreatDoorGo
import Derived.Test.YtfnpelogfcnanaaGreatDoorM20
/- There and back again: rooms, the root's key, Rename twice. -/
-- @D
namespace Go.Proofs.YtfnpelogfcnanaaGreatDoor
set_option maxRecDepth 20000
open Go.Awp Tr
theorem room_lt {s : VS} (h : s.writes.size < 48) (k : List UInt8) : s.room k = true := by
  unfold VS.room; rw [decide_eq_true h]; simp
theorem put_wz (s : VS) (k v : List UInt8) : (s.put k v).writes.size ≤ s.writes.size + 1 := by
  unfold VS.put; split
  · exact set_size k (61 :: v) s.writes
  · omega
theorem del_wz (s : VS) (k : List UInt8) : (s.del k).writes.size ≤ s.writes.size + 1 := by
  unfold VS.del; split
  · unfold VS.cut; dsimp only; split
    · exact set_size k [] s.writes
    · have := cut_size s.writes k; omega
  · omega
theorem links_wz (s : VS) (d b : Int) : (s.links d b).writes.size ≤ s.writes.size + 1 := put_wz (s.rd _) _ _
theorem full_room1 {s : VS} (h : s.writes.size < 48) (k : List UInt8) : fullE [s.room k] = 0 := by rw [room_lt h]; rfl
theorem movesAt_wz {s : VS} (h : s.writes.size ≤ 40) (a t : Sp) : (s.movesAt a t).1 = 0 ∧ (s.movesAt a t).2.writes.size ≤ s.writes.size + 5 := by
  have z2 := del_wz s (entryK a.d a.m)
  have z3 := put_wz (s.del (entryK a.d a.m)) (entryK t.d t.m) (beB 4 a.i)
  unfold VS.movesAt
  dsimp only
  generalize s.del (entryK a.d a.m) = s2 at z2 z3
  generalize s2.put (entryK t.d t.m) (beB 4 a.i) = s3 at z3
  have e0 : fullE [s.room (entryK a.d a.m), s2.room (entryK t.d t.m)] = 0 := by rw [room_lt (by omega), room_lt (by omega)]; rfl
  split
  · exact ⟨e0, by dsimp only; omega⟩
  · have z4 := put_wz s3 (keyH 73 a.i) (nodeB (parN a.n t.d).1 (parN a.n t.d).2.1 (parN a.n t.d).2.2.1 (parN a.n t.d).2.2.2)
    change (s3.save a.i (parN a.n t.d)).writes.size ≤ _ at z4
    generalize s3.save a.i (parN a.n t.d) = s4 at z4
    have z5 := links_wz s4 a.d (-1)
    generalize s4.links a.d (-1) = s5 at z5
    have z6 := links_wz s5 t.d 1
    refine ⟨?_, by dsimp only; omega⟩
    show firstE [_, fullE [_], fullE [_], fullE [_]] = 0
    rw [e0, full_room1 (by omega), full_room1 (by omega), full_room1 (by omega)]; rfl
/-- The root's own key. -/
abbrev VS.pr (s : VS) : Option (List UInt8) := lget (keyH 73 1) s.shown.row
theorem put_pr {s : VS} {n : Nat} (h : VJ s n) {k : List UInt8} (v : List UInt8) (hk : k ≠ keyH 73 1) : (s.put k v).pr = s.pr := by
  unfold VS.pr VS.put; split
  · show lget _ (s.shown.set k v).row = _
    rw [set_row _ _ _ h.rs, lget_lset h.rs, if_neg (Ne.symm hk)]
  · rfl
theorem del_pr {s : VS} {n : Nat} (h : VJ s n) {k : List UInt8} (hk : k ≠ keyH 73 1) : (s.del k).pr = s.pr := by
  unfold VS.pr VS.del; split
  · show lget _ (s.shown.cut k).row = _
    rw [cut_row _ _ h.rs, lget_lcut, if_neg (Ne.symm hk)]
  · rfl
theorem put_pr2 {s : VS} {n : Nat} (h : VJ s n) (k v : List UInt8) (hp : s.pr ≠ none) : (s.put k v).pr ≠ none := by
  unfold VS.pr VS.put; split
  · show lget _ (s.shown.set k v).row ≠ _
    rw [set_row _ _ _ h.rs, lget_lset h.rs]
    split
    · simp
    · exact hp
  · exact hp
theorem ent_ne (d : Int) (m : List UInt8) : entryK d m ≠ keyH 73 1 := by
  unfold entryK
  split
  · intro e; cases e
  · intro e
    have := congrArg (fun l => l.headD 0) e
    revert this
    show ¬ (UInt8.ofNat (69 : Int).toNat = UInt8.ofNat (73 : Int).toNat)
    decide
theorem movesAt_pr {s : VS} {n : Nat} (h : VJ s n) (a t : Sp) : (a.n.1 ≠ 2 → (s.movesAt a t).2.pr = s.pr) ∧ (s.pr ≠ none → (s.movesAt a t).2.pr ≠ none) := by
  have h1 := h.del (entryK a.d a.m)
  have p1 := del_pr h (ent_ne a.d a.m)
  have h2 := h1.hang t.d t.m a.i
  have p2 := put_pr h1 (beB 4 a.i) (ent_ne t.d t.m)
  unfold VS.movesAt
  dsimp only
  refine ⟨fun hk => ?_, fun hp => ?_⟩
  · rw [if_pos (.inl hk)]; exact p2.trans p1
  · have q2 : ((s.del (entryK a.d a.m)).put (entryK t.d t.m) (beB 4 a.i)).pr ≠ none := by rw [p2, p1]; exact hp
    split
    · exact q2
    · have h3 := h2.save a.i (parN a.n t.d)
      have q3 : (((s.del (entryK a.d a.m)).put (entryK t.d t.m) (beB 4 a.i)).save a.i (parN a.n t.d)).pr ≠ none := put_pr2 h2 _ _ q2
      have q4 := put_pr2 (h3.rd (keyH 73 a.d)) (keyH 73 a.d) (nodeB (linkN (((((s.del (entryK a.d a.m)).put (entryK t.d t.m) (beB 4 a.i)).save a.i (parN a.n t.d)).load a.d).getD (0, 0, 0, 0)) (-1)).1 (linkN (((((s.del (entryK a.d a.m)).put (entryK t.d t.m) (beB 4 a.i)).save a.i (parN a.n t.d)).load a.d).getD (0, 0, 0, 0)) (-1)).2.1 (linkN (((((s.del (entryK a.d a.m)).put (entryK t.d t.m) (beB 4 a.i)).save a.i (parN a.n t.d)).load a.d).getD (0, 0, 0, 0)) (-1)).2.2.1 (linkN (((((s.del (entryK a.d a.m)).put (entryK t.d t.m) (beB 4 a.i)).save a.i (parN a.n t.d)).load a.d).getD (0, 0, 0, 0)) (-1)).2.2.2) q3
      have h4 := h3.links a.d (-1)
      exact put_pr2 (h4.rd (keyH 73 t.d)) _ _ q4
/-- A directory below the root: the root has one. -/
theorem root_sub {l : List KV} {m : MF} {par : Int → Int} (R : Rel l m par) {N : List (List UInt8)} {i : Int} (h : Reach m N i) : N ≠ [] → (∃ z, m.at i = some z ∧ z.k = 2) → ∃ x nm j z, m.at 1 = some x ∧ lget nm x.e = some (beB 4 j) ∧ m.at j = some z ∧ z.k = 2 ∧ U32 j := by
  induction h with
  | nil => intro h _; exact absurd rfl h
  | @snoc N d i xd x h hd hk hg hi ih =>
    intro _ ⟨z, hz, hzk⟩
    by_cases e : N = []
    · subst e
      have := reach_fun h .nil
      subst this
      exact ⟨xd, x, i, z, hd, hg, hz, hzk, hi⟩
    · exact ih e ⟨xd, hd, hk⟩
theorem root_key {l : List KV} {m : MF} {par : Int → Int} (R : Rel l m par) {N : List (List UInt8)} {i : Int} (h : Reach m N i) (hN : N ≠ []) (hz : ∃ z, m.at i = some z ∧ z.k = 2) : lget (keyH 73 1) l ≠ none := fun e => by
  obtain ⟨x, nm, j, z, h1, h2, h3, h4, h5⟩ := root_sub R h hN hz
  obtain ⟨y, f1, f2⟩ := R.root
  obtain rfl : x = y := Option.some.inj (h1.symm.trans f1)
  have hn := R.nod 1 x h1
  rw [e] at hn
  injection hn with hn
  injection hn with _ hn
  injection hn with hn _
  have hl := R.lkd 1 x h1 f2
  have hr : Rises x.e := by rw [R.ent 1 x h1]; exact sub_rises R.ri
  have hpos : 0 < subsN m x.e := List.countP_pos_iff.2 ⟨(nm, beB 4 j), (lget_some hr).1 h2, by
    dsimp only
    rw [beV_be4 j h5]
    unfold MF.kind
    rw [h3]
    simp [h4]⟩
  omega
theorem moved_keep {m : MF} {c : Nat} (hw : m.wk c) (a b : MS) (dir : Bool) : Keep m (m.moved a b dir) (fun d nm => (d = a.d ∧ nm = a.m) ∨ (d = b.d ∧ nm = b.m)) := by
  have w2 := hw.named a.d a.m 0
  have hK2 := (Keep.named hw a.d a.m 0).trans (Keep.named w2 b.d b.m a.i)
  unfold MF.moved
  split
  · intro d x h k
    obtain ⟨x', a1, a2, a3⟩ := (hK2.trans ((Keep.linked _ a.d (-1)).trans (Keep.linked _ b.d 1))) d x h k
    exact ⟨x', a1, a2, fun nm q => a3 nm (by
      rintro ((h | h) | h | h)
      · exact q (.inl h)
      · exact q (.inr h)
      · exact h
      · exact h)⟩
  · exact hK2
theorem reach_pre {m : MF} {N : List (List UInt8)} {i : Int} (h : Reach m N i) : ∀ {A : List (List UInt8)}, A <+: N → ∃ j, Reach m A j := by
  induction h with
  | nil => intro A hA; exact ⟨1, by rw [List.prefix_nil.1 hA]; exact .nil⟩
  | @snoc N d i xd x h hd hk hg hi ih =>
    intro A hA
    rcases List.prefix_concat_iff.1 hA with rfl | hA
    · exact ⟨i, .snoc h hd hk hg hi⟩
    · exact ih hA
theorem reach_snoc {m : MF} {N : List (List UInt8)} {x : List UInt8} {i : Int} (h : Reach m (N ++ [x]) i) : ∃ d xd, Reach m N d ∧ m.at d = some xd ∧ xd.k = 2 ∧ lget x xd.e = some (beB 4 i) := by
  generalize hN : N ++ [x] = M at h
  cases h with
  | nil => simp at hN
  | @snoc N2 d2 _ xd2 x2 h' hd' hk' hg' hi' =>
    obtain ⟨e1, e2⟩ := List.append_inj' hN rfl
    injection e2 with e2
    subst e1 e2
    exact ⟨d2, xd2, h', hd', hk', hg'⟩
/-- What moves to a name that isn't there. -/
theorem rename_moves {s : VS} {n : Nat} (h : VJ s n) {m : MF} {par : Int → Int} (R : Rel s.shown.row m par) (o p : List UInt8) (h1 : (m.findP o).2 = 0) (h2 : (m.findP o).1.i ≠ 0) (h3 : (m.findP o).1.i ≠ 1) (h4 : (m.findP p).2 = 0) (h7 : (m.findP p).1.i = 0) (hun : ¬ (m.kind (m.findP o).1.i = 2 ∧ underB (namesP o) (namesP p) = true)) :
    s.rename o p = ((s.rdp o).rdp p).movesAt (s.there o false).1 ((s.rdp o).find p).1 ∧ (s.there o false).1.n.1 = m.kind (m.findP o).1.i ∧ m.rename o p = (0, m.moved (m.findP o).1 (m.findP p).1 (m.kind (m.findP o).1.i == 2)) := by
  rcases there_sim h R o false with ⟨g, _⟩ | ⟨_, _, g, _⟩ | ⟨_, g, _⟩ | ⟨_, _, _, e, es⟩
  · exact absurd h1 g
  · exact absurd g h3
  · exact absurd g h2
  obtain ⟨he, hs⟩ := find_sim (s := s.rdp o) (h.rdp o) R p
  have ts := hs h4
  obtain ⟨z, g1, g2⟩ := es.hn (by rw [es.hi]; exact h2)
  have hk : m.kind (m.findP o).1.i = z.k := by unfold MF.kind; rw [← es.hi, g1]
  have hak : (s.there o false).1.n.1 = m.kind (m.findP o).1.i := by rw [hk, g2]
  have hcl : ((s.rdp o).rdp p).clears (s.there o false).1 ((s.rdp o).find p).1 o p = (0, (s.rdp o).rdp p) := by
    unfold VS.clears
    rw [hak, if_neg hun, if_pos (by rw [ts.hi]; exact h7)]
  refine ⟨?_, hak, ?_⟩
  · unfold VS.rename VS.renameAt
    rw [e, if_neg (show ¬ (0 : Int) ≠ 0 by decide), he, if_neg (by simpa using h4), ts.hi, es.hi, if_neg (by omega), if_neg (by omega), hcl, if_neg (show ¬ ((0 : Int), (s.rdp o).rdp p).1 ≠ 0 from (by decide : ¬ (0 : Int) ≠ 0))]
  · unfold MF.rename
    rw [if_neg (show ¬ (m.findP o).2 ≠ 0 by simpa using h1), if_neg h3, if_neg h2, if_neg (by simpa using h4), if_neg (by omega), if_neg (by omega), if_neg (by simpa using hun), if_pos h7]
end Go.Proofs.YtfnpelogfcnanaaGreatDoor

/- There and back again: Rename twice, Link and Unlink. -/
-- @D
namespace Go.Proofs.YtfnpelogfcnanaaGreatDoor
set_option maxRecDepth 20000
open Go.Awp Tr
/-- Renamed to a name that isn't there: not done, and nothing changed; or done, and done back. -/
theorem rename_back {s : VS} {n c : Nat} (h : VJ s n) {m : MF} {par : Int → Int} (R : Rel s.shown.row m par) (hw : m.wk c) (hc : c + 20 ≤ 100000) (hz : s.writes.size ≤ 30) (o p : List UInt8) (h4 : (m.findP p).2 = 0) (h7 : (m.findP p).1.i = 0) :
    ((s.rename o p).1 ≠ 0 ∧ (s.rename o p).2.shown.row = s.shown.row ∧ (s.rename o p).2.writes.size = s.writes.size) ∨
    ((s.rename o p).1 = 0 ∧ ((s.rename o p).2.rename p o).1 = 0 ∧ ((s.rename o p).2.rename p o).2.shown.row = s.shown.row ∧ ((s.rename o p).2.rename p o).2.writes.size ≤ s.writes.size + 10) := by
  -- what is refused
  rcases there_sim h R o false with ⟨h1, e⟩ | ⟨h1, _, h2, e⟩ | ⟨h1, h2, e⟩ | ⟨h1, h2, h3, e, es⟩
  · left
    have : s.rename o p = ((s.there o false).2, s.rdp o) := by unfold VS.rename; rw [e, if_pos h1]
    rw [this, e]; exact ⟨h1, rfl, rfl⟩
  · left
    have : s.rename o p = ((s.there o false).2, s.rdp o) := by unfold VS.rename; rw [e, if_pos (by decide)]
    rw [this, e]; exact ⟨(by decide : (29 : Int) ≠ 0), rfl, rfl⟩
  · left
    have : s.rename o p = ((s.there o false).2, s.rdp o) := by unfold VS.rename; rw [e, if_pos (by decide)]
    rw [this, e]; exact ⟨(by decide : (10 : Int) ≠ 0), rfl, rfl⟩
  have h3 := h3 rfl
  by_cases hun : m.kind (m.findP o).1.i = 2 ∧ underB (namesP o) (namesP p) = true
  · left
    obtain ⟨he, hs⟩ := find_sim (s := s.rdp o) (h.rdp o) R p
    have ts := hs h4
    obtain ⟨z, g1, g2⟩ := es.hn (by rw [es.hi]; exact h2)
    have hak : (s.there o false).1.n.1 = m.kind (m.findP o).1.i := by
      have hk : m.kind (m.findP o).1.i = z.k := by unfold MF.kind; rw [← es.hi, g1]
      rw [hk, g2]
    have hcl : ((s.rdp o).rdp p).clears (s.there o false).1 ((s.rdp o).find p).1 o p = (15, (s.rdp o).rdp p) := by
      unfold VS.clears
      rw [hak, if_pos hun]
    have : s.rename o p = (15, (s.rdp o).rdp p) := by
      unfold VS.rename VS.renameAt
      rw [e, if_neg (show ¬ (0 : Int) ≠ 0 by decide), he, if_neg (by simpa using h4), ts.hi, es.hi, if_neg (by omega), if_neg (by omega), hcl, if_pos (show ((15 : Int), (s.rdp o).rdp p).1 ≠ 0 from (by decide : (15 : Int) ≠ 0))]
    rw [this]; exact ⟨(by decide : (15 : Int) ≠ 0), rfl, rfl⟩
  right
  obtain ⟨r1, r2, r3⟩ := rename_moves h R o p h1 h2 h3 h4 h7 hun
  obtain ⟨xd, z, hx⟩ := R.ind h1 h2 h3
  obtain ⟨N1, p1, p2, p3⟩ := R.path h1 h3
  obtain ⟨N2, q1, q2, _⟩ := R.path h4 (by omega)
  have hk : m.kind (m.findP o).1.i = z.k := by unfold MF.kind; rw [hx.hi]
  rw [hk] at hun r2 r3
  obtain ⟨xe, ht⟩ : ∃ xe, NoD m (m.findP p).1.d (m.findP p).1.m xe := by
    rcases R.fnd h4 with e | ⟨xe, ht, _⟩ | ⟨xe, zt, ht⟩
    · rw [e] at h7; cases h7
    · exact ⟨xe, ht⟩
    · exact absurd h7 ht.h0
  have hso := findP_err h1
  have hsp := findP_err h4
  have hid : (m.findP o).1.i ≠ (m.findP o).1.d := fun q => by
    have := hx.hi
    rw [q, hx.hd] at this
    obtain rfl := Option.some.inj this
    have r1 := p3 h2
    rw [q] at r1
    have := reach_one R r1 p2 hx.hd hx.hk
    rw [p1] at this
    have := congrArg List.length this
    simp at this
  have hit : (m.findP o).1.i ≠ (m.findP p).1.d := fun q => by
    have hzz := hx.hi
    rw [q, ht.hd] at hzz
    obtain rfl := Option.some.inj hzz
    have r1 := p3 h2
    rw [q] at r1
    have e2 := reach_one R r1 q2 ht.hd ht.hk
    refine hun ⟨ht.hk, ?_⟩
    unfold underB
    rw [Bool.and_eq_true, decide_eq_true_eq, decide_eq_true_eq, q1, e2]
    simp
    omega
  have hne : ¬ ((m.findP o).1.d = (m.findP p).1.d ∧ (m.findP o).1.m = (m.findP p).1.m) := fun q => by
    have := hx.hd
    rw [q.1, ht.hd] at this
    obtain rfl := Option.some.inj this
    have := hx.hg
    rw [q.2, ht.hg] at this
    cases this
  -- the first
  obtain ⟨w1, w2⟩ := movesAt_wz (s := (s.rdp o).rdp p) (show s.writes.size ≤ 40 by omega) (s.there o false).1 ((s.rdp o).find p).1
  rw [← r1] at w1 w2
  change (s.rename o p).2.writes.size ≤ s.writes.size + 5 at w2
  obtain ⟨_, par1, R1⟩ := (rename_sim h R hw (by omega) o p).resolve_left (by omega)
  have hv1 := rename_ok h R o p
  have hw1 := rename_wk hw o p
  obtain ⟨pf1, pf2⟩ := movesAt_pr ((h.rdp o).rdp p) (s.there o false).1 ((s.rdp o).find p).1
  rw [← r1, r2] at pf1
  rw [← r1] at pf2
  change z.k ≠ 2 → (s.rename o p).2.pr = s.pr at pf1
  change s.pr ≠ none → _ at pf2
  rw [r3] at R1 hw1
  have hK := moved_keep hw (m.findP o).1 (m.findP p).1 (z.k == 2)
  have hmb := moved_back hw (z.k == 2) hx.hd hx.hg ht.hd ht.hg h2
  have eP : (m.findP p).1 = ⟨(m.findP p).1.d, (m.findP p).1.m, 0⟩ := by
    generalize (m.findP p).1 = b at h7
    obtain ⟨a, b, c⟩ := b
    dsimp only at h7
    rw [h7]
  -- names behind it
  have hP : ∀ M dd nm xd2 i2 z2, Reach m M dd → m.at dd = some xd2 → lget nm xd2.e = some (beB 4 i2) → m.at i2 = some z2 → z2.k = 2 → ∀ N, (N = N1 ∨ N = N2) → M ++ [nm] <+: N → ¬ ((dd = (m.findP o).1.d ∧ nm = (m.findP o).1.m) ∨ (dd = (m.findP p).1.d ∧ nm = (m.findP p).1.m)) := by
    intro M dd nm xd2 i2 z2 g1 g2 g3 g4 g5 N hN g6 q
    rcases q with ⟨rfl, rfl⟩ | ⟨rfl, rfl⟩
    · have hM := reach_one R g1 p2 hx.hd hx.hk
      rcases hN with rfl | rfl
      · exact prefix_self g6 hM
      · -- the old name's path leads to the new one
        obtain rfl : xd = xd2 := Option.some.inj (hx.hd.symm.trans g2)
        have := (be4_inj (R.u _ _ hx.hi).1 (R.u _ _ g4).1).1 (Option.some.inj (hx.hg.symm.trans g3))
        rw [← this, hx.hi] at g4
        obtain rfl := Option.some.inj g4
        refine hun ⟨g5, ?_⟩
        rw [hM, ← p1] at g6
        unfold underB
        rw [Bool.and_eq_true, decide_eq_true_eq, decide_eq_true_eq, q1]
        have hl := g6.length_le
        refine ⟨by rw [List.length_append, List.length_singleton]; omega, ?_⟩
        rw [List.take_append_of_le_length hl]
        exact (List.prefix_iff_eq_take.1 g6)
    · rw [ht.hd] at g2
      obtain rfl := Option.some.inj g2
      rw [ht.hg] at g3
      cases g3
  have k1 := reach_keep R hK p2 ⟨xd, hx.hd, hx.hk⟩ fun M dd nm xd2 i2 z2 g1 g2 g3 g4 g5 g6 => hP M dd nm xd2 i2 z2 g1 g2 g3 g4 g5 N1 (.inl rfl) g6
  have k2 := reach_keep R hK q2 ⟨xe, ht.hd, ht.hk⟩ fun M dd nm xd2 i2 z2 g1 g2 g3 g4 g5 g6 => hP M dd nm xd2 i2 z2 g1 g2 g3 g4 g5 N2 (.inr rfl) g6
  have hrd := hw.r xd (at_mem hx.hd).1
  have hre := hw.r xe (at_mem ht.hd).1
  obtain ⟨xd', xe', f1, f2, f3, f4, f5, f6, f7⟩ : ∃ xd' xe', (m.moved (m.findP o).1 (m.findP p).1 (z.k == 2)).at (m.findP o).1.d = some xd' ∧ (m.moved (m.findP o).1 (m.findP p).1 (z.k == 2)).at (m.findP p).1.d = some xe' ∧ xd'.k = 2 ∧ xe'.k = 2 ∧ lget (m.findP o).1.m xd'.e = none ∧ lget (m.findP p).1.m xe'.e = some (beB 4 (m.findP o).1.i) ∧ (m.moved (m.findP o).1 (m.findP p).1 (z.k == 2)).at (m.findP o).1.i = some z := by
    by_cases hde : (m.findP o).1.d = (m.findP p).1.d
    · have h1 := moved_at1 (a := (m.findP o).1) (b := (m.findP p).1) (dir := z.k == 2) hx.hd hde h2
      rw [h1]
      have hnm : (m.findP o).1.m ≠ (m.findP p).1.m := fun q => hne ⟨hde, q⟩
      refine ⟨{ xd with e := lset (m.findP p).1.m (beB 4 (m.findP o).1.i) (lcut (m.findP o).1.m xd.e) }, { xd with e := lset (m.findP p).1.m (beB 4 (m.findP o).1.i) (lcut (m.findP o).1.m xd.e) }, updA_same _ _ _, by rw [← hde]; exact updA_same _ _ _, hx.hk, hx.hk, ?_, ?_, by rw [updA_ne _ _ hid]; exact hx.hi⟩
      · dsimp only
        rw [lget_lset (lcut_rises hrd), if_neg hnm, lget_lcut, if_pos rfl]
      · dsimp only
        rw [lget_lset (lcut_rises hrd), if_pos rfl]
    · have h1 := moved_at (a := (m.findP o).1) (b := (m.findP p).1) (dir := z.k == 2) hx.hd ht.hd hde h2
      rw [h1]
      refine ⟨{ xd with n := xd.n + (if (z.k == 2) = true then -1 else 0), e := lcut (m.findP o).1.m xd.e }, { xe with n := xe.n + (if (z.k == 2) = true then 1 else 0), e := lset (m.findP p).1.m (beB 4 (m.findP o).1.i) xe.e }, by rw [updA_ne _ _ hde]; exact updA_same _ _ _, updA_same _ _ _, hx.hk, ht.hk, ?_, ?_, by rw [updA_ne _ _ hit, updA_ne _ _ hid]; exact hx.hi⟩
      · dsimp only
        rw [lget_lcut, if_pos rfl]
      · dsimp only
        rw [lget_lset hre, if_pos rfl]
  have hiu := R.u _ _ hx.hi
  have fp : (m.moved (m.findP o).1 (m.findP p).1 (z.k == 2)).findP p = (⟨(m.findP p).1.d, (m.findP p).1.m, (m.findP o).1.i⟩, 0) := by
    rw [reach_find R1 hsp q1 k2 f2 f4]
    have : xe'.entry (m.findP p).1.m = (m.findP o).1.i := by unfold MN.entry; rw [f6]; exact beV_be4 _ hiu.1
    rw [this]
  have fo : (m.moved (m.findP o).1 (m.findP p).1 (z.k == 2)).findP o = (⟨(m.findP o).1.d, (m.findP o).1.m, 0⟩, 0) := by
    rw [reach_find R1 hso p1 k1 f1 f3]
    have : xd'.entry (m.findP o).1.m = 0 := by unfold MN.entry; rw [f5]
    rw [this]
  have hk1 : (m.moved (m.findP o).1 (m.findP p).1 (z.k == 2)).kind (m.findP o).1.i = z.k := by unfold MF.kind; rw [f7]
  generalize hm1 : m.moved (m.findP o).1 (m.findP p).1 (z.k == 2) = m1 at R1 hw1 hmb fp fo hk1 k1 k2 f1 f2 f7
  generalize hs1 : (s.rename o p).2 = s1 at w2 R1 hv1 pf1 pf2
  have hun1 : ¬ (m1.kind (m1.findP p).1.i = 2 ∧ underB (namesP p) (namesP o) = true) := fun q => by
    have q := q.2
    unfold underB at q
    rw [Bool.and_eq_true, decide_eq_true_eq, decide_eq_true_eq] at q
    have hpre : namesP p <+: namesP o := by rw [q.2]; exact List.take_prefix _ _
    obtain ⟨j, hj⟩ := reach_pre (p3 h2) hpre
    rw [q1] at hj
    obtain ⟨d2, x2, g1, g2, g3, g4⟩ := reach_snoc hj
    obtain rfl := reach_fun q2 g1
    rw [ht.hd] at g2
    obtain rfl := Option.some.inj g2
    rw [ht.hg] at g4; cases g4
  obtain ⟨t1, t2, t3⟩ := rename_moves hv1 R1 p o (by rw [fp]) (by rw [fp]; exact h2) (by rw [fp]; exact h3) (by rw [fo]) (by rw [fo]) hun1
  rw [fp, hk1] at t2
  rw [fp, fo, hk1] at t3
  obtain ⟨y1, y2⟩ := movesAt_wz (s := (s1.rdp p).rdp o) (show s1.writes.size ≤ 40 by omega) (s1.there p false).1 ((s1.rdp p).find o).1
  rw [← t1] at y1 y2
  change (s1.rename p o).2.writes.size ≤ s1.writes.size + 5 at y2
  obtain ⟨_, par2, R2⟩ := (rename_sim hv1 R1 hw1 (by omega) p o).resolve_left (by omega)
  rw [t3] at R2
  obtain ⟨pg1, pg2⟩ := movesAt_pr ((hv1.rdp p).rdp o) (s1.there p false).1 ((s1.rdp p).find o).1
  rw [← t1, t2] at pg1
  rw [← t1] at pg2
  change z.k ≠ 2 → (s1.rename p o).2.pr = s1.pr at pg1
  change s1.pr ≠ none → _ at pg2
  have hmb2 : (m1.moved ⟨(m.findP p).1.d, (m.findP p).1.m, (m.findP o).1.i⟩ ⟨(m.findP o).1.d, (m.findP o).1.m, 0⟩ (z.k == 2)).at = m.at := by
    rw [← hmb, ← hm1]
    rw [show m.moved (m.findP o).1 (m.findP p).1 (z.k == 2) = m.moved ⟨(m.findP o).1.d, (m.findP o).1.m, (m.findP o).1.i⟩ ⟨(m.findP p).1.d, (m.findP p).1.m, 0⟩ (z.k == 2) by rw [← eP]]
  refine ⟨w1, y1, row_eq R R2 hmb2 ?_, by omega⟩
  by_cases k2 : z.k = 2
  · have hp0 : s.pr ≠ none := root_key R (p3 h2) (by rw [p1]; simp) ⟨z, hx.hi, k2⟩
    exact ⟨fun q => absurd q (pg2 (pf2 hp0)), fun q => absurd q hp0⟩
  · show (s1.rename p o).2.pr = none ↔ s.pr = none
    rw [pg1 k2, pf1 k2]
end Go.Proofs.YtfnpelogfcnanaaGreatDoor

/- There and back again: Link and Unlink. -/
-- @D
namespace Go.Proofs.YtfnpelogfcnanaaGreatDoor
set_option maxRecDepth 20000
open Go.Awp Tr
theorem key1_ne {i : Int} (hi : U32 i) (h1 : i ≠ 1) : keyH 73 i ≠ keyH 73 1 := fun e => by
  have := (key_iff (x := []) (y := []) L73 L73 hi (show U32 1 from by decide)).1 (by simpa using e)
  exact h1 this.2.1
theorem link_back {s : VS} {n c : Nat} (h : VJ s n) {m : MF} {par : Int → Int} (R : Rel s.shown.row m par) (hw : m.wk c) (hz : s.writes.size ≤ 40) (o p : List UInt8) (h4 : (m.findP p).2 = 0) (h7 : (m.findP p).1.i = 0) :
    ((s.link o p).1 ≠ 0) ∨ ((s.link o p).1 = 0 ∧ ((s.link o p).2.unlink p).1 = 0 ∧ ((s.link o p).2.unlink p).2.shown.row = s.shown.row) := by
  rcases there_sim h R o true with ⟨h1, e⟩ | ⟨_, q, _, _⟩ | ⟨h1, h2, e⟩ | ⟨h1, h2, _, e, es⟩
  · left
    have : s.link o p = ((s.there o true).2, s.rdp o) := by unfold VS.link; rw [e, if_pos h1]
    rw [this, e]; exact h1
  · cases q
  · left
    have : s.link o p = ((s.there o true).2, s.rdp o) := by unfold VS.link; rw [e, if_pos (by decide)]
    rw [this, e]; exact (by decide : (10 : Int) ≠ 0)
  obtain ⟨z, g1, g2⟩ := es.hn (by rw [es.hi]; exact h2)
  have hak : (s.there o true).1.n.1 = z.k := by rw [g2]
  have han : (s.there o true).1.n.2.1 = z.n := by rw [g2]
  obtain ⟨he, hs⟩ := find_sim (s := s.rdp o) (h.rdp o) R p
  have ts := hs h4
  by_cases hk : z.k = 2
  · left
    have : s.link o p = (13, s.rdp o) := by unfold VS.link; rw [e, if_neg (by decide), hak, if_pos hk]
    rw [this]; exact (by decide : (13 : Int) ≠ 0)
  by_cases hn : z.n ≥ 1000
  · left
    have : s.link o p = (18, (s.rdp o).rdp p) := by
      unfold VS.link
      rw [e, if_neg (show ¬ (0 : Int) ≠ 0 by decide), hak, if_neg hk, he, if_neg (by simpa using h4), ts.hi, if_neg (by omega), han, if_pos hn]
    rw [this]; exact (by decide : (18 : Int) ≠ 0)
  right
  have hk1 : z.k = 1 := (k12 R.toA g1).resolve_right hk
  have em : m.link o p = (0, (m.linked (m.findP o).1.i 1).named (m.findP p).1.d (m.findP p).1.m (m.findP o).1.i) := by
    unfold MF.link
    rw [if_neg (show ¬ (m.findP o).2 ≠ 0 by simpa using h1), if_neg h2, ← es.hi, g1]
    dsimp only
    rw [if_neg hk, if_neg (by simpa using h4), if_neg (by omega), if_neg hn]
  have ev : s.link o p = ((s.rdp o).rdp p).linkAt (s.there o true).1 ((s.rdp o).find p).1 := by
    unfold VS.link
    rw [e, if_neg (show ¬ (0 : Int) ≠ 0 by decide), hak, if_neg hk, he, if_neg (by simpa using h4), ts.hi, if_neg (by omega), han, if_neg hn]
  rw [es.hi] at g1
  have hiu := R.u _ _ g1
  have hi1 : (m.findP o).1.i ≠ 1 := fun q => by
    obtain ⟨y, f1, f2⟩ := R.root
    rw [q, f1] at g1
    cases g1; omega
  -- the first
  have hv0 : VJ ((s.rdp o).rdp p) (n + 33 + 33) := (h.rdp o).rdp p
  have hz0 : ((s.rdp o).rdp p).writes.size ≤ 40 := hz
  have hp0 : ((s.rdp o).rdp p).pr = s.pr := rfl
  have hl0 : (s.link o p).1 = 0 ∧ (s.link o p).2.writes.size ≤ 42 ∧ (s.link o p).2.pr = s.pr := by
    rw [ev]
    generalize ((s.rdp o).rdp p) = s1 at hv0 hz0 hp0
    unfold VS.linkAt
    dsimp only
    have z1 := put_wz s1 (entryK ((s.rdp o).find p).1.d ((s.rdp o).find p).1.m) (beB 4 (s.there o true).1.i)
    have v1 := hv0.hang ((s.rdp o).find p).1.d ((s.rdp o).find p).1.m (s.there o true).1.i
    have e1 := put_pr hv0 (beB 4 (s.there o true).1.i) (ent_ne ((s.rdp o).find p).1.d ((s.rdp o).find p).1.m)
    generalize s1.put (entryK ((s.rdp o).find p).1.d ((s.rdp o).find p).1.m) (beB 4 (s.there o true).1.i) = s2 at z1 v1 e1
    have z2 := put_wz s2 (keyH 73 (s.there o true).1.i) (nodeB (linkN (s.there o true).1.n 1).1 (linkN (s.there o true).1.n 1).2.1 (linkN (s.there o true).1.n 1).2.2.1 (linkN (s.there o true).1.n 1).2.2.2)
    have e2 := put_pr v1 (nodeB (linkN (s.there o true).1.n 1).1 (linkN (s.there o true).1.n 1).2.1 (linkN (s.there o true).1.n 1).2.2.1 (linkN (s.there o true).1.n 1).2.2.2) (by rw [es.hi]; exact key1_ne hiu.1 hi1 : keyH 73 (s.there o true).1.i ≠ keyH 73 1)
    refine ⟨by rw [room_lt (by omega), room_lt (by omega)]; rfl, ?_, (e2.trans e1).trans hp0⟩
    exact Nat.le_trans z2 (by omega)
  obtain ⟨l1, l2, l3⟩ := hl0
  obtain ⟨_, R1⟩ := (link_sim h R o p).resolve_left (by omega)
  have hv1 := link_ok h o p
  rw [em] at R1
  obtain ⟨N2, q1, q2, _⟩ := R.path h4 (by omega)
  obtain ⟨xd, ht⟩ : ∃ xe, NoD m (m.findP p).1.d (m.findP p).1.m xe := by
    rcases R.fnd h4 with e | ⟨xe, ht, _⟩ | ⟨xe, zt, ht⟩
    · rw [e] at h7; cases h7
    · exact ⟨xe, ht⟩
    · exact absurd h7 ht.h0
  have hid : (m.findP p).1.d ≠ (m.findP o).1.i := fun q => by
    have := ht.hd
    rw [q, g1] at this
    obtain rfl := Option.some.inj this
    exact hk ht.hk
  have hrd := hw.r xd (at_mem ht.hd).1
  have w1 := hw.linked (m.findP o).1.i 1 (by omega)
  have hK := (Keep.linked m (m.findP o).1.i 1).trans (Keep.named w1 (m.findP p).1.d (m.findP p).1.m (m.findP o).1.i)
  have hr := reach_keep R hK q2 ⟨xd, ht.hd, ht.hk⟩ fun M dd nm xd2 i z2 f1 f2 f3 f4 f5 f6 q => by
    rcases q with q | ⟨rfl, rfl⟩
    · exact q
    · rw [ht.hd] at f2
      obtain rfl := Option.some.inj f2
      rw [ht.hg] at f3; cases f3
  have hat1 : ((m.linked (m.findP o).1.i 1).named (m.findP p).1.d (m.findP p).1.m (m.findP o).1.i).at = updA (updA m.at (m.findP o).1.i (some { z with n := z.n + 1 })) (m.findP p).1.d (some { xd with e := lset (m.findP p).1.m (beB 4 (m.findP o).1.i) xd.e }) := by
    have e1 := atE_linked m (m.findP o).1.i 1 g1
    rw [atE_named _ (m.findP p).1.d (m.findP p).1.m (m.findP o).1.i (x := xd) (by rw [e1, updA_ne _ _ hid]; exact ht.hd), e1, nmE_set hiu.2]
  have fd : ((m.linked (m.findP o).1.i 1).named (m.findP p).1.d (m.findP p).1.m (m.findP o).1.i).at (m.findP p).1.d = some { xd with e := lset (m.findP p).1.m (beB 4 (m.findP o).1.i) xd.e } := by rw [hat1]; exact updA_same _ _ _
  have fi : ((m.linked (m.findP o).1.i 1).named (m.findP p).1.d (m.findP p).1.m (m.findP o).1.i).at (m.findP o).1.i = some { z with n := z.n + 1 } := by rw [hat1, updA_ne _ _ (Ne.symm hid)]; exact updA_same _ _ _
  generalize (m.linked (m.findP o).1.i 1).named (m.findP p).1.d (m.findP p).1.m (m.findP o).1.i = m1 at R1 hr hat1 fd fi
  generalize (s.link o p).2 = s1 at l2 l3 R1 hv1
  have fp : m1.findP p = (⟨(m.findP p).1.d, (m.findP p).1.m, (m.findP o).1.i⟩, 0) := by
    rw [reach_find R1 (findP_err h4) q1 hr fd ht.hk]
    have : MN.entry { xd with e := lset (m.findP p).1.m (beB 4 (m.findP o).1.i) xd.e } (m.findP p).1.m = (m.findP o).1.i := by
      unfold MN.entry
      dsimp only
      rw [lget_lset hrd, if_pos rfl]
      exact beV_be4 _ hiu.1
    rw [this]
  have em2 : m1.unlink p = (0, (m1.linked (m.findP o).1.i (-1)).named (m.findP p).1.d (m.findP p).1.m 0) := by
    unfold MF.unlink
    rw [fp]
    dsimp only
    rw [if_neg (by decide), if_neg h2]
    unfold MF.unl
    dsimp only
    rw [fi]
    dsimp only
    have hzn : (1 : Int) ≤ z.n := by
      have := (R.may g1).1
      unfold mayB at this
      rw [if_pos hk1] at this
      simp only [Bool.and_eq_true, decide_eq_true_eq] at this
      omega
    rw [if_neg hk, if_neg (show ¬ z.n + 1 = 1 by omega)]
  -- the second
  have hu : (s1.unlink p).1 = 0 ∧ (s1.unlink p).2.pr = s1.pr := by
    rcases there_sim hv1 R1 p true with ⟨f1, _⟩ | ⟨_, q, _, _⟩ | ⟨_, f2, _⟩ | ⟨f1, f2, _, f3, f4⟩
    · rw [fp] at f1; exact absurd rfl f1
    · cases q
    · rw [fp] at f2; exact absurd f2 h2
    have ei : (s1.there p true).1.i = (m.findP o).1.i := by rw [f4.hi, fp]
    obtain ⟨y, y1, y2⟩ := f4.hn (by rw [ei]; exact h2)
    rw [ei, fi] at y1
    obtain rfl := Option.some.inj y1
    have hzn : (1 : Int) ≤ z.n := by
      have := (R.may g1).1
      unfold mayB at this
      rw [if_pos hk1] at this
      simp only [Bool.and_eq_true, decide_eq_true_eq] at this
      omega
    have hv2 : VJ (s1.rdp p) (n + 200 + 33) := hv1.rdp p
    have hz2 : (s1.rdp p).writes.size ≤ 42 := l2
    have hp2 : (s1.rdp p).pr = s1.pr := rfl
    unfold VS.unlink
    rw [f3, if_neg (show ¬ (0 : Int) ≠ 0 by decide)]
    generalize (s1.there p true).1 = a at ei y2
    generalize s1.rdp p = s2 at hv2 hz2 hp2
    have c1 : ¬ a.n.1 = 2 := by rw [y2]; exact hk
    have c2 : a.n.2.1 > 1 := by rw [y2]; show z.n + 1 > 1; omega
    have hd := del_wz s2 (entryK a.d a.m)
    have v3 := hv2.del (entryK a.d a.m)
    have e1 := del_pr hv2 (ent_ne a.d a.m)
    unfold VS.unlinks
    dsimp only
    rw [if_neg c1, if_pos c2]
    generalize s2.del (entryK a.d a.m) = s3 at hd v3 e1
    have e2 := put_pr v3 (nodeB (linkN a.n (-1)).1 (linkN a.n (-1)).2.1 (linkN a.n (-1)).2.2.1 (linkN a.n (-1)).2.2.2) (by rw [ei]; exact key1_ne hiu.1 hi1 : keyH 73 a.i ≠ keyH 73 1)
    refine ⟨?_, (e2.trans e1).trans hp2⟩
    show firstE [fullE [_], fullE [_]] = 0
    rw [full_room1 (by omega), full_room1 (by omega)]; rfl
  obtain ⟨_, R2⟩ := (unlink_sim hv1 R1 p).resolve_left (by rw [hu.1]; decide)
  rw [em2] at R2
  refine ⟨l1, hu.1, row_eq R R2 ?_ ?_⟩
  · have e1 := atE_linked m1 (m.findP o).1.i (-1) fi
    have e2 : (m1.linked (m.findP o).1.i (-1)).at (m.findP p).1.d = some { xd with e := lset (m.findP p).1.m (beB 4 (m.findP o).1.i) xd.e } := by rw [e1, updA_ne _ _ hid]; exact fd
    rw [atE_named _ (m.findP p).1.d (m.findP p).1.m 0 e2, e1, nmE_cut, hat1]
    dsimp only
    rw [cut_set hrd ht.hg]
    funext j
    unfold updA
    split
    · rename_i q; subst q; exact ht.hd.symm
    · split
      · rename_i q; subst q
        have : z.n + 1 + -1 = z.n := by omega
        rw [this]; exact g1.symm
      · rfl
  · show (s1.unlink p).2.pr = none ↔ s.pr = none
    rw [hu.2, l3]
end Go.Proofs.YtfnpelogfcnanaaGreatDoor

/- flintlaw18: alike. -/
-- @D
namespace Go.Proofs.YtfnpelogfcnanaaGreatDoor
set_option maxRecDepth 20000
open Go.Awp Tr
set_option maxHeartbeats 8000000 in
/-- Pairs are alike with themselves. -/
theorem alike_spec (R : List KV) (hR : R.length ≤ 1000000) : Con Tryz.prog 26 [.p (.ps (kvs R)), .p (.ps (kvs R))] [] (.p (.bool true)) [] [] := by
  have hlk : (kvs R).length = R.length := by simp
  refine con_of Tryz.func26 rfl (by kernel_rfl) rfl fun F w0 β0 => ?_
  refine K_tell rfl ?_
  refine go ?_
  refine K_condF rfl (by simp) ?_
  refine go ?_
  refine J_loop (fun q : Ix R.length => [(0, .p (.ps (kvs R))), (1, .p (.ps (kvs R))), (12, .p (.int .i64 (R.length : Int))), (13, .p (.int .i64 (q.i : Int)))]) (fun _ => []) (fun _ => []) (fun q => R.length - q.i) ⟨0, by omega⟩ ⟨rfl, rfl, (by rw [← hlk]; rfl), rfl, trivial⟩ rfl rfl (fun q => ?_)
  have hi := q.h
  refine go ?_
  by_cases h : q.i < R.length
  · have hx : R[q.i]? = some R[q.i] := List.getElem?_eq_getElem h
    generalize R[q.i] = x at hx
    have hxk : (kvs R)[((q.i : Nat) : Int).toNat]? = some (kvV x) := kvs_get hx
    refine K_condT rfl (decide_eq_true (by omega)) ?_
    refine go ?_
    refine J_draw [_] [] (by kernel_rfl) (by kernel_rfl) rfl ?_
    refine gd ?_
    refine T_opD rfl rfl rfl rfl rfl (opr_index hT rfl rfl rfl rfl rfl (.ps _) (by omega) (by rw [hlk]; omega)) rfl ?_
    refine gd ?_
    refine T_opD rfl rfl rfl rfl rfl (opr_load_el hT rfl rfl (.ps _) hxk rfl rfl) rfl ?_
    refine gd ?_
    refine T_opD rfl rfl rfl rfl rfl (opr_index hT rfl rfl rfl rfl rfl (.ps _) (by omega) (by rw [hlk]; omega)) rfl ?_
    refine gd ?_
    refine T_opD rfl rfl rfl rfl rfl (opr_load_el hT rfl rfl (.ps _) hxk rfl rfl) rfl ?_
    refine gd ?_
    refine T_opD rfl rfl rfl rfl rfl (opr_eqAgg hT rfl (by kernel_rfl) rfl rfl rfl rfl rfl) rfl ?_
    refine gd ?_
    refine K_condF rfl (by simp) ?_
    refine go ?_
    refine J_take 0 [(0, .p (.ps (kvs R))), (1, .p (.ps (kvs R))), (12, .p (.int .i64 (R.length : Int))), (13, .p (.int .i64 (IntKind.i64.wrap ((q.i : Int) + 1))))] ⟨rfl, rfl, rfl, rfl, trivial⟩ rfl rfl ?_
    refine J_again ⟨q.i + 1, by omega⟩ (by show R.length - (q.i + 1) < R.length - q.i; omega) ⟨rfl, rfl, rfl, congrArg (fun z => TV.p (.int .i64 z)) (by rw [IntWalk.i64_in _ (by omega)]; rfl), trivial⟩ rfl rfl
  refine K_condF rfl (decide_eq_false (by omega)) ?_
  refine go ?_
  exact J_done hT rfl rfl rfl
/-- All that a view shows. -/
theorem range_all {s : VS} {n : Nat} (h : VJ s n) (hn : n ≤ 900000) {m : MF} {par : Int → Int} (R : Rel s.shown.row m par) : Con Tryz.prog 19 [vP, .p (.str []), .p (.str [255])] (vH s) (.p (.ps (kvs s.shown.row))) (vH (s.range [] [255])) [] := by
  have c := (vrange_spec s [] [255] (by have := h.zs; unfold big40; omega) (by have := h.zg; unfold big40; omega)).toPs (.inl rfl)
  rw [(based_row h R.ff).1] at c
  exact c
theorem range_sh (s : VS) (a b : List UInt8) : (s.range a b).shown = s.shown ∧ (s.range a b).writes = s.writes := by unfold VS.range; split <;> exact ⟨rfl, rfl⟩
end Go.Proofs.YtfnpelogfcnanaaGreatDoor

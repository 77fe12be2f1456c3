/- Contracts and plain laws, several texts joined: RelJ, RelK, F18x, Go5. -/
import Derived.Test.YtfnpelogfcnanaaGreatDoorGo
import Derived.Test.YtfnpelogfcnanaaGreatDoorM17
import Derived.Test.YtfnpelogfcnanaaGreatDoorM14
import Derived.Test.YtfnpelogfcnanaaGreatDoorM6
import Derived.Test.YtfnpelogfcnanaaGreatDoorM4
import Derived.Test.YtfnpelogfcnanaaGreatDoorM5
/- Ops of the view are ops of the model: Rename whole. -/
-- @D
namespace Go.Proofs.YtfnpelogfcnanaaGreatDoor
set_option maxRecDepth 20000
open Go.Awp Tr
theorem rmv_stay {m : MF} {b : MS} (h : (m.rmv b).1 ≠ 0) : (m.rmv b).2 = m := by
  unfold MF.rmv at h ⊢
  split
  · rfl
  · rename_i n hn
    rw [hn] at h
    dsimp only at h
    by_cases h1 : n.k ≠ 2
    · rw [if_pos h1]
    · rw [if_neg h1] at h ⊢
      by_cases h2 : n.e.length > 0
      · rw [if_pos h2]
      · rw [if_neg h2] at h; exact absurd rfl h
theorem unl_stay {m : MF} {b : MS} (h : (m.unl b).1 ≠ 0) : (m.unl b).2 = m := by
  unfold MF.unl at h ⊢
  split
  · rfl
  · rename_i n hn
    rw [hn] at h
    dsimp only at h
    by_cases h1 : n.k = 2
    · rw [if_pos h1]
    · rw [if_neg h1] at h; exact absurd rfl h
theorem rmv_wk {m : MF} {c : Nat} (h : m.wk c) (b : MS) : (m.rmv b).2.wk (c + 2) := by
  unfold MF.rmv
  split
  · exact h.mono (by omega)
  · split
    · exact h.mono (by omega)
    · split
      · exact h.mono (by omega)
      · exact ((h.without _).linked _ _ (by omega)).named _ _ _
theorem unl_wk {m : MF} {c : Nat} (h : m.wk c) (b : MS) : (m.unl b).2.wk (c + 2) := by
  unfold MF.unl
  split
  · exact h.mono (by omega)
  · split
    · exact h.mono (by omega)
    · split
      · exact ((h.without _).named _ _ _).mono (by omega)
      · exact (h.linked _ _ (by omega)).named _ _ _
/-- What a found name's path is. -/
theorem Rel.path {l : List KV} {m : MF} {par : Int → Int} (R : Rel l m par) {p : List UInt8} (he : (m.findP p).2 = 0) (h1 : (m.findP p).1.i ≠ 1) : ∃ N', namesP p = N' ++ [(m.findP p).1.m] ∧ Reach m N' (m.findP p).1.d ∧ ((m.findP p).1.i ≠ 0 → Reach m (namesP p) (m.findP p).1.i) := by
  unfold MF.findP at he h1 ⊢
  by_cases h0 : (splitN p).2 ≠ 0
  · rw [if_pos h0] at he; exact absurd he h0
  rw [if_neg h0] at he h1 ⊢
  rcases go_reach R (namesP p) [] ⟨0, [], 1⟩ (fun _ => .nil) he with ⟨_, e⟩ | ⟨N', e1, e2, e3⟩
  · rw [e] at h1; exact absurd rfl h1
  · exact ⟨N', e1, by simpa using e2, fun q => by simpa using e3 q⟩
/-- What is in the way is cleared: what is left. -/
theorem clear_left {m m' : MF} {par : Int → Int} {d e i j : Int} {nm tm : List UInt8} {xd z xt zt : MN} (hs : InD m par d nm i xd z) (ht : InD m par e tm j xt zt) (hiu : U32 i) (hju : U32 j) (hij : i ≠ j) (hie : i ≠ e) (hdj : d ≠ j) (hej : e ≠ j) {w : Option MN} {n' : Int} (hat : m'.at = updA (updA m.at j w) e (some { xt with n := n', e := lcut tm xt.e })) :
    (∃ xd', InD m' par d nm i xd' z) ∧ NoD m' e tm { xt with n := n', e := lcut tm xt.e } := by
  obtain ⟨hd, hkd, hnm, hg, hi, hi1, hi0, hp⟩ := hs
  obtain ⟨he, hke, hntm, hge, hj, hj1, hj0, hpj⟩ := ht
  have hi' : m'.at i = some z := by rw [hat, updA_ne _ _ hie, updA_ne _ _ hij]; exact hi
  refine ⟨?_, ⟨by rw [hat]; exact updA_same _ _ _, hke, hntm, by dsimp only; rw [lget_lcut, if_pos rfl]⟩⟩
  by_cases hde : d = e
  · subst hde
    rw [hd] at he; cases he
    refine ⟨{ xd with n := n', e := lcut tm xd.e }, by rw [hat]; exact updA_same _ _ _, hkd, hnm, ?_, hi', hi1, hi0, hp⟩
    dsimp only
    rw [lget_lcut, if_neg, hg]
    intro q
    rw [q, hge] at hg
    injection hg with hg
    exact hij ((be4_inj hiu hju).1 hg.symm)
  · exact ⟨xd, by rw [hat, updA_ne _ _ hde, updA_ne _ _ hdj]; exact hd, hkd, hnm, hg, hi', hi1, hi0, hp⟩
theorem rename_sim {s : VS} {n c : Nat} (h : VJ s n) {m : MF} {par : Int → Int} (R : Rel s.shown.row m par) (hw : m.wk c) (hc : c + 2 ≤ 100000) (o p : List UInt8) :
    (s.rename o p).1 = 21 ∨ ((s.rename o p).1 = (m.rename o p).1 ∧ ∃ par', Rel (s.rename o p).2.shown.row (m.rename o p).2 par') := by
  unfold VS.rename MF.rename
  rcases there_sim h R o false with ⟨h1, e⟩ | ⟨h1, _, h2, e⟩ | ⟨h1, h2, e⟩ | ⟨h1, h2, h3, e, es⟩
  · rw [e, if_pos h1, if_pos h1]; exact .inr ⟨rfl, par, R⟩
  · rw [e, if_pos (by decide), if_neg (show ¬ (m.findP o).2 ≠ 0 by simpa using h1), if_pos h2]; exact .inr ⟨rfl, par, R⟩
  · rw [e, if_pos (by decide), if_neg (show ¬ (m.findP o).2 ≠ 0 by simpa using h1), if_neg (show ¬ (m.findP o).1.i = 1 by omega), if_pos h2]; exact .inr ⟨rfl, par, R⟩
  have h3 := h3 rfl
  rw [e, if_neg (show ¬ (0 : Int) ≠ 0 by decide), if_neg (show ¬ (m.findP o).2 ≠ 0 by simpa using h1), if_neg h3, if_neg h2]
  obtain ⟨he, hs⟩ := find_sim (s := s.rdp o) (h.rdp o) R p
  rw [he]
  by_cases h4 : (m.findP p).2 ≠ 0
  · rw [if_pos h4, if_pos h4]; exact .inr ⟨rfl, par, R⟩
  rw [if_neg h4, if_neg h4]
  have h4 : (m.findP p).2 = 0 := by simpa using h4
  have ts := hs h4
  rw [ts.hi, es.hi]
  by_cases h5 : (m.findP p).1.i = 1
  · rw [if_pos h5, if_pos h5]; exact .inr ⟨rfl, par, R⟩
  rw [if_neg h5, if_neg h5]
  by_cases h6 : (m.findP p).1.i = (m.findP o).1.i
  · rw [if_pos h6, if_pos h6]; exact .inr ⟨rfl, par, R⟩
  rw [if_neg h6, if_neg h6]
  obtain ⟨xd, z, hx⟩ := R.ind h1 h2 h3
  obtain ⟨w, g1, g2⟩ := es.hn (by rw [es.hi]; exact h2)
  rw [es.hi, hx.hi] at g1
  obtain rfl : z = w := Option.some.inj g1
  obtain ⟨N1, p1, p2, p3⟩ := R.path h1 h3
  obtain ⟨N2, q1, q2, q3⟩ := R.path h4 h5
  have hkz : m.kind (m.findP o).1.i = z.k := by unfold MF.kind; rw [hx.hi]
  rw [hkz]
  have hid : z.k = 2 → (m.findP o).1.i ≠ (m.findP o).1.d := fun k2 q => by
    have r1 := p3 h2
    rw [q] at r1
    have := reach_one R r1 p2 (by rw [← q]; exact hx.hi) k2
    rw [p1] at this
    have := congrArg List.length this
    simp at this
  have hv : VJ ((s.rdp o).rdp p) (n + 33 + 33) := (h.rdp o).rdp p
  have Rr : Rel ((s.rdp o).rdp p).shown.row m par := R
  generalize ((s.rdp o).rdp p) = s1 at hv Rr
  have hak : (s.there o false).1.n.1 = z.k := by rw [g2]
  unfold VS.renameAt
  by_cases hun : z.k = 2 ∧ underB (namesP o) (namesP p) = true
  · have e1 : s1.clears (s.there o false).1 ((s.rdp o).find p).1 o p = (15, s1) := by unfold VS.clears; rw [hak, if_pos hun]
    rw [e1, if_pos (show ((15 : Int), s1).1 ≠ 0 from (by decide : (15 : Int) ≠ 0)), if_pos (by simpa using hun)]
    exact .inr ⟨rfl, par, Rr⟩
  rw [if_neg (show ¬ (z.k = 2 && underB (namesP o) (namesP p)) = true by simpa using hun)]
  have hit : z.k = 2 → (m.findP o).1.i ≠ (m.findP p).1.d := fun k2 q => by
    have r1 := p3 h2
    rw [q] at r1
    have e2 := reach_one R r1 q2 (by rw [← q]; exact hx.hi) k2
    refine hun ⟨k2, ?_⟩
    unfold underB
    rw [Bool.and_eq_true, decide_eq_true_eq, decide_eq_true_eq, q1, e2]
    simp
    omega
  have hc1 : ((s.there o false).1.n.1 = 2 ∧ underB (namesP o) (namesP p) = true) ↔ (z.k = 2 ∧ underB (namesP o) (namesP p) = true) := by rw [hak]
  have hcl : s1.clears (s.there o false).1 ((s.rdp o).find p).1 o p = if (m.findP p).1.i = 0 then (0, s1) else if z.k = 2 then s1.removes ((s.rdp o).find p).1 else s1.unlinks ((s.rdp o).find p).1 := by
    unfold VS.clears
    rw [if_neg (fun q => hun (hc1.1 q)), ts.hi, hak]
  rw [hcl]
  by_cases h7 : (m.findP p).1.i = 0
  · rw [if_pos h7, if_pos h7, if_neg (show ¬ ((0 : Int), s1).1 ≠ 0 from (by decide : ¬ (0 : Int) ≠ 0))]
    rcases R.fnd h4 with e | ⟨xt, ht, _⟩ | ⟨xt, zt, ht⟩
    · rw [e] at h5; exact absurd rfl h5
    · rw [← ts.hd, ← ts.hm] at ht
      rw [← es.hi, ← es.hd] at hid
      rw [← es.hi, ← ts.hd] at hit
      rw [← es.hd, ← es.hm, ← es.hi] at hx
      exact movesAt_sim hv Rr hw (by omega) hx g2 ht hid hit _ _ es.hd.symm es.hm.symm es.hi.symm ts.hd.symm ts.hm.symm
    · exact absurd h7 ht.h0
  rw [if_neg h7, if_neg h7]
  obtain ⟨xt, zt, ht⟩ := R.ind h4 h7 h5
  obtain ⟨w, f1, f2⟩ := ts.hn (by rw [ts.hi]; exact h7)
  rw [ts.hi, ht.hi] at f1
  obtain rfl : zt = w := Option.some.inj f1
  have hiu := (R.u _ _ hx.hi).1
  have hju := (R.u _ _ ht.hi).1
  -- what is in the way
  have hclr : ∀ (q : Int × VS) (r : Int × MF) (N : Nat), VJ q.2 N → r.2.wk (c + 2) → (r.1 ≠ 0 → r.2 = m) → (q.1 = 21 ∨ (q.1 = r.1 ∧ Rel q.2.shown.row r.2 par ∧ (r.1 = 0 → ∃ w n', (m.findP o).1.i ≠ (m.findP p).1.d ∧ (m.findP o).1.d ≠ (m.findP p).1.i ∧ (m.findP p).1.d ≠ (m.findP p).1.i ∧ r.2.at = updA (updA m.at (m.findP p).1.i w) (m.findP p).1.d (some { xt with n := n', e := lcut (m.findP p).1.m xt.e })))) →
      (if q.1 ≠ 0 then q else q.2.movesAt (s.there o false).1 ((s.rdp o).find p).1).1 = 21 ∨ ((if q.1 ≠ 0 then q else q.2.movesAt (s.there o false).1 ((s.rdp o).find p).1).1 = (if r.1 ≠ 0 then (r.1, m) else (0, r.2.moved (m.findP o).1 (m.findP p).1 (z.k == 2))).1 ∧ ∃ par', Rel (if q.1 ≠ 0 then q else q.2.movesAt (s.there o false).1 ((s.rdp o).find p).1).2.shown.row (if r.1 ≠ 0 then (r.1, m) else (0, r.2.moved (m.findP o).1 (m.findP p).1 (z.k == 2))).2 par') := by
    intro q r N hN hwr hst hh
    rcases hh with hh | ⟨u1, u2, u3⟩
    · rw [if_pos (by omega)]; exact .inl hh
    rw [u1]
    by_cases h8 : r.1 ≠ 0
    · rw [if_pos h8, if_pos h8]
      rw [hst h8] at u2
      exact .inr ⟨u1, par, u2⟩
    rw [if_neg h8, if_neg h8]
    obtain ⟨w, n', k1, k2, k3, k4⟩ := u3 (by simpa using h8)
    obtain ⟨⟨xd', hx'⟩, ht'⟩ := clear_left hx ht hiu hju (Ne.symm h6) k1 k2 k3 k4
    rw [← ts.hd, ← ts.hm] at ht'
    rw [← es.hi, ← es.hd] at hid
    rw [← es.hi, ← ts.hd] at hit
    rw [← es.hd, ← es.hm, ← es.hi] at hx'
    exact movesAt_sim hN u2 hwr (by omega) hx' g2 ht' hid hit _ _ es.hd.symm es.hm.symm es.hi.symm ts.hd.symm ts.hm.symm
  rw [← ts.hi, ← ts.hd, ← ts.hm] at ht
  by_cases k2 : z.k = 2
  · rw [if_pos k2, if_pos k2]
    refine hclr _ (m.rmv (m.findP p).1) _ (removes_ok hv _) (rmv_wk hw _) rmv_stay ?_
    refine (removes_sim hv Rr hw (by omega) ht f2 _ ts.hd.symm ts.hm.symm ts.hi.symm).imp_right fun u => ⟨u.1, u.2.1, fun e => ?_⟩
    obtain ⟨u3, u4, u5⟩ := u.2.2 e
    rw [ts.hd, ts.hm, ts.hi] at u5
    rw [ts.hd, ts.hm, ts.hi] at ht
    refine ⟨_, _, hit k2, fun q => ?_, fun q => ?_, u5⟩
    · have := hx.hd
      rw [q, ht.hi] at this
      injection this with this
      have := hx.hg
      rw [← ‹zt = xd›, u4] at this
      cases this
    · have := ht.hd
      rw [q, ht.hi] at this
      injection this with this
      have := ht.hg
      rw [← ‹zt = xt›, u4] at this
      cases this
  · rw [if_neg k2, if_neg k2]
    refine hclr _ (m.unl (m.findP p).1) _ (unlinks_ok hv _) (unl_wk hw _) unl_stay ?_
    refine (unlinks_sim hv Rr ht f2 _ ts.hd.symm ts.hm.symm ts.hi.symm).imp_right fun u => ⟨u.1, u.2.1, fun e => ?_⟩
    obtain ⟨u3, u5⟩ := u.2.2 e
    rw [ts.hd, ts.hm, ts.hi] at u5
    rw [ts.hd, ts.hm, ts.hi] at ht
    refine ⟨_, _, fun q => ?_, fun q => ?_, fun q => ?_, u5⟩
    · have := ht.hd
      rw [← q, hx.hi] at this
      injection this with this
      exact k2 (by rw [this]; exact ht.hk)
    · have := hx.hd
      rw [q, ht.hi] at this
      injection this with this
      have := hx.hk
      rw [← ‹zt = xd›] at this
      omega
    · have := ht.hd
      rw [q, ht.hi] at this
      injection this with this
      have := ht.hk
      rw [← ‹zt = xt›] at this
      omega
end Go.Proofs.YtfnpelogfcnanaaGreatDoor

/- Bounds: what ops leave isn't much larger; numbers of new nodes. -/
-- @D
namespace Go.Proofs.YtfnpelogfcnanaaGreatDoor
set_option maxRecDepth 20000
open Go.Awp Tr
theorem make_ok {s : VS} {n : Nat} (h : VJ s n) (p : List UInt8) (k i : Int) : VJ (s.make p k i).2 (n + 200) := by
  unfold VS.make VS.makeAt
  have h1 : VJ (s.rds (s.find p).2.2) (n + 33) := h.rdp p
  dsimp only
  repeat' split
  · exact h1.mono (by omega)
  · exact h1.mono (by omega)
  · exact (((h1.save _ _).hang _ _ _).links _ _).mono (by omega)
  · exact ((h1.save _ _).hang _ _ _).mono (by omega)
theorem remove_ok {s : VS} {n : Nat} (h : VJ s n) (p : List UInt8) : VJ (s.remove p).2 (n + 200) := by
  unfold VS.remove
  have h1 := h.rdp p
  split
  · exact h1.mono (by omega)
  · exact (removes_ok h1 _).mono (by omega)
theorem dlist_ok {s : VS} {n : Nat} (h : VJ s n) (p : List UInt8) : VJ (s.dlist p).2 (n + 200) := by
  unfold VS.dlist
  have h1 := h.rdp p
  repeat' split
  · exact h1.mono (by omega)
  · exact h1.mono (by omega)
  · exact (h1.rngE _).mono (by omega)
theorem link_ok {s : VS} {n : Nat} (h : VJ s n) (o p : List UInt8) : VJ (s.link o p).2 (n + 200) := by
  unfold VS.link VS.linkAt
  have h1 := h.rdp o
  have h2 := h1.rdp p
  dsimp only
  repeat' split
  · exact h1.mono (by omega)
  · exact h1.mono (by omega)
  · exact h2.mono (by omega)
  · exact h2.mono (by omega)
  · exact h2.mono (by omega)
  · exact ((h2.hang _ _ _).save _ _).mono (by omega)
theorem blk_len {s : VS} {n : Nat} (h : VJ s n) {m : MF} {par : Int → Int} (R : Rel s.shown.row m par) (k : List UInt8) {i : Int} {z : MN} (hz : m.at i = some z) : ((s.del k).blkR i).length ≤ 64 := by
  refine Nat.le_trans (blkR_len (h.del k) i) ?_
  have h1 : (subL 68 i (s.del k).shown.row).length ≤ (subL 68 i s.shown.row).length := by
    unfold VS.del
    split
    · show (subL 68 i (s.shown.cut k).row).length ≤ _
      rw [cut_row _ _ h.rs]
      unfold subL lcut
      rw [List.length_map, List.length_map]
      exact (List.filter_sublist.filter _).length_le
    · exact Nat.le_refl _
  refine Nat.le_trans h1 ?_
  rw [R.blk i z hz]
  have := blkOf_len z.b
  have := may_size (R.may hz).1
  omega
theorem unlinks_ok2 {s : VS} {n : Nat} (h : VJ s n) {m : MF} {par : Int → Int} (R : Rel s.shown.row m par) {a : Sp} (hz : ∃ z, m.at a.i = some z) : VJ (s.unlinks a).2 (n + 80) := by
  obtain ⟨z, hz⟩ := hz
  have hb := blk_len h R (entryK a.d a.m) hz
  unfold VS.unlinks
  dsimp only
  have h1 := h.del (entryK a.d a.m)
  repeat' split
  · exact h.mono (by omega)
  · exact (h1.save _ _).mono (by omega)
  · exact ((cutsL_ok _ _ (h1.range _ _)).del _).mono (by omega)
theorem unlink_ok {s : VS} {n : Nat} (h : VJ s n) {m : MF} {par : Int → Int} (R : Rel s.shown.row m par) (p : List UInt8) : VJ (s.unlink p).2 (n + 200) := by
  unfold VS.unlink
  have h1 := h.rdp p
  split
  · exact h1.mono (by omega)
  · rename_i he
    rcases there_sim h R p true with ⟨g, e⟩ | ⟨_, _, _, e⟩ | ⟨_, _, e⟩ | ⟨_, h2, _, _, es⟩
    · rw [e] at he; exact absurd g he
    · rw [e] at he; exact absurd (by decide) he
    · rw [e] at he; exact absurd (by decide) he
    · obtain ⟨z, g, _⟩ := es.hn (by rw [es.hi]; exact h2)
      exact (unlinks_ok2 (s := s.rdp p) h1 R ⟨z, g⟩).mono (by omega)
theorem rename_ok {s : VS} {n : Nat} (h : VJ s n) {m : MF} {par : Int → Int} (R : Rel s.shown.row m par) (o p : List UInt8) : VJ (s.rename o p).2 (n + 200) := by
  have h1 := h.rdp o
  have h2 := h1.rdp p
  obtain ⟨he, hs⟩ := find_sim (s := s.rdp o) h1 R p
  unfold VS.rename VS.renameAt
  by_cases c1 : (s.there o false).2 ≠ 0
  · rw [if_pos c1]; exact h1.mono (by omega)
  rw [if_neg c1]
  by_cases c2 : ((s.rdp o).find p).2.1 ≠ 0
  · rw [if_pos c2]; exact h2.mono (by omega)
  rw [if_neg c2]
  rw [he] at c2
  have hs := hs (by simpa using c2)
  split
  · exact h2.mono (by omega)
  split
  · exact h2.mono (by omega)
  have hc : VJ (((s.rdp o).rdp p).clears (s.there o false).1 ((s.rdp o).find p).1 o p).2 (n + 33 + 33 + 80) := by
    unfold VS.clears
    split
    · exact h2.mono (by omega)
    split
    · exact h2.mono (by omega)
    rename_i h0
    split
    · exact (removes_ok h2 _).mono (by omega)
    · obtain ⟨z, g, _⟩ := hs.hn h0
      exact unlinks_ok2 (s := (s.rdp o).rdp p) h2 R ⟨z, g⟩
  split
  · exact hc.mono (by omega)
  unfold VS.movesAt
  dsimp only
  split
  · exact ((hc.del _).hang _ _ _).mono (by omega)
  · exact (((((hc.del _).hang _ _ _).save _ _).links _ _).links _ _).mono (by omega)
theorem make_wk {m : MF} {c : Nat} (h : m.wk c) (hc : 2 ≤ c) (p : List UInt8) (k i : Int) : (m.make p k i).2.wk (c + 6) := by
  unfold MF.make
  split
  · exact h.mono (by omega)
  split
  · exact h.mono (by omega)
  dsimp only
  split
  · exact ((h.with _ (by simp) (by dsimp only; omega) (by simp [Rises])).named _ _ _).mono (by omega)
  · exact (((h.with _ (by simp) (by dsimp only; omega) (by simp [Rises])).linked _ _ (by omega)).named _ _ _).mono (by omega)
theorem remove_wk {m : MF} {c : Nat} (h : m.wk c) (p : List UInt8) : (m.remove p).2.wk (c + 6) := by
  unfold MF.remove
  repeat' split
  · exact h.mono (by omega)
  · exact h.mono (by omega)
  · exact h.mono (by omega)
  · exact (rmv_wk h _).mono (by omega)
theorem unlink_wk {m : MF} {c : Nat} (h : m.wk c) (p : List UInt8) : (m.unlink p).2.wk (c + 6) := by
  unfold MF.unlink
  repeat' split
  · exact h.mono (by omega)
  · exact h.mono (by omega)
  · exact (unl_wk h _).mono (by omega)
theorem link_wk {m : MF} {c : Nat} (h : m.wk c) (o p : List UInt8) : (m.link o p).2.wk (c + 6) := by
  unfold MF.link
  split
  · exact h.mono (by omega)
  split
  · exact h.mono (by omega)
  split
  · exact h.mono (by omega)
  split
  · exact h.mono (by omega)
  split
  · exact h.mono (by omega)
  split
  · exact h.mono (by omega)
  split
  · exact h.mono (by omega)
  exact ((h.linked _ _ (by omega)).named _ _ _).mono (by omega)
theorem moved_wk {m : MF} {c : Nat} (h : m.wk c) (s t : MS) (b : Bool) : (m.moved s t b).wk (c + 4) := by
  unfold MF.moved
  split
  · exact ((((h.named _ _ _).named _ _ _).linked _ _ (by omega)).linked _ _ (by omega))
  · exact ((h.named _ _ _).named _ _ _).mono (by omega)
theorem rename_wk {m : MF} {c : Nat} (h : m.wk c) (o p : List UInt8) : (m.rename o p).2.wk (c + 6) := by
  unfold MF.rename
  split
  · exact h.mono (by omega)
  split
  · exact h.mono (by omega)
  split
  · exact h.mono (by omega)
  split
  · exact h.mono (by omega)
  split
  · exact h.mono (by omega)
  split
  · exact h.mono (by omega)
  split
  · exact h.mono (by omega)
  split
  · exact (moved_wk h _ _ _).mono (by omega)
  have hq : (if m.kind (m.findP o).1.i = 2 then m.rmv (m.findP p).1 else m.unl (m.findP p).1).2.wk (c + 2) := by
    split
    · exact rmv_wk h _
    · exact unl_wk h _
  generalize (if m.kind (m.findP o).1.i = 2 then m.rmv (m.findP p).1 else m.unl (m.findP p).1) = q at hq ⊢
  dsimp only
  split
  · exact h.mono (by omega)
  · exact moved_wk hq _ _ _
/-- All numbers are below this. -/
def MF.lt (m : MF) (B : Int) : Prop := ∀ x ∈ m, x.i < B
theorem MF.lt.mono {m : MF} {B C : Int} (h : m.lt B) (hc : B ≤ C) : m.lt C := fun x hx => by have := h x hx; omega
theorem MF.lt.with {m : MF} {B : Int} (h : m.lt B) {x : MN} (hx : x.i < B) : (m.with x).lt B := fun y hy => by
  rcases with_mem hy with rfl | hy
  · exact hx
  · exact h y hy
theorem MF.lt.without {m : MF} {B : Int} (h : m.lt B) (j : Int) : (m.without j).lt B := fun y hy => h y (List.mem_filter.1 hy).1
theorem MF.lt.linked {m : MF} {B : Int} (h : m.lt B) (j b : Int) : (m.linked j b).lt B := by
  unfold MF.linked; split
  · rename_i x hx; exact h.with (h x (at_mem hx).1)
  · exact h
theorem MF.lt.named {m : MF} {B : Int} (h : m.lt B) (d : Int) (nm : List UInt8) (j : Int) : (m.named d nm j).lt B := by
  unfold MF.named; split
  · rename_i x hx; exact h.with (h x (at_mem hx).1)
  · exact h
theorem MF.lt.rmv {m : MF} {B : Int} (h : m.lt B) (b : MS) : (m.rmv b).2.lt B := by
  unfold MF.rmv
  split
  · exact h
  · split
    · exact h
    · split
      · exact h
      · exact ((h.without _).linked _ _).named _ _ _
theorem MF.lt.unl {m : MF} {B : Int} (h : m.lt B) (b : MS) : (m.unl b).2.lt B := by
  unfold MF.unl
  split
  · exact h
  · split
    · exact h
    · split
      · exact (h.without _).named _ _ _
      · exact (h.linked _ _).named _ _ _
theorem MF.lt.moved {m : MF} {B : Int} (h : m.lt B) (s t : MS) (b : Bool) : (m.moved s t b).lt B := by
  unfold MF.moved
  split
  · exact (((h.named _ _ _).named _ _ _).linked _ _).linked _ _
  · exact (h.named _ _ _).named _ _ _
theorem MF.lt.make {m : MF} {B : Int} (h : m.lt B) (p : List UInt8) (k : Int) {i : Int} (hi : i < B) : (m.make p k i).2.lt B := by
  unfold MF.make
  split
  · exact h
  split
  · exact h
  dsimp only
  split
  · exact (h.with hi).named _ _ _
  · exact ((h.with hi).linked _ _).named _ _ _
theorem MF.lt.remove {m : MF} {B : Int} (h : m.lt B) (p : List UInt8) : (m.remove p).2.lt B := by
  unfold MF.remove
  repeat' split
  · exact h
  · exact h
  · exact h
  · exact h.rmv _
theorem MF.lt.unlink {m : MF} {B : Int} (h : m.lt B) (p : List UInt8) : (m.unlink p).2.lt B := by
  unfold MF.unlink
  repeat' split
  · exact h
  · exact h
  · exact h.unl _
theorem MF.lt.link {m : MF} {B : Int} (h : m.lt B) (o p : List UInt8) : (m.link o p).2.lt B := by
  unfold MF.link
  split
  · exact h
  split
  · exact h
  split
  · exact h
  split
  · exact h
  split
  · exact h
  split
  · exact h
  split
  · exact h
  exact (h.linked _ _).named _ _ _
theorem MF.lt.rename {m : MF} {B : Int} (h : m.lt B) (o p : List UInt8) : (m.rename o p).2.lt B := by
  unfold MF.rename
  split
  · exact h
  split
  · exact h
  split
  · exact h
  split
  · exact h
  split
  · exact h
  split
  · exact h
  split
  · exact h
  split
  · exact h.moved _ _ _
  have hq : (if m.kind (m.findP o).1.i = 2 then m.rmv (m.findP p).1 else m.unl (m.findP p).1).2.lt B := by
    split
    · exact h.rmv _
    · exact h.unl _
  generalize (if m.kind (m.findP o).1.i = 2 then m.rmv (m.findP p).1 else m.unl (m.findP p).1) = q at hq ⊢
  dsimp only
  split
  · exact h
  · exact MF.lt.moved hq _ _ _
theorem MF.lt.none {m : MF} {B : Int} (h : m.lt B) {i : Int} (hi : B ≤ i) : m.at i = none := by
  cases e : m.at i with
  | none => rfl
  | some x =>
    have h1 := at_mem e
    have := h x h1.1
    omega
end Go.Proofs.YtfnpelogfcnanaaGreatDoor

/- flintlaw18: cut, fixed, based. -/
-- @D
namespace Go.Proofs.YtfnpelogfcnanaaGreatDoor
set_option maxRecDepth 20000
open Go.Awp Tr
/-- An operation of layer 18. -/
structure DOp where
  kind : Int
  path : List UInt8
  other : List UInt8
/-! ### The example -/
/-! ### A view anew -/
def putT (t : Tr) (x : KV) : Tr := t.set x.1 x.2
theorem putT_ok : ∀ (R : List KV) (t : Tr), Rises t.row → Rises (R.foldl putT t).row ∧ (R.foldl putT t).row = R.foldl (fun l x => lset x.1 x.2 l) t.row
  | [], t, h => ⟨h, rfl⟩
  | x :: R, t, h => by
    have e : (putT t x).row = lset x.1 x.2 t.row := set_row _ _ _ h
    have ih := putT_ok R (putT t x) (by rw [e]; exact lset_rises h)
    rw [e] at ih
    exact ih
theorem lset_end {k v : List UInt8} : ∀ {l : List KV}, (∀ x ∈ l, lt x.1 k) → lset k v l = l ++ [(k, v)]
  | [], _ => rfl
  | x :: r, h => by
    have := lset_right k v x r (h x List.mem_cons_self) [] (by simp)
    simp only [List.nil_append] at this
    rw [this, lset_end fun y hy => h y (List.mem_cons_of_mem _ hy)]; rfl
theorem put_all : ∀ (R A : List KV), Rises (A ++ R) → R.foldl (fun l x => lset x.1 x.2 l) A = A ++ R
  | [], A, _ => (List.append_nil A).symm
  | x :: R, A, h => by
    have h2 := rises_app.1 h
    rw [List.foldl_cons, lset_end h2.2.2.1, put_all R (A ++ [x]) (by simpa using h)]
    simp
def basedT (s : VS) : Tr := (s.rangeR [] [255]).foldl putT .nil
theorem based_row {s : VS} {n : Nat} (h : VJ s n) (hk : ∀ y ∈ s.shown.row, Op.bytesLess y.1 [255] = true) : s.rangeR [] [255] = s.shown.row ∧ (basedT s).row = s.shown.row := by
  have e : s.rangeR [] [255] = s.shown.row := by
    unfold VS.rangeR
    rw [if_pos (by decide), range_row _ _ _ h.rs]
    unfold lrange
    rw [List.filter_eq_self]
    intro y hy
    unfold inR
    rw [bl_nil, hk y hy]; rfl
  refine ⟨e, ?_⟩
  unfold basedT
  rw [(putT_ok _ .nil (by simp [row, Rises])).2, e]
  exact put_all _ [] (by simpa using h.rs)
theorem putT_take {R : List KV} {i : Nat} {x : KV} (hx : R[i]? = some x) : putT ((R.take i).foldl putT .nil) x = (R.take (i + 1)).foldl putT .nil := by
  obtain ⟨h, e⟩ := List.getElem?_eq_some_iff.1 hx
  rw [List.take_add_one, List.foldl_append, hx]; rfl
theorem foldT_size (R : List KV) (h : Rises R) : ((R.foldl putT .nil).size) = R.length := by
  rw [← row_len, (putT_ok R .nil (by simp [row, Rises])).2]
  show (R.foldl (fun l x => lset x.1 x.2 l) []).length = _
  rw [put_all R [] (by simpa using h)]; rfl
end Go.Proofs.YtfnpelogfcnanaaGreatDoor

/- '==' of structs with a struct of plain parts inside. No program is named here. -/
-- @D
namespace Go.Proofs.YtfnpelogfcnanaaGreatDoor
set_option maxRecDepth 20000
open Go.Awp Go.RowKit
section
variable {P : Program} {T : Tab} {env : Env} {H L : List AObj} {o : Oper} {x : TV} {w : World}
end
end Go.Proofs.YtfnpelogfcnanaaGreatDoor

import Derived.Test.YtdnpkgakpiopgaaGreatDoorGo
import Derived.Test.YtdnpkgakpiopgaaGreatDoorM17
namespace Go.Proofs.YtdnpkgakpiopgaaGreatDoor
set_option maxRecDepth 20000
open Go.Awp Tr
inductive Thr (s : VS) (m : MF) (par : Int → Int) (p : List UInt8) (root : Bool) : Prop where
 | err (h : (m.findP p).2 ≠ 0) (e : (s.there p root).2 = (m.findP p).2) : Thr s m par p root
 | rt (h : (m.findP p).2 = 0) (hr : root = false) (h1 : (m.findP p).1.i = 1) (e : (s.there p root).2 = 29) : Thr s m par p root
 | no (h : (m.findP p).2 = 0) (h1 : (m.findP p).1.i = 0) (e : (s.there p root).2 = 10) : Thr s m par p root
 | is (h : (m.findP p).2 = 0) (h0 : (m.findP p).1.i ≠ 0) (hr : root = false → (m.findP p).1.i ≠ 1) (e : (s.there p root).2 = 0) (e1 : SpSim m par (s.there p root).1 (m.findP p).1) : Thr s m par p root
theorem zAv {s : VS} {n : Nat} (h : VJ s n) {m : MF} {par : Int → Int} (R : Rel s.shown.row m par) (p : List UInt8) (root : Bool) : Thr s m par p root := by
 obtain ⟨he, hs⟩ := zBj h R p
 have hd : s.there p root = if (s.find p).2.1 ≠ 0 then (sp0, (s.find p).2.1) else if root = false ∧ (s.find p).1.i = 1 then (sp0, 29) else if (s.find p).1.i = 0 then (sp0, 10) else ((s.find p).1, 0) := rfl
 rw [he] at hd
 by_cases h0 : (m.findP p).2 ≠ 0
 ·rw [if_pos h0] at hd
  exact .err h0 (by rw [hd])
 rw [if_neg h0] at hd
 have h0 : (m.findP p).2 = 0 := by simpa using h0
 have hs := hs h0
 rw [hs.hi] at hd
 by_cases h1 : root = false ∧ (m.findP p).1.i = 1
 ·rw [if_pos h1] at hd; exact .rt h0 h1.1 h1.2 (by rw [hd])
 rw [if_neg h1] at hd
 by_cases h2 : (m.findP p).1.i = 0
 ·rw [if_pos h2] at hd; exact .no h0 h2 (by rw [hd])
 rw [if_neg h2] at hd
 exact .is h0 h2 (fun e q => h1 ⟨e, q⟩) (by rw [hd]) (by rw [hd]; exact hs)
theorem Rel.ind {l : List KV} {m : MF} {par : Int → Int} (R : Rel l m par) {p : List UInt8} (he : (m.findP p).2 = 0) (h0 : (m.findP p).1.i ≠ 0) (h1 : (m.findP p).1.i ≠ 1) : ∃ xd z, InD m par (m.findP p).1.d (m.findP p).1.m (m.findP p).1.i xd z := by
 rcases R.fnd he with e | ⟨xd, hx, q⟩ | ⟨xd, z, hx⟩
 ·rw [e] at h1; exact absurd rfl h1
 ·exact absurd q h0
 ·exact ⟨xd, z, hx⟩
theorem zHp {s : VS} {n c : Nat} (h : VJ s n) {m : MF} {par : Int → Int} (R : Rel s.shown.row m par) (hw : m.wk c) (hc : c ≤ 100000) (p : List UInt8) :
  (s.remove p).1 = 21 ∨ ((s.remove p).1 = (m.remove p).1 ∧ Rel (s.remove p).2.shown.row (m.remove p).2 par) := by
 unfold VS.remove MF.remove
 rcases zAv h R p false with ⟨h1, e⟩ | ⟨h1, _, h2, e⟩ | ⟨h1, h2, e⟩ | ⟨h1, h2, h3, e, es⟩
 ·rw [e, if_pos h1, if_pos h1]; exact .inr ⟨rfl, R⟩
 ·rw [e, if_pos (by decide), if_neg (by simpa using h1), if_pos h2]; exact .inr ⟨rfl, R⟩
 ·rw [e, if_pos (by decide), if_neg (by simpa using h1), if_neg (by omega), if_pos h2]; exact .inr ⟨rfl, R⟩
 have h3 := h3 rfl
 rw [e, if_neg (by decide), if_neg (by simpa using h1), if_neg h3, if_neg h2]
 obtain ⟨xd, z, hx⟩ := R.ind h1 h2 h3
 obtain ⟨w, g1, g2⟩ := es.hn (by rw [es.hi]; exact h2)
 rw [← es.hd, ← es.hm, ← es.hi] at hx
 obtain rfl : z = w := Option.some.inj (hx.hi.symm.trans g1)
 exact (zG8 (h.rdp p) R hw hc hx g2 _ es.hd.symm es.hm.symm es.hi.symm).imp_right fun q => ⟨q.1, q.2.1⟩
theorem zH6 {s : VS} {n : Nat} (h : VJ s n) {m : MF} {par : Int → Int} (R : Rel s.shown.row m par) (p : List UInt8) :
  (s.unlink p).1 = 21 ∨ ((s.unlink p).1 = (m.unlink p).1 ∧ Rel (s.unlink p).2.shown.row (m.unlink p).2 par) := by
 unfold VS.unlink MF.unlink
 rcases zAv h R p true with ⟨h1, e⟩ | ⟨h1, q, h2, e⟩ | ⟨h1, h2, e⟩ | ⟨h1, h2, h3, e, es⟩
 ·rw [e, if_pos h1, if_pos h1]; exact .inr ⟨rfl, R⟩
 ·cases q
 ·rw [e, if_pos (by decide), if_neg (by simpa using h1), if_pos h2]; exact .inr ⟨rfl, R⟩
 rw [e, if_neg (by decide), if_neg (by simpa using h1), if_neg h2]
 obtain ⟨w, g1, g2⟩ := es.hn (by rw [es.hi]; exact h2)
 by_cases h3 : (m.findP p).1.i = 1
 ·obtain ⟨y, g3, g4⟩ := R.root
  rw [es.hi, h3] at g1
  obtain rfl : y = w := Option.some.inj (g3.symm.trans g1)
  have e1 : (s.rdp p).unlinks (s.there p true).1 = (13, s.rdp p) := by unfold VS.unlinks; rw [if_pos (by rw [g2]; exact g4)]
  have e2 : m.unl (m.findP p).1 = (13, m) := by unfold MF.unl; rw [h3, g1]; dsimp only; rw [if_pos g4]
  rw [e1, e2]
  exact .inr ⟨rfl, R⟩
 obtain ⟨xd, z, hx⟩ := R.ind h1 h2 h3
 rw [← es.hd, ← es.hm, ← es.hi] at hx
 obtain rfl : z = w := Option.some.inj (hx.hi.symm.trans g1)
 exact (zGw (h.rdp p) R hx g2 _ es.hd.symm es.hm.symm es.hi.symm).imp_right fun q => ⟨q.1, q.2.1⟩
theorem zP4 {s : VS} {n : Nat} (h : VJ s n) {m : MF} {par : Int → Int} (R : Rel s.shown.row m par) (p : List UInt8) : (s.dlist p).1 = m.list p ∧ (s.dlist p).2.shown.row = s.shown.row := by
 unfold VS.dlist MF.list
 rcases zAv h R p true with ⟨h1, e⟩ | ⟨h1, q, h2, e⟩ | ⟨h1, h2, e⟩ | ⟨h1, h2, h3, e, es⟩
 ·rw [e, if_pos h1, if_pos h1]; exact ⟨rfl, rfl⟩
 ·cases q
 ·rw [e, if_pos (by decide), if_neg (by simpa using h1), if_pos h2]; exact ⟨rfl, rfl⟩
 rw [e, if_neg (by decide), if_neg (show ¬ (m.findP p).2 ≠ 0 by simpa using h1), if_neg h2]
 obtain ⟨w, g1, g2⟩ := es.hn (by rw [es.hi]; exact h2)
 rw [g2, ← es.hi, g1]
 dsimp only
 by_cases hk : w.k ≠ 2
 ·rw [if_pos hk, if_pos hk]; exact ⟨rfl, rfl⟩
 rw [if_neg hk, if_neg hk, zCn, ← R.ent _ _ g1]
 refine ⟨rfl, ?_⟩
 show ((s.rdp p).rngE _).shown.row = _
 have e : ((s.rdp p).rngE (s.there p true).1.i).shown = (s.rdp p).shown := by unfold VS.rngE VS.range; split <;> rfl
 rw [e]; rfl
theorem zR0 {s : VS} {n : Nat} (h : VJ s n) {m : MF} {par : Int → Int} (R : Rel s.shown.row m par) {a t : Sp} {xd z : MN} (hs : NoD m t.d t.m xd) (hi : m.at a.i = some z) (hk : z.k = 1) (hz : ¬ z.n ≥ 1000) (han : a.n = (z.k, z.n, (z.b.length : Int), par a.i)) :
  (s.linkAt a t).1 = 21 ∨ ((s.linkAt a t).1 = 0 ∧ Rel (s.linkAt a t).2.shown.row ((m.linked a.i 1).named t.d t.m a.i) par) := by
 obtain ⟨hd, hkd, hnm, hg⟩ := hs
 have hiu := R.u _ _ hi
 have hen := zCc (d := t.d) (jL hnm)
 have hmay := R.may hi
 have hi1 : a.i ≠ 1 := fun e => by
  obtain ⟨y, g3, g4⟩ := R.root
  rw [e, g3] at hi; cases hi; omega
 have hdi : t.d ≠ a.i := fun e => by rw [e, hi] at hd; cases hd; omega
 have hz2 : z.e = [] ∧ par a.i = 0 := by
  rcases R.kin _ z hi with q | q
  ·have := q.1; omega
  ·exact q.2
 have hzn : U32 z.n := hmay.2.1
 unfold VS.linkAt
 dsimp only
 rw [han]
 have hw : IntKind.u32.wrap (z.n + 1) = z.n + 1 := zC2 _ (by unfold U32 at hzn; omega)
 have hnd : linkN (z.k, z.n, (z.b.length : Int), par a.i) 1 = (z.k, z.n + 1, (z.b.length : Int), par a.i) := by unfold linkN; dsimp only; rw [hw]
 rw [hnd]
 generalize hs1 : s.put (entryK t.d t.m) (beB 4 a.i) = s1
 have hv1 : VJ s1 (n + 1) := hs1 ▸ h.hang _ _ _
 rcases full2 (s.room (entryK t.d t.m)) (s1.room (keyH 73 a.i)) with ef | ⟨ef, hr1, hr2⟩
 ·exact .inl ef
 have row1 : s1.shown.row = lset (keyH 69 t.d ++ t.m) (beB 4 a.i) s.shown.row := by rw [← hs1, zAr h hr1, hen]
 have row2 : (s1.save a.i (z.k, z.n + 1, (z.b.length : Int), par a.i)).shown.row = _ := zAr hv1 hr2
 dsimp only at row2
 have R1 := R.toA.hang hd hkd hnm hg hi hi1 (fun e => by omega)
 have hi' : updA m.at t.d (some { xd with e := lset t.m (beB 4 a.i) xd.e }) a.i = some z := by rw [zX _ _ (Ne.symm hdi)]; exact hi
 have hm2 : mayB z.k (z.n + 1) (z.b.length : Int) (par a.i) = true := by
  have h1 := hmay.1
  unfold mayB at h1 ⊢
  rw [if_pos hk] at h1 ⊢
  simp only [Bool.and_eq_true, decide_eq_true_eq] at h1 ⊢
  omega
 have R2 := R1.save hi' (z.n + 1) (par a.i) hm2 (by unfold U32 at hzn ⊢; omega) hmay.2.2.1 hmay.2.2.2 (fun e => absurd e hi1) (fun _ => hz2.2) (fun _ => .inl rfl)
 rw [← row1, ← row2] at R2
 have e1 : (fun j => if j = a.i then par a.i else par j) = par := by
  funext j; split
  ·rename_i e; rw [e]
  ·rfl
 rw [e1] at R2
 have hat : ((m.linked a.i 1).named t.d t.m a.i).at = updA (updA m.at a.i (some { z with n := z.n + 1 })) t.d (some { xd with e := lset t.m (beB 4 a.i) xd.e }) := by
  have e1 := qQ m a.i 1 hi
  rw [jO _ t.d t.m a.i (x := xd) (by rw [e1, zX _ _ hdi]; exact hd), e1, zCi hiu.2]
 refine .inr ⟨ef, R2.toM ?_ ((MF.uq.linked R.fst _ _).named _ _ _) (fun j => ?_) (fun j => ?_)⟩
 ·rw [hat, zD0 _ (Ne.symm hdi)]
 ·unfold z0
  by_cases e : j = a.i
  ·have e1 : (if a.i = j then (1 : Int) else 0) = 1 := if_pos e.symm
   rw [e1, if_pos ⟨e, hk⟩]; omega
  ·have e1 : (if a.i = j then (1 : Int) else 0) = 0 := if_neg (Ne.symm e)
   rw [e1, if_neg (fun q => e q.1)]; omega
 ·unfold z0
  have e1 : (if t.d = j ∧ z.k = 2 then (1 : Int) else 0) = 0 := if_neg fun q => by have := q.2; omega
  rw [e1, if_neg (fun q => by have := q.2; omega)]; omega
theorem zQn {s : VS} {n : Nat} (h : VJ s n) {m : MF} {par : Int → Int} (R : Rel s.shown.row m par) (o p : List UInt8) :
  (s.link o p).1 = 21 ∨ ((s.link o p).1 = (m.link o p).1 ∧ Rel (s.link o p).2.shown.row (m.link o p).2 par) := by
 unfold VS.link MF.link
 rcases zAv h R o true with ⟨h1, e⟩ | ⟨h1, q, h2, e⟩ | ⟨h1, h2, e⟩ | ⟨h1, h2, h3, e, es⟩
 ·rw [e, if_pos h1, if_pos h1]; exact .inr ⟨rfl, R⟩
 ·cases q
 ·rw [e, if_pos (by decide), if_neg (by simpa using h1), if_pos h2]; exact .inr ⟨rfl, R⟩
 rw [e, if_neg (by decide), if_neg (show ¬ (m.findP o).2 ≠ 0 by simpa using h1), if_neg h2]
 obtain ⟨z, g1, g2⟩ := es.hn (by rw [es.hi]; exact h2)
 rw [g2, ← es.hi, g1]
 dsimp only
 by_cases hk : z.k = 2
 ·rw [if_pos hk, if_pos hk]; exact .inr ⟨rfl, R⟩
 rw [if_neg hk, if_neg hk]
 obtain ⟨he, hs⟩ := zBj (s := s.rdp o) (h.rdp o) R p
 rw [he]
 by_cases h4 : (m.findP p).2 ≠ 0
 ·rw [if_pos h4, if_pos h4]; exact .inr ⟨rfl, R⟩
 rw [if_neg h4, if_neg h4]
 have h4 : (m.findP p).2 = 0 := by simpa using h4
 have hs := hs h4
 rw [hs.hi]
 by_cases h5 : (m.findP p).1.i ≠ 0
 ·rw [if_pos h5, if_pos h5]; exact .inr ⟨rfl, R⟩
 rw [if_neg h5, if_neg h5]
 by_cases h6 : z.n ≥ 1000
 ·rw [if_pos h6, if_pos h6]; exact .inr ⟨rfl, R⟩
 rw [if_neg h6, if_neg h6]
 rcases R.fnd h4 with e | ⟨xd, hx, _⟩ | ⟨xd, z, hx⟩
 ·rw [e] at h5; exact absurd (by decide) h5
 ·rw [← hs.hd, ← hs.hm] at hx ⊢
  exact zR0 ((h.rdp o).rdp p) R hx g1 ((k12 R.toA g1).resolve_right hk) h6 g2
 ·exact absurd hx.h0 h5
inductive Reach (m : MF) : List (List UInt8) → Int → Prop where
 | nil : Reach m [] 1
 | snoc {N : List (List UInt8)} {d i : Int} {xd : MN} {x : List UInt8} (h : Reach m N d) (hd : m.at d = some xd) (hk : xd.k = 2) (hg : lget x xd.e = some (beB 4 i)) (hi : U32 i) : Reach m (N ++ [x]) i
theorem zOz {l : List KV} {m : MF} {par : Int → Int} (R : Rel l m par) : ∀ (N M : List (List UInt8)) (a : MS), (a.i ≠ 0 → Reach m M a.i) → (m.go N a).2 = 0 → (N = [] ∧ (m.go N a).1 = a) ∨ ∃ N', N = N' ++ [(m.go N a).1.m] ∧ Reach m (M ++ N') (m.go N a).1.d ∧ ((m.go N a).1.i ≠ 0 → Reach m (M ++ N) (m.go N a).1.i)
 | [], M, a, _, _ => .inl ⟨rfl, rfl⟩
 | x :: r, M, a, ha, he => by
  right
  unfold MF.go at he ⊢
  by_cases h0 : a.i = 0
  ·rw [if_pos h0] at he; cases he
  rw [if_neg h0] at he ⊢
  cases hn : m.at a.i with
  | none =>
   exfalso
   have hr := ha h0
   generalize a.i = j at hr hn
   cases hr with
   | nil => obtain ⟨y, g, _⟩ := R.root; rw [g] at hn; cases hn
   | snoc h hd hk hg hi =>
    obtain ⟨_, c, z, g1, g2, _⟩ := R.nam _ _ hd _ _ hg
    have := (qF hi (R.u c z g2).1).1 g1
    rw [this, g2] at hn; cases hn
  | some y =>
   rw [hn] at he
   dsimp only at he ⊢
   by_cases hk : y.k ≠ 2
   ·rw [if_pos hk] at he; cases he
   rw [if_neg hk] at he ⊢
   have hk : y.k = 2 := by simpa using hk
   have hst : y.entry x ≠ 0 → Reach m (M ++ [x]) (y.entry x) := fun q => by
    unfold MN.entry at q ⊢
    cases hg : lget x y.e with
    | none => rw [hg] at q; exact absurd rfl q
    | some v =>
     obtain ⟨_, c, z, rfl, g2, _⟩ := R.nam _ _ hn _ _ hg
     have hu := (R.u c z g2).1
     dsimp only
     rw [yM c hu]
     exact .snoc (ha h0) hn hk hg hu
   rcases zOz R r (M ++ [x]) ⟨a.i, x, y.entry x⟩ hst he with ⟨rfl, e⟩ | ⟨N', e1, e2, e3⟩
   ·rw [e]
    exact ⟨[], by simp, by simpa using ha h0, fun q => hst q⟩
   ·refine ⟨x :: N', by rw [List.cons_append, ← e1], by simpa using e2, fun q => by simpa using e3 q⟩
theorem zKq {p : KV → Bool} {a b : KV} : ∀ {l : List KV}, Rises l → l.countP p = 1 → a ∈ l → b ∈ l → p a = true → p b = true → a = b
 | [], _, _, ha, _, _, _ => by cases ha
 | x :: r, h, hc, ha, hb, pa, pb => by
  have h2 := List.pairwise_cons.1 h
  rw [List.countP_cons] at hc
  rcases List.mem_cons.1 ha with ea | ha1 <;> rcases List.mem_cons.1 hb with eb | hb1
  ·rw [ea, eb]
  ·rw [← ea, if_pos pa] at hc
   have : 0 < r.countP p := List.countP_pos_iff.2 ⟨b, hb1, pb⟩
   omega
  ·rw [← eb, if_pos pb] at hc
   have : 0 < r.countP p := List.countP_pos_iff.2 ⟨a, ha1, pa⟩
   omega
  ·have : 0 < r.countP p := List.countP_pos_iff.2 ⟨a, ha1, pa⟩
   exact zKq h2.2 (by split at hc <;> omega) ha1 hb1 pa pb
theorem zD4 {l : List KV} {m : MF} {par : Int → Int} (R : Rel l m par) {N : List (List UInt8)} {i : Int} (h : Reach m N i) : ∀ {M : List (List UInt8)} {z : MN}, Reach m M i → m.at i = some z → z.k = 2 → N = M := by
 induction h with
 | nil =>
  intro M z h2 hz hk
  generalize hj : (1 : Int) = j at h2
  cases h2 with
  | nil => rfl
  | snoc h hd hk hg hi =>
   exfalso
   obtain ⟨_, c, w, g1, g2, g3, _⟩ := R.nam _ _ hd _ _ hg
   have := (qF hi (R.u c w g2).1).1 g1
   omega
 | @snoc N d i xd x h hd hkd hg hi ih =>
  intro M z h2 hz hk
  obtain ⟨_, c, w, g1, g2, g3, g4⟩ := R.nam _ _ hd _ _ hg
  have hci := (qF hi (R.u c w g2).1).1 g1
  subst hci
  obtain rfl : z = w := Option.some.inj (hz.symm.trans g2)
  cases h2 with
  | nil => exact absurd rfl g3
  | @snoc N2 d2 _ xd2 x2 h' hd' hkd' hg' hi' =>
   obtain ⟨_, c, w, q1, q2, q3, q4⟩ := R.nam _ _ hd' _ _ hg'
   have hci := (qF hi (R.u c w q2).1).1 q1
   subst hci
   obtain rfl : z = w := Option.some.inj (hz.symm.trans q2)
   obtain rfl : d = d2 := (g4 hk).symm.trans (q4 hk)
   obtain rfl : xd = xd2 := Option.some.inj (hd.symm.trans hd')
   have hr := R.one _ z hz hk
   rw [if_neg g3] at hr
   have m1 : (keyH 69 d ++ x, beB 4 i) ∈ l := qE.1 (by rw [← R.ent d xd hd]; exact (z5 (by rw [R.ent d xd hd]; exact zU R.ri)).1 hg)
   have m2 : (keyH 69 d ++ x2, beB 4 i) ∈ l := qE.1 (by rw [← R.ent d xd hd]; exact (z5 (by rw [R.ent d xd hd]; exact zU R.ri)).1 hg')
   have e := zKq R.ri hr m1 m2 (by rw [j4]; simp) (by rw [j4]; simp)
   have e2 : x = x2 := List.append_cancel_left (congrArg Prod.fst e)
   rw [ih h' hd hkd, e2]
theorem zU1 {k k' v v' : List UInt8} {l : List KV} (h : Rises l) (hne : k ≠ k') : lset k v (lset k' v' l) = lset k' v' (lset k v l) := by
 refine zFm (z7 (z7 h)) (z7 (z7 h)) fun q => ?_
 rw [yR (z7 h), yR h, yR (z7 h), yR h]
 by_cases e : q = k
 ·rw [if_pos e, if_neg (by rw [e]; exact hne), if_pos e]
 ·rw [if_neg e]; split <;> rfl
theorem key_ne {c d c' d' : Int} {x y : List UInt8} (hc : L8 c) (hc' : L8 c') (hd : U32 d) (hd' : U32 d') (h : c ≠ c') : keyH c d ++ x ≠ keyH c' d' ++ y := fun e => h ((zBp hc hc' hd hd').1 e).1
theorem zUg {m : MF} {d e : Int} {nm tm : List UInt8} {i : Int} {xd : MN} (hd : m.at d = some xd) {xe : MN} (he : updA m.at d (some { xd with e := lcut nm xd.e }) e = some xe) (hi0 : i ≠ 0) :
  ((m.named d nm 0).named e tm i).at = updA (updA m.at d (some { xd with e := lcut nm xd.e })) e (some { xe with e := lset tm (beB 4 i) xe.e }) := by
 have e1 : (m.named d nm 0).at = updA m.at d (some { xd with e := lcut nm xd.e }) := by rw [jO _ d nm 0 hd, zJ7]
 rw [jO _ e tm i (x := xe) (by rw [e1]; exact he), e1, zCi hi0]
set_option maxHeartbeats 1000000 in
theorem zHa {s : VS} {n c : Nat} (h : VJ s n) {m : MF} {par : Int → Int} (R : Rel s.shown.row m par) (hw : m.wk c) (hc : c ≤ 100000) {a t : Sp} {xd z xt : MN} (hs : InD m par a.d a.m a.i xd z) (han : a.n = (z.k, z.n, (z.b.length : Int), par a.i)) (ht : NoD m t.d t.m xt) (hid : z.k = 2 → a.i ≠ a.d) (hit : z.k = 2 → a.i ≠ t.d) (b b' : MS) (hb1 : b.d = a.d) (hb2 : b.m = a.m) (hb3 : b.i = a.i) (hb4 : b'.d = t.d) (hb5 : b'.m = t.m) :
  (s.movesAt a t).1 = 21 ∨ ((s.movesAt a t).1 = 0 ∧ ∃ par', Rel (s.movesAt a t).2.shown.row (m.moved b b' (z.k == 2)) par') := by
 obtain ⟨hd, hkd, hnm, hg, hi, hi1, hi0, hp⟩ := hs
 obtain ⟨he, hke, hntm, hge⟩ := ht
 have hid' : a.i ≠ a.d := fun e => by
  rw [e] at hi; rw [hd] at hi; cases hi
  exact hid hkd e
 have hit' : a.i ≠ t.d := fun e => by
  rw [e] at hi; rw [he] at hi; cases hi
  exact hit hke e
 have hdu := R.u _ _ hd
 have heu := R.u _ _ he
 have hiu := R.u _ _ hi
 have hend := zCc (d := a.d) (jL hnm)
 have hene := zCc (d := t.d) (jL hntm)
 have hmay := R.may hi
 have hq : MF.uq m := R.fst
 have R1 := R.toA.unhang hd hkd hg hi
 have hi' : updA m.at a.d (some { xd with e := lcut a.m xd.e }) a.i = some z := by rw [zX _ _ hid']; exact hi
 have hd' : updA m.at a.d (some { xd with e := lcut a.m xd.e }) a.d = some { xd with e := lcut a.m xd.e } := zW _ _ _
 obtain ⟨xe, he', hke', hge', hne'⟩ : ∃ xe, updA m.at a.d (some { xd with e := lcut a.m xd.e }) t.d = some xe ∧ xe.k = 2 ∧ lget t.m xe.e = none ∧ xe.n = xt.n := by
  by_cases e : t.d = a.d
  ·rw [e] at he ⊢
   rw [hd] at he; cases he
   refine ⟨_, hd', hkd, ?_, rfl⟩
   dsimp only
   rw [qI]; split
   ·rfl
   ·exact hge
  ·exact ⟨xt, by rw [zX _ _ e]; exact he, hke, hge, rfl⟩
 unfold VS.movesAt MF.moved
 dsimp only
 rw [hb1, hb2, hb3, hb4, hb5]
 have hat0 := zUg (nm := a.m) (tm := t.m) hd he' hi0
 generalize hs2 : s.del (entryK a.d a.m) = s2
 generalize hs3 : s2.put (entryK t.d t.m) (beB 4 a.i) = s3
 have hv2 : VJ s2 (n + 1) := hs2 ▸ h.del _
 have hv3 : VJ s3 (n + 1 + 1) := hs3 ▸ hv2.hang _ _ _
 have hrows : ∀ (r1 : s.room (entryK a.d a.m) = true) (r2 : s2.room (entryK t.d t.m) = true), s2.shown.row = lcut (keyH 69 a.d ++ a.m) s.shown.row ∧ s3.shown.row = lset (keyH 69 t.d ++ t.m) (beB 4 a.i) s2.shown.row := fun r1 r2 => by
  refine ⟨?_, ?_⟩
  ·rw [← hs2, zCe h r1, hend]
  ·rw [← hs3, zAr hv2 r2, hene]
 by_cases hcase : z.k ≠ 2 ∨ a.d = t.d
 ·
  have hcc : a.n.1 ≠ 2 ∨ a.d = t.d := by rw [han]; exact hcase
  rw [if_pos hcc]
  rcases full2 (s.room (entryK a.d a.m)) (s2.room (entryK t.d t.m)) with ef | ⟨ef, r1, r2⟩
  ·exact .inl ef
  obtain ⟨row2, row3⟩ := hrows r1 r2
  have R2 := R1.hang he' hke' hntm hge' hi' hi1 (fun k2 => by
   rw [hp k2]
   rcases hcase with q | q
   ·exact absurd k2 q
   ·exact q)
  rw [← row2, ← row3] at R2
  refine .inr ⟨ef, par, R2.toM ?_ ?_ (fun j => ?_) (fun j => ?_)⟩
  ·by_cases k2 : z.k = 2
   ·have ede : a.d = t.d := hcase.resolve_left fun q => q k2
    rw [if_pos (by simpa using k2)]
    have e1 := qQ _ a.d (-1) (x := { xe with e := lset t.m (beB 4 a.i) xe.e }) (show ((m.named a.d a.m 0).named t.d t.m a.i).at a.d = _ by rw [hat0, ede]; exact zW _ _ _)
    have e2 := qQ _ t.d 1 (x := { xe with n := xe.n + -1, e := lset t.m (beB 4 a.i) xe.e }) (show (((m.named a.d a.m 0).named t.d t.m a.i).linked a.d (-1)).at t.d = _ by rw [e1, ede]; exact zW _ _ _)
    rw [e2, e1, hat0, ← ede, zA5, zA5]
    have e3 : xe.n + -1 + 1 = xe.n := by omega
    dsimp only
    rw [e3]
   ·rw [if_neg (by simpa using k2)]; exact hat0
  ·split
   ·exact (((hq.named _ _ _).named _ _ _).linked _ _).linked _ _
   ·exact (hq.named _ _ _).named _ _ _
  ·unfold z0; by_cases q : a.i = j
   ·rw [if_pos q]; rfl
   ·rw [if_neg q]; rfl
  ·unfold z0
   by_cases k2 : z.k = 2
   ·have ede : a.d = t.d := hcase.resolve_left fun q => q k2
    rw [ede]
    by_cases q : t.d = j
    ·rw [if_pos ⟨q, k2⟩]; rfl
    ·rw [if_neg (fun g => q g.1)]; rfl
   ·rw [if_neg (fun g => k2 g.2), if_neg (fun g => k2 g.2)]; rfl
 ·
  have k2 : z.k = 2 := by
   by_cases q : z.k = 2
   ·exact q
   ·exact absurd (.inl q) hcase
  have hde : a.d ≠ t.d := fun q => hcase (.inr q)
  rw [if_neg (show ¬ (a.n.1 ≠ 2 ∨ a.d = t.d) by rw [han]; exact hcase), if_pos (by simpa using k2)]
  have hxe : xe = xt := by rw [zX _ _ (Ne.symm hde), he] at he'; cases he'; rfl
  subst hxe
  have hr0 : refs a.i (lcut (keyH 69 a.d ++ a.m) s.shown.row) = 0 := by
   have := R1.one _ z hi' k2
   unfold z0 at this
   rw [if_neg hi1, if_pos rfl] at this
   omega
  have hm2 : mayB z.k z.n (z.b.length : Int) t.d = true := by
   have h1 := hmay.1
   unfold mayB at h1 ⊢
   rw [if_neg (by omega), if_pos k2] at h1 ⊢
   exact h1
  have R2 := R1.save hi' z.n t.d hm2 hmay.2.1 hmay.2.2.1 heu.1 (fun q => absurd q hi1) (fun q => by omega) (fun _ => .inr hr0)
  have eA : updA (updA m.at a.d (some { xd with e := lcut a.m xd.e })) a.i (some { z with n := z.n }) = updA m.at a.d (some { xd with e := lcut a.m xd.e }) := zTs _ _ hi'
  rw [eA] at R2
  have R3 := R2.hang he' hke hntm hge hi' hi1 (fun _ => if_pos rfl)
  rw [← zU1 R1.ri (by
   have := key_ne (x := []) (y := t.m) L73 L69 hiu.1 heu.1 (by decide)
   rwa [List.append_nil] at this)] at R3
  have hparD : (if a.d = a.i then t.d else par a.d) = par a.d := if_neg (Ne.symm hid')
  have hparE : (if t.d = a.i then t.d else par t.d) = par t.d := if_neg (Ne.symm hit')
  have hmd := R.may hd
  have hme := R.may he
  have hd3 : updA (updA m.at a.d (some { xd with e := lcut a.m xd.e })) t.d (some { xe with e := lset t.m (beB 4 a.i) xe.e }) a.d = some { xd with e := lcut a.m xd.e } := by rw [zX _ _ hde]; exact hd'
  have hxn := wk_n hw hd
  have hxn2 := wk_n hw he
  have hn3 : 3 ≤ xd.n := by
   have g := R1.lkd _ _ hd' hkd
   unfold z0 at g
   dsimp only at g
   rw [if_pos ⟨rfl, k2⟩] at g
   omega
  have hen2 : 2 ≤ xe.n := by rw [R.lkd _ xe he hke]; omega
  have R4 := R3.links (b := -1) hd3 hkd (by dsimp only; omega) (by dsimp only; unfold U32; omega) (by rw [hparD]; exact hmd.2.2.2)
  have hnd := R3.nod _ _ hd3
  dsimp only at R4 hnd
  rw [hparD] at R4 hnd
  have he4 : updA (updA (updA m.at a.d (some { xd with e := lcut a.m xd.e })) t.d (some { xe with e := lset t.m (beB 4 a.i) xe.e })) a.d (some { xd with n := xd.n + -1, e := lcut a.m xd.e }) t.d = some { xe with e := lset t.m (beB 4 a.i) xe.e } := by rw [zX _ _ (Ne.symm hde)]; exact zW _ _ _
  have R5 := R4.links (b := 1) he4 hke (by dsimp only; omega) (by dsimp only; unfold U32; omega) (by rw [hparE]; exact hme.2.2.2)
  have hne := R4.nod _ _ he4
  dsimp only at R5 hne
  rw [hparE] at R5 hne
  have hxb : (xd.b.length : Int) = 0 := by
   rcases R.kin _ xd hd with q | q
   ·rw [q.2]; rfl
   ·have := q.1; omega
  have hxb2 : (xe.b.length : Int) = 0 := by
   rcases R.kin _ xe he with q | q
   ·rw [q.2]; rfl
   ·have := q.1; omega
  have hnn : parN a.n t.d = (z.k, z.n, (z.b.length : Int), t.d) := by rw [han]; rfl
  rw [hnn]
  generalize hs4 : s3.save a.i (z.k, z.n, (z.b.length : Int), t.d) = s4
  have hv4 : VJ s4 (n + 1 + 1 + 1) := hs4 ▸ hv3.save _ _
  generalize hs5 : s4.links a.d (-1) = s5
  have hv5 : VJ s5 (n + 1 + 1 + 1 + 2) := hs5 ▸ hv4.links _ _
  rcases first4 (qV [s.room (entryK a.d a.m), s2.room (entryK t.d t.m)]) (qV [s3.room (keyH 73 a.i)]) (show s4.linksE a.d = 21 ∨ s4.linksE a.d = 0 from qV _) (show s5.linksE t.d = 21 ∨ s5.linksE t.d = 0 from qV _) with ef | ⟨ef, ef1, ef2, ef3, ef4⟩
  ·exact .inl ef
  rcases full2 (s.room (entryK a.d a.m)) (s2.room (entryK t.d t.m)) with e4 | ⟨_, r1, r2⟩
  ·rw [e4] at ef1; cases ef1
  rcases full1 (s3.room (keyH 73 a.i)) with e4 | ⟨_, r3⟩
  ·rw [e4] at ef2; cases ef2
  obtain ⟨row2, row3⟩ := hrows r1 r2
  have row4 : s4.shown.row = lset (keyH 73 a.i) (nodeB z.k z.n (z.b.length : Int) t.d) s3.shown.row := by rw [← hs4]; exact zAr hv3 r3
  rw [row3, row2] at row4
  rw [← row4] at hnd R4 R5 hne
  have row5 := zDn hv4 (zDa ef3) (b := -1) hnd (by unfold U32; omega)
  rw [hs5, hkd, hxb] at row5
  rw [← row5] at R5 hne
  have row6 := zDn hv5 (zDa ef4) (b := 1) hne (by unfold U32; omega)
  rw [hke, hxb2] at row6
  rw [← row6] at R5
  refine .inr ⟨ef, _, R5.toM ?_ ((((hq.named _ _ _).named _ _ _).linked _ _).linked _ _) (fun j => ?_) (fun j => ?_)⟩
  ·have e1 := qQ _ a.d (-1) (x := { xd with e := lcut a.m xd.e }) (show ((m.named a.d a.m 0).named t.d t.m a.i).at a.d = _ by rw [hat0]; exact hd3)
   have e2 := qQ _ t.d 1 (x := { xe with e := lset t.m (beB 4 a.i) xe.e }) (show (((m.named a.d a.m 0).named t.d t.m a.i).linked a.d (-1)).at t.d = _ by rw [e1, hat0]; exact he4)
   rw [e2, e1, hat0]
  ·unfold z0
   by_cases q : j = a.i
   ·rw [if_pos q.symm, if_neg (fun g => by have := g.2; omega)]; rfl
   ·rw [if_neg (Ne.symm q), if_neg (fun g => q g.1)]; rfl
  ·unfold z0
   have f1 : (if j = a.i ∧ z.k = 2 then z.n - z.n else 0) = 0 := by split <;> omega
   rw [f1]
   by_cases q : j = a.d
   ·subst q
    have f2 : (if a.d = a.d ∧ z.k = 2 then (1 : Int) else 0) = 1 := if_pos ⟨rfl, k2⟩
    have f3 : (if t.d = a.d ∧ z.k = 2 then (1 : Int) else 0) = 0 := if_neg fun g => hde g.1.symm
    have f4 : (if a.d = a.d then (-1 : Int) else 0) = -1 := if_pos rfl
    have f5 : (if a.d = t.d then (1 : Int) else 0) = 0 := if_neg hde
    rw [f2, f3, f4, f5]; rfl
   ·have f2 : (if a.d = j ∧ z.k = 2 then (1 : Int) else 0) = 0 := if_neg fun g => q g.1.symm
    have f4 : (if j = a.d then (-1 : Int) else 0) = 0 := if_neg q
    rw [f2, f4]
    by_cases q2 : j = t.d
    ·rw [if_pos ⟨q2.symm, k2⟩, if_pos q2]; rfl
    ·rw [if_neg (fun g => q2 g.1.symm), if_neg q2]; rfl
theorem zJy {m : MF} {b : MS} (h : (m.rmv b).1 ≠ 0) : (m.rmv b).2 = m := by
 unfold MF.rmv at h ⊢
 split
 ·rfl
 ·rename_i n hn
  rw [hn] at h
  dsimp only at h
  by_cases h1 : n.k ≠ 2
  ·rw [if_pos h1]
  ·rw [if_neg h1] at h ⊢
   by_cases h2 : n.e.length > 0
   ·rw [if_pos h2]
   ·rw [if_neg h2] at h; exact absurd rfl h
theorem zO3 {m : MF} {b : MS} (h : (m.unl b).1 ≠ 0) : (m.unl b).2 = m := by
 unfold MF.unl at h ⊢
 split
 ·rfl
 ·rename_i n hn
  rw [hn] at h
  dsimp only at h
  by_cases h1 : n.k = 2
  ·rw [if_pos h1]
  ·rw [if_neg h1] at h; exact absurd rfl h
theorem zP9 {m : MF} {c : Nat} (h : m.wk c) (b : MS) : (m.rmv b).2.wk (c + 2) := by
 unfold MF.rmv
 split
 ·exact h.mono (by omega)
 ·split
  ·exact h.mono (by omega)
  ·split
   ·exact h.mono (by omega)
   ·exact ((h.without _).linked _ _ (by omega)).named _ _ _
theorem zOt {m : MF} {c : Nat} (h : m.wk c) (b : MS) : (m.unl b).2.wk (c + 2) := by
 unfold MF.unl
 split
 ·exact h.mono (by omega)
 ·split
  ·exact h.mono (by omega)
  ·split
   ·exact ((h.without _).named _ _ _).mono (by omega)
   ·exact (h.linked _ _ (by omega)).named _ _ _
theorem Rel.path {l : List KV} {m : MF} {par : Int → Int} (R : Rel l m par) {p : List UInt8} (he : (m.findP p).2 = 0) (h1 : (m.findP p).1.i ≠ 1) : ∃ N', namesP p = N' ++ [(m.findP p).1.m] ∧ Reach m N' (m.findP p).1.d ∧ ((m.findP p).1.i ≠ 0 → Reach m (namesP p) (m.findP p).1.i) := by
 unfold MF.findP at he h1 ⊢
 by_cases h0 : (splitN p).2 ≠ 0
 ·rw [if_pos h0] at he; exact absurd he h0
 rw [if_neg h0] at he h1 ⊢
 rcases zOz R (namesP p) [] ⟨0, [], 1⟩ (fun _ => .nil) he with ⟨_, e⟩ | ⟨N', e1, e2, e3⟩
 ·rw [e] at h1; exact absurd rfl h1
 ·exact ⟨N', e1, by simpa using e2, fun q => by simpa using e3 q⟩
theorem zQx {m m' : MF} {par : Int → Int} {d e i j : Int} {nm tm : List UInt8} {xd z xt zt : MN} (hs : InD m par d nm i xd z) (ht : InD m par e tm j xt zt) (hiu : U32 i) (hju : U32 j) (hij : i ≠ j) (hie : i ≠ e) (hdj : d ≠ j) (hej : e ≠ j) {w : Option MN} {n' : Int} (hat : m'.at = updA (updA m.at j w) e (some { xt with n := n', e := lcut tm xt.e })) :
  (∃ xd', InD m' par d nm i xd' z) ∧ NoD m' e tm { xt with n := n', e := lcut tm xt.e } := by
 obtain ⟨hd, hkd, hnm, hg, hi, hi1, hi0, hp⟩ := hs
 obtain ⟨he, hke, hntm, hge, hj, hj1, hj0, hpj⟩ := ht
 have hi' : m'.at i = some z := by rw [hat, zX _ _ hie, zX _ _ hij]; exact hi
 refine ⟨?_, ⟨by rw [hat]; exact zW _ _ _, hke, hntm, by dsimp only; rw [qI, if_pos rfl]⟩⟩
 by_cases hde : d = e
 ·subst hde
  rw [hd] at he; cases he
  refine ⟨{ xd with n := n', e := lcut tm xd.e }, by rw [hat]; exact zW _ _ _, hkd, hnm, ?_, hi', hi1, hi0, hp⟩
  dsimp only
  rw [qI, if_neg, hg]
  intro q
  rw [q, hge] at hg
  injection hg with hg
  exact hij ((qF hiu hju).1 hg.symm)
 ·exact ⟨xd, by rw [hat, zX _ _ hde, zX _ _ hdj]; exact hd, hkd, hnm, hg, hi', hi1, hi0, hp⟩
theorem zH1 {s : VS} {n c : Nat} (h : VJ s n) {m : MF} {par : Int → Int} (R : Rel s.shown.row m par) (hw : m.wk c) (hc : c + 2 ≤ 100000) (o p : List UInt8) :
  (s.rename o p).1 = 21 ∨ ((s.rename o p).1 = (m.rename o p).1 ∧ ∃ par', Rel (s.rename o p).2.shown.row (m.rename o p).2 par') := by
 unfold VS.rename MF.rename
 rcases zAv h R o false with ⟨h1, e⟩ | ⟨h1, _, h2, e⟩ | ⟨h1, h2, e⟩ | ⟨h1, h2, h3, e, es⟩
 ·rw [e, if_pos h1, if_pos h1]; exact .inr ⟨rfl, par, R⟩
 ·rw [e, if_pos (by decide), if_neg (show ¬ (m.findP o).2 ≠ 0 by simpa using h1), if_pos h2]; exact .inr ⟨rfl, par, R⟩
 ·rw [e, if_pos (by decide), if_neg (show ¬ (m.findP o).2 ≠ 0 by simpa using h1), if_neg (show ¬ (m.findP o).1.i = 1 by omega), if_pos h2]; exact .inr ⟨rfl, par, R⟩
 have h3 := h3 rfl
 rw [e, if_neg (show ¬ (0 : Int) ≠ 0 by decide), if_neg (show ¬ (m.findP o).2 ≠ 0 by simpa using h1), if_neg h3, if_neg h2]
 obtain ⟨he, hs⟩ := zBj (s := s.rdp o) (h.rdp o) R p
 rw [he]
 by_cases h4 : (m.findP p).2 ≠ 0
 ·rw [if_pos h4, if_pos h4]; exact .inr ⟨rfl, par, R⟩
 rw [if_neg h4, if_neg h4]
 have h4 : (m.findP p).2 = 0 := by simpa using h4
 have ts := hs h4
 rw [ts.hi, es.hi]
 by_cases h5 : (m.findP p).1.i = 1
 ·rw [if_pos h5, if_pos h5]; exact .inr ⟨rfl, par, R⟩
 rw [if_neg h5, if_neg h5]
 by_cases h6 : (m.findP p).1.i = (m.findP o).1.i
 ·rw [if_pos h6, if_pos h6]; exact .inr ⟨rfl, par, R⟩
 rw [if_neg h6, if_neg h6]
 obtain ⟨xd, z, hx⟩ := R.ind h1 h2 h3
 obtain ⟨w, g1, g2⟩ := es.hn (by rw [es.hi]; exact h2)
 rw [es.hi, hx.hi] at g1
 obtain rfl : z = w := Option.some.inj g1
 obtain ⟨N1, p1, p2, p3⟩ := R.path h1 h3
 obtain ⟨N2, q1, q2, q3⟩ := R.path h4 h5
 have hkz : m.kind (m.findP o).1.i = z.k := by unfold MF.kind; rw [hx.hi]
 rw [hkz]
 have hid : z.k = 2 → (m.findP o).1.i ≠ (m.findP o).1.d := fun k2 q => by
  have r1 := p3 h2
  rw [q] at r1
  have := zD4 R r1 p2 (by rw [← q]; exact hx.hi) k2
  rw [p1] at this
  have := congrArg List.length this
  simp at this
 have hv : VJ ((s.rdp o).rdp p) (n + 33 + 33) := (h.rdp o).rdp p
 have Rr : Rel ((s.rdp o).rdp p).shown.row m par := R
 generalize ((s.rdp o).rdp p) = s1 at hv Rr
 have hak : (s.there o false).1.n.1 = z.k := by rw [g2]
 unfold VS.renameAt
 by_cases hun : z.k = 2 ∧ underB (namesP o) (namesP p) = true
 ·have e1 : s1.clears (s.there o false).1 ((s.rdp o).find p).1 o p = (15, s1) := by unfold VS.clears; rw [hak, if_pos hun]
  rw [e1, if_pos (show ((15 : Int), s1).1 ≠ 0 from (by decide : (15 : Int) ≠ 0)), if_pos (by simpa using hun)]
  exact .inr ⟨rfl, par, Rr⟩
 rw [if_neg (show ¬ (z.k = 2 && underB (namesP o) (namesP p)) = true by simpa using hun)]
 have hit : z.k = 2 → (m.findP o).1.i ≠ (m.findP p).1.d := fun k2 q => by
  have r1 := p3 h2
  rw [q] at r1
  have e2 := zD4 R r1 q2 (by rw [← q]; exact hx.hi) k2
  refine hun ⟨k2, ?_⟩
  unfold underB
  rw [Bool.and_eq_true, decide_eq_true_eq, decide_eq_true_eq, q1, e2]
  simp
  omega
 have hc1 : ((s.there o false).1.n.1 = 2 ∧ underB (namesP o) (namesP p) = true) ↔ (z.k = 2 ∧ underB (namesP o) (namesP p) = true) := by rw [hak]
 have hcl : s1.clears (s.there o false).1 ((s.rdp o).find p).1 o p = if (m.findP p).1.i = 0 then (0, s1) else if z.k = 2 then s1.removes ((s.rdp o).find p).1 else s1.unlinks ((s.rdp o).find p).1 := by
  unfold VS.clears
  rw [if_neg (fun q => hun (hc1.1 q)), ts.hi, hak]
 rw [hcl]
 by_cases h7 : (m.findP p).1.i = 0
 ·rw [if_pos h7, if_pos h7, if_neg (show ¬ ((0 : Int), s1).1 ≠ 0 from (by decide : ¬ (0 : Int) ≠ 0))]
  rcases R.fnd h4 with e | ⟨xt, ht, _⟩ | ⟨xt, zt, ht⟩
  ·rw [e] at h5; exact absurd rfl h5
  ·rw [← ts.hd, ← ts.hm] at ht
   rw [← es.hi, ← es.hd] at hid
   rw [← es.hi, ← ts.hd] at hit
   rw [← es.hd, ← es.hm, ← es.hi] at hx
   exact zHa hv Rr hw (by omega) hx g2 ht hid hit _ _ es.hd.symm es.hm.symm es.hi.symm ts.hd.symm ts.hm.symm
  ·exact absurd h7 ht.h0
 rw [if_neg h7, if_neg h7]
 obtain ⟨xt, zt, ht⟩ := R.ind h4 h7 h5
 obtain ⟨w, f1, f2⟩ := ts.hn (by rw [ts.hi]; exact h7)
 rw [ts.hi, ht.hi] at f1
 obtain rfl : zt = w := Option.some.inj f1
 have hiu := (R.u _ _ hx.hi).1
 have hju := (R.u _ _ ht.hi).1
 have hclr : ∀ (q : Int × VS) (r : Int × MF) (N : Nat), VJ q.2 N → r.2.wk (c + 2) → (r.1 ≠ 0 → r.2 = m) → (q.1 = 21 ∨ (q.1 = r.1 ∧ Rel q.2.shown.row r.2 par ∧ (r.1 = 0 → ∃ w n', (m.findP o).1.i ≠ (m.findP p).1.d ∧ (m.findP o).1.d ≠ (m.findP p).1.i ∧ (m.findP p).1.d ≠ (m.findP p).1.i ∧ r.2.at = updA (updA m.at (m.findP p).1.i w) (m.findP p).1.d (some { xt with n := n', e := lcut (m.findP p).1.m xt.e })))) →
   (if q.1 ≠ 0 then q else q.2.movesAt (s.there o false).1 ((s.rdp o).find p).1).1 = 21 ∨ ((if q.1 ≠ 0 then q else q.2.movesAt (s.there o false).1 ((s.rdp o).find p).1).1 = (if r.1 ≠ 0 then (r.1, m) else (0, r.2.moved (m.findP o).1 (m.findP p).1 (z.k == 2))).1 ∧ ∃ par', Rel (if q.1 ≠ 0 then q else q.2.movesAt (s.there o false).1 ((s.rdp o).find p).1).2.shown.row (if r.1 ≠ 0 then (r.1, m) else (0, r.2.moved (m.findP o).1 (m.findP p).1 (z.k == 2))).2 par') := by
  intro q r N hN hwr hst hh
  rcases hh with hh | ⟨u1, u2, u3⟩
  ·rw [if_pos (by omega)]; exact .inl hh
  rw [u1]
  by_cases h8 : r.1 ≠ 0
  ·rw [if_pos h8, if_pos h8]
   rw [hst h8] at u2
   exact .inr ⟨u1, par, u2⟩
  rw [if_neg h8, if_neg h8]
  obtain ⟨w, n', k1, k2, k3, k4⟩ := u3 (by simpa using h8)
  obtain ⟨⟨xd', hx'⟩, ht'⟩ := zQx hx ht hiu hju (Ne.symm h6) k1 k2 k3 k4
  rw [← ts.hd, ← ts.hm] at ht'
  rw [← es.hi, ← es.hd] at hid
  rw [← es.hi, ← ts.hd] at hit
  rw [← es.hd, ← es.hm, ← es.hi] at hx'
  exact zHa hN u2 hwr (by omega) hx' g2 ht' hid hit _ _ es.hd.symm es.hm.symm es.hi.symm ts.hd.symm ts.hm.symm
 rw [← ts.hi, ← ts.hd, ← ts.hm] at ht
 by_cases k2 : z.k = 2
 ·rw [if_pos k2, if_pos k2]
  refine hclr _ (m.rmv (m.findP p).1) _ (zCy hv _) (zP9 hw _) zJy ?_
  refine (zG8 hv Rr hw (by omega) ht f2 _ ts.hd.symm ts.hm.symm ts.hi.symm).imp_right fun u => ⟨u.1, u.2.1, fun e => ?_⟩
  obtain ⟨u3, u4, u5⟩ := u.2.2 e
  rw [ts.hd, ts.hm, ts.hi] at u5
  rw [ts.hd, ts.hm, ts.hi] at ht
  refine ⟨_, _, hit k2, fun q => ?_, fun q => ?_, u5⟩
  ·have := hx.hd
   rw [q, ht.hi] at this
   injection this with this
   have := hx.hg
   rw [← ‹zt = xd›, u4] at this
   cases this
  ·have := ht.hd
   rw [q, ht.hi] at this
   injection this with this
   have := ht.hg
   rw [← ‹zt = xt›, u4] at this
   cases this
 ·rw [if_neg k2, if_neg k2]
  refine hclr _ (m.unl (m.findP p).1) _ (zH4 hv _) (zOt hw _) zO3 ?_
  refine (zGw hv Rr ht f2 _ ts.hd.symm ts.hm.symm ts.hi.symm).imp_right fun u => ⟨u.1, u.2.1, fun e => ?_⟩
  obtain ⟨u3, u5⟩ := u.2.2 e
  rw [ts.hd, ts.hm, ts.hi] at u5
  rw [ts.hd, ts.hm, ts.hi] at ht
  refine ⟨_, _, fun q => ?_, fun q => ?_, fun q => ?_, u5⟩
  ·have := ht.hd
   rw [← q, hx.hi] at this
   injection this with this
   exact k2 (by rw [this]; exact ht.hk)
  ·have := hx.hd
   rw [q, ht.hi] at this
   injection this with this
   have := hx.hk
   rw [← ‹zt = xd›] at this
   omega
  ·have := ht.hd
   rw [q, ht.hi] at this
   injection this with this
   have := ht.hk
   rw [← ‹zt = xt›] at this
   omega
end Go.Proofs.YtdnpkgakpiopgaaGreatDoor

import Derived.Test.YtdnpkgakpiopgaaGreatDoorGo
import Derived.Test.YtdnpkgakpiopgaaGreatDoorM20
import Derived.Test.YtdnpkgakpiopgaaGreatDoorM7
namespace Go.Proofs.YtdnpkgakpiopgaaGreatDoor
set_option maxRecDepth 20000
open Go.Awp Tr
theorem zM4 {s : VS} (h : s.writes.size < 48) (k : List UInt8) : s.room k = true := by
 unfold VS.room; rw [decide_eq_true h]; simp
theorem put_wz (s : VS) (k v : List UInt8) : (s.put k v).writes.size ≤ s.writes.size + 1 := by
 unfold VS.put; split
 ·exact jZ k (61 :: v) s.writes
 ·omega
theorem zQ4 {m : MF} {c : Nat} (hw : m.wk c) (a b : MS) (dir : Bool) : Keep m (m.moved a b dir) (fun d nm => (d = a.d ∧ nm = a.m) ∨ (d = b.d ∧ nm = b.m)) := by
 have w2 := hw.named a.d a.m 0
 have hK2 := (Keep.named hw a.d a.m 0).trans (Keep.named w2 b.d b.m a.i)
 unfold MF.moved
 split
 ·intro d x h k
  obtain ⟨x', a1, a2, a3⟩ := (hK2.trans ((Keep.linked _ a.d (-1)).trans (Keep.linked _ b.d 1))) d x h k
  exact ⟨x', a1, a2, fun nm q => a3 nm (by
   rintro ((h | h) | h | h)
   ·exact q (.inl h)
   ·exact q (.inr h)
   ·exact h
   ·exact h)⟩
 ·exact hK2
theorem zR3 {m : MF} {N : List (List UInt8)} {x : List UInt8} {i : Int} (h : Reach m (N ++ [x]) i) : ∃ d xd, Reach m N d ∧ m.at d = some xd ∧ xd.k = 2 ∧ lget x xd.e = some (beB 4 i) := by
 generalize hN : N ++ [x] = M at h
 cases h with
 | nil => simp at hN
 | @snoc N2 d2 _ xd2 x2 h' hd' hk' hg' hi' =>
  obtain ⟨e1, e2⟩ := List.append_inj' hN rfl
  injection e2 with e2
  subst e1 e2
  exact ⟨d2, xd2, h', hd', hk', hg'⟩
def RA (m : MF) : Prop := ∀ j x, m.at j = some x → x.k = 2 → ∃ N, Reach m N j
theorem RA.new : RA newM := fun j x h _ => by
 have h1 := yY h
 have : x = ⟨1, 2, 2, [], []⟩ := by simpa [newM] using h1.1
 subst this
 obtain rfl : (1 : Int) = j := h1.2
 exact ⟨[], .nil⟩
def OldK (m m' : MF) : Prop := ∀ j x', m'.at j = some x' → ∃ x, m.at j = some x ∧ x.k = x'.k
theorem OldK.refl (m : MF) : OldK m m := fun _ x h => ⟨x, h, rfl⟩
theorem OldK.trans {a b c : MF} (h : OldK a b) (h2 : OldK b c) : OldK a c := fun j x hx => by
 obtain ⟨y, h3, h4⟩ := h2 j x hx
 obtain ⟨z, h5, h6⟩ := h j y h3
 exact ⟨z, h5, h6.trans h4⟩
theorem OldK.linked (m : MF) (j b : Int) : OldK m (m.linked j b) := fun i x' h => by
 rw [jK] at h
 split at h
 ·rename_i e; subst e
  cases hm : m.at i with
  | none => rw [hm] at h; cases h
  | some y => rw [hm] at h; obtain rfl := Option.some.inj h; exact ⟨y, rfl, rfl⟩
 ·exact ⟨x', h, rfl⟩
theorem OldK.named (m : MF) (d : Int) (nm : List UInt8) (j : Int) : OldK m (m.named d nm j) := fun i x' h => by
 rw [y6] at h
 split at h
 ·rename_i e; subst e
  cases hm : m.at i with
  | none => rw [hm] at h; cases h
  | some y => rw [hm] at h; obtain rfl := Option.some.inj h; exact ⟨y, rfl, rfl⟩
 ·exact ⟨x', h, rfl⟩
theorem OldK.without (m : MF) (j : Int) : OldK m (m.without j) := fun i x' h => by
 rw [qD] at h
 split at h
 ·cases h
 ·exact ⟨x', h, rfl⟩
theorem OldK.moved (m : MF) (a b : MS) (dir : Bool) : OldK m (m.moved a b dir) := by
 unfold MF.moved
 have h := (OldK.named m a.d a.m 0).trans (OldK.named _ b.d b.m a.i)
 split
 ·exact (h.trans (OldK.linked _ _ _)).trans (OldK.linked _ _ _)
 ·exact h
theorem zKp {m m' : MF} (L : Int → Prop) (hL : ∀ d xd x v, m.at d = some xd → lget x xd.e = some v → L d)
  (hs : ∀ d xd x i z N', m.at d = some xd → xd.k = 2 → lget x xd.e = some (beB 4 i) → m.at i = some z → z.k = 2 → U32 i → L i → Reach m' N' d → ∃ N'', Reach m' N'' i)
  {N : List (List UInt8)} {j : Int} (h : Reach m N j) : (∃ x, m.at j = some x ∧ x.k = 2) → L j → ∃ N', Reach m' N' j := by
 induction h with
 | nil => intro _ _; exact ⟨[], .nil⟩
 | @snoc N d i xd x h hd hk hg hi ih =>
  intro ⟨z, hz, hzk⟩ hl
  obtain ⟨N', hN'⟩ := ih ⟨xd, hd, hk⟩ (hL d xd x _ hd hg)
  exact hs d xd x i z N' hd hk hg hz hzk hi hl hN'
theorem RA.keep {m m' : MF} {P : Int → List UInt8 → Prop} (h : RA m) (hK : Keep m m' P) (hO : OldK m m') (hP : ∀ d xd x i z, m.at d = some xd → xd.k = 2 → lget x xd.e = some (beB 4 i) → m.at i = some z → z.k = 2 → ¬ P d x) : RA m' := fun j x' hx hk => by
 obtain ⟨x, h1, h2⟩ := hO j x' hx
 obtain ⟨N, hN⟩ := h j x h1 (h2.trans hk)
 refine zKp (fun _ => True) (fun _ _ _ _ _ _ => trivial) (fun d xd y i z N' g1 g2 g3 g4 g5 g6 _ g8 => ?_) hN ⟨x, h1, h2.trans hk⟩ trivial
 obtain ⟨xd', a1, a2, a3⟩ := hK d xd g1 g2
 exact ⟨N' ++ [y], .snoc g8 a1 a2 (by rw [a3 y (hP d xd y i z g1 g2 g3 g4 g5)]; exact g3) g6⟩
theorem Keep.with_new {m : MF} {x : MN} (hx : m.at x.i = none) : Keep m (m.with x) (fun _ _ => False) := fun d y h k => by
 rw [yV, if_neg]
 ·exact ⟨y, h, k, fun _ _ => rfl⟩
 ·intro e; rw [← e, h] at hx; cases hx
theorem zSa {l : List KV} {m : MF} {par : Int → Int} (R : Rel l m par) {c : Nat} (hw : m.wk c) (hc : 2 ≤ c) (h : RA m) (p : List UInt8) {k i : Int} (hk : k = 1 ∨ k = 2) (hiu : U32 i) (hi0 : i ≠ 0) (hi : m.at i = none) : RA (m.make p k i).2 := by
 unfold MF.make
 by_cases h0 : (m.findP p).2 ≠ 0
 ·rw [if_pos h0]; exact h
 rw [if_neg h0]
 by_cases h1 : (m.findP p).1.i ≠ 0
 ·rw [if_pos h1]; exact h
 rw [if_neg h1]
 have h0 : (m.findP p).2 = 0 := by simpa using h0
 rcases R.fnd h0 with e | ⟨xd, hx, _⟩ | ⟨xd, z, hx⟩
 ·rw [e] at h1; exact absurd (by decide) h1
 ·have hdi : (m.findP p).1.d ≠ i := fun e => by have := hx.hd; rw [e, hi] at this; cases this
  generalize hm2 : (if k = 1 then m.with ⟨i, 1, 1, [], []⟩ else (m.with ⟨i, 2, 2, [], []⟩).linked (m.findP p).1.d 1) = m2
  dsimp only
  have hK2 : Keep m m2 (fun _ _ => False) ∧ m2.wk (c + 2) ∧ (∀ j x', m2.at j = some x' → (j = i ∧ x'.k = k) ∨ ∃ x, m.at j = some x ∧ x.k = x'.k) ∧ ∃ y, m2.at (m.findP p).1.d = some y ∧ y.k = 2 := by
   rcases hk with rfl | rfl
   ·rw [if_pos rfl] at hm2
    subst hm2
    have hK := Keep.with_new (m := m) (x := ⟨i, 1, 1, [], []⟩) hi
    obtain ⟨y, y1, y2, _⟩ := hK _ xd hx.hd hx.hk
    refine ⟨hK, (hw.with _ (by simp) (by dsimp only; omega) (by simp [Rises])).mono (by omega), fun j x' hj => ?_, y, y1, y2⟩
    rw [yV] at hj
    split at hj
    ·rename_i e; obtain rfl := Option.some.inj hj; exact .inl ⟨e, rfl⟩
    ·exact .inr ⟨x', hj, rfl⟩
   ·rw [if_neg (by decide)] at hm2
    subst hm2
    have hK := (Keep.with_new (m := m) (x := ⟨i, 2, 2, [], []⟩) hi).trans (Keep.linked _ (m.findP p).1.d 1)
    have hK' : Keep m ((m.with ⟨i, 2, 2, [], []⟩).linked (m.findP p).1.d 1) (fun _ _ => False) := fun d x a b => by
     obtain ⟨x', b1, b2, b3⟩ := hK d x a b
     exact ⟨x', b1, b2, fun nm q => b3 nm (by rintro (h | h) <;> exact h)⟩
    obtain ⟨y, y1, y2, _⟩ := hK' _ xd hx.hd hx.hk
    refine ⟨hK', (hw.with _ (by simp) (by dsimp only; omega) (by simp [Rises])).linked _ _ (by omega), fun j x' hj => ?_, y, y1, y2⟩
    obtain ⟨x2, g1, g2⟩ := OldK.linked _ _ _ j x' hj
    rw [yV] at g1
    split at g1
    ·rename_i e; obtain rfl := Option.some.inj g1; exact .inl ⟨e, g2.symm⟩
    ·exact .inr ⟨x2, g1, g2⟩
  obtain ⟨hK2, hw2, hO2, y, y1, y2⟩ := hK2
  have hK := hK2.trans (Keep.named hw2 (m.findP p).1.d (m.findP p).1.m i)
  have hstep : ∀ {N : List (List UInt8)} {j : Int}, Reach m N j → (∃ x, m.at j = some x ∧ x.k = 2) → ∃ N', Reach (m2.named (m.findP p).1.d (m.findP p).1.m i) N' j := fun hN hj =>
   zKp (fun _ => True) (fun _ _ _ _ _ _ => trivial) (fun d xd2 y2 i2 z N' g1 g2 g3 g4 g5 g6 _ g8 => by
    obtain ⟨xd', a1, a2, a3⟩ := hK d xd2 g1 g2
    refine ⟨N' ++ [y2], .snoc g8 a1 a2 ?_ g6⟩
    rw [a3 y2, g3]
    rintro (q | ⟨rfl, rfl⟩)
    ·exact q
    ·rw [hx.hd] at g1
     obtain rfl := Option.some.inj g1
     rw [hx.hg] at g3; cases g3) hN hj trivial
  intro j x' hj hjk
  obtain ⟨x2, f1, f2⟩ := OldK.named m2 _ _ _ j x' hj
  rcases hO2 j x2 f1 with ⟨rfl, f3⟩ | ⟨x3, f3, f4⟩
  ·
   obtain ⟨N, hN⟩ := h _ xd hx.hd hx.hk
   obtain ⟨N', hN'⟩ := hstep hN ⟨xd, hx.hd, hx.hk⟩
   refine ⟨N' ++ [(m.findP p).1.m], .snoc (xd := { y with e := nmE y.e (m.findP p).1.m j }) hN' (by rw [y6, if_pos rfl, y1]; rfl) y2 ?_ hiu⟩
   dsimp only
   rw [zCi hi0, yR (hw2.r y (yY y1).1), if_pos rfl]
  ·obtain ⟨N, hN⟩ := h j x3 f3 (by rw [f4, f2, hjk])
   exact hstep hN ⟨x3, f3, by rw [f4, f2, hjk]⟩
 ·exact absurd hx.h0 h1
theorem rmv_ra {m : MF} {c : Nat} (hw : m.wk c) (h : RA m) {b : MS} {z xd : MN} (hi : m.at b.i = some z) (hz : z.k = 2) (he : z.e = []) (hd : m.at b.d = some xd) (hg : lget b.m xd.e = some (beB 4 b.i)) (hiu : U32 b.i) : RA (m.rmv b).2 := by
 unfold MF.rmv
 rw [hi]
 dsimp only
 rw [if_neg (by omega), if_neg (by rw [he]; simp)]
 dsimp only
 have hw1 := (hw.without b.i).linked b.d (-1) (by omega)
 intro j x' hj hjk
 obtain ⟨x1, g1, g2⟩ := OldK.named _ b.d b.m 0 j x' hj
 obtain ⟨x2, g3, g4⟩ := OldK.linked _ b.d (-1) j x1 g1
 rw [qD] at g3
 split at g3
 ·cases g3
 rename_i hne
 have hjk2 : x2.k = 2 := by rw [g4, g2, hjk]
 obtain ⟨N, hN⟩ := h j x2 g3 hjk2
 refine zKp (fun d => d ≠ b.i) (fun d xd x v q1 q2 q => by
  rw [q, hi] at q1
  obtain rfl := Option.some.inj q1
  rw [he] at q2; cases q2) (fun d xd2 y i z2 N' q1 q2 q3 q4 q5 q6 q7 q8 => ?_) hN ⟨x2, g3, hjk2⟩ hne
 have hdne : d ≠ b.i := fun q => by
  rw [q, hi] at q1
  obtain rfl := Option.some.inj q1
  rw [he] at q3; cases q3
 obtain ⟨x3, a1, a2, a3⟩ := (Keep.linked (m.without b.i) b.d (-1)).trans (Keep.named hw1 b.d b.m 0) d xd2 (by rw [qD, if_neg hdne]; exact q1) q2
 refine ⟨N' ++ [y], .snoc q8 a1 a2 ?_ q6⟩
 rw [a3 y, q3]
 rintro (q | ⟨rfl, rfl⟩)
 ·exact q
 ·rw [hd] at q1
  obtain rfl := Option.some.inj q1
  rw [hg] at q3
  exact q7 ((qF hiu q6).1 (Option.some.inj q3)).symm
theorem unl_ra {m : MF} {c : Nat} (hw : m.wk c) (h : RA m) {b : MS} {z xd : MN} (hi : m.at b.i = some z) (hd : m.at b.d = some xd) (hg : lget b.m xd.e = some (beB 4 b.i)) (hiu : U32 b.i) : RA (m.unl b).2 := by
 unfold MF.unl
 rw [hi]
 dsimp only
 by_cases hz : z.k = 2
 ·rw [if_pos hz]; exact h
 rw [if_neg hz]
 dsimp only
 have hP : ∀ d xd2 x i z2, m.at d = some xd2 → xd2.k = 2 → lget x xd2.e = some (beB 4 i) → m.at i = some z2 → z2.k = 2 → U32 i → ¬ (d = b.d ∧ x = b.m) := fun d xd2 x i z2 q1 _ q3 q4 q5 q6 ⟨e1, e2⟩ => by
  subst e1 e2
  rw [hd] at q1
  obtain rfl := Option.some.inj q1
  rw [hg] at q3
  have := (qF hiu q6).1 (Option.some.inj q3)
  rw [← this, hi] at q4
  obtain rfl := Option.some.inj q4
  exact hz q5
 have hkind : m.kind b.i ≠ 2 := by unfold MF.kind; rw [hi]; exact hz
 have main : ∀ m1 : MF, Keep m m1 (fun _ _ => False) → OldK m m1 → m1.wk (c + 1) → RA (m1.named b.d b.m 0) := fun m1 k1 o1 w1 j x' hj hjk => by
  obtain ⟨x2, f1, f2⟩ := (o1.trans (OldK.named m1 b.d b.m 0)) j x' hj
  obtain ⟨N, hN⟩ := h j x2 f1 (f2.trans hjk)
  refine zKp (fun _ => True) (fun _ _ _ _ _ _ => trivial) (fun d xd2 y i z2 N' q1 q2 q3 q4 q5 q6 _ q8 => ?_) hN ⟨x2, f1, f2.trans hjk⟩ trivial
  obtain ⟨x3, a1, a2, a3⟩ := (k1.trans (Keep.named w1 b.d b.m 0)) d xd2 q1 q2
  refine ⟨N' ++ [y], .snoc q8 a1 a2 ?_ q6⟩
  rw [a3 y, q3]
  rintro (q | q)
  ·exact q
  ·exact hP d xd2 y i z2 q1 q2 q3 q4 q5 q6 q
 split
 ·exact main _ (Keep.without hkind) (OldK.without m b.i) ((hw.without _).mono (by omega))
 ·exact main _ (Keep.linked m b.i (-1)) (OldK.linked m b.i (-1)) (hw.linked _ _ (by omega))
theorem zV1 {l : List KV} {m : MF} {par : Int → Int} (R : Rel l m par) {c : Nat} (hw : m.wk c) (h : RA m) (p : List UInt8) : RA (m.remove p).2 := by
 unfold MF.remove
 by_cases h0 : (m.findP p).2 ≠ 0
 ·rw [if_pos h0]; exact h
 rw [if_neg h0]
 by_cases h1 : (m.findP p).1.i = 1
 ·rw [if_pos h1]; exact h
 rw [if_neg h1]
 by_cases h2 : (m.findP p).1.i = 0
 ·rw [if_pos h2]; exact h
 rw [if_neg h2]
 obtain ⟨xd, z, hx⟩ := R.ind (by simpa using h0) h2 h1
 by_cases hk : z.k = 2
 ·by_cases he : z.e = []
  ·exact rmv_ra hw h hx.hi hk he hx.hd hx.hg (R.u _ _ hx.hi).1
  ·have : (m.rmv (m.findP p).1).2 = m := zJy (by
    unfold MF.rmv
    rw [hx.hi]
    dsimp only
    rw [if_neg (by omega), if_pos (List.length_pos_iff.2 he)]
    exact (by decide : (14 : Int) ≠ 0))
   rw [this]; exact h
 ·have : (m.rmv (m.findP p).1).2 = m := zJy (by
   unfold MF.rmv
   rw [hx.hi]
   dsimp only
   rw [if_pos hk]
   exact (by decide : (12 : Int) ≠ 0))
  rw [this]; exact h
theorem zUo {l : List KV} {m : MF} {par : Int → Int} (R : Rel l m par) {c : Nat} (hw : m.wk c) (h : RA m) (p : List UInt8) : RA (m.unlink p).2 := by
 unfold MF.unlink
 by_cases h0 : (m.findP p).2 ≠ 0
 ·rw [if_pos h0]; exact h
 rw [if_neg h0]
 by_cases h2 : (m.findP p).1.i = 0
 ·rw [if_pos h2]; exact h
 rw [if_neg h2]
 by_cases h1 : (m.findP p).1.i = 1
 ·have : (m.unl (m.findP p).1).2 = m := zO3 (by
   obtain ⟨y, f1, f2⟩ := R.root
   unfold MF.unl
   rw [h1, f1]
   dsimp only
   rw [if_pos f2]
   exact (by decide : (13 : Int) ≠ 0))
  rw [this]; exact h
 obtain ⟨xd, z, hx⟩ := R.ind (by simpa using h0) h2 h1
 exact unl_ra hw h hx.hi hx.hd hx.hg (R.u _ _ hx.hi).1
theorem link_ra {l : List KV} {m : MF} {par : Int → Int} (R : Rel l m par) {c : Nat} (hw : m.wk c) (h : RA m) (o p : List UInt8) : RA (m.link o p).2 := by
 unfold MF.link
 by_cases h0 : (m.findP o).2 ≠ 0
 ·rw [if_pos h0]; exact h
 rw [if_neg h0]
 by_cases h1 : (m.findP o).1.i = 0
 ·rw [if_pos h1]; exact h
 rw [if_neg h1]
 cases hi : m.at (m.findP o).1.i with
 | none => exact h
 | some z =>
  dsimp only
  by_cases hk : z.k = 2
  ·rw [if_pos hk]; exact h
  rw [if_neg hk]
  by_cases h4 : (m.findP p).2 ≠ 0
  ·rw [if_pos h4]; exact h
  rw [if_neg h4]
  by_cases h5 : (m.findP p).1.i ≠ 0
  ·rw [if_pos h5]; exact h
  rw [if_neg h5]
  by_cases h6 : z.n ≥ 1000
  ·rw [if_pos h6]; exact h
  rw [if_neg h6]
  have h4 : (m.findP p).2 = 0 := by simpa using h4
  rcases R.fnd h4 with e | ⟨xd, hx, _⟩ | ⟨xd, z2, hx⟩
  ·rw [e] at h5; exact absurd (by decide) h5
  ·have w1 := hw.linked (m.findP o).1.i 1 (by omega)
   refine h.keep ((Keep.linked m (m.findP o).1.i 1).trans (Keep.named w1 (m.findP p).1.d (m.findP p).1.m (m.findP o).1.i)) ((OldK.linked _ _ _).trans (OldK.named _ _ _ _)) fun d xd2 x i z2 q1 _ q3 _ _ q => ?_
   rcases q with q | ⟨rfl, rfl⟩
   ·exact q
   ·rw [hx.hd] at q1
    obtain rfl := Option.some.inj q1
    rw [hx.hg] at q3; cases q3
  ·exact absurd hx.h0 h5
def KeepL (m m' : MF) (L : Int → Prop) (P : Int → List UInt8 → Prop) : Prop := ∀ d x, m.at d = some x → x.k = 2 → L d → ∃ x', m'.at d = some x' ∧ x'.k = 2 ∧ ∀ nm, ¬ P d nm → lget nm x'.e = lget nm x.e
theorem KeepL.trans {m m' m'' : MF} {L : Int → Prop} {P Q : Int → List UInt8 → Prop} (h : KeepL m m' L P) (h2 : Keep m' m'' Q) : KeepL m m'' L (fun d nm => P d nm ∨ Q d nm) := fun d x hx hk hl => by
 obtain ⟨x', a1, a2, a3⟩ := h d x hx hk hl
 obtain ⟨x'', b1, b2, b3⟩ := h2 d x' a1 a2
 exact ⟨x'', b1, b2, fun nm q => (b3 nm fun e => q (.inr e)).trans (a3 nm fun e => q (.inl e))⟩
theorem zNt {m m' : MF} {L : Int → Prop} {P : Int → List UInt8 → Prop} (hK : KeepL m m' L P) {N : List (List UInt8)} {d : Int} (h : Reach m N d) (hL : ∀ d xd x v, m.at d = some xd → lget x xd.e = some v → L d) : (∃ x, m.at d = some x ∧ x.k = 2 ∧ L d) → (∀ M dd nm xd i z, Reach m M dd → m.at dd = some xd → lget nm xd.e = some (beB 4 i) → m.at i = some z → z.k = 2 → L i → M ++ [nm] <+: N → ¬ P dd nm) → Reach m' N d := by
 induction h with
 | nil => intro _ _; exact .nil
 | @snoc N d i xd x h hd hk hg hi ih =>
  intro ⟨z, hz, hzk, hzl⟩ hP
  have hl := hL d xd x _ hd hg
  obtain ⟨xd', a1, a2, a3⟩ := hK d xd hd hk hl
  have hr := ih ⟨xd, hd, hk, hl⟩ fun M dd nm xd2 i2 z2 g1 g2 g3 g4 g5 g5' g6 => hP M dd nm xd2 i2 z2 g1 g2 g3 g4 g5 g5' (List.IsPrefix.trans g6 (List.prefix_append _ _))
  exact .snoc hr a1 a2 (by rw [a3 x (hP N d x xd i z h hd hg hz hzk hzl (List.prefix_refl _))]; exact hg) hi
theorem zJ0 {l : List KV} {m m1 : MF} {par : Int → Int} (R : Rel l m par) {c : Nat} (hw1 : m1.wk c) (h : RA m) {a b : MS} {dir : Bool} {xd z xe : MN} (L : Int → Prop) (hL : ∀ d xd x v, m.at d = some xd → lget x xd.e = some v → L d) (hLn : ∀ d, m1.at d ≠ none → L d)
  (hK : KeepL m m1 L (fun d nm => d = b.d ∧ nm = b.m)) (hO : OldK m m1) (hx : InD m par a.d a.m a.i xd z) (he : m.at b.d = some xe) (hek : xe.k = 2) (hel : L b.d) (_hil : L a.i)
  (hb : ∀ i w, lget b.m xe.e = some (beB 4 i) → m.at i = some w → w.k = 2 → ¬ L i) {N1 N2 : List (List UInt8)} (hN1 : Reach m N1 a.d) (hN2 : Reach m N2 b.d) (hun : z.k = 2 → ¬ (N1 ++ [a.m] <+: N2)) : RA (m1.moved a b dir) := by
 have hiu := (R.u _ _ hx.hi).1
 have hKm := hK.trans (zQ4 hw1 a b dir)
 have hO2 := hO.trans (OldK.moved m1 a b dir)
 have hent : ∀ d nm xd2 i w, m.at d = some xd2 → lget nm xd2.e = some (beB 4 i) → m.at i = some w → w.k = 2 → L i → U32 i → ((d = b.d ∧ nm = b.m) ∨ ((d = a.d ∧ nm = a.m) ∨ (d = b.d ∧ nm = b.m))) → d = a.d ∧ nm = a.m ∧ i = a.i ∧ w = z := by
  intro d nm xd2 i w q1 q2 q3 q4 q5 q6 q
  have hno : ¬ (d = b.d ∧ nm = b.m) := fun ⟨e1, e2⟩ => by
   subst e1 e2
   rw [he] at q1
   obtain rfl := Option.some.inj q1
   exact hb i w q2 q3 q4 q5
  rcases q with q | ⟨rfl, rfl⟩ | q
  ·exact absurd q hno
  ·rw [hx.hd] at q1
   obtain rfl := Option.some.inj q1
   have := (qF hiu q6).1 (Option.some.inj (hx.hg.symm.trans q2))
   subst this
   rw [hx.hi] at q3
   exact ⟨rfl, rfl, rfl, (Option.some.inj q3).symm⟩
  ·exact absurd q hno
 have hr2 : z.k = 2 → Reach (m1.moved a b dir) N2 b.d := fun k2 => zNt hKm hN2 hL ⟨xe, he, hek, hel⟩ fun M dd nm xd2 i w g1 g2 g3 g4 g5 g5' g6 q => by
  obtain ⟨e1, e2, _, _⟩ := hent dd nm xd2 i w g2 g3 g4 g5 g5' (R.u _ _ g4).1 q
  subst e1 e2
  have := zD4 R g1 hN1 hx.hd hx.hk
  subst this
  exact hun k2 g6
 obtain ⟨xe1, c1, c2, _⟩ := hK b.d xe he hek hel
 have hnew : ∃ y, (m1.moved a b dir).at b.d = some y ∧ y.k = 2 ∧ lget b.m y.e = some (beB 4 a.i) := by
  have w2 := hw1.named a.d a.m 0
  obtain ⟨y1, d1, d2, _⟩ := (Keep.named hw1 a.d a.m 0) b.d xe1 c1 c2
  have base : ∃ y, ((m1.named a.d a.m 0).named b.d b.m a.i).at b.d = some y ∧ y.k = 2 ∧ lget b.m y.e = some (beB 4 a.i) := by
   rw [y6, if_pos rfl, d1]
   refine ⟨_, rfl, d2, ?_⟩
   dsimp only
   rw [zCi hx.h0, yR (w2.r y1 (yY d1).1), if_pos rfl]
  obtain ⟨y, f1, f2, f3⟩ := base
  unfold MF.moved
  split
  ·obtain ⟨y', p1, p2, p3⟩ := ((Keep.linked _ a.d (-1)).trans (Keep.linked _ b.d 1)) b.d y f1 f2
   exact ⟨y', p1, p2, by rw [p3 b.m (by rintro (q | q) <;> exact q)]; exact f3⟩
  ·exact ⟨y, f1, f2, f3⟩
 obtain ⟨y, f1, f2, f3⟩ := hnew
 intro j x' hj hjk
 obtain ⟨x2, g1, g2⟩ := hO2 j x' hj
 obtain ⟨x3, g3, _⟩ := OldK.moved m1 a b dir j x' hj
 have hjl : L j := hLn j (by rw [g3]; simp)
 obtain ⟨N, hN⟩ := h j x2 g1 (g2.trans hjk)
 refine zKp L hL (fun d xd2 nm i w N' q1 q2 q3 q4 q5 q6 q7 q8 => ?_) hN ⟨x2, g1, g2.trans hjk⟩ hjl
 by_cases hq : (d = b.d ∧ nm = b.m) ∨ ((d = a.d ∧ nm = a.m) ∨ (d = b.d ∧ nm = b.m))
 ·obtain ⟨_, _, rfl, rfl⟩ := hent d nm xd2 i w q1 q3 q4 q5 q7 q6 hq
  exact ⟨N2 ++ [b.m], .snoc (hr2 q5) f1 f2 f3 hiu⟩
 ·obtain ⟨xd', a1, a2, a3⟩ := hKm d xd2 q1 q2 (hL d xd2 nm _ q1 q3)
  exact ⟨N' ++ [nm], .snoc q8 a1 a2 (by rw [a3 nm hq]; exact q3) q6⟩
theorem zVb {l : List KV} {m : MF} {par : Int → Int} (R : Rel l m par) {c : Nat} (hw : m.wk c) (h : RA m) (o p : List UInt8) : RA (m.rename o p).2 := by
 unfold MF.rename
 by_cases h1 : (m.findP o).2 ≠ 0
 ·rw [if_pos h1]; exact h
 rw [if_neg h1]
 by_cases h3 : (m.findP o).1.i = 1
 ·rw [if_pos h3]; exact h
 rw [if_neg h3]
 by_cases h2 : (m.findP o).1.i = 0
 ·rw [if_pos h2]; exact h
 rw [if_neg h2]
 by_cases h4 : (m.findP p).2 ≠ 0
 ·rw [if_pos h4]; exact h
 rw [if_neg h4]
 by_cases h5 : (m.findP p).1.i = 1
 ·rw [if_pos h5]; exact h
 rw [if_neg h5]
 by_cases h6 : (m.findP p).1.i = (m.findP o).1.i
 ·rw [if_pos h6]; exact h
 rw [if_neg h6]
 have h1 : (m.findP o).2 = 0 := by simpa using h1
 have h4 : (m.findP p).2 = 0 := by simpa using h4
 obtain ⟨xd, z, hx⟩ := R.ind h1 h2 h3
 obtain ⟨N1, p1, p2, p3⟩ := R.path h1 h3
 obtain ⟨N2, q1, q2, _⟩ := R.path h4 h5
 have hkz : m.kind (m.findP o).1.i = z.k := by unfold MF.kind; rw [hx.hi]
 rw [hkz]
 by_cases hun : (z.k = 2 && underB (namesP o) (namesP p)) = true
 ·rw [if_pos hun]; exact h
 rw [if_neg hun]
 have hun2 : z.k = 2 → ¬ (N1 ++ [(m.findP o).1.m] <+: N2) := fun k2 g6 => by
  refine hun ?_
  rw [← p1] at g6
  have hl := g6.length_le
  unfold underB
  rw [Bool.and_eq_true, Bool.and_eq_true, decide_eq_true_eq, decide_eq_true_eq, decide_eq_true_eq, q1]
  refine ⟨k2, by rw [List.length_append, List.length_singleton]; omega, ?_⟩
  rw [List.take_append_of_le_length hl]
  exact (List.prefix_iff_eq_take.1 g6)
 by_cases h7 : (m.findP p).1.i = 0
 ·rw [if_pos h7]
  rcases R.fnd h4 with e | ⟨xe, ht, _⟩ | ⟨xt, zt, ht⟩
  ·rw [e] at h5; exact absurd rfl h5
  ·exact zJ0 R hw h (fun _ => True) (fun _ _ _ _ _ _ => trivial) (fun _ _ => trivial) (fun d x a b _ => ⟨x, a, b, fun _ _ => rfl⟩) (OldK.refl m) hx ht.hd ht.hk trivial trivial (fun i w f1 _ _ => by rw [ht.hg] at f1; cases f1) p2 q2 hun2
  ·exact absurd h7 ht.h0
 rw [if_neg h7]
 obtain ⟨xt, zt, ht⟩ := R.ind h4 h7 h5
 dsimp only
 have hju := (R.u _ _ ht.hi).1
 by_cases k2 : z.k = 2
 ·rw [if_pos k2]
  by_cases h8 : (m.rmv (m.findP p).1).1 ≠ 0
  ·rw [if_pos h8]; exact h
  rw [if_neg h8]
  have hrm : zt.k = 2 ∧ zt.e = [] ∧ (m.rmv (m.findP p).1).2 = ((m.without (m.findP p).1.i).linked (m.findP p).1.d (-1)).named (m.findP p).1.d (m.findP p).1.m 0 := by
   unfold MF.rmv at h8 ⊢
   rw [ht.hi] at h8 ⊢
   dsimp only at h8 ⊢
   by_cases b1 : zt.k ≠ 2
   ·rw [if_pos b1] at h8; exact absurd (show ((12 : Int), m).1 ≠ 0 from (by decide : (12 : Int) ≠ 0)) h8
   rw [if_neg b1] at h8 ⊢
   by_cases b2 : zt.e.length > 0
   ·rw [if_pos b2] at h8; exact absurd (show ((14 : Int), m).1 ≠ 0 from (by decide : (14 : Int) ≠ 0)) h8
   rw [if_neg b2]
   exact ⟨by simpa using b1, List.eq_nil_of_length_eq_zero (by omega), rfl⟩
  obtain ⟨b1, b2, b3⟩ := hrm
  have hL : ∀ d xd x v, m.at d = some xd → lget x xd.e = some v → d ≠ (m.findP p).1.i := fun d xd x v f1 f2 f3 => by
   rw [f3, ht.hi] at f1
   obtain rfl := Option.some.inj f1
   rw [b2] at f2; cases f2
  have w1 := (hw.without (m.findP p).1.i).linked (m.findP p).1.d (-1) (by omega)
  refine zJ0 R (zP9 hw _) h (fun d => d ≠ (m.findP p).1.i) hL (fun d f1 f2 => ?_) ?_ ?_ hx ht.hd ht.hk (hL _ _ _ _ ht.hd ht.hg) (fun q => h6 q.symm) (fun i w f1 f2 _ f3 => ?_) p2 q2 hun2
  ·rw [b3] at f1
   cases hm : (((m.without (m.findP p).1.i).linked (m.findP p).1.d (-1)).named (m.findP p).1.d (m.findP p).1.m 0).at d with
   | none => exact f1 hm
   | some y =>
    obtain ⟨y2, g1, _⟩ := ((OldK.linked (m.without (m.findP p).1.i) (m.findP p).1.d (-1)).trans (OldK.named _ _ _ _)) d y hm
    rw [qD, if_pos f2] at g1; cases g1
  ·rw [b3]
   intro d x f1 f2 f3
   obtain ⟨x3, a1, a2, a3⟩ := (Keep.linked (m.without (m.findP p).1.i) (m.findP p).1.d (-1)).trans (Keep.named w1 (m.findP p).1.d (m.findP p).1.m 0) d x (by rw [qD, if_neg f3]; exact f1) f2
   exact ⟨x3, a1, a2, fun nm q => a3 nm (by rintro (g | g); exact g; exact q g)⟩
  ·rw [b3]
   exact ((OldK.without m _).trans (OldK.linked _ _ _)).trans (OldK.named _ _ _ _)
  ·rw [ht.hg] at f1
   exact f3 ((qF hju (R.u _ _ f2).1).1 (Option.some.inj f1)).symm
 ·rw [if_neg k2]
  by_cases h8 : (m.unl (m.findP p).1).1 ≠ 0
  ·rw [if_pos h8]; exact h
  rw [if_neg h8]
  have hrm : zt.k ≠ 2 ∧ (m.unl (m.findP p).1).2 = (if zt.n = 1 then m.without (m.findP p).1.i else m.linked (m.findP p).1.i (-1)).named (m.findP p).1.d (m.findP p).1.m 0 := by
   unfold MF.unl at h8 ⊢
   rw [ht.hi] at h8 ⊢
   dsimp only at h8 ⊢
   by_cases b1 : zt.k = 2
   ·rw [if_pos b1] at h8; exact absurd (show ((13 : Int), m).1 ≠ 0 from (by decide : (13 : Int) ≠ 0)) h8
   rw [if_neg b1]
   exact ⟨b1, rfl⟩
  obtain ⟨b1, b3⟩ := hrm
  have hkind : m.kind (m.findP p).1.i ≠ 2 := by unfold MF.kind; rw [ht.hi]; exact b1
  have hk1 : ∃ m2, (if zt.n = 1 then m.without (m.findP p).1.i else m.linked (m.findP p).1.i (-1)) = m2 ∧ Keep m m2 (fun _ _ => False) ∧ OldK m m2 ∧ m2.wk (c + 1) := by
   split
   ·exact ⟨_, rfl, Keep.without hkind, OldK.without m _, (hw.without _).mono (by omega)⟩
   ·exact ⟨_, rfl, Keep.linked m _ _, OldK.linked m _ _, hw.linked _ _ (by omega)⟩
  obtain ⟨m2, e2, kk, oo, ww⟩ := hk1
  rw [e2] at b3
  refine zJ0 R (zOt hw _) h (fun _ => True) (fun _ _ _ _ _ _ => trivial) (fun _ _ => trivial) ?_ ?_ hx ht.hd ht.hk trivial trivial (fun i w f1 f2 f3 _ => ?_) p2 q2 hun2
  ·rw [b3]
   intro d x f1 f2 _
   obtain ⟨x3, a1, a2, a3⟩ := kk.trans (Keep.named ww (m.findP p).1.d (m.findP p).1.m 0) d x f1 f2
   exact ⟨x3, a1, a2, fun nm q => a3 nm (by rintro (g | g); exact g; exact q g)⟩
  ·rw [b3]
   exact oo.trans (OldK.named _ _ _ _)
  ·rw [ht.hg] at f1
   have := (qF hju (R.u _ _ f2).1).1 (Option.some.inj f1)
   rw [← this, ht.hi] at f2
   obtain rfl := Option.some.inj f2
   exact b1 f3
def allI (l : List KV) : List Int := (l.filter fun y => y.1.headD 0 == 73).map fun y => gF y.1 1
theorem gF_kH {c j : Int} (r : List UInt8) (hj : U32 j) : gF (keyH c j ++ r) 1 = j := by
 unfold gF keyH
 show beV (((beB 4 j ++ r)).take 4) = j
 rw [List.take_append_of_le_length (by rw [yD]; omega), List.take_of_length_le (by rw [yD]; omega)]
 exact yM j hj
def subD (m : MF) (d : Int) (l : List KV) : Nat := l.countP fun y => y.1.headD 0 == 69 && (gF y.1 1 == d) && (m.kind (beV y.2) == 2)
def cntA (n : Nat) : Option AV := if n = 0 then none else some (.int .i64 n)
abbrev Mp := List (Int × AV)
structure TI (m : MF) (l : List KV) (E B P : Mp) : Prop where
 e : ∀ j, U32 j → mget j E = cntA (refs j l)
 b : ∀ d, U32 d → mget d B = cntA (subD m d l)
 p : ∀ y ∈ l, y.1.headD 0 = 69 → m.kind (beV y.2) = 2 → mget (beV y.2) P = some (.int .u32 (gF y.1 1))
 eo : ∀ r ∈ E, plOk r.2 = true
 bo : ∀ r ∈ B, plOk r.2 = true
 po : ∀ r ∈ P, plOk r.2 = true
theorem TI.new (m : MF) : TI m [] [] [] [] := ⟨fun _ _ => rfl, fun _ _ => rfl, by simp, by simp, by simp, by simp⟩
theorem zIm (j : Int) (l : List KV) (y : KV) : refs j (l ++ [y]) = refs j l + if refB j y = true then 1 else 0 := by
 unfold refs; rw [List.countP_append, List.countP_singleton]
theorem zIv (m : MF) (d : Int) (l : List KV) (y : KV) : subD m d (l ++ [y]) = subD m d l + if (y.1.headD 0 == 69 && (gF y.1 1 == d) && (m.kind (beV y.2) == 2)) = true then 1 else 0 := by
 unfold subD; rw [List.countP_append, List.countP_singleton]
theorem TI.other {m : MF} {l : List KV} {E B P : Mp} (h : TI m l E B P) {y : KV} (hy : (y.1.headD 0 == 69) = false) : TI m (l ++ [y]) E B P := by
 refine ⟨fun j hj => ?_, fun d hd => ?_, fun z hz h1 h2 => ?_, h.eo, h.bo, h.po⟩
 ·rw [zIm, if_neg (by unfold refB; rw [hy]; simp)]; exact h.e j hj
 ·rw [zIv, if_neg (by rw [hy]; simp)]; exact h.b d hd
 ·rcases List.mem_append.1 hz with hz | hz
  ·exact h.p z hz h1 h2
  ·rw [List.mem_singleton] at hz
   subst hz
   rw [h1] at hy; simp at hy
theorem TI.file {m : MF} {l : List KV} {E B P : Mp} (h : TI m l E B P) {d k : Int} {nm : List UInt8} (hku : U32 k) (hk : m.kind k ≠ 2) : TI m (l ++ [(keyH 69 d ++ nm, beB 4 k)]) (mput k (.int .i64 ((refs k l : Int) + 1)) E) B P := by
 have hb : beV (beB 4 k) = k := yM k hku
 refine ⟨fun j hj => ?_, fun d' hd' => ?_, fun z hz h1 h2 => ?_, fun r hr => ?_, h.bo, h.po⟩
 ·rw [zAf, zIm, j4]
  by_cases e : j = k
  ·subst e
   rw [if_pos rfl, if_pos (by simp)]
   unfold cntA
   rw [if_neg (by omega)]; rfl
  ·rw [if_neg e, if_neg (by simp; intro q; exact e ((qF hku hj).1 q).symm)]
   exact h.e j hj
 ·rw [zIv, if_neg (by dsimp only; rw [hb]; simp [hk])]; exact h.b d' hd'
 ·rcases List.mem_append.1 hz with hz | hz
  ·exact h.p z hz h1 h2
  ·rw [List.mem_singleton] at hz
   subst hz
   dsimp only at h2
   rw [hb] at h2; exact absurd h2 hk
 ·rcases zAo hr with rfl | hr
  ·rfl
  ·exact h.eo r hr
theorem TI.dir {m : MF} {l : List KV} {E B P : Mp} (h : TI m l E B P) {d k : Int} {nm : List UInt8} (hdu : U32 d) (hku : U32 k) (hk : m.kind k = 2) (hno : ∀ z ∈ l, z.1.headD 0 = 69 → beV z.2 ≠ k) : TI m (l ++ [(keyH 69 d ++ nm, beB 4 k)]) (mput k (.int .i64 ((refs k l : Int) + 1)) E) (mput d (.int .i64 ((subD m d l : Int) + 1)) B) (mput k (.int .u32 d) P) := by
 have hb : beV (beB 4 k) = k := yM k hku
 refine ⟨fun j hj => ?_, fun d' hd' => ?_, fun z hz h1 h2 => ?_, fun r hr => ?_, fun r hr => ?_, fun r hr => ?_⟩
 ·rw [zAf, zIm, j4]
  by_cases e : j = k
  ·subst e
   rw [if_pos rfl, if_pos (by simp)]
   unfold cntA
   rw [if_neg (by omega)]; rfl
  ·rw [if_neg e, if_neg (by simp; intro q; exact e ((qF hku hj).1 q).symm)]
   exact h.e j hj
 ·rw [zAf, zIv]
  dsimp only
  rw [zFp, gF_kH nm hdu, hb, hk]
  by_cases e : d' = d
  ·subst e
   rw [if_pos rfl, if_pos (by simp)]
   unfold cntA
   rw [if_neg (by omega)]; rfl
  ·rw [if_neg e, if_neg (by simp; intro q; exact absurd q.symm e)]
   exact h.b d' hd'
 ·rw [zAf]
  rcases List.mem_append.1 hz with hz | hz
  ·rw [if_neg (hno z hz h1)]
   exact h.p z hz h1 h2
  ·rw [List.mem_singleton] at hz
   subst hz
   dsimp only
   rw [hb, if_pos rfl, gF_kH nm hdu]
 ·rcases zAo hr with rfl | hr
  ·rfl
  ·exact h.eo r hr
 ·rcases zAo hr with rfl | hr
  ·rfl
  ·exact h.bo r hr
 ·rcases zAo hr with rfl | hr
  ·rfl
  ·exact h.po r hr
end Go.Proofs.YtdnpkgakpiopgaaGreatDoor

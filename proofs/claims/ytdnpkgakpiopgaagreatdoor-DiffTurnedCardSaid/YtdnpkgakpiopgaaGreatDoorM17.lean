import Derived.Test.YtdnpkgakpiopgaaGreatDoorGo
import Derived.Test.YtdnpkgakpiopgaaGreatDoorM16
import Derived.Test.YtdnpkgakpiopgaaGreatDoorM9
namespace Go.Proofs.YtdnpkgakpiopgaaGreatDoor
set_option maxRecDepth 20000
open Go.Awp Tr
theorem zCi {e : List KV} {nm : List UInt8} {i : Int} (h : i ≠ 0) : nmE e nm i = lset nm (beB 4 i) e := if_neg h
theorem zJ7 {e : List KV} {nm : List UInt8} : nmE e nm 0 = lcut nm e := if_pos rfl
theorem full1 (a : Bool) : fullE [a] = 21 ∨ (fullE [a] = 0 ∧ a = true) := by cases a <;> simp [fullE]
theorem full2 (a b : Bool) : fullE [a, b] = 21 ∨ (fullE [a, b] = 0 ∧ a = true ∧ b = true) := by cases a <;> cases b <;> simp [fullE]
theorem first2 {a b : Int} (ha : a = 21 ∨ a = 0) (hb : b = 21 ∨ b = 0) : firstE [a, b] = 21 ∨ (firstE [a, b] = 0 ∧ a = 0 ∧ b = 0) := by
 rcases ha with rfl | rfl <;> rcases hb with rfl | rfl <;> simp [firstE]
theorem first4 {a b c d : Int} (ha : a = 21 ∨ a = 0) (hb : b = 21 ∨ b = 0) (hc : c = 21 ∨ c = 0) (hd : d = 21 ∨ d = 0) : firstE [a, b, c, d] = 21 ∨ (firstE [a, b, c, d] = 0 ∧ a = 0 ∧ b = 0 ∧ c = 0 ∧ d = 0) := by
 rcases ha with rfl | rfl <;> rcases hb with rfl | rfl <;> rcases hc with rfl | rfl <;> rcases hd with rfl | rfl <;> simp [firstE]
theorem RelA.links {l : List KV} {A : Nods} {par df ds : Int → Int} (R : RelA l A par df ds) {d : Int} {x : MN} (hd : A d = some x) (hk : x.k = 2) {b : Int} (hn : 2 ≤ x.n + b) (hu : U32 (x.n + b)) (hp : U32 (par d)) :
  RelA (lset (keyH 73 d) (nodeB 2 (x.n + b) 0 (par d)) l) (updA A d (some { x with n := x.n + b })) par df (fun j => ds j - if j = d then b else 0) := by
 have hb : x.b = [] := by
  rcases R.kin d x hd with q | q
  ·exact q.2
  ·have := q.1; omega
 have hm : mayB x.k (x.n + b) (x.b.length : Int) (par d) = true := by
  unfold mayB; rw [hb, hk]; simp; omega
 have h := R.save hd (x.n + b) (par d) hm hu (by rw [hb]; exact ⟨by simp, by simp⟩) hp (fun e => by rw [e]; exact R.rpar) (fun e => by omega) (fun _ => .inl rfl)
 have hbl : (x.b.length : Int) = 0 := by rw [hb]; rfl
 rw [hbl] at h
 have e1 : (fun j => if j = d then par d else par j) = par := by
  funext j; split
  ·rename_i e; rw [e]
  ·rfl
 have e2 : (fun j => df j + if j = d ∧ x.k = 1 then x.n - (x.n + b) else 0) = df := by
  funext j; rw [if_neg (fun q => by omega)]; omega
 have e3 : (fun j => ds j + if j = d ∧ x.k = 2 then x.n - (x.n + b) else 0) = fun j => ds j - if j = d then b else 0 := by
  funext j
  by_cases e : j = d
  ·rw [if_pos ⟨e, hk⟩, if_pos e]; omega
  ·rw [if_neg (fun q => e q.1), if_neg e]; omega
 rw [e1, e2, e3] at h
 rw [← hk]
 exact h
theorem wk_n {f : MF} {c : Nat} (h : f.wk c) {i : Int} {x : MN} (hx : f.at i = some x) : -(c : Int) ≤ x.n ∧ x.n ≤ c := h.n x (yY hx).1
theorem zRw {s : VS} {n c : Nat} (h : VJ s n) {m : MF} {par : Int → Int} (R : Rel s.shown.row m par) (hw : m.wk c) (hc : c ≤ 100000) {a : Sp} {xd : MN} (hs : NoD m a.d a.m xd) {k i : Int} (hk : k = 1 ∨ k = 2) (hiu : U32 i) (hi0 : i ≠ 0) (hi : m.at i = none) :
  (s.makeAt a k i).1 = 21 ∨ ((s.makeAt a k i).1 = 0 ∧ ∃ par', Rel (s.makeAt a k i).2.shown.row (MF.named (if k = 1 then m.with ⟨i, 1, 1, [], []⟩ else (m.with ⟨i, 2, 2, [], []⟩).linked a.d 1) a.d a.m i) par') := by
 obtain ⟨hd, hkd, hnm, hg⟩ := hs
 have hdu := R.u _ _ hd
 have hdi : a.d ≠ i := fun e => by rw [e, hi] at hd; cases hd
 have hen := zCc (d := a.d) (jL hnm)
 have hmay := R.may hd
 have hxn := wk_n hw hd
 have hb : xd.b = [] := by
  rcases R.kin _ xd hd with q | q
  ·exact q.2
  ·have := q.1; omega
 have hn2 : 2 ≤ xd.n := by rw [R.lkd _ xd hd hkd]; omega
 have hi1 : i ≠ 1 := fun e => by
  obtain ⟨x, h1, _⟩ := R.root
  rw [e] at hi; rw [hi] at h1; cases h1
 have R1 := R.toA.make (k := k) (p := if k = 1 then 0 else a.d) hiu hi0 hi (by
  rcases hk with rfl | rfl
  ·exact .inl ⟨rfl, rfl⟩
  ·exact .inr ⟨rfl, hdu.1⟩)
 have hd1 : updA m.at i (some ⟨i, k, k, [], []⟩) a.d = some xd := by rw [zX _ _ hdi]; exact hd
 have R2 := R1.hang hd1 hkd hnm hg (zW _ _ _) hi1 (fun e => by
  have e : k = 2 := e
  rw [if_pos rfl, if_neg (by omega)])
 have hnew : newN k a.d = (k, k, 0, if k = 1 then 0 else a.d) := by
  unfold newN
  rcases hk with rfl | rfl <;> rfl
 unfold VS.makeAt
 dsimp only
 rw [hnew]
 dsimp only
 generalize hs2 : s.save i (k, k, 0, if k = 1 then 0 else a.d) = s2
 generalize hs3 : s2.put (entryK a.d a.m) (beB 4 i) = s3
 have hv2 : VJ s2 (n + 1) := hs2 ▸ h.save i (k, k, 0, if k = 1 then 0 else a.d)
 have hv3 : VJ s3 (n + 1 + 1) := hs3 ▸ hv2.hang a.d a.m i
 rcases full2 (s.room (keyH 73 i)) (s2.room (entryK a.d a.m)) with ef | ⟨ef, hr1, hr2⟩
 ·left
  split
  ·show firstE [_, _] = 21
   unfold firstE; rw [if_pos (by omega)]; exact ef
  ·exact ef
 have row2 : s2.shown.row = lset (keyH 73 i) (nodeB k k 0 (if k = 1 then 0 else a.d)) s.shown.row := by rw [← hs2]; exact zAr h hr1
 have row3 : s3.shown.row = lset (keyH 69 a.d ++ a.m) (beB 4 i) s2.shown.row := by rw [← hs3, zAr hv2 hr2, hen]
 rw [row2] at row3
 rw [← row3] at R2
 have hq : MF.uq m := R.fst
 rcases hk with rfl | rfl
 ·
  rw [if_neg (by decide), if_pos rfl]
  refine .inr ⟨ef, _, R2.toM ?_ ((hq.with _).named _ _ _) (fun j => ?_) (fun j => ?_)⟩
  ·have e1 := zOh m ⟨i, 1, 1, [], []⟩
   rw [jO _ a.d a.m i (by rw [e1]; exact hd1), e1, zCi hi0]
  ·unfold z0; by_cases e : j = i
   ·rw [if_pos e, if_pos e.symm]; rfl
   ·rw [if_neg e, if_neg (Ne.symm e)]; rfl
  ·unfold z0
   have e : (if a.d = j ∧ (1 : Int) = 2 then (1 : Int) else 0) = 0 := if_neg fun q => by have := q.2; omega
   rw [e]; split <;> rfl
 ·
  rw [if_pos rfl, if_neg (by decide)]
  have hxd2 := zW (updA m.at i (some ⟨i, 2, 2, [], []⟩)) a.d (some { xd with e := lset a.m (beB 4 i) xd.e })
  have hpd : (if a.d = i then if (2 : Int) = 1 then 0 else a.d else par a.d) = par a.d := if_neg hdi
  have R3 := R2.links (b := 1) hxd2 hkd (by dsimp only; omega) (by dsimp only; unfold U32; omega) (by rw [hpd]; exact hmay.2.2.2)
  dsimp only at R3
  rw [hpd, zA5] at R3
  have hnd := R2.nod _ _ hxd2
  dsimp only at hnd
  rw [hpd] at hnd
  rcases full1 (s3.room (keyH 73 a.d)) with eg | ⟨eg, hr3⟩
  ·left
   show firstE [_, fullE [_]] = 21
   rw [ef, eg]; rfl
  have row4 := zDn hv3 hr3 (b := 1) hnd (by unfold U32; omega)
  have hbl : (xd.b.length : Int) = 0 := by rw [hb]; rfl
  rw [hkd, hbl] at row4
  rw [← row4] at R3
  refine .inr ⟨by show firstE [_, fullE [_]] = 0; rw [ef, eg]; rfl, _, R3.toM ?_ (((hq.with _).linked _ _).named _ _ _) (fun j => ?_) (fun j => ?_)⟩
  ·have e1 := zOh m ⟨i, 2, 2, [], []⟩
   have e2 := qQ (m.with ⟨i, 2, 2, [], []⟩) a.d 1 (x := xd) (by rw [e1]; exact hd1)
   rw [e1] at e2
   rw [jO _ a.d a.m i (x := { xd with n := xd.n + 1 }) (by rw [e2]; exact zW _ _ _), e2, zCi hi0, zA5]
  ·unfold z0; by_cases e : j = i
   ·rw [if_pos e, if_pos e.symm]; rfl
   ·rw [if_neg e, if_neg (Ne.symm e)]; rfl
  ·unfold z0
   by_cases e : j = a.d
   ·subst e
    have e1 : (if a.d = a.d ∧ (2 : Int) = 2 then (1 : Int) else 0) = 1 := if_pos ⟨rfl, rfl⟩
    have e2 : (if a.d = a.d then (1 : Int) else 0) = 1 := if_pos rfl
    rw [e1, e2, if_neg hdi]; rfl
   ·have e1 : (if a.d = j ∧ (2 : Int) = 2 then (1 : Int) else 0) = 0 := if_neg fun q => e q.1.symm
    have e2 : (if j = a.d then (1 : Int) else 0) = 0 := if_neg e
    rw [e1, e2]; split <;> rfl
theorem zFl {s : VS} {n c : Nat} (h : VJ s n) {m : MF} {par : Int → Int} (R : Rel s.shown.row m par) (hw : m.wk c) (hc : c ≤ 100000) (p : List UInt8) {k i : Int} (hk : k = 1 ∨ k = 2) (hiu : U32 i) (hi0 : i ≠ 0) (hi : m.at i = none) :
  (s.make p k i).1 = 21 ∨ ((s.make p k i).1 = (m.make p k i).1 ∧ ∃ par', Rel (s.make p k i).2.shown.row (m.make p k i).2 par') := by
 obtain ⟨he, hs⟩ := zBj h R p
 unfold VS.make MF.make
 rw [he]
 by_cases h0 : (m.findP p).2 ≠ 0
 ·rw [if_pos h0, if_pos h0]; exact .inr ⟨rfl, par, R⟩
 rw [if_neg h0, if_neg h0]
 have h0 : (m.findP p).2 = 0 := by simpa using h0
 have hs := hs h0
 rw [hs.hi]
 by_cases h1 : (m.findP p).1.i ≠ 0
 ·rw [if_pos h1, if_pos h1]; exact .inr ⟨rfl, par, R⟩
 rw [if_neg h1, if_neg h1]
 rcases R.fnd h0 with e | ⟨xd, hx, _⟩ | ⟨xd, z, hx⟩
 ·rw [e] at h1; exact absurd (by decide) h1
 ·rw [← hs.hd, ← hs.hm] at hx ⊢
  exact zRw (h.rdp p) R hw hc hx hk hiu hi0 hi
 ·exact absurd hx.h0 h1
theorem zCn (i : Int) (l : List KV) : namesL i l = (subL 69 i l).map (·.1) := by
 unfold namesL subL
 rw [List.map_map]; rfl
theorem k12 {l : List KV} {A : Nods} {par df ds : Int → Int} (R : RelA l A par df ds) {j : Int} {x : MN} (h : A j = some x) : x.k = 1 ∨ x.k = 2 := (R.kin j x h).symm.imp (·.1) (·.1)
theorem zG8 {s : VS} {n c : Nat} (h : VJ s n) {m : MF} {par : Int → Int} (R : Rel s.shown.row m par) (hw : m.wk c) (_hc : c ≤ 100000) {a : Sp} {xd z : MN} (hs : InD m par a.d a.m a.i xd z) (han : a.n = (z.k, z.n, (z.b.length : Int), par a.i)) (b : MS) (hb1 : b.d = a.d) (hb2 : b.m = a.m) (hb3 : b.i = a.i) :
  (s.removes a).1 = 21 ∨ ((s.removes a).1 = (m.rmv b).1 ∧ Rel (s.removes a).2.shown.row (m.rmv b).2 par ∧ ((m.rmv b).1 = 0 → z.k = 2 ∧ z.e = [] ∧ (m.rmv b).2.at = updA (updA m.at a.i none) a.d (some { xd with n := xd.n + -1, e := lcut a.m xd.e }))) := by
 obtain ⟨hd, hkd, hnm, hg, hi, hi1, hi0, hp⟩ := hs
 unfold VS.removes MF.rmv
 dsimp only
 rw [hb3, hb1, hb2, hi, han]
 dsimp only
 by_cases hk : z.k ≠ 2
 ·rw [if_pos hk, if_pos hk]; exact .inr ⟨rfl, R, fun e => by cases e⟩
 rw [if_neg hk, if_neg hk]
 have hk : z.k = 2 := by simpa using hk
 have hlen : (namesL a.i s.shown.row).length = z.e.length := by rw [zCn, List.length_map, ← R.ent _ _ hi]
 rw [hlen]
 by_cases he : z.e.length > 0
 ·rw [if_pos he, if_pos he]
  refine .inr ⟨rfl, ?_, fun e => by cases e⟩
  have e : (s.rngE a.i).shown = s.shown := by unfold VS.rngE VS.range; split <;> rfl
  rw [e]; exact R
 rw [if_neg he, if_neg he]
 have he : z.e = [] := List.eq_nil_of_length_eq_zero (by omega)
 have hdi : a.d ≠ a.i := fun e => by rw [e, hi] at hd; cases hd; rw [he] at hg; cases hg
 have hdu := R.u _ _ hd
 have hiu := R.u _ _ hi
 have hen := zCc (d := a.d) (jL hnm)
 have hmay := R.may hd
 have hxn := wk_n hw hd
 have hb : xd.b = [] := by
  rcases R.kin _ xd hd with q | q
  ·exact q.2
  ·have := q.1; omega
 have hzb : z.b = [] := by
  rcases R.kin _ z hi with q | q
  ·exact q.2
  ·have := q.1; omega
 have R1 := R.toA.unhang hd hkd hg hi
 have hi' : updA m.at a.d (some { xd with e := lcut a.m xd.e }) a.i = some z := by rw [zX _ _ (Ne.symm hdi)]; exact hi
 have hd' : updA m.at a.d (some { xd with e := lcut a.m xd.e }) a.d = some { xd with e := lcut a.m xd.e } := zW _ _ _
 have hr0 : refs a.i (lcut (keyH 69 a.d ++ a.m) s.shown.row) = 0 := by
  have := R1.one _ z hi' hk
  unfold z0 at this
  rw [if_neg hi1, if_pos rfl] at this
  omega
 have e73 : keyH 73 a.i = keyH 73 a.i ++ [] := by simp
 have R2 := R1.drop (l' := lcut (keyH 73 a.i) (lcut (keyH 69 a.d ++ a.m) s.shown.row)) hi' hi1 he hr0 (yC R1.ri)
  (fun j hj => by
   rw [get73, e73, zC9 L73 L73 hj hiu.1]
   by_cases e : j = a.i
   ·rw [if_pos ⟨rfl, e, rfl⟩, if_pos e]
   ·rw [if_neg (fun q => e q.2.1), if_neg e, ← get73])
  (fun j hj => by rw [e73, zAc L69 L73 hj hiu.1 R1.ri, if_neg (fun q => by have := q.1; omega)])
  (fun j hj => by
   rw [e73, zAc L68 L73 hj hiu.1 R1.ri, if_neg (fun q => by have := q.1; omega)]
   split
   ·rename_i e; rw [e, R1.blk _ z hi', hzb]; exact zKx
   ·rfl)
  (fun j => by rw [e73]; exact zBd (.inl rfl) R1.ri j _)
  (fun y hy => (zBm.1 hy).1)
 have hd2 : updA (updA m.at a.d (some { xd with e := lcut a.m xd.e })) a.i none a.d = some { xd with e := lcut a.m xd.e } := by rw [zX _ _ hdi]; exact hd'
 have hn3 : 3 ≤ xd.n := by
  have g := R2.lkd _ _ hd2 hkd
  unfold z0 at g
  dsimp only at g
  rw [if_neg hdi, if_pos ⟨rfl, hk⟩] at g
  omega
 have R3 := R2.links (b := -1) hd2 hkd (by dsimp only; omega) (by dsimp only; unfold U32; omega) hmay.2.2.2
 dsimp only at R3
 have hnd := R2.nod _ _ hd2
 dsimp only at hnd
 have hsh : (s.rngE a.i).shown = s.shown := by unfold VS.rngE VS.range; split <;> rfl
 have hv1 : VJ (s.rngE a.i) (n + 1) := h.rngE a.i
 generalize s.rngE a.i = s1 at hsh hv1
 generalize hs2 : s1.del (entryK a.d a.m) = s2
 generalize hs3 : s2.del (keyH 73 a.i) = s3
 have hv2 : VJ s2 (n + 1 + 1) := hs2 ▸ hv1.del _
 have hv3 : VJ s3 (n + 1 + 1 + 1) := hs3 ▸ hv2.del _
 rcases first2 (qV [s1.room (entryK a.d a.m), s2.room (keyH 73 a.i)]) (show s3.linksE a.d = 21 ∨ s3.linksE a.d = 0 from qV _) with ef | ⟨ef, ef1, ef2⟩
 ·exact .inl ef
 rcases full2 (s1.room (entryK a.d a.m)) (s2.room (keyH 73 a.i)) with eg | ⟨_, hr1, hr2⟩
 ·rw [eg] at ef1; cases ef1
 have hr3 := zDa ef2
 have row2 : s2.shown.row = lcut (keyH 69 a.d ++ a.m) s.shown.row := by rw [← hs2, zCe hv1 hr1, hen, hsh]
 have row3 : s3.shown.row = lcut (keyH 73 a.i) s2.shown.row := by rw [← hs3, zCe hv2 hr2]
 rw [row2] at row3
 rw [← row3] at hnd
 have row4 := zDn hv3 hr3 (b := -1) hnd (by unfold U32; omega)
 have hbl : (xd.b.length : Int) = 0 := by rw [hb]; rfl
 rw [hkd, hbl] at row4
 rw [← row3, ← row4] at R3
 have hat : (((m.without a.i).linked a.d (-1)).named a.d a.m 0).at = updA (updA m.at a.i none) a.d (some { xd with n := xd.n + -1, e := lcut a.m xd.e }) := by
  have e1 := zG1 m a.i
  have e2 := qQ (m.without a.i) a.d (-1) (x := xd) (by rw [e1, zX _ _ hdi]; exact hd)
  rw [e1] at e2
  rw [jO _ a.d a.m 0 (x := { xd with n := xd.n + -1 }) (by rw [e2]; exact zW _ _ _), e2, zJ7, zA5]
 refine .inr ⟨ef, R3.toM ?_ (((MF.uq.without R.fst _).linked _ _).named _ _ _) (fun j => ?_) (fun j => ?_), fun _ => ⟨hk, he, hat⟩⟩
 ·rw [hat, zD0 _ hdi, zA5]
 ·unfold z0
  by_cases e : j = a.i
  ·rw [if_pos e]
  ·rw [if_neg e, if_neg (Ne.symm e)]; rfl
 ·unfold z0
  by_cases e : j = a.d
  ·subst e
   have e1 : (if a.d = a.d ∧ z.k = 2 then (1 : Int) else 0) = 1 := if_pos ⟨rfl, hk⟩
   have e2 : (if a.d = a.d then (-1 : Int) else 0) = -1 := if_pos rfl
   rw [e1, e2, if_neg hdi]; rfl
  ·have e1 : (if a.d = j ∧ z.k = 2 then (1 : Int) else 0) = 0 := if_neg fun q => e q.1.symm
   have e2 : (if j = a.d then (-1 : Int) else 0) = 0 := if_neg e
   rw [e1, e2]; split <;> rfl
def cutF (R l : List KV) : List KV := R.foldl (fun l x => lcut x.1 l) l
theorem zHf (x : KV) (R l : List KV) : cutF (x :: R) l = cutF R (lcut x.1 l) := rfl
theorem zH9 : ∀ (R : List KV) {l : List KV}, Rises l → Rises (cutF R l)
 | [], _, h => h
 | _x :: R, _, h => zH9 R (yC h)
theorem zJr : ∀ {R l : List KV} {y : KV}, y ∈ cutF R l → y ∈ l ∧ ∀ x ∈ R, x.1 ≠ y.1
 | [], _, _, h => ⟨h, by simp⟩
 | x :: R, l, y, h => by
  obtain ⟨h1, h2⟩ := zJr (R := R) h
  obtain ⟨h3, h4⟩ := zBm.1 h1
  refine ⟨h3, fun z hz => ?_⟩
  rcases List.mem_cons.1 hz with rfl | hz
  ·exact fun e => h4 e.symm
  ·exact h2 z hz
def Blk (i : Int) (R : List KV) : Prop := ∀ x ∈ R, ∃ r, x.1 = keyH 68 i ++ r
theorem Blk.tl {i : Int} {x : KV} {R : List KV} (h : Blk i (x :: R)) : Blk i R := fun y hy => h y (List.mem_cons_of_mem _ hy)
theorem zP6 {i : Int} (hi : U32 i) {c j : Int} (hc : c = 73 ∨ c = 69) (hj : U32 j) (r : List UInt8) : ∀ (R : List KV) {l : List KV}, Blk i R → lget (keyH c j ++ r) (cutF R l) = lget (keyH c j ++ r) l
 | [], _, _ => rfl
 | x :: R, l, hb => by
  obtain ⟨q, hq⟩ := hb x List.mem_cons_self
  have hc8 : L8 c := by unfold L8; omega
  rw [zHf, zP6 hi hc hj r R hb.tl, hq, zC9 hc8 L68 hj hi, if_neg (fun e => by have := e.1; omega)]
theorem zKd {i : Int} (hi : U32 i) {c j : Int} (hc : c = 69 ∨ (c = 68 ∧ j ≠ i)) (hj : U32 j) : ∀ (R : List KV) {l : List KV}, Rises l → Blk i R → subL c j (cutF R l) = subL c j l
 | [], _, _, _ => rfl
 | x :: R, l, h, hb => by
  obtain ⟨q, hq⟩ := hb x List.mem_cons_self
  have hc8 : L8 c := by unfold L8; omega
  rw [zHf, zKd hi hc hj R (yC h) hb.tl, hq, zAc hc8 L68 hj hi h, if_neg (fun e => by omega)]
theorem zLi {i : Int} (j : Int) : ∀ (R : List KV) {l : List KV}, Rises l → Blk i R → refs j (cutF R l) = refs j l
 | [], _, _, _ => rfl
 | x :: R, l, h, hb => by
  obtain ⟨q, hq⟩ := hb x List.mem_cons_self
  rw [zHf, zLi j R (yC h) hb.tl, hq, zBd (.inr rfl) h]
theorem zLj : ∀ (R : List KV) {s : VS} {n : Nat} (e : Int), VJ s n → (e = 21 ∨ e = 0) → ((s.cutsL R e).1 = 21) ∨ ((s.cutsL R e).1 = 0 ∧ e = 0 ∧ (s.cutsL R e).2.shown.row = cutF R s.shown.row)
 | [], s, n, e, h, he => by
  rcases he with he | he
  ·exact .inl he
  ·exact .inr ⟨he, he, rfl⟩
 | x :: R, s, n, e, h, he => by
  have he2 := first2 he (qV [s.room x.1])
  have ih := zLj R (firstE [e, fullE [s.room x.1]]) (h.del x.1) (he2.imp_right (·.1))
  show (VS.cutsL (s.del x.1) R (firstE [e, fullE [s.room x.1]])).1 = 21 ∨ _
  refine ih.imp_right fun g => ?_
  obtain ⟨g1, g2, g3⟩ := g
  rcases he2 with e2 | ⟨_, e2, e3⟩
  ·rw [e2] at g2; cases g2
  rcases full1 (s.room x.1) with e4 | ⟨_, hr⟩
  ·rw [e4] at e3; cases e3
  refine ⟨g1, e2, ?_⟩
  show (VS.cutsL (s.del x.1) R (firstE [e, fullE [s.room x.1]])).2.shown.row = _
  rw [g3, zCe h hr]; rfl
theorem blockK_0 (i : Int) : blockK i 0 = keyH 68 i ++ beB 2 0 := by unfold blockK; rw [if_neg (by omega)]
theorem zJx {s : VS} {n : Nat} (h : VJ s n) (i : Int) : s.blkR i = s.shown.row.filter fun x => (decide (keyH 68 i <+: x.1) && !Op.bytesLess x.1 (keyH 68 i ++ beB 2 0)) := by
 unfold VS.blkR VS.rangeR
 rw [blockK_0, if_pos, zCf _ _ _ h.rs]
 ·unfold lrange
  congr 1
  funext x
  exact zSk i 0 (by omega) x.1
 ·exact ((zGq (zEv 68 i (by decide)) _).2 (List.prefix_append _ _)).2
theorem blkR_blk {s : VS} {n : Nat} (h : VJ s n) (i : Int) : Blk i (s.blkR i) := fun x hx => by
 rw [zJx h] at hx
 have h2 := (List.mem_filter.1 hx).2
 rw [Bool.and_eq_true, decide_eq_true_eq] at h2
 obtain ⟨r, hr⟩ := h2.1
 exact ⟨r, hr.symm⟩
theorem blkR_in {s : VS} {n : Nat} (h : VJ s n) (i : Int) {j : Int} (hj : 0 ≤ j ∧ j ≤ 65535) {v : List UInt8} (hm : (keyH 68 i ++ beB 2 j, v) ∈ s.shown.row) : (keyH 68 i ++ beB 2 j, v) ∈ s.blkR i := by
 rw [zJx h]
 refine List.mem_filter.2 ⟨hm, ?_⟩
 dsimp only
 rw [zGf, zPn _ _ hj (by omega), Bool.and_eq_true, decide_eq_true_eq]
 exact ⟨List.prefix_append _ _, by simp; omega⟩
theorem blkR_len {s : VS} {n : Nat} (h : VJ s n) (i : Int) : (s.blkR i).length ≤ (subL 68 i s.shown.row).length := by
 rw [zJx h]
 unfold subL
 rw [List.length_map, ← List.countP_eq_length_filter, ← List.countP_eq_length_filter]
 refine List.countP_mono_left fun x _ hx => ?_
 rw [Bool.and_eq_true] at hx
 exact hx.1
theorem zK4 {b : List UInt8} {y : KV} (h : y ∈ blkOf b) : ∃ j : Int, 0 ≤ j ∧ j < (b.length + 63) / 64 ∧ y.1 = beB 2 j := by
 unfold blkOf at h
 obtain ⟨n, hn, hy⟩ := List.mem_filterMap.1 h
 have hn := List.mem_range.1 hn
 split at hy
 ·cases hy
 ·injection hy with hy
  exact ⟨n, by omega, by omega, by rw [← hy]⟩
theorem zUc (b : List UInt8) : (blkOf b).length ≤ (b.length + 63) / 64 := by
 unfold blkOf
 have := List.length_filterMap_le (fun n : Nat => if trim0 ((b.drop (64 * n)).take 64) = [] then none else some (beB 2 (n : Int), trim0 ((b.drop (64 * n)).take 64))) (List.range ((b.length + 63) / 64))
 rw [List.length_range] at this
 exact this
theorem zFj {k n s p : Int} (h : mayB k n s p = true) : s ≤ 4096 := by
 unfold mayB at h
 split at h
 ·simp only [Bool.and_eq_true, decide_eq_true_eq] at h; omega
 ·split at h
  ·simp only [Bool.and_eq_true, decide_eq_true_eq] at h; omega
  ·cases h
theorem zGw {s : VS} {n : Nat} (h : VJ s n) {m : MF} {par : Int → Int} (R : Rel s.shown.row m par) {a : Sp} {xd z : MN} (hs : InD m par a.d a.m a.i xd z) (han : a.n = (z.k, z.n, (z.b.length : Int), par a.i)) (b : MS) (hb1 : b.d = a.d) (hb2 : b.m = a.m) (hb3 : b.i = a.i) :
  (s.unlinks a).1 = 21 ∨ ((s.unlinks a).1 = (m.unl b).1 ∧ Rel (s.unlinks a).2.shown.row (m.unl b).2 par ∧ ((m.unl b).1 = 0 → z.k = 1 ∧ (m.unl b).2.at = updA (updA m.at a.i (if z.n = 1 then none else some { z with n := z.n + -1 })) a.d (some { xd with e := lcut a.m xd.e }))) := by
 obtain ⟨hd, hkd, hnm, hg, hi, hi1, hi0, hp⟩ := hs
 unfold VS.unlinks MF.unl
 dsimp only
 rw [hb3, hb1, hb2, hi, han]
 dsimp only
 by_cases hk : z.k = 2
 ·rw [if_pos hk, if_pos hk]; exact .inr ⟨rfl, R, fun e => by cases e⟩
 rw [if_neg hk, if_neg hk]
 have hk : z.k = 1 := (k12 R.toA hi).resolve_right hk
 have hdi : a.d ≠ a.i := fun e => by rw [e, hi] at hd; cases hd; omega
 have hdu := R.u _ _ hd
 have hiu := R.u _ _ hi
 have hen := zCc (d := a.d) (jL hnm)
 have hmay := R.may hi
 have hz2 : z.e = [] ∧ par a.i = 0 := by
  rcases R.kin _ z hi with q | q
  ·have := q.1; omega
  ·exact q.2
 have R1 := R.toA.unhang hd hkd hg hi
 have hi' : updA m.at a.d (some { xd with e := lcut a.m xd.e }) a.i = some z := by rw [zX _ _ (Ne.symm hdi)]; exact hi
 have hd' : updA m.at a.d (some { xd with e := lcut a.m xd.e }) a.d = some { xd with e := lcut a.m xd.e } := zW _ _ _
 generalize hs1 : s.del (entryK a.d a.m) = s1
 have hv1 : VJ s1 (n + 1) := hs1 ▸ h.del _
 have hq : MF.uq m := R.fst
 have hzn : (1 : Int) ≤ z.n := by
  have hl : lget (keyH 69 a.d ++ a.m) s.shown.row = some (beB 4 a.i) := by rw [← qW R.ri, ← R.ent _ _ hd]; exact hg
  have hmem := (z5 R.ri).1 hl
  have : 0 < refs a.i s.shown.row := List.countP_pos_iff.2 ⟨_, hmem, by rw [j4]; simp⟩
  have := R.lkf _ z hi hk
  omega
 by_cases hn1 : z.n > 1
 ·rw [if_pos hn1, if_neg (show ¬ z.n = 1 by omega), if_neg (show ¬ z.n = 1 by omega)]
  have hw : IntKind.u32.wrap (z.n + -1) = z.n + -1 := zC2 _ (by have := hmay.2.1; unfold U32 at this; omega)
  have hnd : linkN (z.k, z.n, (z.b.length : Int), par a.i) (-1) = (z.k, z.n + -1, (z.b.length : Int), par a.i) := by unfold linkN; dsimp only; rw [hw]
  rw [hnd]
  rcases first2 (qV [s.room (entryK a.d a.m)]) (qV [s1.room (keyH 73 a.i)]) with ef | ⟨ef, ef1, ef2⟩
  ·exact .inl ef
  rcases full1 (s.room (entryK a.d a.m)) with e4 | ⟨_, hr1⟩
  ·rw [e4] at ef1; cases ef1
  rcases full1 (s1.room (keyH 73 a.i)) with e4 | ⟨_, hr2⟩
  ·rw [e4] at ef2; cases ef2
  have row1 : s1.shown.row = lcut (keyH 69 a.d ++ a.m) s.shown.row := by rw [← hs1, zCe h hr1, hen]
  have row2 : (s1.save a.i (z.k, z.n + -1, (z.b.length : Int), par a.i)).shown.row = _ := zAr hv1 hr2
  dsimp only at row2
  have hm2 : mayB z.k (z.n + -1) (z.b.length : Int) (par a.i) = true := by
   have h1 := hmay.1
   unfold mayB at h1 ⊢
   rw [if_pos hk] at h1 ⊢
   simp only [Bool.and_eq_true, decide_eq_true_eq] at h1 ⊢
   omega
  have R2 := R1.save hi' (z.n + -1) (par a.i) hm2 (by have := hmay.2.1; unfold U32 at this ⊢; omega) hmay.2.2.1 hmay.2.2.2 (fun e => absurd e hi1) (fun _ => hz2.2) (fun _ => .inl rfl)
  rw [← row1, ← row2] at R2
  have e1 : (fun j => if j = a.i then par a.i else par j) = par := by
   funext j; split
   ·rename_i e; rw [e]
   ·rfl
  rw [e1] at R2
  have hat : ((m.linked a.i (-1)).named a.d a.m 0).at = updA (updA m.at a.i (some { z with n := z.n + -1 })) a.d (some { xd with e := lcut a.m xd.e }) := by
   have e1 := qQ m a.i (-1) hi
   rw [jO _ a.d a.m 0 (x := xd) (by rw [e1, zX _ _ hdi]; exact hd), e1, zJ7]
  refine .inr ⟨ef, R2.toM ?_ ((hq.linked _ _).named _ _ _) (fun j => ?_) (fun j => ?_), fun _ => ⟨hk, hat⟩⟩
  ·rw [hat, zD0 _ (Ne.symm hdi)]
  ·unfold z0
   by_cases e : j = a.i
   ·have e1 : (if a.i = j then (1 : Int) else 0) = 1 := if_pos e.symm
    rw [e1, if_pos ⟨e, hk⟩]; omega
   ·have e1 : (if a.i = j then (1 : Int) else 0) = 0 := if_neg (Ne.symm e)
    rw [e1, if_neg (fun q => e q.1)]; omega
  ·unfold z0
   have e1 : (if a.d = j ∧ z.k = 2 then (1 : Int) else 0) = 0 := if_neg fun q => by have := q.2; omega
   rw [e1, if_neg (fun q => by have := q.2; omega)]; omega
 ·have hn1 : z.n = 1 := by omega
  rw [if_neg (by omega), if_pos hn1, if_pos hn1]
  have hr0 : refs a.i (lcut (keyH 69 a.d ++ a.m) s.shown.row) = 0 := by
   have := R1.lkf _ z hi' hk
   unfold z0 at this
   rw [if_pos rfl] at this
   omega
  have hsh : (s1.rngB a.i).shown = s1.shown := by unfold VS.rngB VS.range; split <;> rfl
  have hv2 : VJ (s1.rngB a.i) (n + 1 + 1) := hv1.range _ _
  have hB := blkR_blk hv1 a.i
  have hBi : ∀ {j : Int} {v : List UInt8}, 0 ≤ j ∧ j ≤ 65535 → (keyH 68 a.i ++ beB 2 j, v) ∈ s1.shown.row → (keyH 68 a.i ++ beB 2 j, v) ∈ s1.blkR a.i := fun hj hm => blkR_in hv1 a.i hj hm
  generalize hR : s1.blkR a.i = RR at hB hBi
  have hc := zLj RR (fullE [s.room (entryK a.d a.m)]) hv2 (qV _)
  generalize hq2 : (s1.rngB a.i).cutsL RR (fullE [s.room (entryK a.d a.m)]) = q at hc
  have hv3 : VJ q.2 (n + 1 + 1 + RR.length) := by rw [← hq2]; exact zCl _ _ hv2
  have hq01 : q.1 = 21 ∨ q.1 = 0 := hc.imp_right (·.1)
  rcases first2 hq01 (qV [q.2.room (keyH 73 a.i)]) with ef | ⟨ef, ef1, ef2⟩
  ·exact .inl ef
  rcases hc with hc | ⟨_, ef3, hrow⟩
  ·rw [ef1] at hc; cases hc
  rcases full1 (s.room (entryK a.d a.m)) with e4 | ⟨_, hr1⟩
  ·rw [e4] at ef3; cases ef3
  rcases full1 (q.2.room (keyH 73 a.i)) with e4 | ⟨_, hr2⟩
  ·rw [e4] at ef2; cases ef2
  have row1 : s1.shown.row = lcut (keyH 69 a.d ++ a.m) s.shown.row := by rw [← hs1, zCe h hr1, hen]
  have row3 : (q.2.del (keyH 73 a.i)).shown.row = lcut (keyH 73 a.i) (cutF RR s1.shown.row) := by rw [zCe hv3 hr2, hrow, hsh]
  rw [← row1] at R1 hr0
  have hri := zH9 RR R1.ri
  have e73 : keyH 73 a.i = keyH 73 a.i ++ [] := by simp
  have R2 := R1.drop (l' := lcut (keyH 73 a.i) (cutF RR s1.shown.row)) hi' hi1 hz2.1 hr0 (yC hri)
   (fun j hj => by
    rw [get73, e73, zC9 L73 L73 hj hiu.1]
    by_cases e : j = a.i
    ·rw [if_pos ⟨rfl, e, rfl⟩, if_pos e]
    ·rw [if_neg (fun q => e q.2.1), if_neg e, zP6 hiu.1 (.inl rfl) hj _ _ hB, ← get73])
   (fun j hj => by rw [e73, zAc L69 L73 hj hiu.1 hri, if_neg (fun q => by have := q.1; omega), zKd hiu.1 (.inl rfl) hj _ R1.ri hB])
   (fun j hj => by
    rw [e73, zAc L68 L73 hj hiu.1 hri, if_neg (fun q => by have := q.1; omega)]
    by_cases e : j = a.i
    ·rw [if_pos e, e]
     refine List.eq_nil_iff_forall_not_mem.2 fun y hy => ?_
     have hy : (y.1, y.2) ∈ subL 68 a.i (cutF RR s1.shown.row) := hy
     obtain ⟨h1, h2⟩ := zJr (qE.1 hy)
     have h3 := qE.2 h1
     rw [R1.blk _ z hi'] at h3
     obtain ⟨j, g1, g2, g3⟩ := zK4 h3
     dsimp only at g3
     have g4 := zFj hmay.1
     rw [g3] at h1 h2
     exact h2 _ (hBi ⟨g1, by omega⟩ h1) rfl
    ·rw [if_neg e, zKd hiu.1 (.inr ⟨rfl, e⟩) hj _ R1.ri hB])
   (fun j => by rw [e73, zBd (.inl rfl) hri j _, zLi j _ R1.ri hB])
   (fun y hy => (zJr (zBm.1 hy).1).1)
  rw [← row3] at R2
  have hat : ((m.without a.i).named a.d a.m 0).at = updA (updA m.at a.i none) a.d (some { xd with e := lcut a.m xd.e }) := by
   have e1 := zG1 m a.i
   rw [jO _ a.d a.m 0 (x := xd) (by rw [e1, zX _ _ hdi]; exact hd), e1, zJ7]
  refine .inr ⟨ef, R2.toM ?_ ((hq.without _).named _ _ _) (fun j => ?_) (fun j => ?_), fun _ => ⟨hk, hat⟩⟩
  ·rw [hat, zD0 _ (Ne.symm hdi)]
  ·unfold z0
   by_cases e : j = a.i
   ·rw [if_pos e]
   ·rw [if_neg e, if_neg (Ne.symm e)]; rfl
  ·unfold z0
   have e1 : (if a.d = j ∧ z.k = 2 then (1 : Int) else 0) = 0 := if_neg fun q => by have := q.2; omega
   rw [e1]; split <;> rfl
end Go.Proofs.YtdnpkgakpiopgaaGreatDoor

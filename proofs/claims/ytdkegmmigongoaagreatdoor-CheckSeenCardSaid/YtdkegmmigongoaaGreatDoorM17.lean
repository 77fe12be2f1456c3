import Derived.Test.YtdkegmmigongoaaGreatDoorGo
import Derived.Test.YtdkegmmigongoaaGreatDoorM16
import Derived.Test.YtdkegmmigongoaaGreatDoorM12
namespace Go.Proofs.YtdkegmmigongoaaGreatDoor
set_option maxRecDepth 20000
open Go.Awp Tr
theorem ofNat69 {c : Int} (hc : L8 c) (h : (UInt8.ofNat c.toNat == 69) = true) : c = 69 := by
 have h1 : UInt8.ofNat c.toNat = 69 := by simpa using h
 have h2 := congrArg UInt8.toNat h1
 simp at h2
 omega
theorem RelA.refs0 {l : List KV} {A : Nods} {par df ds : Int → Int} (R : RelA l A par df ds) {i : Int} (hiu : U32 i) (hi : A i = none) : refs i l = 0 := by
 unfold refs
 rw [List.countP_eq_zero]
 intro y hy hb
 obtain ⟨c, j, r, hc, hj, hk⟩ := R.key y hy
 unfold refB at hb
 rw [Bool.and_eq_true, hk, head_key] at hb
 have hc8 : L8 c := by unfold L8; omega
 obtain rfl := ofNat69 hc8 hb.1
 have hv : y.2 = beB 4 i := by simpa using hb.2
 have hm : (r, y.2) ∈ subL 69 j l := sub_mem.2 (by rw [← hk]; exact hy)
 cases hA : A j with
 | none => rw [R.eno j hj hA] at hm; cases hm
 | some x =>
  rw [← R.ent j x hA] at hm
  obtain ⟨c, z, h1, h2, _, h4⟩ := R.val hA hm
  dsimp only at h1
  rw [hv] at h1
  have := (be4_inj hiu h4).1 h1
  subst this
  rw [hi] at h2
  cases h2
theorem kindA_ne {A : Nods} {i j : Int} (x : Option MN) (h : j ≠ i) : kindA (updA A i x) j = kindA A j := by unfold kindA; rw [updA_ne _ _ h]
theorem RelA.make {l : List KV} {A : Nods} {par df ds : Int → Int} (R : RelA l A par df ds) {i k p : Int} (hiu : U32 i) (hi0 : i ≠ 0) (hi : A i = none) (hk : k = 1 ∧ p = 0 ∨ k = 2 ∧ U32 p) :
  RelA (lset (keyH 73 i) (nodeB k k 0 p) l) (updA A i (some ⟨i, k, k, [], []⟩)) (fun j => if j = i then p else par j) (fun j => if j = i then -1 else df j) (fun j => if j = i then 0 else ds j) := by
 have hri : Rises (lset (keyH 73 i) (nodeB k k 0 p) l) := lset_rises R.ri
 have hr0 := R.refs0 hiu hi
 have hi1 : i ≠ 1 := fun e => by
  obtain ⟨x, h1, _⟩ := R.root
  rw [e] at hi; rw [hi] at h1; cases h1
 have hold : ∀ {j : Int} {y : MN}, updA A i (some ⟨i, k, k, [], []⟩) j = some y → (j = i ∧ y = ⟨i, k, k, [], []⟩) ∨ (j ≠ i ∧ A j = some y) := fun {j y} h => by
  by_cases e : j = i
  ·subst e; rw [updA_same] at h; exact .inl ⟨rfl, (Option.some.inj h).symm⟩
  ·rw [updA_ne _ _ e] at h; exact .inr ⟨e, h⟩
 have hne : ∀ {c : Int} {w : MN}, A c = some w → c ≠ i := fun {c w} hw e => by rw [e, hi] at hw; cases hw
 have hnone : ∀ {c : Int}, updA A i (some ⟨i, k, k, [], []⟩) c = none → A c = none ∧ c ≠ i := fun {c} h => by
  by_cases e : c = i
  ·subst e; rw [updA_same] at h; cases h
  ·rw [updA_ne _ _ e] at h; exact ⟨h, e⟩
 have hsu : ∀ {j : Int} {y : MN}, A j = some y → subsA (updA A i (some ⟨i, k, k, [], []⟩)) y.e = subsA A y.e := fun {j y} hy => subsA_congr fun w hw => by
  obtain ⟨c, z, h1, h2, _, h4⟩ := R.val hy hw
  rw [h1, beV_be4 c h4]
  exact kindA_ne _ (hne h2)
 have e73 : keyH 73 i = keyH 73 i ++ [] := (List.append_nil _).symm
 have h73 : ∀ j, U32 j → lget (keyH 73 j) (lset (keyH 73 i) (nodeB k k 0 p) l) = if j = i then some (nodeB k k 0 p) else lget (keyH 73 j) l := fun j hj => by
  rw [get73, e73, get_set L73 L73 hj hiu R.ri]
  by_cases e : j = i
  ·rw [if_pos ⟨rfl, e, rfl⟩, if_pos e]
  ·rw [if_neg (fun q => e q.2.1), if_neg e, ← get73]
 have h69 : ∀ j, U32 j → subL 69 j (lset (keyH 73 i) (nodeB k k 0 p) l) = subL 69 j l := fun j hj => by
  rw [e73, sub_set L69 L73 hj hiu R.ri, if_neg (fun q => by have := q.1; omega)]
 have h68 : ∀ j, U32 j → subL 68 j (lset (keyH 73 i) (nodeB k k 0 p) l) = subL 68 j l := fun j hj => by
  rw [e73, sub_set L68 L73 hj hiu R.ri, if_neg (fun q => by have := q.1; omega)]
 have hrf : ∀ j, refs j (lset (keyH 73 i) (nodeB k k 0 p) l) = refs j l := fun j => by
  rw [e73]; exact refs_set_no (.inl rfl) R.ri j [] _
 refine ⟨hri, fun j y h => ?_, fun j y h => ?_, ?_, ?_, fun j y h => ?_, fun j hj h => ?_, fun j y h => ?_, fun j hj h => ?_, fun j y h => ?_, fun j hj h => ?_, fun j y h nm' v hv => ?_, fun j y h => ?_, fun j y h hk' => ?_, fun j y h hk' => ?_, fun j y h hk' => ?_, fun y hy => ?_⟩
 ·rcases hold h with ⟨rfl, rfl⟩ | ⟨_, h⟩
  ·rfl
  ·exact R.id j y h
 ·rcases hold h with ⟨rfl, rfl⟩ | ⟨_, h⟩
  ·exact ⟨hiu, hi0⟩
  ·exact R.u j y h
 ·obtain ⟨y, g1, g2⟩ := R.root
  exact ⟨y, by rw [updA_ne _ _ (Ne.symm hi1)]; exact g1, g2⟩
 ·rw [if_neg (Ne.symm hi1)]; exact R.rpar
 ·rcases hold h with ⟨rfl, rfl⟩ | ⟨hn, h⟩
  ·rw [h73 j hiu, if_pos rfl, if_pos rfl]
   rcases hk with ⟨rfl, rfl⟩ | ⟨rfl, hp⟩
   ·exact ndOf_node rfl (by decide) (by decide) (by decide) (by decide)
   ·exact ndOf_node rfl (by decide) (by decide) (by decide) hp
  ·rw [h73 j (R.u j y h).1, if_neg hn, if_neg hn]; exact R.nod j y h
 ·rw [h73 j hj, if_neg (hnone h).2]; exact R.non j hj (hnone h).1
 ·rcases hold h with ⟨rfl, rfl⟩ | ⟨_, h⟩
  ·rw [h69 j hiu]; exact (R.eno j hiu hi).symm
  ·rw [h69 j (R.u j y h).1]; exact R.ent j y h
 ·rw [h69 j hj]; exact R.eno j hj (hnone h).1
 ·rcases hold h with ⟨rfl, rfl⟩ | ⟨_, h⟩
  ·rw [h68 j hiu, R.bno j hiu hi]; exact blkOf_nil.symm
  ·rw [h68 j (R.u j y h).1]; exact R.blk j y h
 ·rw [h68 j hj]; exact R.bno j hj (hnone h).1
 ·rcases hold h with ⟨rfl, rfl⟩ | ⟨_, h⟩
  ·cases hv
  ·obtain ⟨g1, c, w, g2, g3, g4, g5⟩ := R.nam j y h nm' v hv
   exact ⟨g1, c, w, g2, by rw [updA_ne _ _ (hne g3)]; exact g3, g4, fun q => by rw [if_neg (hne g3)]; exact g5 q⟩
 ·rcases hold h with ⟨rfl, rfl⟩ | ⟨hn, h⟩
  ·rcases hk with ⟨rfl, rfl⟩ | ⟨rfl, hp⟩
   ·exact .inr ⟨rfl, rfl, if_pos rfl⟩
   ·exact .inl ⟨rfl, rfl⟩
  ·rw [if_neg hn]; exact R.kin j y h
 ·rw [hrf]
  rcases hold h with ⟨rfl, rfl⟩ | ⟨hn, h⟩
  ·have hk' : k = 1 := hk'
   rw [if_pos rfl, hr0]
   dsimp only; omega
  ·rw [if_neg hn]; exact R.lkf j y h hk'
 ·rcases hold h with ⟨rfl, rfl⟩ | ⟨hn, h⟩
  ·have hk' : k = 2 := hk'
   rw [if_pos rfl]
   show k + 0 = 2 + ((0 : Nat) : Int)
   omega
  ·rw [if_neg hn, hsu h]; exact R.lkd j y h hk'
 ·rw [hrf]
  rcases hold h with ⟨rfl, rfl⟩ | ⟨hn, h⟩
  ·rw [if_neg hi1, if_pos rfl, hr0]; omega
  ·rw [if_neg hn]
   exact R.one j y h hk'
 ·rcases lset_mem hy with rfl | hy
  ·exact ⟨73, i, [], .inl ⟨rfl, rfl⟩, hiu, e73⟩
  ·exact R.key y hy
theorem RelA.drop {l l' : List KV} {A : Nods} {par df ds : Int → Int} (R : RelA l A par df ds) {i : Int} {x : MN} (hi : A i = some x) (hi1 : i ≠ 1) (he : x.e = []) (hr0 : refs i l = 0) (hri : Rises l')
  (h73 : ∀ j, U32 j → lget (keyH 73 j) l' = if j = i then none else lget (keyH 73 j) l) (h69 : ∀ j, U32 j → subL 69 j l' = subL 69 j l) (h68 : ∀ j, U32 j → subL 68 j l' = if j = i then [] else subL 68 j l) (hrf : ∀ j, refs j l' = refs j l) (hkey : ∀ y ∈ l', y ∈ l) :
  RelA l' (updA A i none) par (fun j => if j = i then 0 else df j) (fun j => if j = i then 0 else ds j) := by
 have hiu := (R.u i x hi).1
 have hold : ∀ {j : Int} {y : MN}, updA A i none j = some y → j ≠ i ∧ A j = some y := fun {j y} h => by
  by_cases e : j = i
  ·subst e; rw [updA_same] at h; cases h
  ·rw [updA_ne _ _ e] at h; exact ⟨e, h⟩
 have hnone : ∀ {c : Int}, updA A i none c = none → c = i ∨ (c ≠ i ∧ A c = none) := fun {c} h => by
  by_cases e : c = i
  ·exact .inl e
  ·rw [updA_ne _ _ e] at h; exact .inr ⟨e, h⟩
 have hnm : ∀ {j : Int} {y : MN}, A j = some y → ∀ nm v, lget nm y.e = some v → v ≠ beB 4 i := fun {j y} hy nm v hv e => by
  have hl : lget (keyH 69 j ++ nm) l = some v := by rw [← sub_get R.ri, ← R.ent j y hy]; exact hv
  have hmem := (lget_some R.ri).1 hl
  have : 0 < refs i l := List.countP_pos_iff.2 ⟨_, hmem, by rw [refB_ent, e]; simp⟩
  omega
 have hne : ∀ {j : Int} {y : MN}, A j = some y → ∀ w ∈ y.e, ∃ c z, w.2 = beB 4 c ∧ A c = some z ∧ U32 c ∧ c ≠ i := fun {j y} hy w hw => by
  have hr : Rises y.e := by rw [R.ent j y hy]; exact sub_rises R.ri
  obtain ⟨c, z, h1, h2, _, h4⟩ := R.val hy hw
  exact ⟨c, z, h1, h2, h4, fun e => hnm hy w.1 w.2 ((lget_some hr).2 hw) (by rw [h1, e])⟩
 have hsu : ∀ {j : Int} {y : MN}, A j = some y → subsA (updA A i none) y.e = subsA A y.e := fun {j y} hy => subsA_congr fun w hw => by
  obtain ⟨c, z, h1, h2, h4, h5⟩ := hne hy w hw
  rw [h1, beV_be4 c h4]
  exact kindA_ne _ h5
 refine ⟨hri, fun j y h => R.id j y (hold h).2, fun j y h => R.u j y (hold h).2, ?_, R.rpar, fun j y h => ?_, fun j hj h => ?_, fun j y h => ?_, fun j hj h => ?_, fun j y h => ?_, fun j hj h => ?_, fun j y h nm' v hv => ?_, fun j y h => R.kin j y (hold h).2, fun j y h hk' => ?_, fun j y h hk' => ?_, fun j y h hk' => ?_, fun y hy => R.key y (hkey y hy)⟩
 ·obtain ⟨y, g1, g2⟩ := R.root
  exact ⟨y, by rw [updA_ne _ _ (Ne.symm hi1)]; exact g1, g2⟩
 ·obtain ⟨hn, h⟩ := hold h
  rw [h73 j (R.u j y h).1, if_neg hn]; exact R.nod j y h
 ·rw [h73 j hj]
  rcases hnone h with rfl | ⟨hn, h⟩
  ·rw [if_pos rfl]
  ·rw [if_neg hn]; exact R.non j hj h
 ·obtain ⟨hn, h⟩ := hold h
  rw [h69 j (R.u j y h).1]; exact R.ent j y h
 ·rw [h69 j hj]
  rcases hnone h with rfl | ⟨hn, h⟩
  ·rw [← R.ent j x hi]; exact he
  ·exact R.eno j hj h
 ·obtain ⟨hn, h⟩ := hold h
  rw [h68 j (R.u j y h).1, if_neg hn]; exact R.blk j y h
 ·rw [h68 j hj]
  rcases hnone h with rfl | ⟨hn, h⟩
  ·rw [if_pos rfl]
  ·rw [if_neg hn]; exact R.bno j hj h
 ·obtain ⟨hn, h⟩ := hold h
  obtain ⟨g1, c, w, g2, g3, g4, g5⟩ := R.nam j y h nm' v hv
  have hci : c ≠ i := fun e => hnm h nm' v hv (by rw [g2, e])
  exact ⟨g1, c, w, g2, by rw [updA_ne _ _ hci]; exact g3, g4, g5⟩
 ·obtain ⟨hn, h⟩ := hold h
  rw [hrf, if_neg hn]; exact R.lkf j y h hk'
 ·obtain ⟨hn, h⟩ := hold h
  rw [hsu h, if_neg hn]; exact R.lkd j y h hk'
 ·obtain ⟨hn, h⟩ := hold h
  rw [hrf, if_neg hn]
  exact R.one j y h hk'
theorem updA_idem (A : Nods) (j : Int) (x y : Option MN) : updA (updA A j x) j y = updA A j y := by
 funext i; unfold updA; split <;> rfl
theorem updA_comm (A : Nods) {i j : Int} (h : i ≠ j) (x y : Option MN) : updA (updA A i x) j y = updA (updA A j y) i x := by
 funext k; unfold updA
 by_cases e : k = j
 ·rw [if_pos e, if_neg (by omega), if_pos e]
 ·rw [if_neg e]; by_cases e2 : k = i
  ·rw [if_pos e2, if_pos e2]
  ·rw [if_neg e2, if_neg e2, if_neg e]
theorem updA_self (A : Nods) (j : Int) {x : Option MN} (h : A j = x) : updA A j x = A := by
 funext i; unfold updA; split
 ·rename_i e; rw [e, h]
 ·rfl
theorem atE_with (f : MF) (x : MN) : (f.with x).at = updA f.at x.i (some x) := by funext i; rw [at_with]; rfl
theorem atE_without (f : MF) (j : Int) : (f.without j).at = updA f.at j none := by funext i; rw [at_without]; rfl
theorem atE_linked (f : MF) (j b : Int) {x : MN} (h : f.at j = some x) : (f.linked j b).at = updA f.at j (some { x with n := x.n + b }) := by
 funext i; rw [at_linked, h]; rfl
theorem atE_named (f : MF) (d : Int) (m : List UInt8) (j : Int) {x : MN} (h : f.at d = some x) : (f.named d m j).at = updA f.at d (some { x with e := nmE x.e m j }) := by
 funext i; rw [at_named, h]; rfl
def MF.uq (f : MF) : Prop := ∀ x ∈ f, f.at x.i = some x
theorem with_mem2 {f : MF} {x y : MN} (h : y ∈ f.with x) : y = x ∨ (y ∈ f ∧ y.i ≠ x.i) := by
 unfold MF.with at h
 rcases List.mem_append.1 h with h | h
 ·obtain ⟨z, hz, rfl⟩ := List.mem_map.1 h
  split
  ·exact .inl rfl
  ·rename_i e; exact .inr ⟨hz, e⟩
 ·split at h
  ·simp at h
  ·exact .inl (by simpa using h)
theorem MF.uq.with {f : MF} (h : f.uq) (x : MN) : (f.with x).uq := fun y hy => by
 rw [at_with]
 rcases with_mem2 hy with rfl | ⟨h1, h2⟩
 ·rw [if_pos rfl]
 ·rw [if_neg h2]; exact h y h1
theorem MF.uq.without {f : MF} (h : f.uq) (j : Int) : (f.without j).uq := fun y hy => by
 have hm := List.mem_filter.1 hy
 rw [at_without, if_neg (by simpa using hm.2)]
 exact h y hm.1
theorem MF.uq.linked {f : MF} (h : f.uq) (j b : Int) : (f.linked j b).uq := by
 unfold MF.linked; split
 ·exact h.with _
 ·exact h
theorem MF.uq.named {f : MF} (h : f.uq) (d : Int) (m : List UInt8) (j : Int) : (f.named d m j).uq := by
 unfold MF.named; split
 ·exact h.with _
 ·exact h
structure NoD (m : MF) (d : Int) (nm : List UInt8) (xd : MN) : Prop where
 hd : m.at d = some xd
 hk : xd.k = 2
 hn : nameB nm = true
 hg : lget nm xd.e = none
structure InD (m : MF) (par : Int → Int) (d : Int) (nm : List UInt8) (i : Int) (xd z : MN) : Prop where
 hd : m.at d = some xd
 hk : xd.k = 2
 hn : nameB nm = true
 hg : lget nm xd.e = some (beB 4 i)
 hi : m.at i = some z
 h1 : i ≠ 1
 h0 : i ≠ 0
 hp : z.k = 2 → par i = d
inductive Fnd (m : MF) (par : Int → Int) (b : MS) : Prop where
 | root (h : b = ⟨0, [], 1⟩) : Fnd m par b
 | no (xd : MN) (h : NoD m b.d b.m xd) (h0 : b.i = 0) : Fnd m par b
 | there (xd z : MN) (h : InD m par b.d b.m b.i xd z) : Fnd m par b
theorem Rel.step {l : List KV} {m : MF} {par : Int → Int} (R : Rel l m par) {d : Int} {x : MN} (hx : m.at d = some x) (hk : x.k = 2) {nm : List UInt8} (hn : nameB nm = true) : Fnd m par ⟨d, nm, x.entry nm⟩ := by
 unfold MN.entry
 cases hg : lget nm x.e with
 | none => exact .no x ⟨hx, hk, hn, hg⟩ rfl
 | some v =>
  obtain ⟨_, c, z, rfl, hz, hc1, hc2⟩ := R.nam d x hx nm v hg
  have hu := R.u c z hz
  dsimp only
  rw [beV_be4 c hu.1]
  exact .there x z ⟨hx, hk, hn, hg, hz, hc1, hu.2, hc2⟩
theorem Rel.go {l : List KV} {m : MF} {par : Int → Int} (R : Rel l m par) : ∀ (N : List (List UInt8)) (a : MS), (∀ x ∈ N, nameB x = true) → Fnd m par a → (m.go N a).2 = 0 → Fnd m par (m.go N a).1
 | [], a, _, ha, _ => ha
 | x :: r, a, hN, ha, he => by
  unfold MF.go at he ⊢
  split
  ·rename_i h0; rw [if_pos h0] at he; cases he
  rename_i h0
  rw [if_neg h0] at he
  have hh : ∃ y, m.at a.i = some y := by
   rcases ha with rfl | ⟨_, _, h⟩ | ⟨_, z, h⟩
   ·exact R.root.elim fun y h => ⟨y, h.1⟩
   ·exact absurd h h0
   ·exact ⟨z, h.hi⟩
  obtain ⟨n, hn⟩ := hh
  rw [hn] at he ⊢
  dsimp only at he ⊢
  split
  ·rename_i hk; rw [if_pos hk] at he; cases he
  rename_i hk
  rw [if_neg hk] at he
  exact R.go r _ (fun y hy => hN y (List.mem_cons_of_mem _ hy)) (R.step hn (by simpa using hk) (hN x List.mem_cons_self)) he
theorem Rel.fnd {l : List KV} {m : MF} {par : Int → Int} (R : Rel l m par) {p : List UInt8} (he : (m.findP p).2 = 0) : Fnd m par (m.findP p).1 := by
 unfold MF.findP at he ⊢
 split
 ·rename_i h0; rw [if_pos h0] at he; exact absurd he h0
 ·rename_i h0
  rw [if_neg h0] at he
  exact R.go _ _ (splitN_eq (by simpa using h0)).2.2 (.root rfl) he
theorem getNode_may {v : List UInt8} {k n s p : Int} (h : getNode v = some (k, n, s, p)) : mayB k n s p = true := by
 unfold getNode at h
 split at h
 ·rename_i e
  injection h with h
  injection h with h1 h2
  injection h2 with h2 h3
  injection h3 with h3 h4
  rw [← h1, ← h2, ← h3, ← h4]; exact e.2
 ·cases h
theorem Rel.may {l : List KV} {m : MF} {par : Int → Int} (R : Rel l m par) {j : Int} {x : MN} (hx : m.at j = some x) : mayB x.k x.n (x.b.length : Int) (par j) = true ∧ U32 x.n ∧ U32 (x.b.length : Int) ∧ U32 (par j) := by
 have h := R.nod j x hx
 have h2 := ndOf_ok h
 refine ⟨?_, h2.2.1, h2.2.2.1, h2.2.2.2⟩
 cases hg : lget (keyH 73 j) l with
 | none =>
  rw [hg] at h
  unfold ndOf at h
  dsimp only at h
  split at h
  ·injection h with h
   injection h with h1 h2
   injection h2 with h2 h3
   injection h3 with h3 h4
   rw [← h1, ← h2, ← h3, ← h4]; rfl
  ·cases h
 | some v => rw [hg] at h; exact getNode_may h
theorem fullE_or : ∀ l : List Bool, fullE l = 21 ∨ (fullE l = 0 ∧ ∀ b ∈ l, b = true)
 | [] => .inr ⟨rfl, by simp⟩
 | b :: r => by
  unfold fullE
  by_cases e : b = true
  ·rw [if_pos e]
   refine (fullE_or r).imp_right fun h => ⟨h.1, fun c hc => ?_⟩
   rcases List.mem_cons.1 hc with rfl | hc
   ·exact e
   ·exact h.2 c hc
  ·rw [if_neg e]; exact .inl rfl
theorem fullE_01 (l : List Bool) : fullE l = 21 ∨ fullE l = 0 := (fullE_or l).imp_right (·.1)
theorem linksE_room {s : VS} {d : Int} (h : s.linksE d = 0) : s.room (keyH 73 d) = true := by
 rcases fullE_or [s.room (keyH 73 d)] with e | e
 ·unfold VS.linksE at h; omega
 ·exact e.2 _ (by simp)
theorem put_row {s : VS} {n : Nat} (h : VJ s n) {k v : List UInt8} (hr : s.room k = true) : (s.put k v).shown.row = lset k v s.shown.row := by
 unfold VS.put
 rw [if_pos hr]
 exact set_row _ _ _ h.rs
theorem del_row {s : VS} {n : Nat} (h : VJ s n) {k : List UInt8} (hr : s.room k = true) : (s.del k).shown.row = lcut k s.shown.row := by
 unfold VS.del
 rw [if_pos hr]
 exact cut_row _ _ h.rs
theorem links_row {s : VS} {n : Nat} (h : VJ s n) {d b : Int} (hr : s.room (keyH 73 d) = true) {k m z p : Int} (hl : ndOf d (lget (keyH 73 d) s.shown.row) = some (k, m, z, p)) (hu : U32 (m + b)) : (s.links d b).shown.row = lset (keyH 73 d) (nodeB k (m + b) z p) s.shown.row := by
 unfold VS.links VS.save
 have e : (s.load d).getD (0, 0, 0, 0) = (k, m, z, p) := by rw [load_row h, hl]; rfl
 have h2 : (s.rd (keyH 73 d)).room (keyH 73 d) = true := hr
 rw [put_row (h.rd _) h2, e]
 have hw : IntKind.u32.wrap (m + b) = m + b := u32_in _ hu
 unfold linkN
 dsimp only
 rw [hw]
 rfl
theorem nmE_set {e : List KV} {nm : List UInt8} {i : Int} (h : i ≠ 0) : nmE e nm i = lset nm (beB 4 i) e := if_neg h
theorem nmE_cut {e : List KV} {nm : List UInt8} : nmE e nm 0 = lcut nm e := if_pos rfl
theorem full1 (a : Bool) : fullE [a] = 21 ∨ (fullE [a] = 0 ∧ a = true) := by cases a <;> simp [fullE]
theorem full2 (a b : Bool) : fullE [a, b] = 21 ∨ (fullE [a, b] = 0 ∧ a = true ∧ b = true) := by cases a <;> cases b <;> simp [fullE]
theorem first2 {a b : Int} (ha : a = 21 ∨ a = 0) (hb : b = 21 ∨ b = 0) : firstE [a, b] = 21 ∨ (firstE [a, b] = 0 ∧ a = 0 ∧ b = 0) := by
 rcases ha with rfl | rfl <;> rcases hb with rfl | rfl <;> simp [firstE]
theorem first4 {a b c d : Int} (ha : a = 21 ∨ a = 0) (hb : b = 21 ∨ b = 0) (hc : c = 21 ∨ c = 0) (hd : d = 21 ∨ d = 0) : firstE [a, b, c, d] = 21 ∨ (firstE [a, b, c, d] = 0 ∧ a = 0 ∧ b = 0 ∧ c = 0 ∧ d = 0) := by
 rcases ha with rfl | rfl <;> rcases hb with rfl | rfl <;> rcases hc with rfl | rfl <;> rcases hd with rfl | rfl <;> simp [firstE]
theorem RelA.links {l : List KV} {A : Nods} {par df ds : Int → Int} (R : RelA l A par df ds) {d : Int} {x : MN} (hd : A d = some x) (hk : x.k = 2) {b : Int} (hn : 2 ≤ x.n + b) (hu : U32 (x.n + b)) (hp : U32 (par d)) :
  RelA (lset (keyH 73 d) (nodeB 2 (x.n + b) 0 (par d)) l) (updA A d (some { x with n := x.n + b })) par df (fun j => ds j - if j = d then b else 0) := by
 have hb : x.b = [] := by
  rcases R.kin d x hd with q | q
  ·exact q.2
  ·have := q.1; omega
 have hm : mayB x.k (x.n + b) (x.b.length : Int) (par d) = true := by
  unfold mayB; rw [hb, hk]; simp; omega
 have h := R.save hd (x.n + b) (par d) hm hu (by rw [hb]; exact ⟨by simp, by simp⟩) hp (fun e => by rw [e]; exact R.rpar) (fun e => by omega) (fun _ => .inl rfl)
 have hbl : (x.b.length : Int) = 0 := by rw [hb]; rfl
 rw [hbl] at h
 have e1 : (fun j => if j = d then par d else par j) = par := by
  funext j; split
  ·rename_i e; rw [e]
  ·rfl
 have e2 : (fun j => df j + if j = d ∧ x.k = 1 then x.n - (x.n + b) else 0) = df := by
  funext j; rw [if_neg (fun q => by omega)]; omega
 have e3 : (fun j => ds j + if j = d ∧ x.k = 2 then x.n - (x.n + b) else 0) = fun j => ds j - if j = d then b else 0 := by
  funext j
  by_cases e : j = d
  ·rw [if_pos ⟨e, hk⟩, if_pos e]; omega
  ·rw [if_neg (fun q => e q.1), if_neg e]; omega
 rw [e1, e2, e3] at h
 rw [← hk]
 exact h
theorem wk_n {f : MF} {c : Nat} (h : f.wk c) {i : Int} {x : MN} (hx : f.at i = some x) : -(c : Int) ≤ x.n ∧ x.n ≤ c := h.n x (at_mem hx).1
theorem makeAt_sim {s : VS} {n c : Nat} (h : VJ s n) {m : MF} {par : Int → Int} (R : Rel s.shown.row m par) (hw : m.wk c) (hc : c ≤ 100000) {a : Sp} {xd : MN} (hs : NoD m a.d a.m xd) {k i : Int} (hk : k = 1 ∨ k = 2) (hiu : U32 i) (hi0 : i ≠ 0) (hi : m.at i = none) :
  (s.makeAt a k i).1 = 21 ∨ ((s.makeAt a k i).1 = 0 ∧ ∃ par', Rel (s.makeAt a k i).2.shown.row (MF.named (if k = 1 then m.with ⟨i, 1, 1, [], []⟩ else (m.with ⟨i, 2, 2, [], []⟩).linked a.d 1) a.d a.m i) par') := by
 obtain ⟨hd, hkd, hnm, hg⟩ := hs
 have hdu := R.u _ _ hd
 have hdi : a.d ≠ i := fun e => by rw [e, hi] at hd; cases hd
 have hen := entK_is (d := a.d) (nameB_len hnm)
 have hmay := R.may hd
 have hxn := wk_n hw hd
 have hb : xd.b = [] := by
  rcases R.kin _ xd hd with q | q
  ·exact q.2
  ·have := q.1; omega
 have hn2 : 2 ≤ xd.n := by rw [R.lkd _ xd hd hkd]; omega
 have hi1 : i ≠ 1 := fun e => by
  obtain ⟨x, h1, _⟩ := R.root
  rw [e] at hi; rw [hi] at h1; cases h1
 have R1 := R.toA.make (k := k) (p := if k = 1 then 0 else a.d) hiu hi0 hi (by
  rcases hk with rfl | rfl
  ·exact .inl ⟨rfl, rfl⟩
  ·exact .inr ⟨rfl, hdu.1⟩)
 have hd1 : updA m.at i (some ⟨i, k, k, [], []⟩) a.d = some xd := by rw [updA_ne _ _ hdi]; exact hd
 have R2 := R1.hang hd1 hkd hnm hg (updA_same _ _ _) hi1 (fun e => by
  have e : k = 2 := e
  rw [if_pos rfl, if_neg (by omega)])
 have hnew : newN k a.d = (k, k, 0, if k = 1 then 0 else a.d) := by
  unfold newN
  rcases hk with rfl | rfl <;> rfl
 unfold VS.makeAt
 dsimp only
 rw [hnew]
 dsimp only
 generalize hs2 : s.save i (k, k, 0, if k = 1 then 0 else a.d) = s2
 generalize hs3 : s2.put (entryK a.d a.m) (beB 4 i) = s3
 have hv2 : VJ s2 (n + 1) := hs2 ▸ h.save i (k, k, 0, if k = 1 then 0 else a.d)
 have hv3 : VJ s3 (n + 1 + 1) := hs3 ▸ hv2.hang a.d a.m i
 rcases full2 (s.room (keyH 73 i)) (s2.room (entryK a.d a.m)) with ef | ⟨ef, hr1, hr2⟩
 ·left
  split
  ·show firstE [_, _] = 21
   unfold firstE; rw [if_pos (by omega)]; exact ef
  ·exact ef
 have row2 : s2.shown.row = lset (keyH 73 i) (nodeB k k 0 (if k = 1 then 0 else a.d)) s.shown.row := by rw [← hs2]; exact put_row h hr1
 have row3 : s3.shown.row = lset (keyH 69 a.d ++ a.m) (beB 4 i) s2.shown.row := by rw [← hs3, put_row hv2 hr2, hen]
 rw [row2] at row3
 rw [← row3] at R2
 have hq : MF.uq m := R.fst
 rcases hk with rfl | rfl
 ·
  rw [if_neg (by decide), if_pos rfl]
  refine .inr ⟨ef, _, R2.toM ?_ ((hq.with _).named _ _ _) (fun j => ?_) (fun j => ?_)⟩
  ·have e1 := atE_with m ⟨i, 1, 1, [], []⟩
   rw [atE_named _ a.d a.m i (by rw [e1]; exact hd1), e1, nmE_set hi0]
  ·unfold z0; by_cases e : j = i
   ·rw [if_pos e, if_pos e.symm]; rfl
   ·rw [if_neg e, if_neg (Ne.symm e)]; rfl
  ·unfold z0
   have e : (if a.d = j ∧ (1 : Int) = 2 then (1 : Int) else 0) = 0 := if_neg fun q => by have := q.2; omega
   rw [e]; split <;> rfl
 ·
  rw [if_pos rfl, if_neg (by decide)]
  have hxd2 := updA_same (updA m.at i (some ⟨i, 2, 2, [], []⟩)) a.d (some { xd with e := lset a.m (beB 4 i) xd.e })
  have hpd : (if a.d = i then if (2 : Int) = 1 then 0 else a.d else par a.d) = par a.d := if_neg hdi
  have R3 := R2.links (b := 1) hxd2 hkd (by dsimp only; omega) (by dsimp only; unfold U32; omega) (by rw [hpd]; exact hmay.2.2.2)
  dsimp only at R3
  rw [hpd, updA_idem] at R3
  have hnd := R2.nod _ _ hxd2
  dsimp only at hnd
  rw [hpd] at hnd
  rcases full1 (s3.room (keyH 73 a.d)) with eg | ⟨eg, hr3⟩
  ·left
   show firstE [_, fullE [_]] = 21
   rw [ef, eg]; rfl
  have row4 := links_row hv3 hr3 (b := 1) hnd (by unfold U32; omega)
  have hbl : (xd.b.length : Int) = 0 := by rw [hb]; rfl
  rw [hkd, hbl] at row4
  rw [← row4] at R3
  refine .inr ⟨by show firstE [_, fullE [_]] = 0; rw [ef, eg]; rfl, _, R3.toM ?_ (((hq.with _).linked _ _).named _ _ _) (fun j => ?_) (fun j => ?_)⟩
  ·have e1 := atE_with m ⟨i, 2, 2, [], []⟩
   have e2 := atE_linked (m.with ⟨i, 2, 2, [], []⟩) a.d 1 (x := xd) (by rw [e1]; exact hd1)
   rw [e1] at e2
   rw [atE_named _ a.d a.m i (x := { xd with n := xd.n + 1 }) (by rw [e2]; exact updA_same _ _ _), e2, nmE_set hi0, updA_idem]
  ·unfold z0; by_cases e : j = i
   ·rw [if_pos e, if_pos e.symm]; rfl
   ·rw [if_neg e, if_neg (Ne.symm e)]; rfl
  ·unfold z0
   by_cases e : j = a.d
   ·subst e
    have e1 : (if a.d = a.d ∧ (2 : Int) = 2 then (1 : Int) else 0) = 1 := if_pos ⟨rfl, rfl⟩
    have e2 : (if a.d = a.d then (1 : Int) else 0) = 1 := if_pos rfl
    rw [e1, e2, if_neg hdi]; rfl
   ·have e1 : (if a.d = j ∧ (2 : Int) = 2 then (1 : Int) else 0) = 0 := if_neg fun q => e q.1.symm
    have e2 : (if j = a.d then (1 : Int) else 0) = 0 := if_neg e
    rw [e1, e2]; split <;> rfl
theorem make_sim {s : VS} {n c : Nat} (h : VJ s n) {m : MF} {par : Int → Int} (R : Rel s.shown.row m par) (hw : m.wk c) (hc : c ≤ 100000) (p : List UInt8) {k i : Int} (hk : k = 1 ∨ k = 2) (hiu : U32 i) (hi0 : i ≠ 0) (hi : m.at i = none) :
  (s.make p k i).1 = 21 ∨ ((s.make p k i).1 = (m.make p k i).1 ∧ ∃ par', Rel (s.make p k i).2.shown.row (m.make p k i).2 par') := by
 obtain ⟨he, hs⟩ := find_sim h R p
 unfold VS.make MF.make
 rw [he]
 by_cases h0 : (m.findP p).2 ≠ 0
 ·rw [if_pos h0, if_pos h0]; exact .inr ⟨rfl, par, R⟩
 rw [if_neg h0, if_neg h0]
 have h0 : (m.findP p).2 = 0 := by simpa using h0
 have hs := hs h0
 rw [hs.hi]
 by_cases h1 : (m.findP p).1.i ≠ 0
 ·rw [if_pos h1, if_pos h1]; exact .inr ⟨rfl, par, R⟩
 rw [if_neg h1, if_neg h1]
 rcases R.fnd h0 with e | ⟨xd, hx, _⟩ | ⟨xd, z, hx⟩
 ·rw [e] at h1; exact absurd (by decide) h1
 ·rw [← hs.hd, ← hs.hm] at hx ⊢
  exact makeAt_sim (h.rdp p) R hw hc hx hk hiu hi0 hi
 ·exact absurd hx.h0 h1
theorem namesL_sub (i : Int) (l : List KV) : namesL i l = (subL 69 i l).map (·.1) := by
 unfold namesL subL
 rw [List.map_map]; rfl
theorem k12 {l : List KV} {A : Nods} {par df ds : Int → Int} (R : RelA l A par df ds) {j : Int} {x : MN} (h : A j = some x) : x.k = 1 ∨ x.k = 2 := (R.kin j x h).symm.imp (·.1) (·.1)
theorem removes_sim {s : VS} {n c : Nat} (h : VJ s n) {m : MF} {par : Int → Int} (R : Rel s.shown.row m par) (hw : m.wk c) (hc : c ≤ 100000) {a : Sp} {xd z : MN} (hs : InD m par a.d a.m a.i xd z) (han : a.n = (z.k, z.n, (z.b.length : Int), par a.i)) (b : MS) (hb1 : b.d = a.d) (hb2 : b.m = a.m) (hb3 : b.i = a.i) :
  (s.removes a).1 = 21 ∨ ((s.removes a).1 = (m.rmv b).1 ∧ Rel (s.removes a).2.shown.row (m.rmv b).2 par ∧ ((m.rmv b).1 = 0 → z.k = 2 ∧ z.e = [] ∧ (m.rmv b).2.at = updA (updA m.at a.i none) a.d (some { xd with n := xd.n + -1, e := lcut a.m xd.e }))) := by
 obtain ⟨hd, hkd, hnm, hg, hi, hi1, hi0, hp⟩ := hs
 unfold VS.removes MF.rmv
 dsimp only
 rw [hb3, hb1, hb2, hi, han]
 dsimp only
 by_cases hk : z.k ≠ 2
 ·rw [if_pos hk, if_pos hk]; exact .inr ⟨rfl, R, fun e => by cases e⟩
 rw [if_neg hk, if_neg hk]
 have hk : z.k = 2 := by simpa using hk
 have hlen : (namesL a.i s.shown.row).length = z.e.length := by rw [namesL_sub, List.length_map, ← R.ent _ _ hi]
 rw [hlen]
 by_cases he : z.e.length > 0
 ·rw [if_pos he, if_pos he]
  refine .inr ⟨rfl, ?_, fun e => by cases e⟩
  have e : (s.rngE a.i).shown = s.shown := by unfold VS.rngE VS.range; split <;> rfl
  rw [e]; exact R
 rw [if_neg he, if_neg he]
 have he : z.e = [] := List.eq_nil_of_length_eq_zero (by omega)
 have hdi : a.d ≠ a.i := fun e => by rw [e, hi] at hd; cases hd; rw [he] at hg; cases hg
 have hdu := R.u _ _ hd
 have hiu := R.u _ _ hi
 have hen := entK_is (d := a.d) (nameB_len hnm)
 have hmay := R.may hd
 have hxn := wk_n hw hd
 have hb : xd.b = [] := by
  rcases R.kin _ xd hd with q | q
  ·exact q.2
  ·have := q.1; omega
 have hzb : z.b = [] := by
  rcases R.kin _ z hi with q | q
  ·exact q.2
  ·have := q.1; omega
 have R1 := R.toA.unhang hd hkd hg hi
 have hi' : updA m.at a.d (some { xd with e := lcut a.m xd.e }) a.i = some z := by rw [updA_ne _ _ (Ne.symm hdi)]; exact hi
 have hd' : updA m.at a.d (some { xd with e := lcut a.m xd.e }) a.d = some { xd with e := lcut a.m xd.e } := updA_same _ _ _
 have hr0 : refs a.i (lcut (keyH 69 a.d ++ a.m) s.shown.row) = 0 := by
  have := R1.one _ z hi' hk
  unfold z0 at this
  rw [if_neg hi1, if_pos rfl] at this
  omega
 have e73 : keyH 73 a.i = keyH 73 a.i ++ [] := by simp
 have R2 := R1.drop (l' := lcut (keyH 73 a.i) (lcut (keyH 69 a.d ++ a.m) s.shown.row)) hi' hi1 he hr0 (lcut_rises R1.ri)
  (fun j hj => by
   rw [get73, e73, get_cut L73 L73 hj hiu.1]
   by_cases e : j = a.i
   ·rw [if_pos ⟨rfl, e, rfl⟩, if_pos e]
   ·rw [if_neg (fun q => e q.2.1), if_neg e, ← get73])
  (fun j hj => by rw [e73, sub_cut L69 L73 hj hiu.1 R1.ri, if_neg (fun q => by have := q.1; omega)])
  (fun j hj => by
   rw [e73, sub_cut L68 L73 hj hiu.1 R1.ri, if_neg (fun q => by have := q.1; omega)]
   split
   ·rename_i e; rw [e, R1.blk _ z hi', hzb]; exact blkOf_nil
   ·rfl)
  (fun j => by rw [e73]; exact refs_cut_no (.inl rfl) R1.ri j _)
  (fun y hy => (lcut_mem.1 hy).1)
 have hd2 : updA (updA m.at a.d (some { xd with e := lcut a.m xd.e })) a.i none a.d = some { xd with e := lcut a.m xd.e } := by rw [updA_ne _ _ hdi]; exact hd'
 have hn3 : 3 ≤ xd.n := by
  have g := R2.lkd _ _ hd2 hkd
  unfold z0 at g
  dsimp only at g
  rw [if_neg hdi, if_pos ⟨rfl, hk⟩] at g
  omega
 have R3 := R2.links (b := -1) hd2 hkd (by dsimp only; omega) (by dsimp only; unfold U32; omega) hmay.2.2.2
 dsimp only at R3
 have hnd := R2.nod _ _ hd2
 dsimp only at hnd
 have hsh : (s.rngE a.i).shown = s.shown := by unfold VS.rngE VS.range; split <;> rfl
 have hv1 : VJ (s.rngE a.i) (n + 1) := h.rngE a.i
 generalize s.rngE a.i = s1 at hsh hv1
 generalize hs2 : s1.del (entryK a.d a.m) = s2
 generalize hs3 : s2.del (keyH 73 a.i) = s3
 have hv2 : VJ s2 (n + 1 + 1) := hs2 ▸ hv1.del _
 have hv3 : VJ s3 (n + 1 + 1 + 1) := hs3 ▸ hv2.del _
 rcases first2 (fullE_01 [s1.room (entryK a.d a.m), s2.room (keyH 73 a.i)]) (show s3.linksE a.d = 21 ∨ s3.linksE a.d = 0 from fullE_01 _) with ef | ⟨ef, ef1, ef2⟩
 ·exact .inl ef
 rcases full2 (s1.room (entryK a.d a.m)) (s2.room (keyH 73 a.i)) with eg | ⟨_, hr1, hr2⟩
 ·rw [eg] at ef1; cases ef1
 have hr3 := linksE_room ef2
 have row2 : s2.shown.row = lcut (keyH 69 a.d ++ a.m) s.shown.row := by rw [← hs2, del_row hv1 hr1, hen, hsh]
 have row3 : s3.shown.row = lcut (keyH 73 a.i) s2.shown.row := by rw [← hs3, del_row hv2 hr2]
 rw [row2] at row3
 rw [← row3] at hnd
 have row4 := links_row hv3 hr3 (b := -1) hnd (by unfold U32; omega)
 have hbl : (xd.b.length : Int) = 0 := by rw [hb]; rfl
 rw [hkd, hbl] at row4
 rw [← row3, ← row4] at R3
 have hat : (((m.without a.i).linked a.d (-1)).named a.d a.m 0).at = updA (updA m.at a.i none) a.d (some { xd with n := xd.n + -1, e := lcut a.m xd.e }) := by
  have e1 := atE_without m a.i
  have e2 := atE_linked (m.without a.i) a.d (-1) (x := xd) (by rw [e1, updA_ne _ _ hdi]; exact hd)
  rw [e1] at e2
  rw [atE_named _ a.d a.m 0 (x := { xd with n := xd.n + -1 }) (by rw [e2]; exact updA_same _ _ _), e2, nmE_cut, updA_idem]
 refine .inr ⟨ef, R3.toM ?_ (((MF.uq.without R.fst _).linked _ _).named _ _ _) (fun j => ?_) (fun j => ?_), fun _ => ⟨hk, he, hat⟩⟩
 ·rw [hat, updA_comm _ hdi, updA_idem]
 ·unfold z0
  by_cases e : j = a.i
  ·rw [if_pos e]
  ·rw [if_neg e, if_neg (Ne.symm e)]; rfl
 ·unfold z0
  by_cases e : j = a.d
  ·subst e
   have e1 : (if a.d = a.d ∧ z.k = 2 then (1 : Int) else 0) = 1 := if_pos ⟨rfl, hk⟩
   have e2 : (if a.d = a.d then (-1 : Int) else 0) = -1 := if_pos rfl
   rw [e1, e2, if_neg hdi]; rfl
  ·have e1 : (if a.d = j ∧ z.k = 2 then (1 : Int) else 0) = 0 := if_neg fun q => e q.1.symm
   have e2 : (if j = a.d then (-1 : Int) else 0) = 0 := if_neg e
   rw [e1, e2]; split <;> rfl
end Go.Proofs.YtdkegmmigongoaaGreatDoor

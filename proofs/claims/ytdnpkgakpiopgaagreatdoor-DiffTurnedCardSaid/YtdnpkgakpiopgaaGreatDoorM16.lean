import Derived.Test.YtdnpkgakpiopgaaGreatDoorGo
import Derived.Test.YtdnpkgakpiopgaaGreatDoorM15
import Derived.Test.YtdnpkgakpiopgaaGreatDoorM12
namespace Go.Proofs.YtdnpkgakpiopgaaGreatDoor
set_option maxRecDepth 20000
open Go.Awp Tr
abbrev Nods := Int → Option MN
def kindA (A : Nods) (j : Int) : Int := match A j with
 | some x => x.k
 | none => 0
def subsA (A : Nods) (e : List KV) : Nat := e.countP fun y => kindA A (beV y.2) == 2
def updA (A : Nods) (j : Int) (x : Option MN) : Nods := fun i => if i = j then x else A i
structure RelA (l : List KV) (A : Nods) (par df ds : Int → Int) : Prop where
 ri : Rises l
 id : ∀ j x, A j = some x → x.i = j
 u : ∀ j x, A j = some x → U32 j ∧ j ≠ 0
 root : ∃ x, A 1 = some x ∧ x.k = 2
 rpar : par 1 = 1
 nod : ∀ j x, A j = some x → ndOf j (lget (keyH 73 j) l) = some (x.k, x.n, (x.b.length : Int), par j)
 non : ∀ j, U32 j → A j = none → lget (keyH 73 j) l = none
 ent : ∀ j x, A j = some x → x.e = subL 69 j l
 eno : ∀ j, U32 j → A j = none → subL 69 j l = []
 blk : ∀ j x, A j = some x → subL 68 j l = blkOf x.b
 bno : ∀ j, U32 j → A j = none → subL 68 j l = []
 nam : ∀ j x, A j = some x → ∀ nm v, lget nm x.e = some v → nameB nm = true ∧ ∃ c z, v = beB 4 c ∧ A c = some z ∧ c ≠ 1 ∧ (z.k = 2 → par c = j)
 kin : ∀ j x, A j = some x → (x.k = 2 ∧ x.b = []) ∨ (x.k = 1 ∧ x.e = [] ∧ par j = 0)
 lkf : ∀ j x, A j = some x → x.k = 1 → x.n + df j = (refs j l : Int)
 lkd : ∀ j x, A j = some x → x.k = 2 → x.n + ds j = 2 + (subsA A x.e : Int)
 one : ∀ j x, A j = some x → x.k = 2 → (refs j l : Int) = (if j = 1 then 0 else 1) + df j
 key : ∀ y ∈ l, ∃ c j r, (c = 73 ∧ r = [] ∨ c = 69 ∨ c = 68) ∧ U32 j ∧ y.1 = keyH c j ++ r
def z0 : Int → Int := fun _ => 0
theorem Rel.toA {l : List KV} {m : MF} {par : Int → Int} (R : Rel l m par) : RelA l m.at par z0 z0 :=
 ⟨R.ri, fun j x h => (yY h).2, R.u, R.root, R.rpar, R.nod, R.non, R.ent, R.eno, R.blk, R.bno, R.nam, R.kin, fun j x h hk => by rw [R.lkf j x h hk]; unfold z0; omega, fun j x h hk => by
  have := R.lkd j x h hk
  have e : subsN m x.e = subsA m.at x.e := rfl
  rw [← e, this]; unfold z0; omega, fun j x h hk => by rw [R.one j x h hk]; unfold z0; split <;> rfl, R.key⟩
theorem RelA.toM {l : List KV} {m : MF} {A : Nods} {par df ds : Int → Int} (R : RelA l A par df ds) (hA : m.at = A) (hf : ∀ x ∈ m, m.at x.i = some x) (h1 : ∀ j, df j = 0) (h2 : ∀ j, ds j = 0) : Rel l m par := by
 subst hA
 exact ⟨R.ri, hf, R.u, R.root, R.rpar, R.nod, R.non, R.ent, R.eno, R.blk, R.bno, R.nam, R.kin, fun j x h hk => by have := R.lkf j x h hk; rw [h1] at this; omega, fun j x h hk => by
  have := R.lkd j x h hk
  rw [h2] at this
  have e : subsN m x.e = subsA m.at x.e := rfl
  rw [e]; omega, fun j x h hk => by
  have := R.one j x h hk
  rw [h1] at this
  split at this <;> rename_i e
  ·rw [if_pos e]; omega
  ·rw [if_neg e]; omega, R.key⟩
theorem zW (A : Nods) (j : Int) (x : Option MN) : updA A j x j = x := if_pos rfl
theorem zX (A : Nods) {i j : Int} (x : Option MN) (h : i ≠ j) : updA A j x i = A i := if_neg h
theorem RelA.val {l : List KV} {A : Nods} {par df ds : Int → Int} (R : RelA l A par df ds) {j : Int} {x : MN} (hx : A j = some x) {y : KV} (hy : y ∈ x.e) : ∃ c z, y.2 = beB 4 c ∧ A c = some z ∧ c ≠ 1 ∧ U32 c := by
 have hr : Rises x.e := by rw [R.ent j x hx]; exact zU R.ri
 obtain ⟨_, c, z, h1, h2, h3, _⟩ := R.nam j x hx y.1 y.2 ((z5 hr).2 hy)
 exact ⟨c, z, h1, h2, h3, (R.u c z h2).1⟩
theorem zAh {A B : Nods} {e : List KV} (h : ∀ y ∈ e, kindA A (beV y.2) = kindA B (beV y.2)) : subsA A e = subsA B e := by
 unfold subsA
 exact List.countP_congr fun y hy => by rw [h y hy]
theorem zGa {A : Nods} {j : Int} {x y : MN} (hx : A j = some x) (hk : y.k = x.k) (i : Int) : kindA (updA A j (some y)) i = kindA A i := by
 unfold kindA
 by_cases e : i = j
 ·subst e; rw [zW, hx]; exact hk
 ·rw [zX _ _ e]
theorem L69 : L8 69 := by decide
theorem L73 : L8 73 := by decide
theorem L68 : L8 68 := by decide
theorem get73 (j : Int) (l : List KV) : lget (keyH 73 j) l = lget (keyH 73 j ++ []) l := by rw [List.append_nil]
theorem RelA.hang {l : List KV} {A : Nods} {par df ds : Int → Int} (R : RelA l A par df ds) {d i : Int} {xd z : MN} (hd : A d = some xd) (hdk : xd.k = 2) {nm : List UInt8} (hnm : nameB nm = true) (hno : lget nm xd.e = none) (hi : A i = some z) (hi1 : i ≠ 1) (hpar : z.k = 2 → par i = d) :
  RelA (lset (keyH 69 d ++ nm) (beB 4 i) l) (updA A d (some { xd with e := lset nm (beB 4 i) xd.e })) par (fun j => df j + if i = j then 1 else 0) (fun j => ds j + if d = j ∧ z.k = 2 then 1 else 0) := by
 have hdu := (R.u d xd hd).1
 have hiu := (R.u i z hi).1
 have hri : Rises (lset (keyH 69 d ++ nm) (beB 4 i) l) := z7 R.ri
 have hre : Rises xd.e := by rw [R.ent d xd hd]; exact zU R.ri
 have hnl : lget (keyH 69 d ++ nm) l = none := by rw [← qW R.ri, ← R.ent d xd hd]; exact hno
 have hkA : ∀ c, kindA (updA A d (some { xd with e := lset nm (beB 4 i) xd.e })) c = kindA A c := zGa hd rfl
 have hsu : ∀ e, subsA (updA A d (some { xd with e := lset nm (beB 4 i) xd.e })) e = subsA A e := fun e => zAh fun y _ => hkA _
 have hlive : ∀ {c : Int} {w : MN}, A c = some w → ∃ w', updA A d (some { xd with e := lset nm (beB 4 i) xd.e }) c = some w' ∧ w'.k = w.k := fun {c w} hw => by
  by_cases e : c = d
  ·subst e
   rw [hd] at hw
   obtain rfl := Option.some.inj hw
   exact ⟨_, zW .., rfl⟩
  ·exact ⟨w, by rw [zX _ _ e]; exact hw, rfl⟩
 have hnone : ∀ {c : Int}, updA A d (some { xd with e := lset nm (beB 4 i) xd.e }) c = none → A c = none ∧ c ≠ d := fun {c} h => by
  by_cases e : c = d
  ·subst e; rw [zW] at h; cases h
  ·rw [zX _ _ e] at h; exact ⟨h, e⟩
 have hold : ∀ {j : Int} {x : MN}, updA A d (some { xd with e := lset nm (beB 4 i) xd.e }) j = some x → (j = d ∧ x = { xd with e := lset nm (beB 4 i) xd.e }) ∨ (j ≠ d ∧ A j = some x) := fun {j x} h => by
  by_cases e : j = d
  ·subst e; rw [zW] at h; exact .inl ⟨rfl, (Option.some.inj h).symm⟩
  ·rw [zX _ _ e] at h; exact .inr ⟨e, h⟩
 have h73 : ∀ j, U32 j → lget (keyH 73 j) (lset (keyH 69 d ++ nm) (beB 4 i) l) = lget (keyH 73 j) l := fun j hj => by
  rw [get73, zB0 L73 L69 hj hdu R.ri, if_neg (fun q => by have := q.1; omega), ← get73]
 refine ⟨hri, fun j x h => ?_, fun j x h => ?_, ?_, R.rpar, fun j x h => ?_, fun j hj h => ?_, fun j x h => ?_, fun j hj h => ?_, fun j x h => ?_, fun j hj h => ?_, fun j x h nm' v hv => ?_, fun j x h => ?_, fun j x h hk => ?_, fun j x h hk => ?_, fun j x h hk => ?_, fun y hy => ?_⟩
 ·rcases hold h with ⟨rfl, rfl⟩ | ⟨_, h⟩
  ·exact R.id j xd hd
  ·exact R.id j x h
 ·rcases hold h with ⟨rfl, rfl⟩ | ⟨_, h⟩
  ·exact R.u j xd hd
  ·exact R.u j x h
 ·obtain ⟨x, h1, h2⟩ := R.root
  obtain ⟨w, h3, h4⟩ := hlive h1
  exact ⟨w, h3, h4.trans h2⟩
 ·rcases hold h with ⟨rfl, rfl⟩ | ⟨_, h⟩
  ·rw [h73 j hdu]; exact R.nod j xd hd
  ·rw [h73 j (R.u j x h).1]; exact R.nod j x h
 ·rw [h73 j hj]; exact R.non j hj (hnone h).1
 ·rcases hold h with ⟨rfl, rfl⟩ | ⟨hne, h⟩
  ·rw [zAu L69 L69 hdu hdu R.ri, if_pos ⟨rfl, rfl⟩, ← R.ent j xd hd]
  ·rw [zAu L69 L69 (R.u j x h).1 hdu R.ri, if_neg (fun q => hne q.2)]; exact R.ent j x h
 ·rw [zAu L69 L69 hj hdu R.ri, if_neg (fun q => (hnone h).2 q.2)]; exact R.eno j hj (hnone h).1
 ·rcases hold h with ⟨rfl, rfl⟩ | ⟨_, h⟩
  ·rw [zAu L68 L69 hdu hdu R.ri, if_neg (fun q => by have := q.1; omega)]; exact R.blk j xd hd
  ·rw [zAu L68 L69 (R.u j x h).1 hdu R.ri, if_neg (fun q => by have := q.1; omega)]; exact R.blk j x h
 ·rw [zAu L68 L69 hj hdu R.ri, if_neg (fun q => by have := q.1; omega)]; exact R.bno j hj (hnone h).1
 ·rcases hold h with ⟨rfl, rfl⟩ | ⟨_, h⟩
  ·dsimp only at hv
   rw [yR hre] at hv
   by_cases e : nm' = nm
   ·rw [if_pos e] at hv
    obtain rfl := Option.some.inj hv
    obtain ⟨w, h3, h4⟩ := hlive hi
    exact ⟨by rw [e]; exact hnm, i, w, rfl, h3, hi1, fun q => hpar (by rw [← h4]; exact q)⟩
   ·rw [if_neg e] at hv
    obtain ⟨g1, c, w, g2, g3, g4, g5⟩ := R.nam j xd hd nm' v hv
    obtain ⟨w', h3, h4⟩ := hlive g3
    exact ⟨g1, c, w', g2, h3, g4, fun q => g5 (by rw [← h4]; exact q)⟩
  ·obtain ⟨g1, c, w, g2, g3, g4, g5⟩ := R.nam j x h nm' v hv
   obtain ⟨w', h3, h4⟩ := hlive g3
   exact ⟨g1, c, w', g2, h3, g4, fun q => g5 (by rw [← h4]; exact q)⟩
 ·rcases hold h with ⟨rfl, rfl⟩ | ⟨_, h⟩
  ·rcases R.kin j xd hd with q | q
   ·exact .inl q
   ·have := q.1; omega
  ·exact R.kin j x h
 ·rcases hold h with ⟨rfl, rfl⟩ | ⟨_, h⟩
  ·have : xd.k = 1 := hk; omega
  ·rw [zJv hiu R.ri (R.u j x h).1 nm hnl]
   have := R.lkf j x h hk
   split <;> omega
 ·rw [hsu]
  rcases hold h with ⟨rfl, rfl⟩ | ⟨hne, h⟩
  ·have g := R.lkd j xd hd hdk
   dsimp only
   have hc := zD2 (fun y : KV => kindA A (beV y.2) == 2) (k := nm) (v := beB 4 i) hre
   rw [hno] at hc
   have hki : kindA A (beV (beB 4 i)) = z.k := by rw [yM i hiu]; unfold kindA; rw [hi]
   dsimp only at hc
   rw [hki] at hc
   unfold subsA at g ⊢
   by_cases hz : z.k = 2
   ·rw [if_pos ⟨rfl, hz⟩]
    rw [hz] at hc
    simp at hc
    omega
   ·rw [if_neg (fun q => hz q.2)]
    have e2 : (z.k == 2) = false := by simpa using hz
    rw [e2] at hc
    simp at hc
    omega
  ·rw [if_neg (fun q => hne q.1.symm)]
   have := R.lkd j x h hk
   omega
 ·rcases hold h with ⟨rfl, rfl⟩ | ⟨_, h⟩
  ·rw [zJv hiu R.ri hdu nm hnl]
   have := R.one j xd hd hdk
   split at this <;> rename_i e1
   ·rw [if_pos e1]; split <;> omega
   ·rw [if_neg e1]; split <;> omega
  ·rw [zJv hiu R.ri (R.u j x h).1 nm hnl]
   have := R.one j x h hk
   split at this <;> rename_i e1
   ·rw [if_pos e1]; split <;> omega
   ·rw [if_neg e1]; split <;> omega
 ·rcases zBl hy with rfl | hy
  ·exact ⟨69, d, nm, .inr (.inl rfl), hdu, rfl⟩
  ·exact R.key y hy
theorem RelA.unhang {l : List KV} {A : Nods} {par df ds : Int → Int} (R : RelA l A par df ds) {d i : Int} {xd z : MN} (hd : A d = some xd) (hdk : xd.k = 2) {nm : List UInt8} (hno : lget nm xd.e = some (beB 4 i)) (hi : A i = some z) :
  RelA (lcut (keyH 69 d ++ nm) l) (updA A d (some { xd with e := lcut nm xd.e })) par (fun j => df j - if i = j then 1 else 0) (fun j => ds j - if d = j ∧ z.k = 2 then 1 else 0) := by
 have hdu := (R.u d xd hd).1
 have hiu := (R.u i z hi).1
 have hri : Rises (lcut (keyH 69 d ++ nm) l) := yC R.ri
 have hre : Rises xd.e := by rw [R.ent d xd hd]; exact zU R.ri
 have hnl : lget (keyH 69 d ++ nm) l = some (beB 4 i) := by rw [← qW R.ri, ← R.ent d xd hd]; exact hno
 have hkA : ∀ c, kindA (updA A d (some { xd with e := lcut nm xd.e })) c = kindA A c := zGa hd rfl
 have hsu : ∀ e, subsA (updA A d (some { xd with e := lcut nm xd.e })) e = subsA A e := fun e => zAh fun y _ => hkA _
 have hlive : ∀ {c : Int} {w : MN}, A c = some w → ∃ w', updA A d (some { xd with e := lcut nm xd.e }) c = some w' ∧ w'.k = w.k := fun {c w} hw => by
  by_cases e : c = d
  ·subst e
   rw [hd] at hw
   obtain rfl := Option.some.inj hw
   exact ⟨_, zW .., rfl⟩
  ·exact ⟨w, by rw [zX _ _ e]; exact hw, rfl⟩
 have hnone : ∀ {c : Int}, updA A d (some { xd with e := lcut nm xd.e }) c = none → A c = none ∧ c ≠ d := fun {c} h => by
  by_cases e : c = d
  ·subst e; rw [zW] at h; cases h
  ·rw [zX _ _ e] at h; exact ⟨h, e⟩
 have hold : ∀ {j : Int} {x : MN}, updA A d (some { xd with e := lcut nm xd.e }) j = some x → (j = d ∧ x = { xd with e := lcut nm xd.e }) ∨ (j ≠ d ∧ A j = some x) := fun {j x} h => by
  by_cases e : j = d
  ·subst e; rw [zW] at h; exact .inl ⟨rfl, (Option.some.inj h).symm⟩
  ·rw [zX _ _ e] at h; exact .inr ⟨e, h⟩
 have h73 : ∀ j, U32 j → lget (keyH 73 j) (lcut (keyH 69 d ++ nm) l) = lget (keyH 73 j) l := fun j hj => by
  rw [get73, zC9 L73 L69 hj hdu, if_neg (fun q => by have := q.1; omega), ← get73]
 refine ⟨hri, fun j x h => ?_, fun j x h => ?_, ?_, R.rpar, fun j x h => ?_, fun j hj h => ?_, fun j x h => ?_, fun j hj h => ?_, fun j x h => ?_, fun j hj h => ?_, fun j x h nm' v hv => ?_, fun j x h => ?_, fun j x h hk => ?_, fun j x h hk => ?_, fun j x h hk => ?_, fun y hy => R.key y (List.mem_filter.1 hy).1⟩
 ·rcases hold h with ⟨rfl, rfl⟩ | ⟨_, h⟩
  ·exact R.id j xd hd
  ·exact R.id j x h
 ·rcases hold h with ⟨rfl, rfl⟩ | ⟨_, h⟩
  ·exact R.u j xd hd
  ·exact R.u j x h
 ·obtain ⟨x, h1, h2⟩ := R.root
  obtain ⟨w, h3, h4⟩ := hlive h1
  exact ⟨w, h3, h4.trans h2⟩
 ·rcases hold h with ⟨rfl, rfl⟩ | ⟨_, h⟩
  ·rw [h73 j hdu]; exact R.nod j xd hd
  ·rw [h73 j (R.u j x h).1]; exact R.nod j x h
 ·rw [h73 j hj]; exact R.non j hj (hnone h).1
 ·rcases hold h with ⟨rfl, rfl⟩ | ⟨hne, h⟩
  ·rw [zAc L69 L69 hdu hdu R.ri, if_pos ⟨rfl, rfl⟩, ← R.ent j xd hd]
  ·rw [zAc L69 L69 (R.u j x h).1 hdu R.ri, if_neg (fun q => hne q.2)]; exact R.ent j x h
 ·rw [zAc L69 L69 hj hdu R.ri, if_neg (fun q => (hnone h).2 q.2)]; exact R.eno j hj (hnone h).1
 ·rcases hold h with ⟨rfl, rfl⟩ | ⟨_, h⟩
  ·rw [zAc L68 L69 hdu hdu R.ri, if_neg (fun q => by have := q.1; omega)]; exact R.blk j xd hd
  ·rw [zAc L68 L69 (R.u j x h).1 hdu R.ri, if_neg (fun q => by have := q.1; omega)]; exact R.blk j x h
 ·rw [zAc L68 L69 hj hdu R.ri, if_neg (fun q => by have := q.1; omega)]; exact R.bno j hj (hnone h).1
 ·rcases hold h with ⟨rfl, rfl⟩ | ⟨_, h⟩
  ·dsimp only at hv
   rw [qI] at hv
   by_cases e : nm' = nm
   ·rw [if_pos e] at hv; cases hv
   ·rw [if_neg e] at hv
    obtain ⟨g1, c, w, g2, g3, g4, g5⟩ := R.nam j xd hd nm' v hv
    obtain ⟨w', h3, h4⟩ := hlive g3
    exact ⟨g1, c, w', g2, h3, g4, fun q => g5 (by rw [← h4]; exact q)⟩
  ·obtain ⟨g1, c, w, g2, g3, g4, g5⟩ := R.nam j x h nm' v hv
   obtain ⟨w', h3, h4⟩ := hlive g3
   exact ⟨g1, c, w', g2, h3, g4, fun q => g5 (by rw [← h4]; exact q)⟩
 ·rcases hold h with ⟨rfl, rfl⟩ | ⟨_, h⟩
  ·rcases R.kin j xd hd with q | q
   ·exact .inl q
   ·have := q.1; omega
  ·exact R.kin j x h
 ·rcases hold h with ⟨rfl, rfl⟩ | ⟨_, h⟩
  ·have : xd.k = 1 := hk; omega
  ·have := zI9 hiu R.ri (R.u j x h).1 nm hnl
   have := R.lkf j x h hk
   split at * <;> omega
 ·rw [hsu]
  rcases hold h with ⟨rfl, rfl⟩ | ⟨hne, h⟩
  ·have g := R.lkd j xd hd hdk
   dsimp only
   have hc := zDl (fun y : KV => kindA A (beV y.2) == 2) (k := nm) hre
   rw [hno] at hc
   have hki : kindA A (beV (beB 4 i)) = z.k := by rw [yM i hiu]; unfold kindA; rw [hi]
   dsimp only at hc
   rw [hki] at hc
   unfold subsA at g ⊢
   by_cases hz : z.k = 2
   ·rw [if_pos ⟨rfl, hz⟩]
    rw [hz] at hc
    simp at hc
    omega
   ·rw [if_neg (fun q => hz q.2)]
    have e2 : (z.k == 2) = false := by simpa using hz
    rw [e2] at hc
    simp at hc
    omega
  ·rw [if_neg (fun q => hne q.1.symm)]
   have := R.lkd j x h hk
   omega
 ·rcases hold h with ⟨rfl, rfl⟩ | ⟨_, h⟩
  ·have := zI9 hiu R.ri hdu nm hnl
   have := R.one j xd hd hdk
   split at * <;> split at * <;> omega
  ·have := zI9 hiu R.ri (R.u j x h).1 nm hnl
   have := R.one j x h hk
   split at * <;> split at * <;> omega
theorem zDo {j k n s p : Int} (hm : mayB k n s p = true) (hk : 0 ≤ k ∧ k ≤ 255) (hn : U32 n) (hs : U32 s) (hp : U32 p) : ndOf j (some (nodeB k n s p)) = some (k, n, s, p) := by
 show getNode (nodeB k n s p) = _
 obtain ⟨h2, h3, h4⟩ := gF_node k n s p hn hs hp
 unfold getNode
 rw [b0_node k n s p hk, h2, h3, h4, if_pos ⟨zD6 _ _ _ _, hm⟩]
theorem RelA.save {l : List KV} {A : Nods} {par df ds : Int → Int} (R : RelA l A par df ds) {i : Int} {x : MN} (hx : A i = some x) (n' p' : Int) (hm : mayB x.k n' (x.b.length : Int) p' = true) (hn : U32 n') (hb : U32 (x.b.length : Int)) (hp : U32 p') (h1 : i = 1 → p' = 1) (hk1 : x.k = 1 → p' = 0) (hpar : x.k = 2 → p' = par i ∨ (refs i l = 0)) :
  RelA (lset (keyH 73 i) (nodeB x.k n' (x.b.length : Int) p') l) (updA A i (some { x with n := n' })) (fun j => if j = i then p' else par j) (fun j => df j + if j = i ∧ x.k = 1 then x.n - n' else 0) (fun j => ds j + if j = i ∧ x.k = 2 then x.n - n' else 0) := by
 have hiu := (R.u i x hx).1
 have hri : Rises (lset (keyH 73 i) (nodeB x.k n' (x.b.length : Int) p') l) := z7 R.ri
 have hkx : x.k = 2 ∨ x.k = 1 := (R.kin i x hx).imp (·.1) (·.1)
 have hkb : 0 ≤ x.k ∧ x.k ≤ 255 := by omega
 have hkA : ∀ c, kindA (updA A i (some { x with n := n' })) c = kindA A c := zGa hx rfl
 have hsu : ∀ e, subsA (updA A i (some { x with n := n' })) e = subsA A e := fun e => zAh fun y _ => hkA _
 have hlive : ∀ {c : Int} {w : MN}, A c = some w → ∃ w', updA A i (some { x with n := n' }) c = some w' ∧ w'.k = w.k := fun {c w} hw => by
  by_cases e : c = i
  ·subst e
   rw [hx] at hw
   obtain rfl := Option.some.inj hw
   exact ⟨_, zW .., rfl⟩
  ·exact ⟨w, by rw [zX _ _ e]; exact hw, rfl⟩
 have hnone : ∀ {c : Int}, updA A i (some { x with n := n' }) c = none → A c = none ∧ c ≠ i := fun {c} h => by
  by_cases e : c = i
  ·subst e; rw [zW] at h; cases h
  ·rw [zX _ _ e] at h; exact ⟨h, e⟩
 have hold : ∀ {j : Int} {y : MN}, updA A i (some { x with n := n' }) j = some y → (j = i ∧ y = { x with n := n' }) ∨ (j ≠ i ∧ A j = some y) := fun {j y} h => by
  by_cases e : j = i
  ·subst e; rw [zW] at h; exact .inl ⟨rfl, (Option.some.inj h).symm⟩
  ·rw [zX _ _ e] at h; exact .inr ⟨e, h⟩
 have e73 : keyH 73 i = keyH 73 i ++ [] := (List.append_nil _).symm
 have h73 : ∀ j, U32 j → lget (keyH 73 j) (lset (keyH 73 i) (nodeB x.k n' (x.b.length : Int) p') l) = if j = i then some (nodeB x.k n' (x.b.length : Int) p') else lget (keyH 73 j) l := fun j hj => by
  rw [get73, e73, zB0 L73 L73 hj hiu R.ri]
  by_cases e : j = i
  ·rw [if_pos ⟨rfl, e, rfl⟩, if_pos e]
  ·rw [if_neg (fun q => e q.2.1), if_neg e, ← get73]
 have h69 : ∀ j, U32 j → subL 69 j (lset (keyH 73 i) (nodeB x.k n' (x.b.length : Int) p') l) = subL 69 j l := fun j hj => by
  rw [e73, zAu L69 L73 hj hiu R.ri, if_neg (fun q => by have := q.1; omega)]
 have h68 : ∀ j, U32 j → subL 68 j (lset (keyH 73 i) (nodeB x.k n' (x.b.length : Int) p') l) = subL 68 j l := fun j hj => by
  rw [e73, zAu L68 L73 hj hiu R.ri, if_neg (fun q => by have := q.1; omega)]
 have hrf : ∀ j, refs j (lset (keyH 73 i) (nodeB x.k n' (x.b.length : Int) p') l) = refs j l := fun j => by
  rw [e73]; exact zC6 (.inl rfl) R.ri j [] _
 have hparn : ∀ {j : Int} {y : MN}, A j = some y → ∀ nm v, lget nm y.e = some v → ∀ c w, v = beB 4 c → A c = some w → (w.k = 2 → par c = j) → w.k = 2 → (if c = i then p' else par c) = j := fun {j y} hy nm v hv c w hvc hw g hk => by
  by_cases e : c = i
  ·subst e
   rw [if_pos rfl]
   rw [hx] at hw
   obtain rfl := Option.some.inj hw
   rcases hpar hk with q | q
   ·rw [q]; exact g hk
   ·exfalso
    have hl : lget (keyH 69 j ++ nm) l = some v := by rw [← qW R.ri, ← R.ent j y hy]; exact hv
    have hmem := (z5 R.ri).1 hl
    have : 0 < refs c l := List.countP_pos_iff.2 ⟨_, hmem, by rw [j4, hvc]; simp⟩
    omega
  ·rw [if_neg e]; exact g hk
 refine ⟨hri, fun j y h => ?_, fun j y h => ?_, ?_, ?_, fun j y h => ?_, fun j hj h => ?_, fun j y h => ?_, fun j hj h => ?_, fun j y h => ?_, fun j hj h => ?_, fun j y h nm' v hv => ?_, fun j y h => ?_, fun j y h hk => ?_, fun j y h hk => ?_, fun j y h hk => ?_, fun y hy => ?_⟩
 ·rcases hold h with ⟨rfl, rfl⟩ | ⟨_, h⟩
  ·exact R.id j x hx
  ·exact R.id j y h
 ·rcases hold h with ⟨rfl, rfl⟩ | ⟨_, h⟩
  ·exact R.u j x hx
  ·exact R.u j y h
 ·obtain ⟨y, g1, g2⟩ := R.root
  obtain ⟨w, h3, h4⟩ := hlive g1
  exact ⟨w, h3, h4.trans g2⟩
 ·by_cases e : (1 : Int) = i
  ·rw [if_pos e]; exact h1 e.symm
  ·rw [if_neg e]; exact R.rpar
 ·rcases hold h with ⟨rfl, rfl⟩ | ⟨hne, h⟩
  ·rw [h73 j hiu, if_pos rfl, if_pos rfl]
   exact zDo hm hkb hn hb hp
  ·rw [h73 j (R.u j y h).1, if_neg hne, if_neg hne]; exact R.nod j y h
 ·rw [h73 j hj, if_neg (hnone h).2]; exact R.non j hj (hnone h).1
 ·rcases hold h with ⟨rfl, rfl⟩ | ⟨_, h⟩
  ·rw [h69 j hiu]; exact R.ent j x hx
  ·rw [h69 j (R.u j y h).1]; exact R.ent j y h
 ·rw [h69 j hj]; exact R.eno j hj (hnone h).1
 ·rcases hold h with ⟨rfl, rfl⟩ | ⟨_, h⟩
  ·rw [h68 j hiu]; exact R.blk j x hx
  ·rw [h68 j (R.u j y h).1]; exact R.blk j y h
 ·rw [h68 j hj]; exact R.bno j hj (hnone h).1
 ·have key : ∀ {y0 : MN}, A j = some y0 → lget nm' y0.e = some v → nameB nm' = true ∧ ∃ c z, v = beB 4 c ∧ updA A i (some { x with n := n' }) c = some z ∧ c ≠ 1 ∧ (z.k = 2 → (if c = i then p' else par c) = j) := fun {y0} h0 hv0 => by
   obtain ⟨g1, c, w, g2, g3, g4, g5⟩ := R.nam j y0 h0 nm' v hv0
   obtain ⟨w', h3, h4⟩ := hlive g3
   exact ⟨g1, c, w', g2, h3, g4, fun q => hparn h0 nm' v hv0 c w g2 g3 g5 (by rw [← h4]; exact q)⟩
  rcases hold h with ⟨rfl, rfl⟩ | ⟨_, h⟩
  ·exact key hx hv
  ·exact key h hv
 ·rcases hold h with ⟨rfl, rfl⟩ | ⟨hne, h⟩
  ·rcases R.kin j x hx with q | q
   ·exact .inl q
   ·exact .inr ⟨q.1, q.2.1, by rw [if_pos rfl]; exact hk1 q.1⟩
  ·rw [if_neg hne]; exact R.kin j y h
 ·rw [hrf]
  rcases hold h with ⟨rfl, rfl⟩ | ⟨hne, h⟩
  ·have := R.lkf j x hx hk
   have hk' : x.k = 1 := hk
   rw [if_pos ⟨rfl, hk'⟩]
   dsimp only; omega
  ·rw [if_neg (fun q => hne q.1)]
   have := R.lkf j y h hk
   omega
 ·rw [hsu]
  rcases hold h with ⟨rfl, rfl⟩ | ⟨hne, h⟩
  ·have := R.lkd j x hx hk
   have hk' : x.k = 2 := hk
   rw [if_pos ⟨rfl, hk'⟩]
   dsimp only; omega
  ·rw [if_neg (fun q => hne q.1)]
   have := R.lkd j y h hk
   omega
 ·rw [hrf]
  rcases hold h with ⟨rfl, rfl⟩ | ⟨hne, h⟩
  ·have hk' : x.k = 2 := hk
   rw [if_neg (fun q : j = j ∧ x.k = 1 => by have := q.2; omega)]
   have := R.one j x hx hk'
   omega
  ·rw [if_neg (fun q : j = i ∧ x.k = 1 => hne q.1)]
   have := R.one j y h hk
   omega
 ·rcases zBl hy with rfl | hy
  ·exact ⟨73, i, [], .inl ⟨rfl, rfl⟩, hiu, e73⟩
  ·exact R.key y hy
theorem ofNat69 {c : Int} (hc : L8 c) (h : (UInt8.ofNat c.toNat == 69) = true) : c = 69 := by
 have h1 : UInt8.ofNat c.toNat = 69 := by simpa using h
 have h2 := congrArg UInt8.toNat h1
 simp at h2
 omega
theorem RelA.refs0 {l : List KV} {A : Nods} {par df ds : Int → Int} (R : RelA l A par df ds) {i : Int} (hiu : U32 i) (hi : A i = none) : refs i l = 0 := by
 unfold refs
 rw [List.countP_eq_zero]
 intro y hy hb
 obtain ⟨c, j, r, hc, hj, hk⟩ := R.key y hy
 unfold refB at hb
 rw [Bool.and_eq_true, hk, zFp] at hb
 have hc8 : L8 c := by unfold L8; omega
 obtain rfl := ofNat69 hc8 hb.1
 have hv : y.2 = beB 4 i := by simpa using hb.2
 have hm : (r, y.2) ∈ subL 69 j l := qE.2 (by rw [← hk]; exact hy)
 cases hA : A j with
 | none => rw [R.eno j hj hA] at hm; cases hm
 | some x =>
  rw [← R.ent j x hA] at hm
  obtain ⟨c, z, h1, h2, _, h4⟩ := R.val hA hm
  dsimp only at h1
  rw [hv] at h1
  have := (qF hiu h4).1 h1
  subst this
  rw [hi] at h2
  cases h2
theorem zPb {A : Nods} {i j : Int} (x : Option MN) (h : j ≠ i) : kindA (updA A i x) j = kindA A j := by unfold kindA; rw [zX _ _ h]
theorem RelA.make {l : List KV} {A : Nods} {par df ds : Int → Int} (R : RelA l A par df ds) {i k p : Int} (hiu : U32 i) (hi0 : i ≠ 0) (hi : A i = none) (hk : k = 1 ∧ p = 0 ∨ k = 2 ∧ U32 p) :
  RelA (lset (keyH 73 i) (nodeB k k 0 p) l) (updA A i (some ⟨i, k, k, [], []⟩)) (fun j => if j = i then p else par j) (fun j => if j = i then -1 else df j) (fun j => if j = i then 0 else ds j) := by
 have hri : Rises (lset (keyH 73 i) (nodeB k k 0 p) l) := z7 R.ri
 have hr0 := R.refs0 hiu hi
 have hi1 : i ≠ 1 := fun e => by
  obtain ⟨x, h1, _⟩ := R.root
  rw [e] at hi; rw [hi] at h1; cases h1
 have hold : ∀ {j : Int} {y : MN}, updA A i (some ⟨i, k, k, [], []⟩) j = some y → (j = i ∧ y = ⟨i, k, k, [], []⟩) ∨ (j ≠ i ∧ A j = some y) := fun {j y} h => by
  by_cases e : j = i
  ·subst e; rw [zW] at h; exact .inl ⟨rfl, (Option.some.inj h).symm⟩
  ·rw [zX _ _ e] at h; exact .inr ⟨e, h⟩
 have hne : ∀ {c : Int} {w : MN}, A c = some w → c ≠ i := fun {c w} hw e => by rw [e, hi] at hw; cases hw
 have hnone : ∀ {c : Int}, updA A i (some ⟨i, k, k, [], []⟩) c = none → A c = none ∧ c ≠ i := fun {c} h => by
  by_cases e : c = i
  ·subst e; rw [zW] at h; cases h
  ·rw [zX _ _ e] at h; exact ⟨h, e⟩
 have hsu : ∀ {j : Int} {y : MN}, A j = some y → subsA (updA A i (some ⟨i, k, k, [], []⟩)) y.e = subsA A y.e := fun {j y} hy => zAh fun w hw => by
  obtain ⟨c, z, h1, h2, _, h4⟩ := R.val hy hw
  rw [h1, yM c h4]
  exact zPb _ (hne h2)
 have e73 : keyH 73 i = keyH 73 i ++ [] := (List.append_nil _).symm
 have h73 : ∀ j, U32 j → lget (keyH 73 j) (lset (keyH 73 i) (nodeB k k 0 p) l) = if j = i then some (nodeB k k 0 p) else lget (keyH 73 j) l := fun j hj => by
  rw [get73, e73, zB0 L73 L73 hj hiu R.ri]
  by_cases e : j = i
  ·rw [if_pos ⟨rfl, e, rfl⟩, if_pos e]
  ·rw [if_neg (fun q => e q.2.1), if_neg e, ← get73]
 have h69 : ∀ j, U32 j → subL 69 j (lset (keyH 73 i) (nodeB k k 0 p) l) = subL 69 j l := fun j hj => by
  rw [e73, zAu L69 L73 hj hiu R.ri, if_neg (fun q => by have := q.1; omega)]
 have h68 : ∀ j, U32 j → subL 68 j (lset (keyH 73 i) (nodeB k k 0 p) l) = subL 68 j l := fun j hj => by
  rw [e73, zAu L68 L73 hj hiu R.ri, if_neg (fun q => by have := q.1; omega)]
 have hrf : ∀ j, refs j (lset (keyH 73 i) (nodeB k k 0 p) l) = refs j l := fun j => by
  rw [e73]; exact zC6 (.inl rfl) R.ri j [] _
 refine ⟨hri, fun j y h => ?_, fun j y h => ?_, ?_, ?_, fun j y h => ?_, fun j hj h => ?_, fun j y h => ?_, fun j hj h => ?_, fun j y h => ?_, fun j hj h => ?_, fun j y h nm' v hv => ?_, fun j y h => ?_, fun j y h hk' => ?_, fun j y h hk' => ?_, fun j y h hk' => ?_, fun y hy => ?_⟩
 ·rcases hold h with ⟨rfl, rfl⟩ | ⟨_, h⟩
  ·rfl
  ·exact R.id j y h
 ·rcases hold h with ⟨rfl, rfl⟩ | ⟨_, h⟩
  ·exact ⟨hiu, hi0⟩
  ·exact R.u j y h
 ·obtain ⟨y, g1, g2⟩ := R.root
  exact ⟨y, by rw [zX _ _ (Ne.symm hi1)]; exact g1, g2⟩
 ·rw [if_neg (Ne.symm hi1)]; exact R.rpar
 ·rcases hold h with ⟨rfl, rfl⟩ | ⟨hn, h⟩
  ·rw [h73 j hiu, if_pos rfl, if_pos rfl]
   rcases hk with ⟨rfl, rfl⟩ | ⟨rfl, hp⟩
   ·exact zDo rfl (by decide) (by decide) (by decide) (by decide)
   ·exact zDo rfl (by decide) (by decide) (by decide) hp
  ·rw [h73 j (R.u j y h).1, if_neg hn, if_neg hn]; exact R.nod j y h
 ·rw [h73 j hj, if_neg (hnone h).2]; exact R.non j hj (hnone h).1
 ·rcases hold h with ⟨rfl, rfl⟩ | ⟨_, h⟩
  ·rw [h69 j hiu]; exact (R.eno j hiu hi).symm
  ·rw [h69 j (R.u j y h).1]; exact R.ent j y h
 ·rw [h69 j hj]; exact R.eno j hj (hnone h).1
 ·rcases hold h with ⟨rfl, rfl⟩ | ⟨_, h⟩
  ·rw [h68 j hiu, R.bno j hiu hi]; exact zKx.symm
  ·rw [h68 j (R.u j y h).1]; exact R.blk j y h
 ·rw [h68 j hj]; exact R.bno j hj (hnone h).1
 ·rcases hold h with ⟨rfl, rfl⟩ | ⟨_, h⟩
  ·cases hv
  ·obtain ⟨g1, c, w, g2, g3, g4, g5⟩ := R.nam j y h nm' v hv
   exact ⟨g1, c, w, g2, by rw [zX _ _ (hne g3)]; exact g3, g4, fun q => by rw [if_neg (hne g3)]; exact g5 q⟩
 ·rcases hold h with ⟨rfl, rfl⟩ | ⟨hn, h⟩
  ·rcases hk with ⟨rfl, rfl⟩ | ⟨rfl, hp⟩
   ·exact .inr ⟨rfl, rfl, if_pos rfl⟩
   ·exact .inl ⟨rfl, rfl⟩
  ·rw [if_neg hn]; exact R.kin j y h
 ·rw [hrf]
  rcases hold h with ⟨rfl, rfl⟩ | ⟨hn, h⟩
  ·have hk' : k = 1 := hk'
   rw [if_pos rfl, hr0]
   dsimp only; omega
  ·rw [if_neg hn]; exact R.lkf j y h hk'
 ·rcases hold h with ⟨rfl, rfl⟩ | ⟨hn, h⟩
  ·have hk' : k = 2 := hk'
   rw [if_pos rfl]
   show k + 0 = 2 + ((0 : Nat) : Int)
   omega
  ·rw [if_neg hn, hsu h]; exact R.lkd j y h hk'
 ·rw [hrf]
  rcases hold h with ⟨rfl, rfl⟩ | ⟨hn, h⟩
  ·rw [if_neg hi1, if_pos rfl, hr0]; omega
  ·rw [if_neg hn]
   exact R.one j y h hk'
 ·rcases zBl hy with rfl | hy
  ·exact ⟨73, i, [], .inl ⟨rfl, rfl⟩, hiu, e73⟩
  ·exact R.key y hy
theorem RelA.drop {l l' : List KV} {A : Nods} {par df ds : Int → Int} (R : RelA l A par df ds) {i : Int} {x : MN} (hi : A i = some x) (hi1 : i ≠ 1) (he : x.e = []) (hr0 : refs i l = 0) (hri : Rises l')
  (h73 : ∀ j, U32 j → lget (keyH 73 j) l' = if j = i then none else lget (keyH 73 j) l) (h69 : ∀ j, U32 j → subL 69 j l' = subL 69 j l) (h68 : ∀ j, U32 j → subL 68 j l' = if j = i then [] else subL 68 j l) (hrf : ∀ j, refs j l' = refs j l) (hkey : ∀ y ∈ l', y ∈ l) :
  RelA l' (updA A i none) par (fun j => if j = i then 0 else df j) (fun j => if j = i then 0 else ds j) := by
 have hiu := (R.u i x hi).1
 have hold : ∀ {j : Int} {y : MN}, updA A i none j = some y → j ≠ i ∧ A j = some y := fun {j y} h => by
  by_cases e : j = i
  ·subst e; rw [zW] at h; cases h
  ·rw [zX _ _ e] at h; exact ⟨e, h⟩
 have hnone : ∀ {c : Int}, updA A i none c = none → c = i ∨ (c ≠ i ∧ A c = none) := fun {c} h => by
  by_cases e : c = i
  ·exact .inl e
  ·rw [zX _ _ e] at h; exact .inr ⟨e, h⟩
 have hnm : ∀ {j : Int} {y : MN}, A j = some y → ∀ nm v, lget nm y.e = some v → v ≠ beB 4 i := fun {j y} hy nm v hv e => by
  have hl : lget (keyH 69 j ++ nm) l = some v := by rw [← qW R.ri, ← R.ent j y hy]; exact hv
  have hmem := (z5 R.ri).1 hl
  have : 0 < refs i l := List.countP_pos_iff.2 ⟨_, hmem, by rw [j4, e]; simp⟩
  omega
 have hne : ∀ {j : Int} {y : MN}, A j = some y → ∀ w ∈ y.e, ∃ c z, w.2 = beB 4 c ∧ A c = some z ∧ U32 c ∧ c ≠ i := fun {j y} hy w hw => by
  have hr : Rises y.e := by rw [R.ent j y hy]; exact zU R.ri
  obtain ⟨c, z, h1, h2, _, h4⟩ := R.val hy hw
  exact ⟨c, z, h1, h2, h4, fun e => hnm hy w.1 w.2 ((z5 hr).2 hw) (by rw [h1, e])⟩
 have hsu : ∀ {j : Int} {y : MN}, A j = some y → subsA (updA A i none) y.e = subsA A y.e := fun {j y} hy => zAh fun w hw => by
  obtain ⟨c, z, h1, h2, h4, h5⟩ := hne hy w hw
  rw [h1, yM c h4]
  exact zPb _ h5
 refine ⟨hri, fun j y h => R.id j y (hold h).2, fun j y h => R.u j y (hold h).2, ?_, R.rpar, fun j y h => ?_, fun j hj h => ?_, fun j y h => ?_, fun j hj h => ?_, fun j y h => ?_, fun j hj h => ?_, fun j y h nm' v hv => ?_, fun j y h => R.kin j y (hold h).2, fun j y h hk' => ?_, fun j y h hk' => ?_, fun j y h hk' => ?_, fun y hy => R.key y (hkey y hy)⟩
 ·obtain ⟨y, g1, g2⟩ := R.root
  exact ⟨y, by rw [zX _ _ (Ne.symm hi1)]; exact g1, g2⟩
 ·obtain ⟨hn, h⟩ := hold h
  rw [h73 j (R.u j y h).1, if_neg hn]; exact R.nod j y h
 ·rw [h73 j hj]
  rcases hnone h with rfl | ⟨hn, h⟩
  ·rw [if_pos rfl]
  ·rw [if_neg hn]; exact R.non j hj h
 ·obtain ⟨hn, h⟩ := hold h
  rw [h69 j (R.u j y h).1]; exact R.ent j y h
 ·rw [h69 j hj]
  rcases hnone h with rfl | ⟨hn, h⟩
  ·rw [← R.ent j x hi]; exact he
  ·exact R.eno j hj h
 ·obtain ⟨hn, h⟩ := hold h
  rw [h68 j (R.u j y h).1, if_neg hn]; exact R.blk j y h
 ·rw [h68 j hj]
  rcases hnone h with rfl | ⟨hn, h⟩
  ·rw [if_pos rfl]
  ·rw [if_neg hn]; exact R.bno j hj h
 ·obtain ⟨hn, h⟩ := hold h
  obtain ⟨g1, c, w, g2, g3, g4, g5⟩ := R.nam j y h nm' v hv
  have hci : c ≠ i := fun e => hnm h nm' v hv (by rw [g2, e])
  exact ⟨g1, c, w, g2, by rw [zX _ _ hci]; exact g3, g4, g5⟩
 ·obtain ⟨hn, h⟩ := hold h
  rw [hrf, if_neg hn]; exact R.lkf j y h hk'
 ·obtain ⟨hn, h⟩ := hold h
  rw [hsu h, if_neg hn]; exact R.lkd j y h hk'
 ·obtain ⟨hn, h⟩ := hold h
  rw [hrf, if_neg hn]
  exact R.one j y h hk'
theorem zA5 (A : Nods) (j : Int) (x y : Option MN) : updA (updA A j x) j y = updA A j y := by
 funext i; unfold updA; split <;> rfl
theorem zD0 (A : Nods) {i j : Int} (h : i ≠ j) (x y : Option MN) : updA (updA A i x) j y = updA (updA A j y) i x := by
 funext k; unfold updA
 by_cases e : k = j
 ·rw [if_pos e, if_neg (by omega), if_pos e]
 ·rw [if_neg e]; by_cases e2 : k = i
  ·rw [if_pos e2, if_pos e2]
  ·rw [if_neg e2, if_neg e2, if_neg e]
theorem zTs (A : Nods) (j : Int) {x : Option MN} (h : A j = x) : updA A j x = A := by
 funext i; unfold updA; split
 ·rename_i e; rw [e, h]
 ·rfl
theorem zOh (f : MF) (x : MN) : (f.with x).at = updA f.at x.i (some x) := by funext i; rw [yV]; rfl
theorem zG1 (f : MF) (j : Int) : (f.without j).at = updA f.at j none := by funext i; rw [qD]; rfl
theorem qQ (f : MF) (j b : Int) {x : MN} (h : f.at j = some x) : (f.linked j b).at = updA f.at j (some { x with n := x.n + b }) := by
 funext i; rw [jK, h]; rfl
theorem jO (f : MF) (d : Int) (m : List UInt8) (j : Int) {x : MN} (h : f.at d = some x) : (f.named d m j).at = updA f.at d (some { x with e := nmE x.e m j }) := by
 funext i; rw [y6, h]; rfl
def MF.uq (f : MF) : Prop := ∀ x ∈ f, f.at x.i = some x
theorem zUn {f : MF} {x y : MN} (h : y ∈ f.with x) : y = x ∨ (y ∈ f ∧ y.i ≠ x.i) := by
 unfold MF.with at h
 rcases List.mem_append.1 h with h | h
 ·obtain ⟨z, hz, rfl⟩ := List.mem_map.1 h
  split
  ·exact .inl rfl
  ·rename_i e; exact .inr ⟨hz, e⟩
 ·split at h
  ·simp at h
  ·exact .inl (by simpa using h)
theorem MF.uq.with {f : MF} (h : f.uq) (x : MN) : (f.with x).uq := fun y hy => by
 rw [yV]
 rcases zUn hy with rfl | ⟨h1, h2⟩
 ·rw [if_pos rfl]
 ·rw [if_neg h2]; exact h y h1
theorem MF.uq.without {f : MF} (h : f.uq) (j : Int) : (f.without j).uq := fun y hy => by
 have hm := List.mem_filter.1 hy
 rw [qD, if_neg (by simpa using hm.2)]
 exact h y hm.1
theorem MF.uq.linked {f : MF} (h : f.uq) (j b : Int) : (f.linked j b).uq := by
 unfold MF.linked; split
 ·exact h.with _
 ·exact h
theorem MF.uq.named {f : MF} (h : f.uq) (d : Int) (m : List UInt8) (j : Int) : (f.named d m j).uq := by
 unfold MF.named; split
 ·exact h.with _
 ·exact h
structure NoD (m : MF) (d : Int) (nm : List UInt8) (xd : MN) : Prop where
 hd : m.at d = some xd
 hk : xd.k = 2
 hn : nameB nm = true
 hg : lget nm xd.e = none
structure InD (m : MF) (par : Int → Int) (d : Int) (nm : List UInt8) (i : Int) (xd z : MN) : Prop where
 hd : m.at d = some xd
 hk : xd.k = 2
 hn : nameB nm = true
 hg : lget nm xd.e = some (beB 4 i)
 hi : m.at i = some z
 h1 : i ≠ 1
 h0 : i ≠ 0
 hp : z.k = 2 → par i = d
inductive Fnd (m : MF) (par : Int → Int) (b : MS) : Prop where
 | root (h : b = ⟨0, [], 1⟩) : Fnd m par b
 | no (xd : MN) (h : NoD m b.d b.m xd) (h0 : b.i = 0) : Fnd m par b
 | there (xd z : MN) (h : InD m par b.d b.m b.i xd z) : Fnd m par b
theorem Rel.step {l : List KV} {m : MF} {par : Int → Int} (R : Rel l m par) {d : Int} {x : MN} (hx : m.at d = some x) (hk : x.k = 2) {nm : List UInt8} (hn : nameB nm = true) : Fnd m par ⟨d, nm, x.entry nm⟩ := by
 unfold MN.entry
 cases hg : lget nm x.e with
 | none => exact .no x ⟨hx, hk, hn, hg⟩ rfl
 | some v =>
  obtain ⟨_, c, z, rfl, hz, hc1, hc2⟩ := R.nam d x hx nm v hg
  have hu := R.u c z hz
  dsimp only
  rw [yM c hu.1]
  exact .there x z ⟨hx, hk, hn, hg, hz, hc1, hu.2, hc2⟩
theorem Rel.go {l : List KV} {m : MF} {par : Int → Int} (R : Rel l m par) : ∀ (N : List (List UInt8)) (a : MS), (∀ x ∈ N, nameB x = true) → Fnd m par a → (m.go N a).2 = 0 → Fnd m par (m.go N a).1
 | [], a, _, ha, _ => ha
 | x :: r, a, hN, ha, he => by
  unfold MF.go at he ⊢
  split
  ·rename_i h0; rw [if_pos h0] at he; cases he
  rename_i h0
  rw [if_neg h0] at he
  have hh : ∃ y, m.at a.i = some y := by
   rcases ha with rfl | ⟨_, _, h⟩ | ⟨_, z, h⟩
   ·exact R.root.elim fun y h => ⟨y, h.1⟩
   ·exact absurd h h0
   ·exact ⟨z, h.hi⟩
  obtain ⟨n, hn⟩ := hh
  rw [hn] at he ⊢
  dsimp only at he ⊢
  split
  ·rename_i hk; rw [if_pos hk] at he; cases he
  rename_i hk
  rw [if_neg hk] at he
  exact R.go r _ (fun y hy => hN y (List.mem_cons_of_mem _ hy)) (R.step hn (by simpa using hk) (hN x List.mem_cons_self)) he
theorem Rel.fnd {l : List KV} {m : MF} {par : Int → Int} (R : Rel l m par) {p : List UInt8} (he : (m.findP p).2 = 0) : Fnd m par (m.findP p).1 := by
 unfold MF.findP at he ⊢
 split
 ·rename_i h0; rw [if_pos h0] at he; exact absurd he h0
 ·rename_i h0
  rw [if_neg h0] at he
  exact R.go _ _ (zA8 (by simpa using h0)).2.2 (.root rfl) he
theorem zGt {v : List UInt8} {k n s p : Int} (h : getNode v = some (k, n, s, p)) : mayB k n s p = true := by
 unfold getNode at h
 split at h
 ·rename_i e
  injection h with h
  injection h with h1 h2
  injection h2 with h2 h3
  injection h3 with h3 h4
  rw [← h1, ← h2, ← h3, ← h4]; exact e.2
 ·cases h
theorem Rel.may {l : List KV} {m : MF} {par : Int → Int} (R : Rel l m par) {j : Int} {x : MN} (hx : m.at j = some x) : mayB x.k x.n (x.b.length : Int) (par j) = true ∧ U32 x.n ∧ U32 (x.b.length : Int) ∧ U32 (par j) := by
 have h := R.nod j x hx
 have h2 := zMy h
 refine ⟨?_, h2.2.1, h2.2.2.1, h2.2.2.2⟩
 cases hg : lget (keyH 73 j) l with
 | none =>
  rw [hg] at h
  unfold ndOf at h
  dsimp only at h
  split at h
  ·injection h with h
   injection h with h1 h2
   injection h2 with h2 h3
   injection h3 with h3 h4
   rw [← h1, ← h2, ← h3, ← h4]; rfl
  ·cases h
 | some v => rw [hg] at h; exact zGt h
theorem zJn : ∀ l : List Bool, fullE l = 21 ∨ (fullE l = 0 ∧ ∀ b ∈ l, b = true)
 | [] => .inr ⟨rfl, by simp⟩
 | b :: r => by
  unfold fullE
  by_cases e : b = true
  ·rw [if_pos e]
   refine (zJn r).imp_right fun h => ⟨h.1, fun c hc => ?_⟩
   rcases List.mem_cons.1 hc with rfl | hc
   ·exact e
   ·exact h.2 c hc
  ·rw [if_neg e]; exact .inl rfl
theorem qV (l : List Bool) : fullE l = 21 ∨ fullE l = 0 := (zJn l).imp_right (·.1)
theorem zDa {s : VS} {d : Int} (h : s.linksE d = 0) : s.room (keyH 73 d) = true := by
 rcases zJn [s.room (keyH 73 d)] with e | e
 ·unfold VS.linksE at h; omega
 ·exact e.2 _ (by simp)
theorem zAr {s : VS} {n : Nat} (h : VJ s n) {k v : List UInt8} (hr : s.room k = true) : (s.put k v).shown.row = lset k v s.shown.row := by
 unfold VS.put
 rw [if_pos hr]
 exact qY _ _ _ h.rs
theorem zCe {s : VS} {n : Nat} (h : VJ s n) {k : List UInt8} (hr : s.room k = true) : (s.del k).shown.row = lcut k s.shown.row := by
 unfold VS.del
 rw [if_pos hr]
 exact qT _ _ h.rs
theorem zDn {s : VS} {n : Nat} (h : VJ s n) {d b : Int} (hr : s.room (keyH 73 d) = true) {k m z p : Int} (hl : ndOf d (lget (keyH 73 d) s.shown.row) = some (k, m, z, p)) (hu : U32 (m + b)) : (s.links d b).shown.row = lset (keyH 73 d) (nodeB k (m + b) z p) s.shown.row := by
 unfold VS.links VS.save
 have e : (s.load d).getD (0, 0, 0, 0) = (k, m, z, p) := by rw [zIw h, hl]; rfl
 have h2 : (s.rd (keyH 73 d)).room (keyH 73 d) = true := hr
 rw [zAr (h.rd _) h2, e]
 have hw : IntKind.u32.wrap (m + b) = m + b := zC2 _ hu
 unfold linkN
 dsimp only
 rw [hw]
 rfl
end Go.Proofs.YtdnpkgakpiopgaaGreatDoor

import Derived.Test.YtdnpkgakpiopgaaGreatDoorGo
import Derived.Test.YtdnpkgakpiopgaaGreatDoorM33
import Derived.Test.YtdnpkgakpiopgaaGreatDoorM30
import Derived.Test.YtdnpkgakpiopgaaGreatDoorM9
import Derived.Test.YtdnpkgakpiopgaaGreatDoorM8
import Derived.Test.YtdnpkgakpiopgaaGreatDoorM26
import Derived.Test.YtdnpkgakpiopgaaGreatDoorM1
import Derived.Test.YtdnpkgakpiopgaaGreatDoorM20
import Derived.Test.YtdnpkgakpiopgaaGreatDoorM21
import Derived.Test.YtdnpkgakpiopgaaGreatDoorM25
namespace Go.Proofs.YtdnpkgakpiopgaaGreatDoor
set_option maxRecDepth 20000
open Go.Awp Tr
abbrev oA20 (o : Op20) (d : AV) : TV := .p (.agg [.int .u8 o.kind, .str o.path, .str o.other, .int .i64 o.h, .int .i64 o.from_, .int .i64 o.n, d])
theorem oA20_le (o : Op20) (d : AV) : TVLe (oA20 o d) (opT o (.p d)) := fun w β G v h => by
 cases h with | p h =>
 cases h with | agg _ vs hl hr =>
 refine .agg _ vs (by rw [hl]; rfl) fun j z u hz hu => ?_
 have hz' : (([.int .u8 o.kind, .str o.path, .str o.other, .int .i64 o.h, .int .i64 o.from_, .int .i64 o.n, d] : List AV).map TV.p)[j]? = some z := hz
 rw [List.getElem?_map] at hz'
 obtain ⟨y, hy, rfl⟩ := Option.map_eq_some_iff.1 hz'
 exact .p (hr j y u hy hu)
theorem zUx (o : Op20) {x y : AV} (h : AVLe x y) : TVLe (oA20 o x) (oA20 o y) := fun w β G v q => by
 cases q with | p q =>
 cases q with | agg _ vs hl hr =>
 refine .p (.agg _ vs hl fun j z u hz hu => ?_)
 match j, hz with
 | 0, hz => exact hr 0 z u hz hu
 | 1, hz => exact hr 1 z u hz hu
 | 2, hz => exact hr 2 z u hz hu
 | 3, hz => exact hr 3 z u hz hu
 | 4, hz => exact hr 4 z u hz hu
 | 5, hz => exact hr 5 z u hz hu
 | 6, hz =>
  obtain rfl := Option.some.inj hz
  exact h _ _ _ (hr 6 x u rfl hu)
theorem Bs.or {x : AV} {l : List UInt8} (h : Bs x l) : x = .nils ∨ x = .cz ∨ x = .ps (bv l) := by
 cases h with
 | ps => exact .inr (.inr rfl)
 | nils => exact .inl rfl
 | cz => exact .inr (.inl rfl)
theorem Bs.one {x : AV} {l : List UInt8} (h : Bs x l) : AVLe x (.cell .top) := fun w N v q => .cell _ _ (by
 obtain ⟨y, hy, hq⟩ : ∃ y, (y = .nils ∨ y = .cz ∨ ∃ r, y = AV.ps r) ∧ RepA w N y v := ⟨x, by rcases h.or with e | e | e <;> simp [e], q⟩
 rcases hy with rfl | rfl | ⟨r, rfl⟩
 ·cases hq; rfl
 ·cases hq; rfl
 ·cases hq <;> rfl) (.top _)
theorem Sl.or {α : Type} {mk : α → AV} {x : AV} {l : List α} (h : Sl mk x l) : x = .nils ∨ x = .ps (l.map mk) := by
 cases h with
 | nils => exact .inl rfl
 | ps => exact .inr rfl
structure POp where
 o : Op20
 a : AV
def popV (p : POp) : AV := .agg [.int .u8 p.o.kind, .str p.o.path, .str p.o.other, .int .i64 p.o.h, .int .i64 p.o.from_, .int .i64 p.o.n, p.a]
structure POp.ok (p : POp) : Prop where
 bs : Bs p.a p.o.b
 n : -9223372036854775808 ≤ p.o.n ∧ p.o.n ≤ 9223372036854775807
 f : -9223372036854775808 ≤ p.o.from_ ∧ p.o.from_ ≤ 9223372036854775807
 l : p.o.b.length ≤ 140737488351232
 lp : p.o.path.length ≤ Go.Awp.reach ∧ p.o.other.length ≤ Go.Awp.reach
theorem POp.ok.o {p : POp} (h : p.ok) : p.o.ok := ⟨h.n, h.f, by have := h.l; omega⟩
theorem all2_7 {R : Nat → AV → Prop} {a b c d e f g : Nat} {cs : List AV} (h : All2 R [a, b, c, d, e, f, g] cs) : ∃ x y z u v s t, cs = [x, y, z, u, v, s, t] ∧ R a x ∧ R b y ∧ R c z ∧ R d u ∧ R e v ∧ R f s ∧ R g t := by
 match cs, h with
 | [x, y, z, u, v, s, t], h => exact ⟨x, y, z, u, v, s, t, rfl, h.1, h.2.1, h.2.2.1, h.2.2.2.1, h.2.2.2.2.1, h.2.2.2.2.2.1, h.2.2.2.2.2.2.1⟩
theorem zR8 {n : Nat} {a : AV} (h : Shp tab (n + 7) 34 a) : ∃ l, Bs a l ∧ l.length ≤ 140737488351232 := by
 rcases h.slice rfl with rfl | ⟨rows, te, ls, rfl, hte, hls, hlen, hrows⟩
 ·exact ⟨[], .nils, by simp⟩
 ·obtain rfl := Option.some.inj (hte.symm.trans (show tlk tab 5 = some ⟨.int .u8, 1, 1, [.int .u8 0]⟩ from rfl))
  obtain rfl := Option.some.inj (hls.symm.trans (show leaves tab (n + 6) 5 = some [5] from rfl))
  have key : ∀ rows : List AV, (∀ r ∈ rows, All2 (Shp tab (n + 6)) [5] (cellsOf r) ∧ (∀ y, isAggD (TyD.int .u8) = some false → cellsOf r = [y] → r = y) ∧ (isAggD (TyD.int .u8) = some true → ∃ cs, r = .agg cs)) → ∃ l, rows = bv l := by
   intro rows
   induction rows with
   | nil => intro _; exact ⟨[], rfl⟩
   | cons r rs ih =>
    intro hr
    obtain ⟨l, hl⟩ := ih fun r' h' => hr r' (by simp [h'])
    obtain ⟨h1, h2, _⟩ := hr r (by simp)
    match hc : cellsOf r, h1 with
    | [y], h1 =>
     obtain ⟨n, rfl, hn⟩ := h1.1.int rfl
     change 0 ≤ n ∧ n ≤ 255 at hn
     have hry := h2 _ rfl hc
     subst hry
     refine ⟨UInt8.ofNat n.toNat :: l, ?_⟩
     rw [hl]
     show _ = AV.int .u8 ((UInt8.ofNat n.toNat).toNat : Int) :: bv l
     rw [show ((UInt8.ofNat n.toNat).toNat : Int) = n by simp; omega]
  obtain ⟨l, rfl⟩ := key rows hrows
  refine ⟨l, .ps l, ?_⟩
  rw [bv_length] at hlen
  unfold Go.Awp.reach at hlen
  simpa using hlen
theorem op_shp {n : Nat} {cs : List AV} (h : All2 (Shp tab (n + 7)) [5, 9, 9, 3, 3, 3, 34] cs) : ∃ p : POp, AV.agg cs = popV p ∧ p.ok := by
 obtain ⟨x, y, z, u, v, s, t, rfl, hx, hy, hz, hu, hv, hs, ht⟩ := all2_7 h
 obtain ⟨k, rfl, _⟩ := hx.int rfl
 obtain ⟨p, rfl, hp⟩ := hy.str rfl
 obtain ⟨q, rfl, hq⟩ := hz.str rfl
 obtain ⟨hd, rfl, _⟩ := hu.int rfl
 obtain ⟨f, rfl, hf⟩ := hv.int rfl
 obtain ⟨m, rfl, hm⟩ := hs.int rfl
 obtain ⟨b, hb, hl⟩ := zR8 ht
 exact ⟨⟨⟨k, p, q, hd, f, m, b⟩, t⟩, rfl, hb, hm, hf, hl, hp, hq⟩
theorem zGr {a : AV} (h : Shp tab 8 22 a) : ∃ l : List POp, Sl popV a l ∧ (∀ x ∈ l, x.ok) ∧ l.length ≤ 140737488355328 :=
 shp_agg popV _ h rfl rfl rfl rfl (by decide) fun cs hc => op_shp hc
theorem zV4 (s : VS) : Con Tryz.prog 16 [vP] (vH s) (.ad (.l 0) 0) (vH s) [deskB (.o 0) noH 0] := by
 refine zD Tryz.func16 rfl (by kernel_rfl) rfl fun F w0 β0 => ?_
 refine zE rfl ?_
 refine go ?_
 exact zBr hT rfl rfl
def great (o : Op20) : Bool := (decide ((o.path.length : Int) > 600) || decide ((o.other.length : Int) > 600)) || decide ((o.b.length : Int) > 1500)
theorem zRz (o : Op20) {d : AV} (hd : Bs d o.b) : Con Tryz.prog 31 [oA20 o d] [] (.p (.bool (great o))) [] [] := by
 refine Con.argT (args := [oA20 o (.ps (bv o.b))]) 0 ?_ rfl (zUx o (bs_ps hd))
 unfold great
 refine zD Tryz.func31 rfl (by kernel_rfl) rfl fun F w0 β0 => ?_
 refine zE rfl ?_
 refine go ?_
 rw [bv_length]
 exact zC hT rfl rfl rfl
abbrev resA (r : RS) (d n : AV) : TV := .p (.agg [.int .i64 r.e, .int .i64 r.n, d, n, .int .u8 r.st.1, .int .u32 r.st.2.1, .int .u32 r.st.2.2.1, .int .u32 r.st.2.2.2])
structure LD where
 at_ : Int
 e : Int
 ops : List POp
structure Hung (m m' : MF) (d : Int) (nm : List UInt8) (j : Int) : Prop where
 at_ : ∃ x x', m.at d = some x ∧ x.k = 2 ∧ lget nm x.e = none ∧ m'.at d = some x' ∧ x'.k = 2 ∧ x'.b = x.b ∧ x'.e = lset nm (beB 4 j) x.e
 oth : ∀ c, c ≠ d → c ≠ j → m'.at c = m.at c
 new : ∃ z', m'.at j = some z' ∧ z'.e = []
 was : ∀ z, m.at j = some z → z.e = []
 u : U32 j
 ne : j ≠ d
theorem zS0 {m : MF} {N : List (List UInt8)} {i : Int} (h : Reach m N i) : U32 i := by
 induction h with
 | nil => decide
 | snoc _ _ _ _ hi _ => exact hi
theorem find_new {l : List KV} {m : MF} {par : Int → Int} (R : Rel l m par) {N : List (List UInt8)} {nm p : List UInt8} {d : Int} {x : MN} (hs : (splitN p).2 = 0) (hp : namesP p = N ++ [nm]) (h : Reach m N d) (hx : m.at d = some x) (hk : x.k = 2) (hg : lget nm x.e = none) : m.findP p = (⟨d, nm, 0⟩, 0) := by
 rw [zQ3 R hs hp h hx hk]
 unfold MN.entry
 rw [hg]
theorem zS4 {m : MF} {p nm : List UInt8} {d : Int} {x : MN} (hf : m.findP p = (⟨d, nm, 0⟩, 0)) (hx : m.at d = some x) (hk : x.k = 2) (hg : lget nm x.e = none) {k j : Int} (hk1 : k = 1 ∨ k = 2) (hju : U32 j) (hj0 : j ≠ 0) (hj : m.at j = none) :
  (m.make p k j).1 = 0 ∧ Hung m (m.make p k j).2 d nm j ∧ (m.make p k j).2.at j = some ⟨j, k, k, [], []⟩ := by
 have hne : j ≠ d := fun e => by rw [e, hx] at hj; cases hj
 unfold MF.make
 rw [hf]
 dsimp only
 rw [if_neg (show ¬ (0 : Int) ≠ 0 by decide), if_neg (show ¬ (0 : Int) ≠ 0 by decide)]
 refine ⟨rfl, ?_, ?_⟩
 ·rcases hk1 with rfl | rfl
  ·rw [if_pos rfl]
   refine ⟨⟨x, { x with e := nmE x.e nm j }, hx, hk, hg, ?_, hk, rfl, zCi hj0⟩, fun c c1 c2 => ?_, ⟨⟨j, 1, 1, [], []⟩, ?_, rfl⟩, (fun z hz => by rw [hj] at hz; cases hz), hju, hne⟩
   ·rw [y6, if_pos rfl, yV, if_neg (fun q => hne q.symm), hx]; rfl
   ·rw [y6, if_neg c1, yV, if_neg c2]
   ·rw [y6, if_neg hne, yV, if_pos rfl]
  ·rw [if_neg (by decide)]
   refine ⟨⟨x, { x with n := x.n + 1, e := nmE x.e nm j }, hx, hk, hg, ?_, hk, rfl, zCi hj0⟩, fun c c1 c2 => ?_, ⟨⟨j, 2, 2, [], []⟩, ?_, rfl⟩, (fun z hz => by rw [hj] at hz; cases hz), hju, hne⟩
   ·rw [y6, if_pos rfl, jK, if_pos rfl, yV, if_neg (fun q => hne q.symm), hx]; rfl
   ·rw [y6, if_neg c1, jK, if_neg c1, yV, if_neg c2]
   ·rw [y6, if_neg hne, jK, if_neg hne, yV, if_pos rfl]
 ·rcases hk1 with rfl | rfl
  ·rw [if_pos rfl, y6, if_neg hne, yV, if_pos rfl]
  ·rw [if_neg (by decide), y6, if_neg hne, jK, if_neg hne, yV, if_pos rfl]
theorem zSq {s : VS} (h : s.writes.size ≤ 40) {p : List UInt8} {k i : Int} (he : (s.find p).2.1 = 0) (hi : (s.find p).1.i = 0) : (s.make p k i).1 = 0 := by
 unfold VS.make
 rw [if_neg (by rw [he]; decide), if_neg (by rw [hi]; decide)]
 unfold VS.makeAt
 dsimp only
 have hs : (s.rds (s.find p).2.2).writes.size ≤ 40 := h
 generalize s.rds (s.find p).2.2 = s1 at hs
 have z1 := put_wz s1 (keyH 73 i) (nodeB (newN k (s.find p).1.d).1 (newN k (s.find p).1.d).2.1 (newN k (s.find p).1.d).2.2.1 (newN k (s.find p).1.d).2.2.2)
 change (s1.save i (newN k (s.find p).1.d)).writes.size ≤ _ at z1
 generalize s1.save i (newN k (s.find p).1.d) = s2 at z1
 have z2 := put_wz s2 (entryK (s.find p).1.d (s.find p).1.m) (beB 4 i)
 have e0 : fullE [s1.room (keyH 73 i), s2.room (entryK (s.find p).1.d (s.find p).1.m)] = 0 := by rw [zM4 (by omega), zM4 (by omega)]; rfl
 rw [e0]
 split
 ·show firstE [0, fullE [_]] = 0
  rw [zM4 (by omega)]; rfl
 ·rfl
end Go.Proofs.YtdnpkgakpiopgaaGreatDoor

import Derived.Test.YtdkegmmigongoaaGreatDoorGo
import Derived.Test.YtdkegmmigongoaaGreatDoorM33
import Derived.Test.YtdkegmmigongoaaGreatDoorM31
import Derived.Test.YtdkegmmigongoaaGreatDoorM8
import Derived.Test.YtdkegmmigongoaaGreatDoorM7
import Derived.Test.YtdkegmmigongoaaGreatDoorM29
import Derived.Test.YtdkegmmigongoaaGreatDoorM14
import Derived.Test.YtdkegmmigongoaaGreatDoorM15
namespace Go.Proofs.YtdkegmmigongoaaGreatDoor
set_option maxRecDepth 20000
open Go.Awp Tr
abbrev oA20 (o : Op20) (d : AV) : TV := .p (.agg [.int .u8 o.kind, .str o.path, .str o.other, .int .i64 o.h, .int .i64 o.from_, .int .i64 o.n, d])
theorem oA20_le (o : Op20) (d : AV) : TVLe (oA20 o d) (opT o (.p d)) := fun w β G v h => by
 cases h with | p h =>
 cases h with | agg _ vs hl hr =>
 refine .agg _ vs (by rw [hl]; rfl) fun j z u hz hu => ?_
 have hz' : (([.int .u8 o.kind, .str o.path, .str o.other, .int .i64 o.h, .int .i64 o.from_, .int .i64 o.n, d] : List AV).map TV.p)[j]? = some z := hz
 rw [List.getElem?_map] at hz'
 obtain ⟨y, hy, rfl⟩ := Option.map_eq_some_iff.1 hz'
 exact .p (hr j y u hy hu)
theorem oA20_mono (o : Op20) {x y : AV} (h : AVLe x y) : TVLe (oA20 o x) (oA20 o y) := fun w β G v q => by
 cases q with | p q =>
 cases q with | agg _ vs hl hr =>
 refine .p (.agg _ vs hl fun j z u hz hu => ?_)
 match j, hz with
 | 0, hz => exact hr 0 z u hz hu
 | 1, hz => exact hr 1 z u hz hu
 | 2, hz => exact hr 2 z u hz hu
 | 3, hz => exact hr 3 z u hz hu
 | 4, hz => exact hr 4 z u hz hu
 | 5, hz => exact hr 5 z u hz hu
 | 6, hz =>
  obtain rfl := Option.some.inj hz
  exact h _ _ _ (hr 6 x u rfl hu)
theorem Bs.or {x : AV} {l : List UInt8} (h : Bs x l) : x = .nils ∨ x = .cz ∨ x = .ps (bv l) := by
 cases h with
 | ps => exact .inr (.inr rfl)
 | nils => exact .inl rfl
 | cz => exact .inr (.inl rfl)
theorem Bs.one {x : AV} {l : List UInt8} (h : Bs x l) : AVLe x (.cell .top) := fun w N v q => .cell _ _ (by
 obtain ⟨y, hy, hq⟩ : ∃ y, (y = .nils ∨ y = .cz ∨ ∃ r, y = AV.ps r) ∧ RepA w N y v := ⟨x, by rcases h.or with e | e | e <;> simp [e], q⟩
 rcases hy with rfl | rfl | ⟨r, rfl⟩
 ·cases hq; rfl
 ·cases hq; rfl
 ·cases hq <;> rfl) (.top _)
theorem Sl.or {α : Type} {mk : α → AV} {x : AV} {l : List α} (h : Sl mk x l) : x = .nils ∨ x = .ps (l.map mk) := by
 cases h with
 | nils => exact .inl rfl
 | ps => exact .inr rfl
structure POp where
 o : Op20
 a : AV
def popV (p : POp) : AV := .agg [.int .u8 p.o.kind, .str p.o.path, .str p.o.other, .int .i64 p.o.h, .int .i64 p.o.from_, .int .i64 p.o.n, p.a]
structure POp.ok (p : POp) : Prop where
 bs : Bs p.a p.o.b
 n : -9223372036854775808 ≤ p.o.n ∧ p.o.n ≤ 9223372036854775807
 f : -9223372036854775808 ≤ p.o.from_ ∧ p.o.from_ ≤ 9223372036854775807
 l : p.o.b.length ≤ 140737488351232
 lp : p.o.path.length ≤ Go.Awp.reach ∧ p.o.other.length ≤ Go.Awp.reach
theorem POp.ok.o {p : POp} (h : p.ok) : p.o.ok := ⟨h.n, h.f, by have := h.l; omega⟩
theorem all2_7 {R : Nat → AV → Prop} {a b c d e f g : Nat} {cs : List AV} (h : All2 R [a, b, c, d, e, f, g] cs) : ∃ x y z u v s t, cs = [x, y, z, u, v, s, t] ∧ R a x ∧ R b y ∧ R c z ∧ R d u ∧ R e v ∧ R f s ∧ R g t := by
 match cs, h with
 | [x, y, z, u, v, s, t], h => exact ⟨x, y, z, u, v, s, t, rfl, h.1, h.2.1, h.2.2.1, h.2.2.2.1, h.2.2.2.2.1, h.2.2.2.2.2.1, h.2.2.2.2.2.2.1⟩
theorem bytesN_shp {n : Nat} {a : AV} (h : Shp tab (n + 7) 31 a) : ∃ l, Bs a l ∧ l.length ≤ 140737488351232 := by
 rcases h.slice rfl with rfl | ⟨rows, te, ls, rfl, hte, hls, hlen, hrows⟩
 ·exact ⟨[], .nils, by simp⟩
 ·obtain rfl := Option.some.inj (hte.symm.trans (show tlk tab 5 = some ⟨.int .u8, 1, 1, [.int .u8 0]⟩ from rfl))
  obtain rfl := Option.some.inj (hls.symm.trans (show leaves tab (n + 6) 5 = some [5] from rfl))
  have key : ∀ rows : List AV, (∀ r ∈ rows, All2 (Shp tab (n + 6)) [5] (cellsOf r) ∧ (∀ y, isAggD (TyD.int .u8) = some false → cellsOf r = [y] → r = y) ∧ (isAggD (TyD.int .u8) = some true → ∃ cs, r = .agg cs)) → ∃ l, rows = bv l := by
   intro rows
   induction rows with
   | nil => intro _; exact ⟨[], rfl⟩
   | cons r rs ih =>
    intro hr
    obtain ⟨l, hl⟩ := ih fun r' h' => hr r' (by simp [h'])
    obtain ⟨h1, h2, _⟩ := hr r (by simp)
    match hc : cellsOf r, h1 with
    | [y], h1 =>
     obtain ⟨n, rfl, hn⟩ := h1.1.int rfl
     change 0 ≤ n ∧ n ≤ 255 at hn
     have hry := h2 _ rfl hc
     subst hry
     refine ⟨UInt8.ofNat n.toNat :: l, ?_⟩
     rw [hl]
     show _ = AV.int .u8 ((UInt8.ofNat n.toNat).toNat : Int) :: bv l
     rw [show ((UInt8.ofNat n.toNat).toNat : Int) = n by simp; omega]
  obtain ⟨l, rfl⟩ := key rows hrows
  refine ⟨l, .ps l, ?_⟩
  rw [bv_length] at hlen
  unfold Go.Awp.reach at hlen
  simpa using hlen
theorem op_shp {n : Nat} {cs : List AV} (h : All2 (Shp tab (n + 7)) [5, 9, 9, 3, 3, 3, 31] cs) : ∃ p : POp, AV.agg cs = popV p ∧ p.ok := by
 obtain ⟨x, y, z, u, v, s, t, rfl, hx, hy, hz, hu, hv, hs, ht⟩ := all2_7 h
 obtain ⟨k, rfl, _⟩ := hx.int rfl
 obtain ⟨p, rfl, hp⟩ := hy.str rfl
 obtain ⟨q, rfl, hq⟩ := hz.str rfl
 obtain ⟨hd, rfl, _⟩ := hu.int rfl
 obtain ⟨f, rfl, hf⟩ := hv.int rfl
 obtain ⟨m, rfl, hm⟩ := hs.int rfl
 obtain ⟨b, hb, hl⟩ := bytesN_shp ht
 exact ⟨⟨⟨k, p, q, hd, f, m, b⟩, t⟩, rfl, hb, hm, hf, hl, hp, hq⟩
theorem ops_shp20 {a : AV} (h : Shp tab 8 22 a) : ∃ l : List POp, Sl popV a l ∧ (∀ x ∈ l, x.ok) ∧ l.length ≤ 140737488355328 :=
 shp_agg popV _ h rfl rfl rfl rfl (by decide) fun cs hc => op_shp hc
theorem onew_spec (s : VS) : Con Tryz.prog 11 [vP] (vH s) (.ad (.l 0) 0) (vH s) [deskB (.o 0) noH 0] := by
 refine con_of Tryz.func11 rfl (by kernel_rfl) rfl fun F w0 β0 => ?_
 refine K_tell rfl ?_
 refine go ?_
 exact J_give hT rfl rfl
def great (o : Op20) : Bool := (decide ((o.path.length : Int) > 600) || decide ((o.other.length : Int) > 600)) || decide ((o.b.length : Int) > 1500)
theorem great_spec (o : Op20) {d : AV} (hd : Bs d o.b) : Con Tryz.prog 25 [oA20 o d] [] (.p (.bool (great o))) [] [] := by
 refine Con.argT (args := [oA20 o (.ps (bv o.b))]) 0 ?_ rfl (oA20_mono o (bs_ps hd))
 unfold great
 refine con_of Tryz.func25 rfl (by kernel_rfl) rfl fun F w0 β0 => ?_
 refine K_tell rfl ?_
 refine go ?_
 rw [bv_length]
 exact J_done hT rfl rfl rfl
abbrev resA (r : RS) (d n : AV) : TV := .p (.agg [.int .i64 r.e, .int .i64 r.n, d, n, .int .u8 r.st.1, .int .u32 r.st.2.1, .int .u32 r.st.2.2.1, .int .u32 r.st.2.2.2])
theorem D20.next {s : VS} {l : List Int} {m : MF} {i : Nat} (d : D20 s l m (fun k => k < (2 + i : Nat)) i) (hi : i ≤ 100) (o : Op20) {q : RS × VS × List Int} (hq : sdo s l o (2 + i : Nat) = q) (he : q.1.e ≠ 21) : ∃ m', D20 q.2.1 q.2.2 m' (fun k => k < (2 + (i + 1) : Nat)) (i + 1) := by
 rcases d.step (Q := fun k => k < (2 + (i + 1) : Nat)) (by omega) o (j := (2 + i : Nat)) (by unfold U32; omega) (by omega) (by omega) (fun k h => by omega) (by omega) with h | ⟨_, _, h⟩
 ·rw [hq] at h; exact absurd h he
 ·rw [hq] at h; exact ⟨_, h⟩
theorem D20.start : D20 (VS.new .nil) noH newM (fun k => k < (2 + 0 : Nat)) 0 := D20.new (by decide)
end Go.Proofs.YtdkegmmigongoaaGreatDoor

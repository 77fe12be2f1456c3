import Derived.Test.YtdnpkgakpiopgaaGreatDoorGo
import Derived.Test.YtdnpkgakpiopgaaGreatDoorM28
import Derived.Test.YtdnpkgakpiopgaaGreatDoorM23
import Derived.Test.YtdnpkgakpiopgaaGreatDoorM13
import Derived.Test.YtdnpkgakpiopgaaGreatDoorM15
import Derived.Test.YtdnpkgakpiopgaaGreatDoorM14
import Derived.Test.YtdnpkgakpiopgaaGreatDoorM19
namespace Go.Proofs.YtdnpkgakpiopgaaGreatDoor
set_option maxRecDepth 20000
open Go.Awp Tr
theorem zV9 (i : Int) (z n : Nat) (r : List Nat) (s : VS) (ok : Bool) : shrL i z (n :: r) s ok = shrL i z r (s.putB i n (clrB (s.block i n) (z - 64 * n))).2 ((s.putB i n (clrB (s.block i n) (z - 64 * n))).1 && ok) := rfl
structure ShS (i : Int) (m z a c : Nat) (s0 : VS) where
 k : Nat
 h : k ≤ c
 s : VS
 ok : Bool
 v : VJ s (m + k)
 e : shrL i z (List.range' (a + k) (c - k)) s ok = shrL i z (List.range' a c) s0 true
set_option maxHeartbeats 16000000 in
theorem zKv {s : VS} {m : Nat} (h : VJ s m) (hm : m ≤ 100000) (i : Int) (hi : U32 i) (z had : Nat) (hz : z < had) (hh : had ≤ 4096) :
  Con Tryz.prog 168 [vP, .p (.int .u32 i), .p (.int .i64 (z : Int)), .p (.int .i64 (had : Int))] (vH s) (.p (.bool (shrL i z (List.range' (z / 64) ((blocks (had : Int)).toNat - z / 64)) s true).1)) (vH (shrL i z (List.range' (z / 64) ((blocks (had : Int)).toNat - z / 64)) s true).2) [] := by
 have hB : blocks (had : Int) = (((had + 63) / 64 : Nat) : Int) := by unfold blocks; rw [if_neg (by omega)]; omega
 have c1 := zNp (had : Int) (by omega) []
 rw [hB] at c1 ⊢
 rw [Int.toNat_natCast]
 have e13 : IntKind.i64.wrap ((z : Int).tdiv 64) = ((z / 64 : Nat) : Int) := by
  rw [Int.tdiv_eq_ediv_of_nonneg (by omega), IntWalk.i64_in _ (by omega)]; omega
 generalize hB' : (had + 63) / 64 = B at c1
 refine zD Tryz.func168 rfl (by kernel_rfl) rfl fun F w0 β0 => ?_
 refine zE rfl ?_
 refine go ?_
 refine yH 10 (.p (.int .i64 ((z / 64 : Nat) : Int))) rfl (congrArg (fun z => TV.p (.int .i64 z)) e13) ?_
 refine z9 (fun q : ShS i m z (z / 64) (B - z / 64) s => [(0, vP), (1, .p (.int .u32 i)), (2, .p (.int .i64 (z : Int))), (3, .p (.int .i64 (had : Int))), (9, .p (.bool q.ok)), (10, .p (.int .i64 ((z / 64 + q.k : Nat) : Int)))]) (fun q => vH q.s) (fun _ => []) (fun q => B - z / 64 - q.k) ⟨0, by omega, s, true, h, rfl⟩ ⟨rfl, rfl, rfl, rfl, rfl, rfl, trivial⟩ rfl rfl (fun q => ?_)
 have hk := q.h
 have he := q.e
 have hvq := q.v
 refine go ?_
 refine zH rfl rfl (zB rfl rfl (c1) rfl rfl rfl rfl) rfl ?_
 refine go ?_
 by_cases hlt : q.k < B - z / 64
 ·obtain ⟨c, hc⟩ : ∃ c, B - z / 64 - q.k = c + 1 := ⟨B - z / 64 - q.k - 1, by omega⟩
  rw [hc, List.range'_succ, zV9] at he
  have hbl := zA2 q.s i (z / 64 + q.k)
  have c2 := zEp hvq i hi ((z / 64 + q.k : Nat) : Int) (z / 64 + q.k) rfl
  have hcl := zJh (q.s.block i (z / 64 + q.k)) (z - 64 * (z / 64 + q.k))
  have hin : (bv (q.s.block i (z / 64 + q.k))).take (z - 64 * (z / 64 + q.k)) ++ List.replicate (64 - (z - 64 * (z / 64 + q.k))) (zrow ⟨.int .u8, 1, 1, [.int .u8 0]⟩) ++ (bv (q.s.block i (z / 64 + q.k))).drop (z - 64 * (z / 64 + q.k) + (List.replicate (64 - (z - 64 * (z / 64 + q.k))) (zrow ⟨.int .u8, 1, 1, [.int .u8 0]⟩)).length) = bv (clrB (q.s.block i (z / 64 + q.k)) (z - 64 * (z / 64 + q.k))) := by
   unfold clrB
   rw [zAx, bv_take, zB4, bv_drop, List.drop_of_length_le (by rw [List.length_replicate]; omega), hbl]
   show _ ++ _ ++ [] = _
   rw [List.append_nil]; rfl
  have c3 := zK5 hvq (by omega) i hi ((z / 64 + q.k : Nat) : Int) (z / 64 + q.k) rfl (clrB (q.s.block i (z / 64 + q.k)) (z - 64 * (z / 64 + q.k))) (by rw [hcl, hbl])
  have hv3 := hvq.putB i (z / 64 + q.k) (b := clrB (q.s.block i (z / 64 + q.k)) (z - 64 * (z / 64 + q.k))) (by rw [hcl, hbl]; omega)
  have e29 : mmA .max (IntKind.i64.wrap ((z : Int) - IntKind.i64.wrap (((z / 64 + q.k : Nat) : Int) * 64))) 0 = ((z - 64 * (z / 64 + q.k) : Nat) : Int) := by
   rw [zOa, IntWalk.i64_in (((z / 64 + q.k : Nat) : Int) * 64) (by omega), IntWalk.i64_in _ (by omega)]; omega
  have hza : z - 64 * (z / 64 + q.k) ≤ 64 := by omega
  generalize z - 64 * (z / 64 + q.k) = a at c3 hv3 hin e29 he hza
  generalize hblk : q.s.block i (z / 64 + q.k) = blk at c2 hin c3 hv3 he hbl
  generalize hBB : clrB blk a = B2 at c3 hv3 he hin
  generalize hQ : q.s.putB i (z / 64 + q.k) B2 = Q at c3 hv3 he
  obtain ⟨r1, s3⟩ := Q
  dsimp only at c3 hv3 he
  refine zG rfl (decide_eq_true (by omega)) ?_
  refine go ?_
  refine zH rfl rfl (zA [.o 0, .o 1] rfl rfl (c2) rfl rfl rfl ⟨⟨rfl, rfl⟩, ⟨rfl, rfl⟩, trivial⟩ rfl rfl rfl rfl) rfl ?_
  refine go ?_
  refine yH 29 (.p (.int .i64 (a : Int))) rfl (congrArg (fun z => TV.p (.int .i64 z)) e29) ?_
  refine zH rfl rfl (y9 hT rfl rfl rfl rfl (Rd.own (i := 0) rfl (by rw [bv_length]; exact hbl)) rfl rfl (by omega) (by rw [bv_length, hbl]; omega) (by omega) (y5 _)) rfl ?_
  have e30 : TV.sl (.l 0) 64 (0 + (a : Int).toNat) (((bv blk).length : Int).toNat - (a : Int).toNat) = .sl (.l 0) 64 a (64 - a) := by
   rw [bv_length, hbl, Int.toNat_natCast, Nat.zero_add]; rfl
  refine yH 30 _ rfl e30 ?_
  refine go ?_
  refine zH rfl rfl (zRu (rows0 := bv blk) hT rfl rfl rfl rfl rfl rfl rfl rfl (by rw [bv_length]; exact hbl) (by omega) (by rw [bv_length]; omega)) rfl ?_
  rw [hin]
  refine go ?_
  refine zH rfl rfl (zA [.o 0, .o 1, .l 0] rfl rfl (c3) rfl rfl rfl ⟨⟨rfl, rfl⟩, ⟨rfl, rfl⟩, ⟨rfl, rfl⟩, trivial⟩ rfl rfl rfl rfl) rfl ?_
  refine go ?_
  refine zY 0 [(0, vP), (1, .p (.int .u32 i)), (2, .p (.int .i64 (z : Int))), (3, .p (.int .i64 (had : Int))), (9, .p (.bool (r1 && q.ok))), (10, .p (.int .i64 (IntKind.i64.wrap (((z / 64 + q.k : Nat) : Int) + 1))))] ⟨rfl, rfl, rfl, rfl, rfl, rfl, trivial⟩ rfl rfl ?_
  refine zR ⟨q.k + 1, by omega, s3, r1 && q.ok, hv3.mono (by omega), by rw [← he, show B - z / 64 - (q.k + 1) = c by omega]; rfl⟩ (by show B - z / 64 - (q.k + 1) < B - z / 64 - q.k; omega) ⟨rfl, rfl, rfl, rfl, rfl, congrArg (fun z => TV.p (.int .i64 z)) (by rw [IntWalk.i64_in _ (by omega)]; rfl), trivial⟩ rfl rfl
 ·rw [show B - z / 64 - q.k = 0 by omega] at he
  change (q.ok, q.s) = _ at he
  rw [← he]
  dsimp only
  refine zF rfl (decide_eq_false (by omega)) ?_
  refine go ?_
  exact zC hT rfl rfl rfl
set_option maxHeartbeats 16000000 in
theorem zNu {s : VS} {m : Nat} (h : VJ s m) (hm : m ≤ 90000) (i : Int) (hi : U32 i) (z : Int) (hz : -9223372036854775808 ≤ z ∧ z ≤ 9223372036854775807) :
  Con Tryz.prog 130 [vP, .p (.int .u32 i), .p (.int .i64 z)] (vH s) (.p (.int .i64 (s.ftrunc i z).1)) (vH (s.ftrunc i z).2) [] := by
 have c1 := zCr h (by omega) i hi
 have hv := h.rd (keyH 73 i)
 have hbd := @zFo s i
 unfold VS.ftrunc
 generalize s.rd (keyH 73 i) = s1 at c1 hv
 have hs4 : ∀ x, s.fload i = some x → x.2.2.1 ≤ 4096 := fun x => zIg
 generalize s.fload i = g at c1 hbd hs4
 cases g with
 | none =>
  refine zD Tryz.func130 rfl (by kernel_rfl) rfl fun F w0 β0 => ?_
  refine zE rfl ?_
  refine go ?_
  refine zH rfl rfl (zA [.o 0, .o 1] rfl rfl (c1) rfl rfl rfl ⟨⟨rfl, rfl⟩, ⟨rfl, rfl⟩, trivial⟩ rfl rfl rfl rfl) rfl ?_
  refine go ?_
  exact zC hT rfl rfl rfl
 | some x =>
  obtain ⟨⟨hx1, hx2, hx3, hx4⟩, _⟩ := hbd rfl
  have hs4 := hs4 x rfl
  dsimp only
  by_cases h1 : z < 0
  ·rw [if_pos h1]
   refine zD Tryz.func130 rfl (by kernel_rfl) rfl fun F w0 β0 => ?_
   refine zE rfl ?_
   refine go ?_
   refine zH rfl rfl (zA [.o 0, .o 1] rfl rfl (c1) rfl rfl rfl ⟨⟨rfl, rfl⟩, ⟨rfl, rfl⟩, trivial⟩ rfl rfl rfl rfl) rfl ?_
   refine go ?_
   refine zG rfl (decide_eq_true h1) ?_
   refine go ?_
   exact zC hT rfl rfl rfl
  rw [if_neg h1]
  by_cases h2 : z > 4096
  ·rw [if_pos h2]
   refine zD Tryz.func130 rfl (by kernel_rfl) rfl fun F w0 β0 => ?_
   refine zE rfl ?_
   refine go ?_
   refine zH rfl rfl (zA [.o 0, .o 1] rfl rfl (c1) rfl rfl rfl ⟨⟨rfl, rfl⟩, ⟨rfl, rfl⟩, trivial⟩ rfl rfl rfl rfl) rfl ?_
   refine go ?_
   refine zF rfl (decide_eq_false h1) ?_
   refine go ?_
   refine zG rfl (decide_eq_true h2) ?_
   refine go ?_
   exact zC hT rfl rfl rfl
  rw [if_neg h2]
  have hg : Nd.ok (sizeN x z) := ⟨hx1, hx2, by unfold sizeN; dsimp only; omega, hx4⟩
  have c2 := jF hv (by omega) i hi (sizeN x z) hg
  have hv2 := hv.fsave i (sizeN x z)
  generalize s1.save i (sizeN x z) = s2 at c2 hv2
  generalize s1.room (keyH 73 i) = r0 at c2
  have e31 : IntKind.u32.wrap z = z := zC2 _ (by omega)
  have e29 : IntKind.i64.wrap x.2.2.1 = x.2.2.1 := IntWalk.i64_in _ (by omega)
  by_cases h3 : z < x.2.2.1
  ·rw [if_pos h3]
   have c3 := zKv hv2 (by omega) i hi z.toNat x.2.2.1.toNat (by omega) (by omega)
   rw [Int.toNat_of_nonneg (show 0 ≤ z by omega), Int.toNat_of_nonneg hx3.1] at c3
   generalize shrL i z.toNat (List.range' (z.toNat / 64) ((blocks x.2.2.1).toNat - z.toNat / 64)) s2 true = R at c3
   obtain ⟨r1, s3⟩ := R
   dsimp only at c3 ⊢
   refine zD Tryz.func130 rfl (by kernel_rfl) rfl fun F w0 β0 => ?_
   refine zE rfl ?_
   refine go ?_
   refine zH rfl rfl (zA [.o 0, .o 1] rfl rfl (c1) rfl rfl rfl ⟨⟨rfl, rfl⟩, ⟨rfl, rfl⟩, trivial⟩ rfl rfl rfl rfl) rfl ?_
   refine go ?_
   refine zF rfl (decide_eq_false h1) ?_
   refine go ?_
   refine zF rfl (decide_eq_false h2) ?_
   refine go ?_
   refine yH 35 (.agg [.p (.int .u8 x.1), .p (.int .u32 x.2.1), .p (.int .u32 z), .p (.int .u32 x.2.2.2)]) rfl (congrArg (fun z => TV.agg [.p (.int .u8 x.1), .p (.int .u32 x.2.1), .p (.int .u32 z), .p (.int .u32 x.2.2.2)]) e31) ?_
   refine zH rfl rfl (zA [.o 0, .o 1] rfl rfl (c2) rfl rfl rfl ⟨⟨rfl, rfl⟩, ⟨rfl, rfl⟩, trivial⟩ rfl rfl rfl rfl) rfl ?_
   refine go ?_
   refine zG rfl (decide_eq_true (by show z < IntKind.i64.wrap x.2.2.1; rw [e29]; exact h3)) ?_
   refine go ?_
   refine yH 43 (.p (.int .i64 x.2.2.1)) rfl (congrArg (fun z => TV.p (.int .i64 z)) e29) ?_
   refine zH rfl rfl (zA [.o 0, .o 1] rfl rfl (c3) rfl rfl rfl ⟨⟨rfl, rfl⟩, ⟨rfl, rfl⟩, trivial⟩ rfl rfl rfl rfl) rfl ?_
   refine go ?_
   cases r1 <;> cases r0
   ·refine go ?_
    exact zC hT rfl rfl rfl
   ·refine go ?_
    exact zC hT rfl rfl rfl
   ·refine go ?_
    exact zC hT rfl rfl rfl
   ·refine go ?_
    exact zC hT rfl rfl rfl
  ·rw [if_neg h3]
   refine zD Tryz.func130 rfl (by kernel_rfl) rfl fun F w0 β0 => ?_
   refine zE rfl ?_
   refine go ?_
   refine zH rfl rfl (zA [.o 0, .o 1] rfl rfl (c1) rfl rfl rfl ⟨⟨rfl, rfl⟩, ⟨rfl, rfl⟩, trivial⟩ rfl rfl rfl rfl) rfl ?_
   refine go ?_
   refine zF rfl (decide_eq_false h1) ?_
   refine go ?_
   refine zF rfl (decide_eq_false h2) ?_
   refine go ?_
   refine yH 35 (.agg [.p (.int .u8 x.1), .p (.int .u32 x.2.1), .p (.int .u32 z), .p (.int .u32 x.2.2.2)]) rfl (congrArg (fun z => TV.agg [.p (.int .u8 x.1), .p (.int .u32 x.2.1), .p (.int .u32 z), .p (.int .u32 x.2.2.2)]) e31) ?_
   refine zH rfl rfl (zA [.o 0, .o 1] rfl rfl (c2) rfl rfl rfl ⟨⟨rfl, rfl⟩, ⟨rfl, rfl⟩, trivial⟩ rfl rfl rfl rfl) rfl ?_
   refine go ?_
   refine zF rfl (decide_eq_false (by show ¬ z < IntKind.i64.wrap x.2.2.1; rw [e29]; exact h3)) ?_
   cases r0
   ·refine go ?_
    exact zC hT rfl rfl rfl
   ·refine go ?_
    exact zC hT rfl rfl rfl
structure ZrI (n : Nat) where
 k : Nat
 h : k ≤ n
structure FOp where
 kind : Int
 ino : Int
 from_ : Int
 n : Int
 a : AV
 b : List UInt8
structure FOp.ok (o : FOp) : Prop where
 bs : Bs o.a o.b
 u : U32 o.ino
 f : -9223372036854775808 ≤ o.from_ ∧ o.from_ ≤ 9223372036854775807
 n : -9223372036854775808 ≤ o.n ∧ o.n ≤ 9223372036854775807
 l : o.b.length ≤ 140737488351232
def do19 (s : VS) (m : MF) (o : FOp) : (Int × VS) × (Int × MF) :=
 if o.kind = 1 then (s.fwrite o.ino o.from_ o.b, m.fwrite o.ino o.from_ o.b) else if o.kind = 2 then (s.ftrunc o.ino o.n, m.ftrunc o.ino o.n) else ((0, s), (0, m))
def doT19 (s : VS) (m : MF) (o : FOp) : (Bool × MF × Bool) × VS :=
 if o.kind = 0 then ((decide ((s.fread o.ino o.from_ o.n).1.1 = (m.fread o.ino o.from_ o.n).1) && decide ((s.fread o.ino o.from_ o.n).1.2 = (m.fread o.ino o.from_ o.n).2), m, false), (s.fread o.ino o.from_ o.n).2)
 else if (do19 s m o).1.1 = 21 then ((true, m, true), (do19 s m o).1.2) else ((decide ((do19 s m o).1.1 = (do19 s m o).2.1), (do19 s m o).2.2, false), (do19 s m o).1.2)
end Go.Proofs.YtdnpkgakpiopgaaGreatDoor

import Derived.Test.YtdnpkgakpiopgaaGreatDoorGo
import Derived.Test.YtdnpkgakpiopgaaGreatDoorM27
import Derived.Test.YtdnpkgakpiopgaaGreatDoorM15
import Derived.Test.YtdnpkgakpiopgaaGreatDoorM8
namespace Go.Proofs.YtdnpkgakpiopgaaGreatDoor
set_option maxRecDepth 20000
open Go.Awp Tr
abbrev Pc := Nat × Nat × Nat
def pcA (x : Pc) : AV := .agg [.int .i64 (x.1 : Int), .int .i64 (x.2.1 : Int), .int .i64 (x.2.2 : Int)]
abbrev pcB (x : Pc) : AObj := .box 242 [.p (.int .i64 (x.1 : Int)), .p (.int .i64 (x.2.1 : Int)), .p (.int .i64 (x.2.2 : Int))]
theorem zIi : ∀ (f o n : Nat), pieces f (o : Int) (n : Int) = (pcsN f o n).map pcA
 | 0, _, _ => rfl
 | f + 1, o, n => by
  unfold pieces pcsN
  by_cases h : n = 0
  ·rw [if_pos h, if_pos (by omega)]; rfl
  ·rw [if_neg h, if_neg (by omega), List.map_cons, ← zIi f]
   have e : min (n : Int) (64 - (o : Int) % 64) = ((min n (64 - o % 64) : Nat) : Int) := by omega
   rw [e]
   congr 1
   ·unfold cutRow pcA
    rw [e]; rfl
   ·congr 1; omega
theorem zT7 : ∀ {g o n : Nat} {x : Pc}, x ∈ pcsN g o n → x.2.1 + x.2.2 ≤ 64 ∧ 1 ≤ x.2.2 ∧ 64 * x.1 < o + n
 | 0, _, _, _, h => by cases h
 | g + 1, o, n, x, h => by
  unfold pcsN at h
  split at h
  ·cases h
  ·rcases List.mem_cons.1 h with rfl | h
   ·dsimp only; omega
   ·have := zT7 h; omega
def pcN (o n : Int) : List Pc := if cutBad o n then [] else pcsN n.toNat o.toNat n.toNat
theorem pcN_sl (o n : Int) : Sl pcA (cutV o n) (pcN o n) := by
 unfold cutV pcN
 by_cases h : cutBad o n
 ·rw [if_pos h, if_pos h]; exact .nils
 ·rw [if_neg h, if_neg h]
  have h2 := h
  unfold cutBad at h2
  have e := zIi n.toNat o.toNat n.toNat
  rw [Int.toNat_of_nonneg (by omega), Int.toNat_of_nonneg (by omega)] at e
  rw [e]
  exact .ps _
theorem zTk {o n : Int} {x : Pc} (h : x ∈ pcN o n) : x.2.1 + x.2.2 ≤ 64 ∧ 1 ≤ x.2.2 ∧ x.1 ≤ 64 := by
 unfold pcN at h
 split at h
 ·cases h
 ·rename_i hb
  unfold cutBad at hb
  have := zT7 h
  omega
theorem zUw (o n : Int) : (pcN o n).length ≤ 70 := by
 unfold pcN
 split
 ·exact Nat.zero_le _
 ·rename_i hb
  unfold cutBad at hb
  have := zNa n.toNat o.toNat n.toNat
  split at this <;> omega
theorem zQy (s : VS) (i o n : Int) : s.bytesF i o n = (pcN o n).flatMap fun x => ((s.block i x.1).drop x.2.1).take x.2.2 := by
 unfold VS.bytesF pcN
 split <;> rfl
theorem zO2 {f : Pc → List UInt8} (h : ∀ x, (f x).length ≤ 64) : ∀ l : List Pc, (l.flatMap f).length ≤ 64 * l.length
 | [] => Nat.le_refl _
 | x :: r => by
  rw [List.flatMap_cons, List.length_append, List.length_cons]
  have := h x
  have := zO2 h r
  omega
set_option maxHeartbeats 8000000 in
theorem zFa {s : VS} {m : Nat} (h : VJ s m) (i : Int) (hi : U32 i) (o n : Int) (ho : -9223372036854775808 ≤ o ∧ o ≤ 9223372036854775807) (hn : -9223372036854775808 ≤ n ∧ n ≤ 9223372036854775807) :
  Con Tryz.prog 154 [vP, .p (.int .u32 i), .p (.int .i64 o), .p (.int .i64 n)] (vH s) (.p (.ps (bv (s.bytesF i o n)))) (vH s) [] := by
 rw [zQy]
 refine Con.freeze (n := ((pcN o n).flatMap fun x => ((s.block i x.1).drop x.2.1).take x.2.2).length) (Ty := 5) (b := true) (e := 1) ?_ (by simp)
 have c1 := zOw o n ho hn []
 have hsl := pcN_sl o n
 have hmem : ∀ x ∈ pcN o n, x.2.1 + x.2.2 ≤ 64 ∧ 1 ≤ x.2.2 ∧ x.1 ≤ 64 := fun x hx => zTk hx
 have hll := zUw o n
 generalize pcN o n = l at hsl hmem hll
 generalize cutV o n = c at c1 hsl
 have hrd := hsl.rd
 have hlen : (l.map pcA).length = l.length := by simp
 have hfl : ∀ l : List Pc, (l.flatMap fun x => ((s.block i x.1).drop x.2.1).take x.2.2).length ≤ 64 * l.length := zO2 fun x => by
  have := zA2 s i x.1
  simp; omega
 refine zD Tryz.func154 rfl (by kernel_rfl) rfl fun F w0 β0 => ?_
 refine zE rfl ?_
 refine go ?_
 refine zNe 9 5 (e := 1) rfl rfl (.inl rfl) ?_
 refine zH rfl rfl (zB rfl rfl (c1) rfl rfl rfl rfl) rfl ?_
 refine zH rfl rfl (zP hT rfl rfl (hrd _ _)) rfl ?_
 rw [hlen]
 refine go ?_
 refine z9 (fun q : Ix l.length => [(0, vP), (1, .p (.int .u32 i)), (9, .sl (.l 0) ((l.take q.i).flatMap fun x => ((s.block i x.1).drop x.2.1).take x.2.2).length 0 ((l.take q.i).flatMap fun x => ((s.block i x.1).drop x.2.1).take x.2.2).length), (14, .p c), (15, .p (.int .i64 (l.length : Int))), (16, .p (.int .i64 (q.i : Int)))]) (fun _ => vH s) (fun q => [bA ((l.take q.i).flatMap fun x => ((s.block i x.1).drop x.2.1).take x.2.2)]) (fun q => l.length - q.i) ⟨0, by omega⟩ ⟨rfl, rfl, rfl, rfl, rfl, rfl, trivial⟩ rfl rfl (fun q => ?_)
 have hi' := q.h
 refine go ?_
 by_cases hlt : q.i < l.length
 ·have hx : l[q.i]? = some l[q.i] := List.getElem?_eq_getElem hlt
  have hxm := hmem _ (List.getElem_mem hlt)
  generalize l[q.i] = x at hx hxm
  have hxk := zGo pcA hx
  have hnx : (l.take (q.i + 1)).flatMap (fun x => ((s.block i x.1).drop x.2.1).take x.2.2) = (l.take q.i).flatMap (fun x => ((s.block i x.1).drop x.2.1).take x.2.2) ++ ((s.block i x.1).drop x.2.1).take x.2.2 := by
   rw [List.take_add_one, hx, List.flatMap_append]; simp
  have hac := hfl (l.take q.i)
  rw [List.length_take] at hac
  generalize (l.take q.i).flatMap (fun x => ((s.block i x.1).drop x.2.1).take x.2.2) = acc at hnx hac
  have hbl := zA2 s i x.1
  have c2 := (zEp h i hi (x.1 : Int) x.1 rfl).freeze (by rw [bv_length]; exact hbl)
  have e13 : cutA ((x.2.1 : Int)).toNat (IntKind.i64.wrap ((x.2.1 : Int) + (x.2.2 : Int))).toNat (.p (.ps (bv (s.block i x.1)))) = .p (.ps (bv (((s.block i x.1).drop x.2.1).take x.2.2))) := by
   rw [IntWalk.i64_in _ (by omega)]
   show TV.p (.ps (((bv _).drop _).take _)) = _
   rw [bv_drop, bv_take, show ((x.2.1 : Int) + (x.2.2 : Int)).toNat - ((x.2.1 : Int)).toNat = x.2.2 by omega]; rfl
  refine zG rfl (decide_eq_true (by omega)) ?_
  refine go ?_
  refine zH rfl rfl (zJ hT rfl rfl rfl rfl rfl (hrd _ _) (by omega) (by rw [hlen]; omega)) rfl ?_
  refine go ?_
  refine zH rfl rfl (zI hT rfl rfl (hrd _ _) hxk rfl rfl) rfl ?_
  refine go ?_
  refine yE [[bA acc, pcB x], [.arr 5 true 1 (bv acc ++ bv (((s.block i x.1).drop x.2.1).take x.2.2)), pcB x]] [14] (by kernel_rfl) (by kernel_rfl) rfl ?_
  refine gdW ?_
  refine zDs rfl rfl rfl rfl rfl rfl (zT hT rfl rfl rfl rfl rfl) (zT hT rfl rfl rfl rfl rfl) rfl ?_
  refine gdW ?_
  refine zS rfl rfl rfl rfl rfl (zA [.o 0, .o 1] rfl rfl c2 rfl rfl rfl ⟨⟨rfl, rfl⟩, ⟨rfl, rfl⟩, trivial⟩ rfl rfl rfl rfl) rfl ?_
  refine gdW ?_
  refine zDs rfl rfl rfl rfl rfl rfl (zT hT rfl rfl rfl rfl rfl) (zT hT rfl rfl rfl rfl rfl) rfl ?_
  refine gdW ?_
  refine zDs rfl rfl rfl rfl rfl rfl (zT hT rfl rfl rfl rfl rfl) (zT hT rfl rfl rfl rfl rfl) rfl ?_
  refine gdW ?_
  refine zDs rfl rfl rfl rfl rfl rfl (zT hT rfl rfl rfl rfl rfl) (zT hT rfl rfl rfl rfl rfl) rfl ?_
  refine gdW ?_
  refine zS rfl rfl rfl rfl rfl (zBt (y9 hT rfl rfl rfl rfl (.ps _) rfl rfl (by omega) (by rw [IntWalk.i64_in _ (by omega)]; omega) (by rw [IntWalk.i64_in _ (by omega), bv_length, hbl]; omega) (y5 _)) e13) rfl ?_
  refine gdW ?_
  refine T_stD rfl rfl rfl rfl (yW (i := 0) (n := acc.length) (rows0 := bv acc) (rows := bv (((s.block i x.1).drop x.2.1).take x.2.2)) (Ty := 5) (te := ⟨.int .u8, 1, 1, [.int .u8 0]⟩) hT rfl rfl rfl rfl (bv_length acc) rfl rfl (.rd (.ps _)) jQ (zLz _) (y5 _) (by decide) (by show (acc.length + (bv _).length) * 1 ≤ _; rw [bv_length]; simp; omega)) rfl ?_
  refine gdW ?_
  refine go ?_
  have e9 : TV.sl (.l 0) (acc.length + (bv (((s.block i x.1).drop x.2.1).take x.2.2)).length) 0 (acc.length + (bv (((s.block i x.1).drop x.2.1).take x.2.2)).length) = .sl (.l 0) (acc ++ ((s.block i x.1).drop x.2.1).take x.2.2).length 0 (acc ++ ((s.block i x.1).drop x.2.1).take x.2.2).length := by rw [bv_length, ← List.length_append]
  refine yH 9 _ rfl e9 ?_
  refine zY 1 [(0, vP), (1, .p (.int .u32 i)), (9, .sl (.l 0) (acc ++ ((s.block i x.1).drop x.2.1).take x.2.2).length 0 (acc ++ ((s.block i x.1).drop x.2.1).take x.2.2).length), (14, .p c), (15, .p (.int .i64 (l.length : Int))), (16, .p (.int .i64 (IntKind.i64.wrap ((q.i : Int) + 1))))] ⟨rfl, rfl, rfl, rfl, rfl, rfl, trivial⟩ rfl rfl ?_
  refine zR ⟨q.i + 1, by omega⟩ (by show l.length - (q.i + 1) < l.length - q.i; omega) ⟨rfl, rfl, (by show TV.sl _ _ _ _ = TV.sl _ _ _ _; rw [← hnx]), rfl, rfl, congrArg (fun z => TV.p (.int .i64 z)) (by rw [IntWalk.i64_in _ (by omega)]; rfl), trivial⟩ rfl (by show [AObj.arr _ _ _ _] = [AObj.arr _ _ _ _]; rw [hnx, zAx])
 ·have e : q.i = l.length := by omega
  rw [e, List.take_length]
  refine zF rfl (decide_eq_false (by omega)) ?_
  refine go ?_
  exact zBr hT rfl rfl
theorem zFo {s : VS} {i : Int} {x : Nd} (h : s.fload i = some x) : Nd.ok x ∧ x.1 = 1 := by
 unfold VS.fload at h
 split at h
 ·rename_i y hy
  split at h
  ·rename_i hk
   obtain rfl := Option.some.inj h
   exact ⟨zMy hy, hk⟩
  ·cases h
 ·cases h
theorem mm_min2 (a b : Int) : mmA .min a b = min a b := by unfold mmA; simp only []; split <;> omega
theorem zOa (a b : Int) : mmA .max a b = max a b := by unfold mmA; simp only []; split <;> omega
def bytA (r : List UInt8 × Int) : AV := if r.2 = 0 then .ps (bv r.1) else .nils
set_option maxHeartbeats 8000000 in
theorem zQ2 {s : VS} {m : Nat} (h : VJ s m) (hm : m ≤ 100000) (i : Int) (hi : U32 i) (o n : Int) (ho : -9223372036854775808 ≤ o ∧ o ≤ 9223372036854775807) (hn : -9223372036854775808 ≤ n ∧ n ≤ 9223372036854775807) :
  Con Tryz.prog 128 [vP, .p (.int .u32 i), .p (.int .i64 o), .p (.int .i64 n)] (vH s) (.tup [.p (bytA (s.fread i o n).1), .p (.int .i64 (s.fread i o n).1.2)]) (vH (s.fread i o n).2) [] := by
 have c1 := zCr h (by omega) i hi
 have hv := h.rd (keyH 73 i)
 have hbd := @zFo s i
 unfold VS.fread
 generalize s.rd (keyH 73 i) = s1 at c1 hv
 generalize s.fload i = g at c1 hbd
 cases g with
 | none =>
  refine zD Tryz.func128 rfl (by kernel_rfl) rfl fun F w0 β0 => ?_
  refine zE rfl ?_
  refine go ?_
  refine zH rfl rfl (zA [.o 0, .o 1] rfl rfl (c1) rfl rfl rfl ⟨⟨rfl, rfl⟩, ⟨rfl, rfl⟩, trivial⟩ rfl rfl rfl rfl) rfl ?_
  refine go ?_
  exact zC hT rfl rfl rfl
 | some x =>
  obtain ⟨⟨_, _, hx3, _⟩, _⟩ := hbd rfl
  dsimp only
  by_cases hbad : o < 0 ∨ n < 0 ∨ n > 1024
  ·rw [if_pos hbad]
   refine zD Tryz.func128 rfl (by kernel_rfl) rfl fun F w0 β0 => ?_
   refine zE rfl ?_
   refine go ?_
   refine zH rfl rfl (zA [.o 0, .o 1] rfl rfl (c1) rfl rfl rfl ⟨⟨rfl, rfl⟩, ⟨rfl, rfl⟩, trivial⟩ rfl rfl rfl rfl) rfl ?_
   refine go ?_
   refine zG rfl (by rcases hbad with q | q | q <;> simp [q]) ?_
   refine go ?_
   exact zC hT rfl rfl rfl
  ·rw [if_neg hbad]
   have c2 := zFa hv i hi o (min n (max (x.2.2.1 - o) 0)) ho (by omega)
   generalize s1.bytesF i o (min n (max (x.2.2.1 - o) 0)) = r at c2
   refine zD Tryz.func128 rfl (by kernel_rfl) rfl fun F w0 β0 => ?_
   refine zE rfl ?_
   refine go ?_
   refine zH rfl rfl (zA [.o 0, .o 1] rfl rfl (c1) rfl rfl rfl ⟨⟨rfl, rfl⟩, ⟨rfl, rfl⟩, trivial⟩ rfl rfl rfl rfl) rfl ?_
   refine go ?_
   refine zF rfl (by simp; omega) ?_
   refine go ?_
   have e45 : mmA .min n (mmA .max (IntKind.i64.wrap (IntKind.i64.wrap x.2.2.1 - o)) 0) = min n (max (x.2.2.1 - o) 0) := by
    rw [mm_min2, zOa, IntWalk.i64_in x.2.2.1 (by omega), IntWalk.i64_in _ (by omega)]
   refine yH 45 (.p (.int .i64 (min n (max (x.2.2.1 - o) 0)))) rfl (congrArg (fun z => TV.p (.int .i64 z)) e45) ?_
   refine zH rfl rfl (zA [.o 0, .o 1] rfl rfl (c2) rfl rfl rfl ⟨⟨rfl, rfl⟩, ⟨rfl, rfl⟩, trivial⟩ rfl rfl rfl rfl) rfl ?_
   refine go ?_
   exact zC hT rfl rfl rfl
set_option maxHeartbeats 8000000 in
theorem zS3 {s : VS} {m : Nat} (h : VJ s m) (hm : m ≤ 100000) (i : Int) (hi : U32 i) :
  Con Tryz.prog 116 [vP, .p (.int .u32 i)] (vH s) (.tup [.p (bytA (s.fall i).1), .p (.int .i64 (s.fall i).1.2)]) (vH (s.fall i).2) [] := by
 have c1 := zCr h (by omega) i hi
 have hv := h.rd (keyH 73 i)
 have hbd := @zFo s i
 unfold VS.fall
 generalize s.rd (keyH 73 i) = s1 at c1 hv
 generalize s.fload i = g at c1 hbd
 cases g with
 | none =>
  refine zD Tryz.func116 rfl (by kernel_rfl) rfl fun F w0 β0 => ?_
  refine zE rfl ?_
  refine go ?_
  refine zH rfl rfl (zA [.o 0, .o 1] rfl rfl (c1) rfl rfl rfl ⟨⟨rfl, rfl⟩, ⟨rfl, rfl⟩, trivial⟩ rfl rfl rfl rfl) rfl ?_
  refine go ?_
  exact zC hT rfl rfl rfl
 | some x =>
  obtain ⟨⟨_, _, hx3, _⟩, _⟩ := hbd rfl
  dsimp only
  have c2 := zFa hv i hi 0 x.2.2.1 (by omega) (by omega)
  generalize s1.bytesF i 0 x.2.2.1 = r at c2
  refine zD Tryz.func116 rfl (by kernel_rfl) rfl fun F w0 β0 => ?_
  refine zE rfl ?_
  refine go ?_
  refine zH rfl rfl (zA [.o 0, .o 1] rfl rfl (c1) rfl rfl rfl ⟨⟨rfl, rfl⟩, ⟨rfl, rfl⟩, trivial⟩ rfl rfl rfl rfl) rfl ?_
  refine go ?_
  refine yH 21 (.p (.int .i64 x.2.2.1)) rfl (congrArg (fun z => TV.p (.int .i64 z)) (IntWalk.i64_in x.2.2.1 (by omega))) ?_
  refine zH rfl rfl (zA [.o 0, .o 1] rfl rfl (c2) rfl rfl rfl ⟨⟨rfl, rfl⟩, ⟨rfl, rfl⟩, trivial⟩ rfl rfl rfl rfl) rfl ?_
  refine go ?_
  exact zC hT rfl rfl rfl
theorem wrL_nil (i : Int) (s : VS) (b : List UInt8) (ok : Bool) : wrL i [] s b ok = (ok, s) := rfl
theorem wrL_cons (i : Int) (x : Pc) (r : List Pc) (s : VS) (b : List UInt8) (ok : Bool) : wrL i (x :: r) s b ok = wrL i r (s.putB i x.1 (inB64 (s.block i x.1) x.2.1 (b.take x.2.2))).2 (b.drop x.2.2) ((s.putB i x.1 (inB64 (s.block i x.1) x.2.1 (b.take x.2.2))).1 && ok) := rfl
def sumC : List Pc → Nat
 | [] => 0
 | x :: r => x.2.2 + sumC r
theorem zSe : ∀ {g o n : Nat}, n ≤ g → sumC (pcsN g o n) = n
  | 0, _, n, h => by obtain rfl : n = 0 := by omega
                     rfl
  | g + 1, o, n, h => by
    unfold pcsN
    by_cases h0 : n = 0
    · rw [if_pos h0, h0]; rfl
    · rw [if_neg h0]
      unfold sumC
      rw [zSe (g := g) (by omega)]
      dsimp only
      omega
structure WrS (i : Int) (m : Nat) (l : List Pc) (s0 : VS) (b0 : List UInt8) (ok0 : Bool) where
 k : Nat
 h : k ≤ l.length
 s : VS
 d : Nat
 ok : Bool
 v : VJ s (m + k)
 e : wrL i (l.drop k) s (b0.drop d) ok = wrL i l s0 b0 ok0
 t : d + sumC (l.drop k) = b0.length
set_option maxHeartbeats 16000000 in
theorem zRn {s : VS} {m : Nat} (h : VJ s m) (hm : m ≤ 100000) (i : Int) (hi : U32 i) (o : Int) (ho : -9223372036854775808 ≤ o ∧ o ≤ 9223372036854775807) (b : List UInt8) (hb : b.length ≤ 140737488355328) :
  Con Tryz.prog 129 [vP, .p (.int .u32 i), .p (.int .i64 o), (.sl (.o 2) b.length 0 b.length)] [vB (.o 1) s.base s.shown s.writes s.reads s.ranges.length, vR s.ranges, bA b] (.p (.int .i64 (s.fwrite i o b).1)) [vB (.o 1) (s.fwrite i o b).2.base (s.fwrite i o b).2.shown (s.fwrite i o b).2.writes (s.fwrite i o b).2.reads (s.fwrite i o b).2.ranges.length, vR (s.fwrite i o b).2.ranges, bA b] [] := by
 have c1 := zCr h (by omega) i hi
 have hv := h.rd (keyH 73 i)
 have hbd := @zFo s i
 have hrd : ∀ H0 H1 L d, Rd (H0 :: H1 :: [bA b]) L (.sl (.o 2) b.length d (b.length - d)) (bv (b.drop d)) := fun H0 H1 L d => by
  have := Rd.sl (H := [H0, H1, bA b]) (L := L) (h := .o 2) (n := b.length) (st := d) (len := b.length - d) rfl (by simp)
  rwa [bv_drop, bv_take, List.take_of_length_le (by simp)] at this
 have hrd0 : ∀ H0 H1 L, Rd (H0 :: H1 :: [bA b]) L (.sl (.o 2) b.length 0 b.length) (bv b) := fun H0 H1 L => Rd.full rfl (by simp)
 unfold VS.fwrite
 generalize s.rd (keyH 73 i) = s1 at c1 hv
 generalize s.fload i = g at c1 hbd
 cases g with
 | none =>
  refine zD Tryz.func129 rfl (by kernel_rfl) rfl fun F w0 β0 => ?_
  refine zE rfl ?_
  refine go ?_
  refine zH rfl rfl (zA [.o 0, .o 1] rfl rfl (c1) rfl rfl rfl ⟨⟨rfl, rfl⟩, ⟨rfl, rfl⟩, trivial⟩ rfl rfl rfl rfl) rfl ?_
  refine go ?_
  exact zC hT rfl rfl rfl
 | some x =>
  obtain ⟨⟨hx1, hx2, hx3, hx4⟩, _⟩ := hbd rfl
  dsimp only
  by_cases h1 : o < 0 ∨ (b.length : Int) > 1024
  ·rw [if_pos h1]
   refine zD Tryz.func129 rfl (by kernel_rfl) rfl fun F w0 β0 => ?_
   refine zE rfl ?_
   refine go ?_
   refine zH rfl rfl (zA [.o 0, .o 1] rfl rfl (c1) rfl rfl rfl ⟨⟨rfl, rfl⟩, ⟨rfl, rfl⟩, trivial⟩ rfl rfl rfl rfl) rfl ?_
   refine gx ?_
   by_cases h0 : o < 0
   ·refine yH 29 (.p (.bool true)) rfl (congrArg (fun z => TV.p (.bool z)) (decide_eq_true h0)) ?_
    refine go ?_
    exact zC hT rfl rfl rfl
   ·refine yH 29 (.p (.bool false)) rfl (congrArg (fun z => TV.p (.bool z)) (decide_eq_false h0)) ?_
    refine gx ?_
    refine zZ rfl rfl rfl (zP hT rfl rfl (hrd0 _ _ _)) rfl ?_
    rw [bv_length]
    refine gx ?_
    refine zG rfl (decide_eq_true (by omega)) ?_
    refine go ?_
    exact zC hT rfl rfl rfl
  rw [if_neg h1]
  by_cases h2 : o > 4096 ∨ (b.length : Int) > 4096 - o
  ·rw [if_pos h2]
   refine zD Tryz.func129 rfl (by kernel_rfl) rfl fun F w0 β0 => ?_
   refine zE rfl ?_
   refine go ?_
   refine zH rfl rfl (zA [.o 0, .o 1] rfl rfl (c1) rfl rfl rfl ⟨⟨rfl, rfl⟩, ⟨rfl, rfl⟩, trivial⟩ rfl rfl rfl rfl) rfl ?_
   refine gx ?_
   refine yH 29 (.p (.bool false)) rfl (congrArg (fun z => TV.p (.bool z)) (decide_eq_false (by omega))) ?_
   refine gx ?_
   refine zZ rfl rfl rfl (zP hT rfl rfl (hrd0 _ _ _)) rfl ?_
   rw [bv_length]
   refine gx ?_
   refine zF rfl (decide_eq_false (by omega)) ?_
   refine gx ?_
   by_cases h0 : o > 4096
   ·refine yH 37 (.p (.bool true)) rfl (congrArg (fun z => TV.p (.bool z)) (decide_eq_true h0)) ?_
    refine go ?_
    exact zC hT rfl rfl rfl
   ·refine yH 37 (.p (.bool false)) rfl (congrArg (fun z => TV.p (.bool z)) (decide_eq_false h0)) ?_
    refine gx ?_
    refine zZ rfl rfl rfl (zP hT rfl rfl (hrd0 _ _ _)) rfl ?_
    rw [bv_length]
    refine gx ?_
    refine zG rfl (decide_eq_true (by rw [IntWalk.i64_in _ (by omega)]; omega)) ?_
    refine go ?_
    exact zC hT rfl rfl rfl
  rw [if_neg h2]
  by_cases h3 : b.length = 0
  ·rw [if_pos h3]
   refine zD Tryz.func129 rfl (by kernel_rfl) rfl fun F w0 β0 => ?_
   refine zE rfl ?_
   refine go ?_
   refine zH rfl rfl (zA [.o 0, .o 1] rfl rfl (c1) rfl rfl rfl ⟨⟨rfl, rfl⟩, ⟨rfl, rfl⟩, trivial⟩ rfl rfl rfl rfl) rfl ?_
   refine gx ?_
   refine yH 29 (.p (.bool false)) rfl (congrArg (fun z => TV.p (.bool z)) (decide_eq_false (by omega))) ?_
   refine gx ?_
   refine zZ rfl rfl rfl (zP hT rfl rfl (hrd0 _ _ _)) rfl ?_
   rw [bv_length]
   refine gx ?_
   refine zF rfl (decide_eq_false (by omega)) ?_
   refine gx ?_
   refine yH 37 (.p (.bool false)) rfl (congrArg (fun z => TV.p (.bool z)) (decide_eq_false (by omega))) ?_
   refine gx ?_
   refine zZ rfl rfl rfl (zP hT rfl rfl (hrd0 _ _ _)) rfl ?_
   rw [bv_length]
   refine gx ?_
   refine zF rfl (decide_eq_false (by rw [IntWalk.i64_in _ (by omega)]; omega)) ?_
   refine gx ?_
   refine zH rfl rfl (zP hT rfl rfl (hrd0 _ _ _)) rfl ?_
   rw [bv_length]
   refine go ?_
   refine zG rfl (by rw [h3]; rfl) ?_
   refine go ?_
   exact zC hT rfl rfl rfl
  rw [if_neg h3]
  have hg : Nd.ok (sizeN x (max x.2.2.1 (o + b.length))) := ⟨hx1, hx2, by unfold sizeN; dsimp only; omega, hx4⟩
  have c2 := jF hv (by omega) i hi (sizeN x (max x.2.2.1 (o + b.length))) hg
  have hv2 := hv.fsave i (sizeN x (max x.2.2.1 (o + b.length)))
  generalize s1.save i (sizeN x (max x.2.2.1 (o + b.length))) = s2 at c2 hv2
  generalize s1.room (keyH 73 i) = r0 at c2
  have c3 := zOw o (b.length : Int) ho (by omega) []
  have hsl := pcN_sl o (b.length : Int)
  have hmem : ∀ x ∈ pcN o (b.length : Int), x.2.1 + x.2.2 ≤ 64 ∧ 1 ≤ x.2.2 ∧ x.1 ≤ 64 := fun x hx => zTk hx
  have hll := zUw o (b.length : Int)
  have hpc : pcN o (b.length : Int) = pcsN b.length o.toNat b.length := by unfold pcN; rw [if_neg (by unfold cutBad; omega), Int.toNat_natCast]
  have hsum := zSe (g := b.length) (o := o.toNat) (n := b.length) (Nat.le_refl _)
  rw [hpc] at hsl hmem hll
  generalize pcsN b.length o.toNat b.length = l at hsl hmem hll hsum
  generalize cutV o (b.length : Int) = c at c3 hsl
  have hrdl := hsl.rd
  have hlen : (l.map pcA).length = l.length := by simp
  have e55 : mmA .max x.2.2.1 (IntKind.u32.wrap (IntKind.i64.wrap (o + (b.length : Int)))) = max x.2.2.1 (o + b.length) := by
   rw [zOa, IntWalk.i64_in _ (by omega), zC2 _ (by omega)]
  refine zD Tryz.func129 rfl (by kernel_rfl) rfl fun F w0 β0 => ?_
  refine zE rfl ?_
  refine go ?_
  refine zH rfl rfl (zA [.o 0, .o 1] rfl rfl (c1) rfl rfl rfl ⟨⟨rfl, rfl⟩, ⟨rfl, rfl⟩, trivial⟩ rfl rfl rfl rfl) rfl ?_
  refine gx ?_
  refine yH 29 (.p (.bool false)) rfl (congrArg (fun z => TV.p (.bool z)) (decide_eq_false (by omega))) ?_
  refine gx ?_
  refine zZ rfl rfl rfl (zP hT rfl rfl (hrd0 _ _ _)) rfl ?_
  rw [bv_length]
  refine gx ?_
  refine zF rfl (decide_eq_false (by omega)) ?_
  refine gx ?_
  refine yH 37 (.p (.bool false)) rfl (congrArg (fun z => TV.p (.bool z)) (decide_eq_false (by omega))) ?_
  refine gx ?_
  refine zZ rfl rfl rfl (zP hT rfl rfl (hrd0 _ _ _)) rfl ?_
  rw [bv_length]
  refine gx ?_
  refine zF rfl (decide_eq_false (by rw [IntWalk.i64_in _ (by omega)]; omega)) ?_
  refine gx ?_
  refine zH rfl rfl (zP hT rfl rfl (hrd0 _ _ _)) rfl ?_
  rw [bv_length]
  refine go ?_
  refine zF rfl (by simpa using h3) ?_
  refine go ?_
  refine zH rfl rfl (zP hT rfl rfl (hrd0 _ _ _)) rfl ?_
  rw [bv_length]
  refine go ?_
  refine yH 59 (.agg [.p (.int .u8 x.1), .p (.int .u32 x.2.1), .p (.int .u32 (max x.2.2.1 (o + b.length))), .p (.int .u32 x.2.2.2)]) rfl (congrArg (fun z => TV.agg [.p (.int .u8 x.1), .p (.int .u32 x.2.1), .p (.int .u32 z), .p (.int .u32 x.2.2.2)]) e55) ?_
  refine zH rfl rfl (zA [.o 0, .o 1] rfl rfl (c2) rfl rfl rfl ⟨⟨rfl, rfl⟩, ⟨rfl, rfl⟩, trivial⟩ rfl rfl rfl rfl) rfl ?_
  refine go ?_
  refine zH rfl rfl (zP hT rfl rfl (hrd0 _ _ _)) rfl ?_
  rw [bv_length]
  refine go ?_
  refine zH rfl rfl (zB rfl rfl (c3) rfl rfl rfl rfl) rfl ?_
  refine zH rfl rfl (zP hT rfl rfl (hrdl _ _)) rfl ?_
  rw [hlen]
  refine go ?_
  refine zY 0 [(0, vP), (1, .p (.int .u32 i)), (3, (.sl (.o 2) b.length 0 b.length)), (11, .p (.bool r0)), (64, .p c), (65, .p (.int .i64 (l.length : Int))), (66, .p (.int .i64 0))] ⟨rfl, rfl, rfl, rfl, rfl, rfl, rfl, trivial⟩ rfl rfl ?_
  refine z9 (fun q : WrS i (m + 2) l s2 b r0 => [(0, vP), (1, .p (.int .u32 i)), (3, (.sl (.o 2) b.length q.d (b.length - q.d))), (11, .p (.bool q.ok)), (64, .p c), (65, .p (.int .i64 (l.length : Int))), (66, .p (.int .i64 (q.k : Int)))]) (fun q => [vB (.o 1) q.s.base q.s.shown q.s.writes q.s.reads q.s.ranges.length, vR q.s.ranges, bA b]) (fun _ => []) (fun q => l.length - q.k) ⟨0, by omega, s2, 0, r0, hv2.mono (by omega), rfl, by rw [List.drop_zero, hsum]; omega⟩ ⟨rfl, rfl, rfl, rfl, rfl, rfl, rfl, trivial⟩ rfl rfl (fun q => ?_)
  have hk := q.h
  have he := q.e
  have ht := q.t
  have hvq := q.v
  refine go ?_
  by_cases hlt : q.k < l.length
  ·have hx : l[q.k]? = some l[q.k] := List.getElem?_eq_getElem hlt
   have hdr : l.drop q.k = l[q.k] :: l.drop (q.k + 1) := List.drop_eq_getElem_cons hlt
   have hxm := hmem _ (List.getElem_mem hlt)
   generalize l[q.k] = x at hx hxm hdr
   obtain ⟨xk, xa, xn⟩ := x
   dsimp only at hxm
   have hxk := zGo pcA hx
   rw [hdr] at he ht
   rw [wrL_cons] at he
   unfold sumC at ht
   dsimp only at he ht
   have hbl := zA2 q.s i xk
   have c4 := zEp hvq i hi (xk : Int) xk rfl
   have hil := zLv hbl (a := xa) (b := (b.drop q.d).take xn) (by simp; omega)
   have hin : (bv (q.s.block i xk)).take xa ++ (bv (b.drop q.d)).take xn ++ (bv (q.s.block i xk)).drop (xa + ((bv (b.drop q.d)).take xn).length) = bv (inB64 (q.s.block i xk) xa ((b.drop q.d).take xn)) := by
    unfold inB64
    rw [zAx, zAx, bv_take, bv_take, bv_length, bv_drop]
   have c5 := zK5 hvq (by omega) i hi (xk : Int) xk rfl (inB64 (q.s.block i xk) xa ((b.drop q.d).take xn)) hil
   have hv3 := hvq.putB i xk (b := inB64 (q.s.block i xk) xa ((b.drop q.d).take xn)) (by omega)
   generalize hblk : q.s.block i xk = blk at c4 hin c5 hv3 he hbl
   generalize hB : inB64 blk xa ((b.drop q.d).take xn) = B at c5 hv3 he hin
   generalize hQ : q.s.putB i xk B = Q at c5 hv3 he
   obtain ⟨r1, s3⟩ := Q
   dsimp only at c5 hv3 he
   have e83 : TV.sl (.l 1) 64 (0 + (xa : Int).toNat) ((IntKind.i64.wrap ((xa : Int) + (xn : Int))).toNat - (xa : Int).toNat) = .sl (.l 1) 64 xa xn := by
    rw [IntWalk.i64_in _ (by omega), show ((xa : Int) + (xn : Int)).toNat - (xa : Int).toNat = xn by omega, show 0 + (xa : Int).toNat = xa by omega]
   refine zG rfl (decide_eq_true (by omega)) ?_
   refine go ?_
   refine zH rfl rfl (zJ hT rfl rfl rfl rfl rfl (hrdl _ _) (by omega) (by rw [hlen]; omega)) rfl ?_
   refine go ?_
   refine zH rfl rfl (zI hT rfl rfl (hrdl _ _) hxk rfl rfl) rfl ?_
   refine go ?_
   refine zH rfl rfl (zA [.o 0, .o 1] rfl rfl (c4) rfl rfl rfl ⟨⟨rfl, rfl⟩, ⟨rfl, rfl⟩, trivial⟩ rfl rfl rfl rfl) rfl ?_
   refine go ?_
   refine zH rfl rfl (y9 hT rfl rfl rfl rfl (Rd.own (i := 1) rfl (by rw [bv_length]; exact hbl)) rfl rfl (by dsimp only; omega) (by dsimp only; rw [IntWalk.i64_in _ (by omega)]; omega) (by dsimp only; rw [IntWalk.i64_in _ (by omega), bv_length, hbl]; omega) (y5 _)) rfl ?_
   refine yH 83 _ rfl e83 ?_
   refine go ?_
   refine zH rfl rfl (zKr (rows0 := bv blk) (rows := bv (b.drop q.d)) hT rfl rfl rfl rfl (by rw [bv_length]; exact hbl) rfl (.rd (hrd _ _ _ q.d)) hbs_sl (zLz _) (y5 _) (by omega) (by rw [bv_length]; omega) xn (by rw [bv_length, List.length_drop]; omega)) rfl ?_
   rw [hin]
   refine go ?_
   refine zH rfl rfl (y9 hT rfl rfl rfl rfl (hrd _ _ _ q.d) rfl rfl (by omega) (by rw [bv_length, List.length_drop]; omega) (by omega) (y5 _)) rfl ?_
   have e88 : TV.sl (.o 2) b.length (q.d + (xn : Int).toNat) (((bv (b.drop q.d)).length : Int).toNat - (xn : Int).toNat) = (.sl (.o 2) b.length (q.d + xn) (b.length - (q.d + xn))) := by rw [bv_length, List.length_drop, show ((b.length - q.d : Nat) : Int).toNat - (xn : Int).toNat = b.length - (q.d + xn) by omega]; rfl
   refine yH 88 _ rfl e88 ?_
   refine go ?_
   refine zH rfl rfl (zA [.o 0, .o 1, .l 1] rfl rfl (c5) rfl rfl rfl ⟨⟨rfl, rfl⟩, ⟨rfl, rfl⟩, ⟨rfl, rfl⟩, trivial⟩ rfl rfl rfl rfl) rfl ?_
   refine go ?_
   refine zY 0 [(0, vP), (1, .p (.int .u32 i)), (3, (.sl (.o 2) b.length (q.d + xn) (b.length - (q.d + xn)))), (11, .p (.bool (r1 && q.ok))), (64, .p c), (65, .p (.int .i64 (l.length : Int))), (66, .p (.int .i64 (IntKind.i64.wrap ((q.k : Int) + 1))))] ⟨rfl, rfl, rfl, rfl, rfl, rfl, rfl, trivial⟩ rfl rfl ?_
   refine zR ⟨q.k + 1, by omega, s3, q.d + xn, r1 && q.ok, hv3.mono (by omega), by rw [← he, List.drop_drop], by omega⟩ (by show l.length - (q.k + 1) < l.length - q.k; omega) ⟨rfl, rfl, rfl, rfl, rfl, rfl, congrArg (fun z => TV.p (.int .i64 z)) (by rw [IntWalk.i64_in _ (by omega)]; rfl), trivial⟩ rfl rfl
  ·have hkl : q.k = l.length := by omega
   rw [hkl, List.drop_length, wrL_nil] at he
   rw [← he]
   dsimp only
   refine zF rfl (decide_eq_false (by omega)) ?_
   refine go ?_
   refine zAp 99 rfl (fun hs => ?_) (fun hs => ?_)
   ·rw [hs]
    refine go ?_
    rw [show fullB true = 0 from rfl]
    exact zC hT rfl rfl rfl
   ·rw [hs]
    refine go ?_
    rw [show fullB false = 21 from rfl]
    exact zC hT rfl rfl rfl
end Go.Proofs.YtdnpkgakpiopgaaGreatDoor

import Derived.Test.YtdkegmmigongoaaGreatDoorGo
import Derived.Test.YtdkegmmigongoaaGreatDoorM23
import Derived.Test.YtdkegmmigongoaaGreatDoorM7
namespace Go.Proofs.YtdkegmmigongoaaGreatDoor
set_option maxRecDepth 20000
open Go.Awp Tr
theorem wrL_nil (i : Int) (s : VS) (b : List UInt8) (ok : Bool) : wrL i [] s b ok = (ok, s) := rfl
theorem wrL_cons (i : Int) (x : Pc) (r : List Pc) (s : VS) (b : List UInt8) (ok : Bool) : wrL i (x :: r) s b ok = wrL i r (s.putB i x.1 (inB64 (s.block i x.1) x.2.1 (b.take x.2.2))).2 (b.drop x.2.2) ((s.putB i x.1 (inB64 (s.block i x.1) x.2.1 (b.take x.2.2))).1 && ok) := rfl
def sumC : List Pc → Nat
 | [] => 0
 | x :: r => x.2.2 + sumC r
theorem pcs_sum : ∀ {g o n : Nat}, n ≤ g → sumC (pcsN g o n) = n
  | 0, _, n, h => by obtain rfl : n = 0 := by omega
                     rfl
  | g + 1, o, n, h => by
    unfold pcsN
    by_cases h0 : n = 0
    · rw [if_pos h0, h0]; rfl
    · rw [if_neg h0]
      unfold sumC
      rw [pcs_sum (g := g) (by omega)]
      dsimp only
      omega
structure WrS (i : Int) (m : Nat) (l : List Pc) (s0 : VS) (b0 : List UInt8) (ok0 : Bool) where
 k : Nat
 h : k ≤ l.length
 s : VS
 d : Nat
 ok : Bool
 v : VJ s (m + k)
 e : wrL i (l.drop k) s (b0.drop d) ok = wrL i l s0 b0 ok0
 t : d + sumC (l.drop k) = b0.length
set_option maxHeartbeats 16000000 in
theorem fwrite_own {s : VS} {m : Nat} (h : VJ s m) (hm : m ≤ 100000) (i : Int) (hi : U32 i) (o : Int) (ho : -9223372036854775808 ≤ o ∧ o ≤ 9223372036854775807) (b : List UInt8) (hb : b.length ≤ 140737488355328) :
  Con Tryz.prog 119 [vP, .p (.int .u32 i), .p (.int .i64 o), (.sl (.o 2) b.length 0 b.length)] [vB (.o 1) s.base s.shown s.writes s.reads s.ranges.length, vR s.ranges, bA b] (.p (.int .i64 (s.fwrite i o b).1)) [vB (.o 1) (s.fwrite i o b).2.base (s.fwrite i o b).2.shown (s.fwrite i o b).2.writes (s.fwrite i o b).2.reads (s.fwrite i o b).2.ranges.length, vR (s.fwrite i o b).2.ranges, bA b] [] := by
 have c1 := fload_spec h (by omega) i hi
 have hv := h.rd (keyH 73 i)
 have hbd := @fload_bd s i
 have hrd : ∀ H0 H1 L d, Rd (H0 :: H1 :: [bA b]) L (.sl (.o 2) b.length d (b.length - d)) (bv (b.drop d)) := fun H0 H1 L d => by
  have := Rd.sl (H := [H0, H1, bA b]) (L := L) (h := .o 2) (n := b.length) (st := d) (len := b.length - d) rfl (by simp)
  rwa [bv_drop, bv_take, List.take_of_length_le (by simp)] at this
 have hrd0 : ∀ H0 H1 L, Rd (H0 :: H1 :: [bA b]) L (.sl (.o 2) b.length 0 b.length) (bv b) := fun H0 H1 L => Rd.full rfl (by simp)
 unfold VS.fwrite
 generalize s.rd (keyH 73 i) = s1 at c1 hv
 generalize s.fload i = g at c1 hbd
 cases g with
 | none =>
  refine con_of Tryz.func119 rfl (by kernel_rfl) rfl fun F w0 β0 => ?_
  refine K_tell rfl ?_
  refine go ?_
  refine K_op rfl rfl (opr_callS [.o 0, .o 1] rfl rfl (c1) rfl rfl rfl ⟨⟨rfl, rfl⟩, ⟨rfl, rfl⟩, trivial⟩ rfl rfl rfl rfl) rfl ?_
  refine go ?_
  exact J_done hT rfl rfl rfl
 | some x =>
  obtain ⟨⟨hx1, hx2, hx3, hx4⟩, _⟩ := hbd rfl
  dsimp only
  by_cases h1 : o < 0 ∨ (b.length : Int) > 1024
  ·rw [if_pos h1]
   refine con_of Tryz.func119 rfl (by kernel_rfl) rfl fun F w0 β0 => ?_
   refine K_tell rfl ?_
   refine go ?_
   refine K_op rfl rfl (opr_callS [.o 0, .o 1] rfl rfl (c1) rfl rfl rfl ⟨⟨rfl, rfl⟩, ⟨rfl, rfl⟩, trivial⟩ rfl rfl rfl rfl) rfl ?_
   refine gx ?_
   by_cases h0 : o < 0
   ·refine J_val 29 (.p (.bool true)) rfl (congrArg (fun z => TV.p (.bool z)) (decide_eq_true h0)) ?_
    refine go ?_
    exact J_done hT rfl rfl rfl
   ·refine J_val 29 (.p (.bool false)) rfl (congrArg (fun z => TV.p (.bool z)) (decide_eq_false h0)) ?_
    refine gx ?_
    refine K_yes rfl rfl rfl (opr_len_rd hT rfl rfl (hrd0 _ _ _)) rfl ?_
    rw [bv_length]
    refine gx ?_
    refine K_condT rfl (decide_eq_true (by omega)) ?_
    refine go ?_
    exact J_done hT rfl rfl rfl
  rw [if_neg h1]
  by_cases h2 : o > 4096 ∨ (b.length : Int) > 4096 - o
  ·rw [if_pos h2]
   refine con_of Tryz.func119 rfl (by kernel_rfl) rfl fun F w0 β0 => ?_
   refine K_tell rfl ?_
   refine go ?_
   refine K_op rfl rfl (opr_callS [.o 0, .o 1] rfl rfl (c1) rfl rfl rfl ⟨⟨rfl, rfl⟩, ⟨rfl, rfl⟩, trivial⟩ rfl rfl rfl rfl) rfl ?_
   refine gx ?_
   refine J_val 29 (.p (.bool false)) rfl (congrArg (fun z => TV.p (.bool z)) (decide_eq_false (by omega))) ?_
   refine gx ?_
   refine K_yes rfl rfl rfl (opr_len_rd hT rfl rfl (hrd0 _ _ _)) rfl ?_
   rw [bv_length]
   refine gx ?_
   refine K_condF rfl (decide_eq_false (by omega)) ?_
   refine gx ?_
   by_cases h0 : o > 4096
   ·refine J_val 37 (.p (.bool true)) rfl (congrArg (fun z => TV.p (.bool z)) (decide_eq_true h0)) ?_
    refine go ?_
    exact J_done hT rfl rfl rfl
   ·refine J_val 37 (.p (.bool false)) rfl (congrArg (fun z => TV.p (.bool z)) (decide_eq_false h0)) ?_
    refine gx ?_
    refine K_yes rfl rfl rfl (opr_len_rd hT rfl rfl (hrd0 _ _ _)) rfl ?_
    rw [bv_length]
    refine gx ?_
    refine K_condT rfl (decide_eq_true (by rw [IntWalk.i64_in _ (by omega)]; omega)) ?_
    refine go ?_
    exact J_done hT rfl rfl rfl
  rw [if_neg h2]
  by_cases h3 : b.length = 0
  ·rw [if_pos h3]
   refine con_of Tryz.func119 rfl (by kernel_rfl) rfl fun F w0 β0 => ?_
   refine K_tell rfl ?_
   refine go ?_
   refine K_op rfl rfl (opr_callS [.o 0, .o 1] rfl rfl (c1) rfl rfl rfl ⟨⟨rfl, rfl⟩, ⟨rfl, rfl⟩, trivial⟩ rfl rfl rfl rfl) rfl ?_
   refine gx ?_
   refine J_val 29 (.p (.bool false)) rfl (congrArg (fun z => TV.p (.bool z)) (decide_eq_false (by omega))) ?_
   refine gx ?_
   refine K_yes rfl rfl rfl (opr_len_rd hT rfl rfl (hrd0 _ _ _)) rfl ?_
   rw [bv_length]
   refine gx ?_
   refine K_condF rfl (decide_eq_false (by omega)) ?_
   refine gx ?_
   refine J_val 37 (.p (.bool false)) rfl (congrArg (fun z => TV.p (.bool z)) (decide_eq_false (by omega))) ?_
   refine gx ?_
   refine K_yes rfl rfl rfl (opr_len_rd hT rfl rfl (hrd0 _ _ _)) rfl ?_
   rw [bv_length]
   refine gx ?_
   refine K_condF rfl (decide_eq_false (by rw [IntWalk.i64_in _ (by omega)]; omega)) ?_
   refine gx ?_
   refine K_op rfl rfl (opr_len_rd hT rfl rfl (hrd0 _ _ _)) rfl ?_
   rw [bv_length]
   refine go ?_
   refine K_condT rfl (by rw [h3]; rfl) ?_
   refine go ?_
   exact J_done hT rfl rfl rfl
  rw [if_neg h3]
  have hg : Nd.ok (sizeN x (max x.2.2.1 (o + b.length))) := ⟨hx1, hx2, by unfold sizeN; dsimp only; omega, hx4⟩
  have c2 := wsave_spec hv (by omega) i hi (sizeN x (max x.2.2.1 (o + b.length))) hg
  have hv2 := hv.fsave i (sizeN x (max x.2.2.1 (o + b.length)))
  generalize s1.save i (sizeN x (max x.2.2.1 (o + b.length))) = s2 at c2 hv2
  generalize s1.room (keyH 73 i) = r0 at c2
  have c3 := cut_spec o (b.length : Int) ho (by omega) []
  have hsl := pcN_sl o (b.length : Int)
  have hmem : ∀ x ∈ pcN o (b.length : Int), x.2.1 + x.2.2 ≤ 64 ∧ 1 ≤ x.2.2 ∧ x.1 ≤ 64 := fun x hx => pcN_mem hx
  have hll := pcN_len o (b.length : Int)
  have hpc : pcN o (b.length : Int) = pcsN b.length o.toNat b.length := by unfold pcN; rw [if_neg (by unfold cutBad; omega), Int.toNat_natCast]
  have hsum := pcs_sum (g := b.length) (o := o.toNat) (n := b.length) (Nat.le_refl _)
  rw [hpc] at hsl hmem hll
  generalize pcsN b.length o.toNat b.length = l at hsl hmem hll hsum
  generalize cutV o (b.length : Int) = c at c3 hsl
  have hrdl := hsl.rd
  have hlen : (l.map pcA).length = l.length := by simp
  have e55 : mmA .max x.2.2.1 (IntKind.u32.wrap (IntKind.i64.wrap (o + (b.length : Int)))) = max x.2.2.1 (o + b.length) := by
   rw [mm_max2, IntWalk.i64_in _ (by omega), u32_in _ (by omega)]
  refine con_of Tryz.func119 rfl (by kernel_rfl) rfl fun F w0 β0 => ?_
  refine K_tell rfl ?_
  refine go ?_
  refine K_op rfl rfl (opr_callS [.o 0, .o 1] rfl rfl (c1) rfl rfl rfl ⟨⟨rfl, rfl⟩, ⟨rfl, rfl⟩, trivial⟩ rfl rfl rfl rfl) rfl ?_
  refine gx ?_
  refine J_val 29 (.p (.bool false)) rfl (congrArg (fun z => TV.p (.bool z)) (decide_eq_false (by omega))) ?_
  refine gx ?_
  refine K_yes rfl rfl rfl (opr_len_rd hT rfl rfl (hrd0 _ _ _)) rfl ?_
  rw [bv_length]
  refine gx ?_
  refine K_condF rfl (decide_eq_false (by omega)) ?_
  refine gx ?_
  refine J_val 37 (.p (.bool false)) rfl (congrArg (fun z => TV.p (.bool z)) (decide_eq_false (by omega))) ?_
  refine gx ?_
  refine K_yes rfl rfl rfl (opr_len_rd hT rfl rfl (hrd0 _ _ _)) rfl ?_
  rw [bv_length]
  refine gx ?_
  refine K_condF rfl (decide_eq_false (by rw [IntWalk.i64_in _ (by omega)]; omega)) ?_
  refine gx ?_
  refine K_op rfl rfl (opr_len_rd hT rfl rfl (hrd0 _ _ _)) rfl ?_
  rw [bv_length]
  refine go ?_
  refine K_condF rfl (by simpa using h3) ?_
  refine go ?_
  refine K_op rfl rfl (opr_len_rd hT rfl rfl (hrd0 _ _ _)) rfl ?_
  rw [bv_length]
  refine go ?_
  refine J_val 59 (.agg [.p (.int .u8 x.1), .p (.int .u32 x.2.1), .p (.int .u32 (max x.2.2.1 (o + b.length))), .p (.int .u32 x.2.2.2)]) rfl (congrArg (fun z => TV.agg [.p (.int .u8 x.1), .p (.int .u32 x.2.1), .p (.int .u32 z), .p (.int .u32 x.2.2.2)]) e55) ?_
  refine K_op rfl rfl (opr_callS [.o 0, .o 1] rfl rfl (c2) rfl rfl rfl ⟨⟨rfl, rfl⟩, ⟨rfl, rfl⟩, trivial⟩ rfl rfl rfl rfl) rfl ?_
  refine go ?_
  refine K_op rfl rfl (opr_len_rd hT rfl rfl (hrd0 _ _ _)) rfl ?_
  rw [bv_length]
  refine go ?_
  refine K_op rfl rfl (opr_callP rfl rfl (c3) rfl rfl rfl rfl) rfl ?_
  refine K_op rfl rfl (opr_len_rd hT rfl rfl (hrdl _ _)) rfl ?_
  rw [hlen]
  refine go ?_
  refine J_take 0 [(0, vP), (1, .p (.int .u32 i)), (3, (.sl (.o 2) b.length 0 b.length)), (11, .p (.bool r0)), (64, .p c), (65, .p (.int .i64 (l.length : Int))), (66, .p (.int .i64 0))] ⟨rfl, rfl, rfl, rfl, rfl, rfl, rfl, trivial⟩ rfl rfl ?_
  refine J_loop (fun q : WrS i (m + 2) l s2 b r0 => [(0, vP), (1, .p (.int .u32 i)), (3, (.sl (.o 2) b.length q.d (b.length - q.d))), (11, .p (.bool q.ok)), (64, .p c), (65, .p (.int .i64 (l.length : Int))), (66, .p (.int .i64 (q.k : Int)))]) (fun q => [vB (.o 1) q.s.base q.s.shown q.s.writes q.s.reads q.s.ranges.length, vR q.s.ranges, bA b]) (fun _ => []) (fun q => l.length - q.k) ⟨0, by omega, s2, 0, r0, hv2.mono (by omega), rfl, by rw [List.drop_zero, hsum]; omega⟩ ⟨rfl, rfl, rfl, rfl, rfl, rfl, rfl, trivial⟩ rfl rfl (fun q => ?_)
  have hk := q.h
  have he := q.e
  have ht := q.t
  have hvq := q.v
  refine go ?_
  by_cases hlt : q.k < l.length
  ·have hx : l[q.k]? = some l[q.k] := List.getElem?_eq_getElem hlt
   have hdr : l.drop q.k = l[q.k] :: l.drop (q.k + 1) := List.drop_eq_getElem_cons hlt
   have hxm := hmem _ (List.getElem_mem hlt)
   generalize l[q.k] = x at hx hxm hdr
   obtain ⟨xk, xa, xn⟩ := x
   dsimp only at hxm
   have hxk := map_get pcA hx
   rw [hdr] at he ht
   rw [wrL_cons] at he
   unfold sumC at ht
   dsimp only at he ht
   have hbl := block_len q.s i xk
   have c4 := block_spec hvq i hi (xk : Int) xk rfl
   have hil := inB64_len hbl (a := xa) (b := (b.drop q.d).take xn) (by simp; omega)
   have hin : (bv (q.s.block i xk)).take xa ++ (bv (b.drop q.d)).take xn ++ (bv (q.s.block i xk)).drop (xa + ((bv (b.drop q.d)).take xn).length) = bv (inB64 (q.s.block i xk) xa ((b.drop q.d).take xn)) := by
    unfold inB64
    rw [bv_append, bv_append, bv_take, bv_take, bv_length, bv_drop]
   have c5 := fput_spec hvq (by omega) i hi (xk : Int) xk rfl (inB64 (q.s.block i xk) xa ((b.drop q.d).take xn)) hil
   have hv3 := hvq.putB i xk (b := inB64 (q.s.block i xk) xa ((b.drop q.d).take xn)) (by omega)
   generalize hblk : q.s.block i xk = blk at c4 hin c5 hv3 he hbl
   generalize hB : inB64 blk xa ((b.drop q.d).take xn) = B at c5 hv3 he hin
   generalize hQ : q.s.putB i xk B = Q at c5 hv3 he
   obtain ⟨r1, s3⟩ := Q
   dsimp only at c5 hv3 he
   have e83 : TV.sl (.l 1) 64 (0 + (xa : Int).toNat) ((IntKind.i64.wrap ((xa : Int) + (xn : Int))).toNat - (xa : Int).toNat) = .sl (.l 1) 64 xa xn := by
    rw [IntWalk.i64_in _ (by omega), show ((xa : Int) + (xn : Int)).toNat - (xa : Int).toNat = xn by omega, show 0 + (xa : Int).toNat = xa by omega]
   refine K_condT rfl (decide_eq_true (by omega)) ?_
   refine go ?_
   refine K_op rfl rfl (opr_index hT rfl rfl rfl rfl rfl (hrdl _ _) (by omega) (by rw [hlen]; omega)) rfl ?_
   refine go ?_
   refine K_op rfl rfl (opr_load_el hT rfl rfl (hrdl _ _) hxk rfl rfl) rfl ?_
   refine go ?_
   refine K_op rfl rfl (opr_callS [.o 0, .o 1] rfl rfl (c4) rfl rfl rfl ⟨⟨rfl, rfl⟩, ⟨rfl, rfl⟩, trivial⟩ rfl rfl rfl rfl) rfl ?_
   refine go ?_
   refine K_op rfl rfl (opr_cut hT rfl rfl rfl rfl (Rd.own (i := 1) rfl (by rw [bv_length]; exact hbl)) rfl rfl (by dsimp only; omega) (by dsimp only; rw [IntWalk.i64_in _ (by omega)]; omega) (by dsimp only; rw [IntWalk.i64_in _ (by omega), bv_length, hbl]; omega) (bv_size _)) rfl ?_
   refine J_val 83 _ rfl e83 ?_
   refine go ?_
   refine K_op rfl rfl (opr_copyM (rows0 := bv blk) (rows := bv (b.drop q.d)) hT rfl rfl rfl rfl (by rw [bv_length]; exact hbl) rfl (.rd (hrd _ _ _ q.d)) hbs_sl (bv_cl _) (bv_size _) (by omega) (by rw [bv_length]; omega) xn (by rw [bv_length, List.length_drop]; omega)) rfl ?_
   rw [hin]
   refine go ?_
   refine K_op rfl rfl (opr_cut hT rfl rfl rfl rfl (hrd _ _ _ q.d) rfl rfl (by omega) (by rw [bv_length, List.length_drop]; omega) (by omega) (bv_size _)) rfl ?_
   have e88 : TV.sl (.o 2) b.length (q.d + (xn : Int).toNat) (((bv (b.drop q.d)).length : Int).toNat - (xn : Int).toNat) = (.sl (.o 2) b.length (q.d + xn) (b.length - (q.d + xn))) := by rw [bv_length, List.length_drop, show ((b.length - q.d : Nat) : Int).toNat - (xn : Int).toNat = b.length - (q.d + xn) by omega]; rfl
   refine J_val 88 _ rfl e88 ?_
   refine go ?_
   refine K_op rfl rfl (opr_callS [.o 0, .o 1, .l 1] rfl rfl (c5) rfl rfl rfl ⟨⟨rfl, rfl⟩, ⟨rfl, rfl⟩, ⟨rfl, rfl⟩, trivial⟩ rfl rfl rfl rfl) rfl ?_
   refine go ?_
   refine J_take 0 [(0, vP), (1, .p (.int .u32 i)), (3, (.sl (.o 2) b.length (q.d + xn) (b.length - (q.d + xn)))), (11, .p (.bool (r1 && q.ok))), (64, .p c), (65, .p (.int .i64 (l.length : Int))), (66, .p (.int .i64 (IntKind.i64.wrap ((q.k : Int) + 1))))] ⟨rfl, rfl, rfl, rfl, rfl, rfl, rfl, trivial⟩ rfl rfl ?_
   refine J_again ⟨q.k + 1, by omega, s3, q.d + xn, r1 && q.ok, hv3.mono (by omega), by rw [← he, List.drop_drop], by omega⟩ (by show l.length - (q.k + 1) < l.length - q.k; omega) ⟨rfl, rfl, rfl, rfl, rfl, rfl, congrArg (fun z => TV.p (.int .i64 z)) (by rw [IntWalk.i64_in _ (by omega)]; rfl), trivial⟩ rfl rfl
  ·have hkl : q.k = l.length := by omega
   rw [hkl, List.drop_length, wrL_nil] at he
   rw [← he]
   dsimp only
   refine K_condF rfl (decide_eq_false (by omega)) ?_
   refine go ?_
   refine J_split 99 rfl (fun hs => ?_) (fun hs => ?_)
   ·rw [hs]
    refine go ?_
    rw [show fullB true = 0 from rfl]
    exact J_done hT rfl rfl rfl
   ·rw [hs]
    refine go ?_
    rw [show fullB false = 21 from rfl]
    exact J_done hT rfl rfl rfl
theorem shrL_cons (i : Int) (z n : Nat) (r : List Nat) (s : VS) (ok : Bool) : shrL i z (n :: r) s ok = shrL i z r (s.putB i n (clrB (s.block i n) (z - 64 * n))).2 ((s.putB i n (clrB (s.block i n) (z - 64 * n))).1 && ok) := rfl
structure ShS (i : Int) (m z a c : Nat) (s0 : VS) where
 k : Nat
 h : k ≤ c
 s : VS
 ok : Bool
 v : VJ s (m + k)
 e : shrL i z (List.range' (a + k) (c - k)) s ok = shrL i z (List.range' a c) s0 true
set_option maxHeartbeats 16000000 in
theorem shrinks_spec {s : VS} {m : Nat} (h : VJ s m) (hm : m ≤ 100000) (i : Int) (hi : U32 i) (z had : Nat) (hz : z < had) (hh : had ≤ 4096) :
  Con Tryz.prog 154 [vP, .p (.int .u32 i), .p (.int .i64 (z : Int)), .p (.int .i64 (had : Int))] (vH s) (.p (.bool (shrL i z (List.range' (z / 64) ((blocks (had : Int)).toNat - z / 64)) s true).1)) (vH (shrL i z (List.range' (z / 64) ((blocks (had : Int)).toNat - z / 64)) s true).2) [] := by
 have hB : blocks (had : Int) = (((had + 63) / 64 : Nat) : Int) := by unfold blocks; rw [if_neg (by omega)]; omega
 have c1 := blocks_spec (had : Int) (by omega) []
 rw [hB] at c1 ⊢
 rw [Int.toNat_natCast]
 have e13 : IntKind.i64.wrap ((z : Int).tdiv 64) = ((z / 64 : Nat) : Int) := by
  rw [Int.tdiv_eq_ediv_of_nonneg (by omega), IntWalk.i64_in _ (by omega)]; omega
 generalize hB' : (had + 63) / 64 = B at c1
 refine con_of Tryz.func154 rfl (by kernel_rfl) rfl fun F w0 β0 => ?_
 refine K_tell rfl ?_
 refine go ?_
 refine J_val 10 (.p (.int .i64 ((z / 64 : Nat) : Int))) rfl (congrArg (fun z => TV.p (.int .i64 z)) e13) ?_
 refine J_loop (fun q : ShS i m z (z / 64) (B - z / 64) s => [(0, vP), (1, .p (.int .u32 i)), (2, .p (.int .i64 (z : Int))), (3, .p (.int .i64 (had : Int))), (9, .p (.bool q.ok)), (10, .p (.int .i64 ((z / 64 + q.k : Nat) : Int)))]) (fun q => vH q.s) (fun _ => []) (fun q => B - z / 64 - q.k) ⟨0, by omega, s, true, h, rfl⟩ ⟨rfl, rfl, rfl, rfl, rfl, rfl, trivial⟩ rfl rfl (fun q => ?_)
 have hk := q.h
 have he := q.e
 have hvq := q.v
 refine go ?_
 refine K_op rfl rfl (opr_callP rfl rfl (c1) rfl rfl rfl rfl) rfl ?_
 refine go ?_
 by_cases hlt : q.k < B - z / 64
 ·obtain ⟨c, hc⟩ : ∃ c, B - z / 64 - q.k = c + 1 := ⟨B - z / 64 - q.k - 1, by omega⟩
  rw [hc, List.range'_succ, shrL_cons] at he
  have hbl := block_len q.s i (z / 64 + q.k)
  have c2 := block_spec hvq i hi ((z / 64 + q.k : Nat) : Int) (z / 64 + q.k) rfl
  have hcl := clrB_len (q.s.block i (z / 64 + q.k)) (z - 64 * (z / 64 + q.k))
  have hin : (bv (q.s.block i (z / 64 + q.k))).take (z - 64 * (z / 64 + q.k)) ++ List.replicate (64 - (z - 64 * (z / 64 + q.k))) (zrow ⟨.int .u8, 1, 1, [.int .u8 0]⟩) ++ (bv (q.s.block i (z / 64 + q.k))).drop (z - 64 * (z / 64 + q.k) + (List.replicate (64 - (z - 64 * (z / 64 + q.k))) (zrow ⟨.int .u8, 1, 1, [.int .u8 0]⟩)).length) = bv (clrB (q.s.block i (z / 64 + q.k)) (z - 64 * (z / 64 + q.k))) := by
   unfold clrB
   rw [bv_append, bv_take, bv_replicate, bv_drop, List.drop_of_length_le (by rw [List.length_replicate]; omega), hbl]
   show _ ++ _ ++ [] = _
   rw [List.append_nil]; rfl
  have c3 := fput_spec hvq (by omega) i hi ((z / 64 + q.k : Nat) : Int) (z / 64 + q.k) rfl (clrB (q.s.block i (z / 64 + q.k)) (z - 64 * (z / 64 + q.k))) (by rw [hcl, hbl])
  have hv3 := hvq.putB i (z / 64 + q.k) (b := clrB (q.s.block i (z / 64 + q.k)) (z - 64 * (z / 64 + q.k))) (by rw [hcl, hbl]; omega)
  have e29 : mmA .max (IntKind.i64.wrap ((z : Int) - IntKind.i64.wrap (((z / 64 + q.k : Nat) : Int) * 64))) 0 = ((z - 64 * (z / 64 + q.k) : Nat) : Int) := by
   rw [mm_max2, IntWalk.i64_in (((z / 64 + q.k : Nat) : Int) * 64) (by omega), IntWalk.i64_in _ (by omega)]; omega
  have hza : z - 64 * (z / 64 + q.k) ≤ 64 := by omega
  generalize z - 64 * (z / 64 + q.k) = a at c3 hv3 hin e29 he hza
  generalize hblk : q.s.block i (z / 64 + q.k) = blk at c2 hin c3 hv3 he hbl
  generalize hBB : clrB blk a = B2 at c3 hv3 he hin
  generalize hQ : q.s.putB i (z / 64 + q.k) B2 = Q at c3 hv3 he
  obtain ⟨r1, s3⟩ := Q
  dsimp only at c3 hv3 he
  refine K_condT rfl (decide_eq_true (by omega)) ?_
  refine go ?_
  refine K_op rfl rfl (opr_callS [.o 0, .o 1] rfl rfl (c2) rfl rfl rfl ⟨⟨rfl, rfl⟩, ⟨rfl, rfl⟩, trivial⟩ rfl rfl rfl rfl) rfl ?_
  refine go ?_
  refine J_val 29 (.p (.int .i64 (a : Int))) rfl (congrArg (fun z => TV.p (.int .i64 z)) e29) ?_
  refine K_op rfl rfl (opr_cut hT rfl rfl rfl rfl (Rd.own (i := 0) rfl (by rw [bv_length]; exact hbl)) rfl rfl (by omega) (by rw [bv_length, hbl]; omega) (by omega) (bv_size _)) rfl ?_
  have e30 : TV.sl (.l 0) 64 (0 + (a : Int).toNat) (((bv blk).length : Int).toNat - (a : Int).toNat) = .sl (.l 0) 64 a (64 - a) := by
   rw [bv_length, hbl, Int.toNat_natCast, Nat.zero_add]; rfl
  refine J_val 30 _ rfl e30 ?_
  refine go ?_
  refine K_op rfl rfl (opr_clearZ (rows0 := bv blk) hT rfl rfl rfl rfl rfl rfl rfl rfl (by rw [bv_length]; exact hbl) (by omega) (by rw [bv_length]; omega)) rfl ?_
  rw [hin]
  refine go ?_
  refine K_op rfl rfl (opr_callS [.o 0, .o 1, .l 0] rfl rfl (c3) rfl rfl rfl ⟨⟨rfl, rfl⟩, ⟨rfl, rfl⟩, ⟨rfl, rfl⟩, trivial⟩ rfl rfl rfl rfl) rfl ?_
  refine go ?_
  refine J_take 0 [(0, vP), (1, .p (.int .u32 i)), (2, .p (.int .i64 (z : Int))), (3, .p (.int .i64 (had : Int))), (9, .p (.bool (r1 && q.ok))), (10, .p (.int .i64 (IntKind.i64.wrap (((z / 64 + q.k : Nat) : Int) + 1))))] ⟨rfl, rfl, rfl, rfl, rfl, rfl, trivial⟩ rfl rfl ?_
  refine J_again ⟨q.k + 1, by omega, s3, r1 && q.ok, hv3.mono (by omega), by rw [← he, show B - z / 64 - (q.k + 1) = c by omega]; rfl⟩ (by show B - z / 64 - (q.k + 1) < B - z / 64 - q.k; omega) ⟨rfl, rfl, rfl, rfl, rfl, congrArg (fun z => TV.p (.int .i64 z)) (by rw [IntWalk.i64_in _ (by omega)]; rfl), trivial⟩ rfl rfl
 ·rw [show B - z / 64 - q.k = 0 by omega] at he
  change (q.ok, q.s) = _ at he
  rw [← he]
  dsimp only
  refine K_condF rfl (decide_eq_false (by omega)) ?_
  refine go ?_
  exact J_done hT rfl rfl rfl
set_option maxHeartbeats 16000000 in
theorem ftrunc_spec {s : VS} {m : Nat} (h : VJ s m) (hm : m ≤ 90000) (i : Int) (hi : U32 i) (z : Int) (hz : -9223372036854775808 ≤ z ∧ z ≤ 9223372036854775807) :
  Con Tryz.prog 120 [vP, .p (.int .u32 i), .p (.int .i64 z)] (vH s) (.p (.int .i64 (s.ftrunc i z).1)) (vH (s.ftrunc i z).2) [] := by
 have c1 := fload_spec h (by omega) i hi
 have hv := h.rd (keyH 73 i)
 have hbd := @fload_bd s i
 unfold VS.ftrunc
 generalize s.rd (keyH 73 i) = s1 at c1 hv
 have hs4 : ∀ x, s.fload i = some x → x.2.2.1 ≤ 4096 := fun x => fload_size
 generalize s.fload i = g at c1 hbd hs4
 cases g with
 | none =>
  refine con_of Tryz.func120 rfl (by kernel_rfl) rfl fun F w0 β0 => ?_
  refine K_tell rfl ?_
  refine go ?_
  refine K_op rfl rfl (opr_callS [.o 0, .o 1] rfl rfl (c1) rfl rfl rfl ⟨⟨rfl, rfl⟩, ⟨rfl, rfl⟩, trivial⟩ rfl rfl rfl rfl) rfl ?_
  refine go ?_
  exact J_done hT rfl rfl rfl
 | some x =>
  obtain ⟨⟨hx1, hx2, hx3, hx4⟩, _⟩ := hbd rfl
  have hs4 := hs4 x rfl
  dsimp only
  by_cases h1 : z < 0
  ·rw [if_pos h1]
   refine con_of Tryz.func120 rfl (by kernel_rfl) rfl fun F w0 β0 => ?_
   refine K_tell rfl ?_
   refine go ?_
   refine K_op rfl rfl (opr_callS [.o 0, .o 1] rfl rfl (c1) rfl rfl rfl ⟨⟨rfl, rfl⟩, ⟨rfl, rfl⟩, trivial⟩ rfl rfl rfl rfl) rfl ?_
   refine go ?_
   refine K_condT rfl (decide_eq_true h1) ?_
   refine go ?_
   exact J_done hT rfl rfl rfl
  rw [if_neg h1]
  by_cases h2 : z > 4096
  ·rw [if_pos h2]
   refine con_of Tryz.func120 rfl (by kernel_rfl) rfl fun F w0 β0 => ?_
   refine K_tell rfl ?_
   refine go ?_
   refine K_op rfl rfl (opr_callS [.o 0, .o 1] rfl rfl (c1) rfl rfl rfl ⟨⟨rfl, rfl⟩, ⟨rfl, rfl⟩, trivial⟩ rfl rfl rfl rfl) rfl ?_
   refine go ?_
   refine K_condF rfl (decide_eq_false h1) ?_
   refine go ?_
   refine K_condT rfl (decide_eq_true h2) ?_
   refine go ?_
   exact J_done hT rfl rfl rfl
  rw [if_neg h2]
  have hg : Nd.ok (sizeN x z) := ⟨hx1, hx2, by unfold sizeN; dsimp only; omega, hx4⟩
  have c2 := wsave_spec hv (by omega) i hi (sizeN x z) hg
  have hv2 := hv.fsave i (sizeN x z)
  generalize s1.save i (sizeN x z) = s2 at c2 hv2
  generalize s1.room (keyH 73 i) = r0 at c2
  have e31 : IntKind.u32.wrap z = z := u32_in _ (by omega)
  have e29 : IntKind.i64.wrap x.2.2.1 = x.2.2.1 := IntWalk.i64_in _ (by omega)
  by_cases h3 : z < x.2.2.1
  ·rw [if_pos h3]
   have c3 := shrinks_spec hv2 (by omega) i hi z.toNat x.2.2.1.toNat (by omega) (by omega)
   rw [Int.toNat_of_nonneg (show 0 ≤ z by omega), Int.toNat_of_nonneg hx3.1] at c3
   generalize shrL i z.toNat (List.range' (z.toNat / 64) ((blocks x.2.2.1).toNat - z.toNat / 64)) s2 true = R at c3
   obtain ⟨r1, s3⟩ := R
   dsimp only at c3 ⊢
   refine con_of Tryz.func120 rfl (by kernel_rfl) rfl fun F w0 β0 => ?_
   refine K_tell rfl ?_
   refine go ?_
   refine K_op rfl rfl (opr_callS [.o 0, .o 1] rfl rfl (c1) rfl rfl rfl ⟨⟨rfl, rfl⟩, ⟨rfl, rfl⟩, trivial⟩ rfl rfl rfl rfl) rfl ?_
   refine go ?_
   refine K_condF rfl (decide_eq_false h1) ?_
   refine go ?_
   refine K_condF rfl (decide_eq_false h2) ?_
   refine go ?_
   refine J_val 35 (.agg [.p (.int .u8 x.1), .p (.int .u32 x.2.1), .p (.int .u32 z), .p (.int .u32 x.2.2.2)]) rfl (congrArg (fun z => TV.agg [.p (.int .u8 x.1), .p (.int .u32 x.2.1), .p (.int .u32 z), .p (.int .u32 x.2.2.2)]) e31) ?_
   refine K_op rfl rfl (opr_callS [.o 0, .o 1] rfl rfl (c2) rfl rfl rfl ⟨⟨rfl, rfl⟩, ⟨rfl, rfl⟩, trivial⟩ rfl rfl rfl rfl) rfl ?_
   refine go ?_
   refine K_condT rfl (decide_eq_true (by show z < IntKind.i64.wrap x.2.2.1; rw [e29]; exact h3)) ?_
   refine go ?_
   refine J_val 43 (.p (.int .i64 x.2.2.1)) rfl (congrArg (fun z => TV.p (.int .i64 z)) e29) ?_
   refine K_op rfl rfl (opr_callS [.o 0, .o 1] rfl rfl (c3) rfl rfl rfl ⟨⟨rfl, rfl⟩, ⟨rfl, rfl⟩, trivial⟩ rfl rfl rfl rfl) rfl ?_
   refine go ?_
   cases r1 <;> cases r0
   ·refine go ?_
    exact J_done hT rfl rfl rfl
   ·refine go ?_
    exact J_done hT rfl rfl rfl
   ·refine go ?_
    exact J_done hT rfl rfl rfl
   ·refine go ?_
    exact J_done hT rfl rfl rfl
  ·rw [if_neg h3]
   refine con_of Tryz.func120 rfl (by kernel_rfl) rfl fun F w0 β0 => ?_
   refine K_tell rfl ?_
   refine go ?_
   refine K_op rfl rfl (opr_callS [.o 0, .o 1] rfl rfl (c1) rfl rfl rfl ⟨⟨rfl, rfl⟩, ⟨rfl, rfl⟩, trivial⟩ rfl rfl rfl rfl) rfl ?_
   refine go ?_
   refine K_condF rfl (decide_eq_false h1) ?_
   refine go ?_
   refine K_condF rfl (decide_eq_false h2) ?_
   refine go ?_
   refine J_val 35 (.agg [.p (.int .u8 x.1), .p (.int .u32 x.2.1), .p (.int .u32 z), .p (.int .u32 x.2.2.2)]) rfl (congrArg (fun z => TV.agg [.p (.int .u8 x.1), .p (.int .u32 x.2.1), .p (.int .u32 z), .p (.int .u32 x.2.2.2)]) e31) ?_
   refine K_op rfl rfl (opr_callS [.o 0, .o 1] rfl rfl (c2) rfl rfl rfl ⟨⟨rfl, rfl⟩, ⟨rfl, rfl⟩, trivial⟩ rfl rfl rfl rfl) rfl ?_
   refine go ?_
   refine K_condF rfl (decide_eq_false (by show ¬ z < IntKind.i64.wrap x.2.2.1; rw [e29]; exact h3)) ?_
   cases r0
   ·refine go ?_
    exact J_done hT rfl rfl rfl
   ·refine go ?_
    exact J_done hT rfl rfl rfl
end Go.Proofs.YtdkegmmigongoaaGreatDoor

import Derived.Test.YtdkegmmigongoaaGreatDoorGo
import Derived.Test.YtdkegmmigongoaaGreatDoorM24
import Derived.Test.YtdkegmmigongoaaGreatDoorM23
import Derived.Test.YtdkegmmigongoaaGreatDoorM13
import Derived.Test.YtdkegmmigongoaaGreatDoorM15
import Derived.Test.YtdkegmmigongoaaGreatDoorM14
import Derived.Test.YtdkegmmigongoaaGreatDoorM19
import Derived.Test.YtdkegmmigongoaaGreatDoorM7
namespace Go.Proofs.YtdkegmmigongoaaGreatDoor
set_option maxRecDepth 20000
open Go.Awp Tr
theorem shrL_cons (i : Int) (z n : Nat) (r : List Nat) (s : VS) (ok : Bool) : shrL i z (n :: r) s ok = shrL i z r (s.putB i n (clrB (s.block i n) (z - 64 * n))).2 ((s.putB i n (clrB (s.block i n) (z - 64 * n))).1 && ok) := rfl
structure ShS (i : Int) (m z a c : Nat) (s0 : VS) where
 k : Nat
 h : k ≤ c
 s : VS
 ok : Bool
 v : VJ s (m + k)
 e : shrL i z (List.range' (a + k) (c - k)) s ok = shrL i z (List.range' a c) s0 true
set_option maxHeartbeats 16000000 in
theorem shrinks_spec {s : VS} {m : Nat} (h : VJ s m) (hm : m ≤ 100000) (i : Int) (hi : U32 i) (z had : Nat) (hz : z < had) (hh : had ≤ 4096) :
  Con Tryz.prog 154 [vP, .p (.int .u32 i), .p (.int .i64 (z : Int)), .p (.int .i64 (had : Int))] (vH s) (.p (.bool (shrL i z (List.range' (z / 64) ((blocks (had : Int)).toNat - z / 64)) s true).1)) (vH (shrL i z (List.range' (z / 64) ((blocks (had : Int)).toNat - z / 64)) s true).2) [] := by
 have hB : blocks (had : Int) = (((had + 63) / 64 : Nat) : Int) := by unfold blocks; rw [if_neg (by omega)]; omega
 have c1 := blocks_spec (had : Int) (by omega) []
 rw [hB] at c1 ⊢
 rw [Int.toNat_natCast]
 have e13 : IntKind.i64.wrap ((z : Int).tdiv 64) = ((z / 64 : Nat) : Int) := by
  rw [Int.tdiv_eq_ediv_of_nonneg (by omega), IntWalk.i64_in _ (by omega)]; omega
 generalize hB' : (had + 63) / 64 = B at c1
 refine con_of Tryz.func154 rfl (by kernel_rfl) rfl fun F w0 β0 => ?_
 refine K_tell rfl ?_
 refine go ?_
 refine J_val 10 (.p (.int .i64 ((z / 64 : Nat) : Int))) rfl (congrArg (fun z => TV.p (.int .i64 z)) e13) ?_
 refine J_loop (fun q : ShS i m z (z / 64) (B - z / 64) s => [(0, vP), (1, .p (.int .u32 i)), (2, .p (.int .i64 (z : Int))), (3, .p (.int .i64 (had : Int))), (9, .p (.bool q.ok)), (10, .p (.int .i64 ((z / 64 + q.k : Nat) : Int)))]) (fun q => vH q.s) (fun _ => []) (fun q => B - z / 64 - q.k) ⟨0, by omega, s, true, h, rfl⟩ ⟨rfl, rfl, rfl, rfl, rfl, rfl, trivial⟩ rfl rfl (fun q => ?_)
 have hk := q.h
 have he := q.e
 have hvq := q.v
 refine go ?_
 refine K_op rfl rfl (opr_callP rfl rfl (c1) rfl rfl rfl rfl) rfl ?_
 refine go ?_
 by_cases hlt : q.k < B - z / 64
 ·obtain ⟨c, hc⟩ : ∃ c, B - z / 64 - q.k = c + 1 := ⟨B - z / 64 - q.k - 1, by omega⟩
  rw [hc, List.range'_succ, shrL_cons] at he
  have hbl := block_len q.s i (z / 64 + q.k)
  have c2 := block_spec hvq i hi ((z / 64 + q.k : Nat) : Int) (z / 64 + q.k) rfl
  have hcl := clrB_len (q.s.block i (z / 64 + q.k)) (z - 64 * (z / 64 + q.k))
  have hin : (bv (q.s.block i (z / 64 + q.k))).take (z - 64 * (z / 64 + q.k)) ++ List.replicate (64 - (z - 64 * (z / 64 + q.k))) (zrow ⟨.int .u8, 1, 1, [.int .u8 0]⟩) ++ (bv (q.s.block i (z / 64 + q.k))).drop (z - 64 * (z / 64 + q.k) + (List.replicate (64 - (z - 64 * (z / 64 + q.k))) (zrow ⟨.int .u8, 1, 1, [.int .u8 0]⟩)).length) = bv (clrB (q.s.block i (z / 64 + q.k)) (z - 64 * (z / 64 + q.k))) := by
   unfold clrB
   rw [bv_append, bv_take, bv_replicate, bv_drop, List.drop_of_length_le (by rw [List.length_replicate]; omega), hbl]
   show _ ++ _ ++ [] = _
   rw [List.append_nil]; rfl
  have c3 := fput_spec hvq (by omega) i hi ((z / 64 + q.k : Nat) : Int) (z / 64 + q.k) rfl (clrB (q.s.block i (z / 64 + q.k)) (z - 64 * (z / 64 + q.k))) (by rw [hcl, hbl])
  have hv3 := hvq.putB i (z / 64 + q.k) (b := clrB (q.s.block i (z / 64 + q.k)) (z - 64 * (z / 64 + q.k))) (by rw [hcl, hbl]; omega)
  have e29 : mmA .max (IntKind.i64.wrap ((z : Int) - IntKind.i64.wrap (((z / 64 + q.k : Nat) : Int) * 64))) 0 = ((z - 64 * (z / 64 + q.k) : Nat) : Int) := by
   rw [mm_max2, IntWalk.i64_in (((z / 64 + q.k : Nat) : Int) * 64) (by omega), IntWalk.i64_in _ (by omega)]; omega
  have hza : z - 64 * (z / 64 + q.k) ≤ 64 := by omega
  generalize z - 64 * (z / 64 + q.k) = a at c3 hv3 hin e29 he hza
  generalize hblk : q.s.block i (z / 64 + q.k) = blk at c2 hin c3 hv3 he hbl
  generalize hBB : clrB blk a = B2 at c3 hv3 he hin
  generalize hQ : q.s.putB i (z / 64 + q.k) B2 = Q at c3 hv3 he
  obtain ⟨r1, s3⟩ := Q
  dsimp only at c3 hv3 he
  refine K_condT rfl (decide_eq_true (by omega)) ?_
  refine go ?_
  refine K_op rfl rfl (opr_callS [.o 0, .o 1] rfl rfl (c2) rfl rfl rfl ⟨⟨rfl, rfl⟩, ⟨rfl, rfl⟩, trivial⟩ rfl rfl rfl rfl) rfl ?_
  refine go ?_
  refine J_val 29 (.p (.int .i64 (a : Int))) rfl (congrArg (fun z => TV.p (.int .i64 z)) e29) ?_
  refine K_op rfl rfl (opr_cut hT rfl rfl rfl rfl (Rd.own (i := 0) rfl (by rw [bv_length]; exact hbl)) rfl rfl (by omega) (by rw [bv_length, hbl]; omega) (by omega) (bv_size _)) rfl ?_
  have e30 : TV.sl (.l 0) 64 (0 + (a : Int).toNat) (((bv blk).length : Int).toNat - (a : Int).toNat) = .sl (.l 0) 64 a (64 - a) := by
   rw [bv_length, hbl, Int.toNat_natCast, Nat.zero_add]; rfl
  refine J_val 30 _ rfl e30 ?_
  refine go ?_
  refine K_op rfl rfl (opr_clearZ (rows0 := bv blk) hT rfl rfl rfl rfl rfl rfl rfl rfl (by rw [bv_length]; exact hbl) (by omega) (by rw [bv_length]; omega)) rfl ?_
  rw [hin]
  refine go ?_
  refine K_op rfl rfl (opr_callS [.o 0, .o 1, .l 0] rfl rfl (c3) rfl rfl rfl ⟨⟨rfl, rfl⟩, ⟨rfl, rfl⟩, ⟨rfl, rfl⟩, trivial⟩ rfl rfl rfl rfl) rfl ?_
  refine go ?_
  refine J_take 0 [(0, vP), (1, .p (.int .u32 i)), (2, .p (.int .i64 (z : Int))), (3, .p (.int .i64 (had : Int))), (9, .p (.bool (r1 && q.ok))), (10, .p (.int .i64 (IntKind.i64.wrap (((z / 64 + q.k : Nat) : Int) + 1))))] ⟨rfl, rfl, rfl, rfl, rfl, rfl, trivial⟩ rfl rfl ?_
  refine J_again ⟨q.k + 1, by omega, s3, r1 && q.ok, hv3.mono (by omega), by rw [← he, show B - z / 64 - (q.k + 1) = c by omega]; rfl⟩ (by show B - z / 64 - (q.k + 1) < B - z / 64 - q.k; omega) ⟨rfl, rfl, rfl, rfl, rfl, congrArg (fun z => TV.p (.int .i64 z)) (by rw [IntWalk.i64_in _ (by omega)]; rfl), trivial⟩ rfl rfl
 ·rw [show B - z / 64 - q.k = 0 by omega] at he
  change (q.ok, q.s) = _ at he
  rw [← he]
  dsimp only
  refine K_condF rfl (decide_eq_false (by omega)) ?_
  refine go ?_
  exact J_done hT rfl rfl rfl
set_option maxHeartbeats 16000000 in
theorem ftrunc_spec {s : VS} {m : Nat} (h : VJ s m) (hm : m ≤ 90000) (i : Int) (hi : U32 i) (z : Int) (hz : -9223372036854775808 ≤ z ∧ z ≤ 9223372036854775807) :
  Con Tryz.prog 120 [vP, .p (.int .u32 i), .p (.int .i64 z)] (vH s) (.p (.int .i64 (s.ftrunc i z).1)) (vH (s.ftrunc i z).2) [] := by
 have c1 := fload_spec h (by omega) i hi
 have hv := h.rd (keyH 73 i)
 have hbd := @fload_bd s i
 unfold VS.ftrunc
 generalize s.rd (keyH 73 i) = s1 at c1 hv
 have hs4 : ∀ x, s.fload i = some x → x.2.2.1 ≤ 4096 := fun x => fload_size
 generalize s.fload i = g at c1 hbd hs4
 cases g with
 | none =>
  refine con_of Tryz.func120 rfl (by kernel_rfl) rfl fun F w0 β0 => ?_
  refine K_tell rfl ?_
  refine go ?_
  refine K_op rfl rfl (opr_callS [.o 0, .o 1] rfl rfl (c1) rfl rfl rfl ⟨⟨rfl, rfl⟩, ⟨rfl, rfl⟩, trivial⟩ rfl rfl rfl rfl) rfl ?_
  refine go ?_
  exact J_done hT rfl rfl rfl
 | some x =>
  obtain ⟨⟨hx1, hx2, hx3, hx4⟩, _⟩ := hbd rfl
  have hs4 := hs4 x rfl
  dsimp only
  by_cases h1 : z < 0
  ·rw [if_pos h1]
   refine con_of Tryz.func120 rfl (by kernel_rfl) rfl fun F w0 β0 => ?_
   refine K_tell rfl ?_
   refine go ?_
   refine K_op rfl rfl (opr_callS [.o 0, .o 1] rfl rfl (c1) rfl rfl rfl ⟨⟨rfl, rfl⟩, ⟨rfl, rfl⟩, trivial⟩ rfl rfl rfl rfl) rfl ?_
   refine go ?_
   refine K_condT rfl (decide_eq_true h1) ?_
   refine go ?_
   exact J_done hT rfl rfl rfl
  rw [if_neg h1]
  by_cases h2 : z > 4096
  ·rw [if_pos h2]
   refine con_of Tryz.func120 rfl (by kernel_rfl) rfl fun F w0 β0 => ?_
   refine K_tell rfl ?_
   refine go ?_
   refine K_op rfl rfl (opr_callS [.o 0, .o 1] rfl rfl (c1) rfl rfl rfl ⟨⟨rfl, rfl⟩, ⟨rfl, rfl⟩, trivial⟩ rfl rfl rfl rfl) rfl ?_
   refine go ?_
   refine K_condF rfl (decide_eq_false h1) ?_
   refine go ?_
   refine K_condT rfl (decide_eq_true h2) ?_
   refine go ?_
   exact J_done hT rfl rfl rfl
  rw [if_neg h2]
  have hg : Nd.ok (sizeN x z) := ⟨hx1, hx2, by unfold sizeN; dsimp only; omega, hx4⟩
  have c2 := wsave_spec hv (by omega) i hi (sizeN x z) hg
  have hv2 := hv.fsave i (sizeN x z)
  generalize s1.save i (sizeN x z) = s2 at c2 hv2
  generalize s1.room (keyH 73 i) = r0 at c2
  have e31 : IntKind.u32.wrap z = z := u32_in _ (by omega)
  have e29 : IntKind.i64.wrap x.2.2.1 = x.2.2.1 := IntWalk.i64_in _ (by omega)
  by_cases h3 : z < x.2.2.1
  ·rw [if_pos h3]
   have c3 := shrinks_spec hv2 (by omega) i hi z.toNat x.2.2.1.toNat (by omega) (by omega)
   rw [Int.toNat_of_nonneg (show 0 ≤ z by omega), Int.toNat_of_nonneg hx3.1] at c3
   generalize shrL i z.toNat (List.range' (z.toNat / 64) ((blocks x.2.2.1).toNat - z.toNat / 64)) s2 true = R at c3
   obtain ⟨r1, s3⟩ := R
   dsimp only at c3 ⊢
   refine con_of Tryz.func120 rfl (by kernel_rfl) rfl fun F w0 β0 => ?_
   refine K_tell rfl ?_
   refine go ?_
   refine K_op rfl rfl (opr_callS [.o 0, .o 1] rfl rfl (c1) rfl rfl rfl ⟨⟨rfl, rfl⟩, ⟨rfl, rfl⟩, trivial⟩ rfl rfl rfl rfl) rfl ?_
   refine go ?_
   refine K_condF rfl (decide_eq_false h1) ?_
   refine go ?_
   refine K_condF rfl (decide_eq_false h2) ?_
   refine go ?_
   refine J_val 35 (.agg [.p (.int .u8 x.1), .p (.int .u32 x.2.1), .p (.int .u32 z), .p (.int .u32 x.2.2.2)]) rfl (congrArg (fun z => TV.agg [.p (.int .u8 x.1), .p (.int .u32 x.2.1), .p (.int .u32 z), .p (.int .u32 x.2.2.2)]) e31) ?_
   refine K_op rfl rfl (opr_callS [.o 0, .o 1] rfl rfl (c2) rfl rfl rfl ⟨⟨rfl, rfl⟩, ⟨rfl, rfl⟩, trivial⟩ rfl rfl rfl rfl) rfl ?_
   refine go ?_
   refine K_condT rfl (decide_eq_true (by show z < IntKind.i64.wrap x.2.2.1; rw [e29]; exact h3)) ?_
   refine go ?_
   refine J_val 43 (.p (.int .i64 x.2.2.1)) rfl (congrArg (fun z => TV.p (.int .i64 z)) e29) ?_
   refine K_op rfl rfl (opr_callS [.o 0, .o 1] rfl rfl (c3) rfl rfl rfl ⟨⟨rfl, rfl⟩, ⟨rfl, rfl⟩, trivial⟩ rfl rfl rfl rfl) rfl ?_
   refine go ?_
   cases r1 <;> cases r0
   ·refine go ?_
    exact J_done hT rfl rfl rfl
   ·refine go ?_
    exact J_done hT rfl rfl rfl
   ·refine go ?_
    exact J_done hT rfl rfl rfl
   ·refine go ?_
    exact J_done hT rfl rfl rfl
  ·rw [if_neg h3]
   refine con_of Tryz.func120 rfl (by kernel_rfl) rfl fun F w0 β0 => ?_
   refine K_tell rfl ?_
   refine go ?_
   refine K_op rfl rfl (opr_callS [.o 0, .o 1] rfl rfl (c1) rfl rfl rfl ⟨⟨rfl, rfl⟩, ⟨rfl, rfl⟩, trivial⟩ rfl rfl rfl rfl) rfl ?_
   refine go ?_
   refine K_condF rfl (decide_eq_false h1) ?_
   refine go ?_
   refine K_condF rfl (decide_eq_false h2) ?_
   refine go ?_
   refine J_val 35 (.agg [.p (.int .u8 x.1), .p (.int .u32 x.2.1), .p (.int .u32 z), .p (.int .u32 x.2.2.2)]) rfl (congrArg (fun z => TV.agg [.p (.int .u8 x.1), .p (.int .u32 x.2.1), .p (.int .u32 z), .p (.int .u32 x.2.2.2)]) e31) ?_
   refine K_op rfl rfl (opr_callS [.o 0, .o 1] rfl rfl (c2) rfl rfl rfl ⟨⟨rfl, rfl⟩, ⟨rfl, rfl⟩, trivial⟩ rfl rfl rfl rfl) rfl ?_
   refine go ?_
   refine K_condF rfl (decide_eq_false (by show ¬ z < IntKind.i64.wrap x.2.2.1; rw [e29]; exact h3)) ?_
   cases r0
   ·refine go ?_
    exact J_done hT rfl rfl rfl
   ·refine go ?_
    exact J_done hT rfl rfl rfl
theorem ixF_none {i : Int} : ∀ {f : MF} (j : Nat), f.at i = none → ixF f i j = -1
 | [], _, _ => rfl
 | y :: r, j, h => by
  rw [at_cons] at h
  unfold ixF
  by_cases e : y.i = i
  ·rw [if_pos e] at h; cases h
  ·rw [if_neg e] at h ⊢
   exact ixF_none (j + 1) h
def fnT : Option MN → TV
 | some x => nodT x
 | none => .agg [.p (.int .u32 0), .p (.int .u8 0), .p (.int .i64 0), .p (.str []), .p .nils]
def fnE : Option MN → Int
 | some _ => 0
 | none => 16
set_option maxHeartbeats 8000000 in
theorem rfile_spec (f : MF) (i : Int) (hf : f.length ≤ 100000) : Con Tryz.prog 129 [fsA f, .p (.int .u32 i)] [] (.tup [fnT (f.file i), .p (.int .i64 (fnE (f.file i)))]) [] [] := by
 have c1 := rAt_spec f i hf
 cases hx : f.at i with
 | none =>
  have e0 : f.file i = none := by unfold MF.file; rw [hx]
  rw [e0]
  have e : f.ix i = -1 := ixF_none 0 hx
  rw [e] at c1
  show Con _ _ _ _ (.tup [.agg [.p (.int .u32 0), .p (.int .u8 0), .p (.int .i64 0), .p (.str []), .p .nils], .p (.int .i64 16)]) _ _
  refine con_of Tryz.func129 rfl (by kernel_rfl) rfl fun F w0 β0 => ?_
  refine K_tell rfl ?_
  refine go ?_
  refine K_op rfl rfl (opr_callP rfl rfl (c1) rfl rfl rfl rfl) rfl ?_
  refine go ?_
  exact J_done hT rfl rfl rfl
 | some x =>
  obtain ⟨n, h1, h2⟩ := ix_at hx
  rw [h1] at c1
  have hlt := (List.getElem?_eq_some_iff.1 h2).1
  have hlen : (nods f).length = f.length := by simp
  have hxk := nods_get h2
  by_cases hk : x.k = 1
  ·rw [show f.file i = some x by unfold MF.file; rw [hx]; exact if_pos hk]
   show Con _ _ _ _ (.tup [nodT x, .p (.int .i64 0)]) _ _
   refine con_of Tryz.func129 rfl (by kernel_rfl) rfl fun F w0 β0 => ?_
   refine K_tell rfl ?_
   refine go ?_
   refine K_op rfl rfl (opr_callP rfl rfl (c1) rfl rfl rfl rfl) rfl ?_
   refine gx ?_
   refine J_val 12 (.p (.bool false)) rfl (congrArg (fun z => TV.p (.bool z)) (decide_eq_false (by omega))) ?_
   refine gx ?_
   refine K_yes rfl rfl rfl (opr_index hT rfl rfl rfl rfl rfl (.ps _) (by omega) (by rw [hlen]; omega)) rfl ?_
   refine gx ?_
   refine K_yes rfl rfl rfl (opr_load_el hT rfl rfl (.ps _) hxk rfl rfl) rfl ?_
   refine gx ?_
   refine K_condF rfl (by simp [hk]) ?_
   refine go ?_
   refine K_op rfl rfl (opr_index hT rfl rfl rfl rfl rfl (.ps _) (by omega) (by rw [hlen]; omega)) rfl ?_
   refine go ?_
   refine K_op rfl rfl (opr_load_el hT rfl rfl (.ps _) hxk rfl rfl) rfl ?_
   refine go ?_
   exact J_done hT rfl rfl rfl
  ·rw [show f.file i = none by unfold MF.file; rw [hx]; exact if_neg hk]
   show Con _ _ _ _ (.tup [.agg [.p (.int .u32 0), .p (.int .u8 0), .p (.int .i64 0), .p (.str []), .p .nils], .p (.int .i64 16)]) _ _
   refine con_of Tryz.func129 rfl (by kernel_rfl) rfl fun F w0 β0 => ?_
   refine K_tell rfl ?_
   refine go ?_
   refine K_op rfl rfl (opr_callP rfl rfl (c1) rfl rfl rfl rfl) rfl ?_
   refine gx ?_
   refine J_val 12 (.p (.bool false)) rfl (congrArg (fun z => TV.p (.bool z)) (decide_eq_false (by omega))) ?_
   refine gx ?_
   refine K_yes rfl rfl rfl (opr_index hT rfl rfl rfl rfl rfl (.ps _) (by omega) (by rw [hlen]; omega)) rfl ?_
   refine gx ?_
   refine K_yes rfl rfl rfl (opr_load_el hT rfl rfl (.ps _) hxk rfl rfl) rfl ?_
   refine gx ?_
   refine K_condT rfl (by simpa using hk) ?_
   refine go ?_
   exact J_done hT rfl rfl rfl
structure ZrI (n : Nat) where
 k : Nat
 h : k ≤ n
set_option maxHeartbeats 4000000 in
theorem zeros_spec (n : Nat) (hn : n ≤ 100000) : Con Tryz.prog 130 [.p (.int .i64 (n : Int))] [] (.p (.str (List.replicate n 0))) [] [] := by
 refine con_of Tryz.func130 rfl (by kernel_rfl) rfl fun F w0 β0 => ?_
 refine K_tell rfl ?_
 refine go ?_
 refine J_loop (fun q : ZrI n => [(0, .p (.int .i64 (n : Int))), (3, .p (.str (List.replicate q.k 0))), (4, .p (.int .i64 (q.k : Int)))]) (fun _ => []) (fun _ => []) (fun q => n - q.k) ⟨0, by omega⟩ ⟨rfl, rfl, rfl, trivial⟩ rfl rfl (fun q => ?_)
 have hk := q.h
 refine go ?_
 by_cases hlt : q.k < n
 ·refine K_condT rfl (decide_eq_true (by omega)) ?_
  refine go ?_
  refine K_op rfl rfl (opr_cat rfl rfl rfl (by rw [List.length_replicate]; show q.k + 1 ≤ _; omega)) rfl ?_
  refine go ?_
  refine J_again ⟨q.k + 1, by omega⟩ (by show n - (q.k + 1) < n - q.k; omega) ⟨rfl, congrArg (fun z => TV.p (.str z)) List.replicate_succ'.symm, congrArg (fun z => TV.p (.int .i64 z)) (by rw [IntWalk.i64_in _ (by omega)]; rfl), trivial⟩ rfl rfl
 ·refine K_condF rfl (decide_eq_false (by omega)) ?_
  rw [show q.k = n by omega]
  refine go ?_
  exact J_done hT rfl rfl rfl
set_option maxHeartbeats 8000000 in
theorem rfread_spec (f : MF) (i o n : Int) (hf : f.length ≤ 100000) (hb : ∀ x ∈ f, x.b.length ≤ 100000) (hn : -9223372036854775808 ≤ n ∧ n ≤ 9223372036854775807) :
  Con Tryz.prog 92 [fsA f, .p (.int .u32 i), .p (.int .i64 o), .p (.int .i64 n)] [] (.tup [.p (.str (f.fread i o n).1), .p (.int .i64 (f.fread i o n).2)]) [] [] := by
 have c1 := rfile_spec f i hf
 have hm : ∀ x, f.file i = some x → x ∈ f := fun x h => (at_mem (file_at h).1).1
 unfold MF.fread
 generalize f.file i = g at c1 hm
 cases g with
 | none =>
  change Con _ _ _ _ (.tup [.agg [.p (.int .u32 0), .p (.int .u8 0), .p (.int .i64 0), .p (.str []), .p .nils], .p (.int .i64 16)]) _ _ at c1
  refine con_of Tryz.func92 rfl (by kernel_rfl) rfl fun F w0 β0 => ?_
  refine K_tell rfl ?_
  refine go ?_
  refine K_op rfl rfl (opr_callP rfl rfl (c1) rfl rfl rfl rfl) rfl ?_
  refine go ?_
  exact J_done hT rfl rfl rfl
 | some x =>
  change Con _ _ _ _ (.tup [nodT x, .p (.int .i64 0)]) _ _ at c1
  have hb := hb x (hm x rfl)
  dsimp only
  by_cases h1 : o < 0 ∨ n < 0 ∨ n > 1024
  ·rw [if_pos h1]
   refine con_of Tryz.func92 rfl (by kernel_rfl) rfl fun F w0 β0 => ?_
   refine K_tell rfl ?_
   refine go ?_
   refine K_op rfl rfl (opr_callP rfl rfl (c1) rfl rfl rfl rfl) rfl ?_
   refine go ?_
   refine K_condT rfl (by rcases h1 with q | q | q <;> simp [q]) ?_
   refine go ?_
   exact J_done hT rfl rfl rfl
  rw [if_neg h1]
  by_cases h2 : o ≥ (x.b.length : Int)
  ·rw [if_pos h2]
   refine con_of Tryz.func92 rfl (by kernel_rfl) rfl fun F w0 β0 => ?_
   refine K_tell rfl ?_
   refine go ?_
   refine K_op rfl rfl (opr_callP rfl rfl (c1) rfl rfl rfl rfl) rfl ?_
   refine go ?_
   refine K_condF rfl (by simp; omega) ?_
   refine go ?_
   refine K_condT rfl (decide_eq_true h2) ?_
   refine go ?_
   exact J_done hT rfl rfl rfl
  rw [if_neg h2]
  have e46 : IntKind.i64.wrap (o + mmA .min n (IntKind.i64.wrap ((x.b.length : Int) - o))) = o + min n ((x.b.length : Int) - o) := by
   rw [mm_min2, IntWalk.i64_in ((x.b.length : Int) - o) (by omega), IntWalk.i64_in _ (by omega)]
  refine con_of Tryz.func92 rfl (by kernel_rfl) rfl fun F w0 β0 => ?_
  refine K_tell rfl ?_
  refine go ?_
  refine K_op rfl rfl (opr_callP rfl rfl (c1) rfl rfl rfl rfl) rfl ?_
  refine go ?_
  refine K_condF rfl (by simp; omega) ?_
  refine go ?_
  refine K_condF rfl (decide_eq_false h2) ?_
  refine go ?_
  refine J_val 47 (.p (.int .i64 (o + min n ((x.b.length : Int) - o)))) rfl (congrArg (fun z => TV.p (.int .i64 z)) e46) ?_
  refine K_op rfl rfl (opr_cut_str (i := o) (j := o + min n ((x.b.length : Int) - o)) hT rfl rfl rfl rfl rfl (by omega) (by omega) (by omega)) rfl ?_
  rw [show (o + min n ((x.b.length : Int) - o)).toNat - o.toNat = min n.toNat (x.b.length - o.toNat) by omega]
  refine go ?_
  exact J_done hT rfl rfl rfl
abbrev nT0 : TV := .agg [.p (.int .u32 0), .p (.int .u8 0), .p (.int .i64 0), .p (.str []), .p .nils]
set_option maxHeartbeats 16000000 in
theorem rfwrite_spec (f : MF) (i o : Int) (b : List UInt8) (hf : f.length ≤ 100000) (hb : ∀ x ∈ f, x.b.length ≤ 100000) (ho : -9223372036854775808 ≤ o ∧ o ≤ 9223372036854775807) (hbl : b.length ≤ 140737488355328) :
  Con Tryz.prog 93 [fsA f, .p (.int .u32 i), .p (.int .i64 o), .p (.str b)] [] (eT (f.fwrite i o b).1 (f.fwrite i o b).2) [] [] := by
 have c1 := rfile_spec f i hf
 have hm : ∀ x, f.file i = some x → x ∈ f := fun x h => (at_mem (file_at h).1).1
 unfold MF.fwrite
 generalize f.file i = g at c1 hm
 cases g with
 | none =>
  change Con _ _ _ _ (.tup [nT0, .p (.int .i64 16)]) _ _ at c1
  refine con_of Tryz.func93 rfl (by kernel_rfl) rfl fun F w0 β0 => ?_
  refine K_tell rfl ?_
  refine go ?_
  refine K_op rfl rfl (opr_callP rfl rfl (c1) rfl rfl rfl rfl) rfl ?_
  refine go ?_
  refine J_drawS 3 (by kernel_rfl) (by kernel_rfl) ?_
  apply Exists.intro
  refine gdW ?_
  refine go ?_
  exact J_done hT rfl rfl rfl
 | some x =>
  change Con _ _ _ _ (.tup [nodT x, .p (.int .i64 0)]) _ _ at c1
  have hb := hb x (hm x rfl)
  dsimp only
  by_cases h1 : o < 0 ∨ (b.length : Int) > 1024
  ·rw [if_pos h1]
   refine con_of Tryz.func93 rfl (by kernel_rfl) rfl fun F w0 β0 => ?_
   refine K_tell rfl ?_
   refine go ?_
   refine K_op rfl rfl (opr_callP rfl rfl (c1) rfl rfl rfl rfl) rfl ?_
   refine go ?_
   refine K_condT rfl (by rcases h1 with q | q <;> simp [q] <;> omega) ?_
   refine go ?_
   refine J_drawS 2 (by kernel_rfl) (by kernel_rfl) ?_
   apply Exists.intro
   refine gdW ?_
   refine go ?_
   exact J_done hT rfl rfl rfl
  rw [if_neg h1]
  by_cases h2 : o > 4096 ∨ o + (b.length : Int) > 4096
  ·rw [if_pos h2]
   refine con_of Tryz.func93 rfl (by kernel_rfl) rfl fun F w0 β0 => ?_
   refine K_tell rfl ?_
   refine go ?_
   refine K_op rfl rfl (opr_callP rfl rfl (c1) rfl rfl rfl rfl) rfl ?_
   refine go ?_
   refine K_condF rfl (by simp; omega) ?_
   refine go ?_
   refine K_condT rfl ?_ ?_
   ·by_cases h3 : o > 4096
    ·rw [decide_eq_true h3]; rfl
    ·rw [decide_eq_false h3]
     exact decide_eq_true (by rw [IntWalk.i64_in _ (by omega)]; omega)
   refine go ?_
   refine J_drawS 2 (by kernel_rfl) (by kernel_rfl) ?_
   apply Exists.intro
   refine gdW ?_
   refine go ?_
   exact J_done hT rfl rfl rfl
  rw [if_neg h2]
  by_cases h3 : b.length = 0
  ·rw [if_pos h3]
   refine con_of Tryz.func93 rfl (by kernel_rfl) rfl fun F w0 β0 => ?_
   refine K_tell rfl ?_
   refine go ?_
   refine K_op rfl rfl (opr_callP rfl rfl (c1) rfl rfl rfl rfl) rfl ?_
   refine go ?_
   refine K_condF rfl (by simp; omega) ?_
   refine go ?_
   refine K_condF rfl (by rw [decide_eq_false (show ¬ o > 4096 by omega)]; exact decide_eq_false (by rw [IntWalk.i64_in _ (by omega)]; omega)) ?_
   refine go ?_
   refine K_condT rfl (by rw [h3]; rfl) ?_
   refine go ?_
   refine J_drawS 2 (by kernel_rfl) (by kernel_rfl) ?_
   apply Exists.intro
   refine gdW ?_
   refine go ?_
   exact J_done hT rfl rfl rfl
  rw [if_neg h3]
  have c2 := zeros_spec (o.toNat - x.b.length) (by omega)
  have e53 : mmA .max 0 (IntKind.i64.wrap (o - (x.b.length : Int))) = ((o.toNat - x.b.length : Nat) : Int) := by
   rw [mm_max2, IntWalk.i64_in _ (by omega)]; omega
  rw [← e53] at c2
  have c3 := rWith_spec f { x with b := wrB x.b o.toNat b } hf
  generalize f.with { x with b := wrB x.b o.toNat b } = f' at c3
  unfold wrB padT at c3
  have hdl : (x.b ++ List.replicate (o.toNat - x.b.length) 0).length = x.b.length + (o.toNat - x.b.length) := by simp
  generalize hd : x.b ++ List.replicate (o.toNat - x.b.length) 0 = d at c3 hdl
  have ecut : (d.drop (IntKind.i64.wrap (o + (b.length : Int))).toNat).take ((d.length : Int).toNat - (IntKind.i64.wrap (o + (b.length : Int))).toNat) = d.drop (o.toNat + b.length) := by
   rw [IntWalk.i64_in _ (by omega), show (o + (b.length : Int)).toNat = o.toNat + b.length by omega, List.take_of_length_le (by simp)]
  have ebeg : (d.drop (0 : Int).toNat).take (o.toNat - (0 : Int).toNat) = d.take o.toNat := rfl
  have e59 : IntKind.i64.wrap (o + (b.length : Int)) = o + (b.length : Int) := IntWalk.i64_in _ (by omega)
  by_cases h4 : o.toNat + b.length < d.length
  ·skip
   refine con_of Tryz.func93 rfl (by kernel_rfl) rfl fun F w0 β0 => ?_
   refine K_tell rfl ?_
   refine go ?_
   refine K_op rfl rfl (opr_callP rfl rfl (c1) rfl rfl rfl rfl) rfl ?_
   refine go ?_
   refine K_condF rfl (by simp; omega) ?_
   refine go ?_
   refine K_condF rfl (by rw [decide_eq_false (show ¬ o > 4096 by omega)]; exact decide_eq_false (by rw [e59]; omega)) ?_
   refine go ?_
   refine K_condF rfl (by simpa using h3) ?_
   refine go ?_
   refine J_draw [_] [] (by kernel_rfl) (by kernel_rfl) rfl ?_
   refine gd ?_
   refine T_opD rfl rfl rfl rfl rfl (opr_call0P rfl rfl c2 rfl rfl rfl) rfl ?_
   refine gd ?_
   refine T_opD rfl rfl rfl rfl rfl (opr_cat rfl rfl rfl (by rw [List.length_replicate]; omega)) rfl ?_
   refine gd ?_
   refine go ?_
   rw [hd]
   refine K_condT rfl (decide_eq_true (by rw [e59]; omega)) ?_
   refine go ?_
   refine K_op rfl rfl (opr_cut_str (i := IntKind.i64.wrap (o + (b.length : Int))) (j := (d.length : Int)) hT rfl rfl rfl rfl rfl (by rw [e59]; omega) (by rw [e59]; omega) (by omega)) rfl ?_
   rw [ecut]
   refine go ?_
   refine K_op rfl rfl (opr_cut_str (i := 0) (j := o) hT rfl rfl rfl rfl rfl (by omega) (by omega) (by omega)) rfl ?_
   rw [ebeg]
   refine go ?_
   refine K_op rfl rfl (opr_cat rfl rfl rfl (by simp; omega)) rfl ?_
   refine go ?_
   refine K_op rfl rfl (opr_cat rfl rfl rfl (by simp; omega)) rfl ?_
   refine go ?_
   refine K_op rfl rfl (opr_callP rfl rfl (c3) rfl rfl rfl rfl) rfl ?_
   refine go ?_
   exact J_done hT rfl rfl rfl
  ·skip
   refine con_of Tryz.func93 rfl (by kernel_rfl) rfl fun F w0 β0 => ?_
   refine K_tell rfl ?_
   refine go ?_
   refine K_op rfl rfl (opr_callP rfl rfl (c1) rfl rfl rfl rfl) rfl ?_
   refine go ?_
   refine K_condF rfl (by simp; omega) ?_
   refine go ?_
   refine K_condF rfl (by rw [decide_eq_false (show ¬ o > 4096 by omega)]; exact decide_eq_false (by rw [e59]; omega)) ?_
   refine go ?_
   refine K_condF rfl (by simpa using h3) ?_
   refine go ?_
   refine J_draw [_] [] (by kernel_rfl) (by kernel_rfl) rfl ?_
   refine gd ?_
   refine T_opD rfl rfl rfl rfl rfl (opr_call0P rfl rfl c2 rfl rfl rfl) rfl ?_
   refine gd ?_
   refine T_opD rfl rfl rfl rfl rfl (opr_cat rfl rfl rfl (by rw [List.length_replicate]; omega)) rfl ?_
   refine gd ?_
   refine go ?_
   rw [hd]
   rw [List.drop_of_length_le (by omega)] at c3
   refine K_condF rfl (decide_eq_false (by rw [e59]; omega)) ?_
   refine go ?_
   refine K_op rfl rfl (opr_cut_str (i := 0) (j := o) hT rfl rfl rfl rfl rfl (by omega) (by omega) (by omega)) rfl ?_
   rw [ebeg]
   refine go ?_
   refine K_op rfl rfl (opr_cat rfl rfl rfl (by simp; omega)) rfl ?_
   refine go ?_
   refine K_op rfl rfl (opr_cat rfl rfl rfl (by simp; omega)) rfl ?_
   refine go ?_
   refine K_op rfl rfl (opr_callP rfl rfl (c3) rfl rfl rfl rfl) rfl ?_
   refine go ?_
   exact J_done hT rfl rfl rfl
set_option maxHeartbeats 16000000 in
theorem rftrunc_spec (f : MF) (i z : Int) (hf : f.length ≤ 100000) (hb : ∀ x ∈ f, x.b.length ≤ 100000) (hz : -9223372036854775808 ≤ z ∧ z ≤ 9223372036854775807) :
  Con Tryz.prog 94 [fsA f, .p (.int .u32 i), .p (.int .i64 z)] [] (eT (f.ftrunc i z).1 (f.ftrunc i z).2) [] [] := by
 have c1 := rfile_spec f i hf
 have hm : ∀ x, f.file i = some x → x ∈ f := fun x h => (at_mem (file_at h).1).1
 unfold MF.ftrunc
 generalize f.file i = g at c1 hm
 cases g with
 | none =>
  change Con _ _ _ _ (.tup [nT0, .p (.int .i64 16)]) _ _ at c1
  refine con_of Tryz.func94 rfl (by kernel_rfl) rfl fun F w0 β0 => ?_
  refine K_tell rfl ?_
  refine go ?_
  refine K_op rfl rfl (opr_callP rfl rfl (c1) rfl rfl rfl rfl) rfl ?_
  refine go ?_
  refine J_drawS 3 (by kernel_rfl) (by kernel_rfl) ?_
  apply Exists.intro
  refine gdW ?_
  refine go ?_
  exact J_done hT rfl rfl rfl
 | some x =>
  change Con _ _ _ _ (.tup [nodT x, .p (.int .i64 0)]) _ _ at c1
  have hb := hb x (hm x rfl)
  dsimp only
  by_cases h1 : z < 0
  ·rw [if_pos h1]
   refine con_of Tryz.func94 rfl (by kernel_rfl) rfl fun F w0 β0 => ?_
   refine K_tell rfl ?_
   refine go ?_
   refine K_op rfl rfl (opr_callP rfl rfl (c1) rfl rfl rfl rfl) rfl ?_
   refine go ?_
   refine K_condT rfl (decide_eq_true h1) ?_
   refine go ?_
   refine J_drawS 2 (by kernel_rfl) (by kernel_rfl) ?_
   apply Exists.intro
   refine gdW ?_
   refine go ?_
   exact J_done hT rfl rfl rfl
  rw [if_neg h1]
  by_cases h2 : z > 4096
  ·rw [if_pos h2]
   refine con_of Tryz.func94 rfl (by kernel_rfl) rfl fun F w0 β0 => ?_
   refine K_tell rfl ?_
   refine go ?_
   refine K_op rfl rfl (opr_callP rfl rfl (c1) rfl rfl rfl rfl) rfl ?_
   refine go ?_
   refine K_condF rfl (decide_eq_false h1) ?_
   refine go ?_
   refine K_condT rfl (decide_eq_true h2) ?_
   refine go ?_
   refine J_drawS 2 (by kernel_rfl) (by kernel_rfl) ?_
   apply Exists.intro
   refine gdW ?_
   refine go ?_
   exact J_done hT rfl rfl rfl
  rw [if_neg h2]
  have c3 := rWith_spec f { x with b := trB x.b z.toNat } hf
  generalize f.with { x with b := trB x.b z.toNat } = f' at c3
  unfold trB at c3
  by_cases h3 : z.toNat ≤ x.b.length
  ·rw [if_pos h3] at c3
   have ebeg : (x.b.drop (0 : Int).toNat).take (z.toNat - (0 : Int).toNat) = x.b.take z.toNat := rfl
   refine con_of Tryz.func94 rfl (by kernel_rfl) rfl fun F w0 β0 => ?_
   refine K_tell rfl ?_
   refine go ?_
   refine K_op rfl rfl (opr_callP rfl rfl (c1) rfl rfl rfl rfl) rfl ?_
   refine go ?_
   refine K_condF rfl (decide_eq_false h1) ?_
   refine go ?_
   refine K_condF rfl (decide_eq_false h2) ?_
   refine go ?_
   refine K_condT rfl (decide_eq_true (by omega)) ?_
   refine go ?_
   refine K_op rfl rfl (opr_cut_str (i := 0) (j := z) hT rfl rfl rfl rfl rfl (by omega) (by omega) (by omega)) rfl ?_
   rw [ebeg]
   refine go ?_
   refine K_op rfl rfl (opr_callP rfl rfl (c3) rfl rfl rfl rfl) rfl ?_
   refine go ?_
   exact J_done hT rfl rfl rfl
  ·rw [if_neg h3] at c3
   have c2 := zeros_spec (z.toNat - x.b.length) (by omega)
   have e42 : IntKind.i64.wrap (z - (x.b.length : Int)) = ((z.toNat - x.b.length : Nat) : Int) := by
    rw [IntWalk.i64_in _ (by omega)]; omega
   rw [← e42] at c2
   refine con_of Tryz.func94 rfl (by kernel_rfl) rfl fun F w0 β0 => ?_
   refine K_tell rfl ?_
   refine go ?_
   refine K_op rfl rfl (opr_callP rfl rfl (c1) rfl rfl rfl rfl) rfl ?_
   refine go ?_
   refine K_condF rfl (decide_eq_false h1) ?_
   refine go ?_
   refine K_condF rfl (decide_eq_false h2) ?_
   refine go ?_
   refine K_condF rfl (decide_eq_false (by omega)) ?_
   refine go ?_
   refine J_drawS 10 (by kernel_rfl) (by kernel_rfl) ?_
   apply Exists.intro
   refine gdW ?_
   refine T_opD rfl rfl rfl rfl rfl (opr_call0P rfl rfl c2 rfl rfl rfl) rfl ?_
   refine gdW ?_
   refine T_opD rfl rfl rfl rfl rfl (opr_cat rfl rfl rfl (by rw [List.length_replicate]; omega)) rfl ?_
   refine gdW ?_
   refine go ?_
   refine K_op rfl rfl (opr_callP rfl rfl (c3) rfl rfl rfl rfl) rfl ?_
   refine go ?_
   exact J_done hT rfl rfl rfl
structure FOp where
 kind : Int
 ino : Int
 from_ : Int
 n : Int
 a : AV
 b : List UInt8
structure FOp.ok (o : FOp) : Prop where
 bs : Bs o.a o.b
 u : U32 o.ino
 f : -9223372036854775808 ≤ o.from_ ∧ o.from_ ≤ 9223372036854775807
 n : -9223372036854775808 ≤ o.n ∧ o.n ≤ 9223372036854775807
 l : o.b.length ≤ 140737488351232
def do19 (s : VS) (m : MF) (o : FOp) : (Int × VS) × (Int × MF) :=
 if o.kind = 1 then (s.fwrite o.ino o.from_ o.b, m.fwrite o.ino o.from_ o.b) else if o.kind = 2 then (s.ftrunc o.ino o.n, m.ftrunc o.ino o.n) else ((0, s), (0, m))
def doT19 (s : VS) (m : MF) (o : FOp) : (Bool × MF × Bool) × VS :=
 if o.kind = 0 then ((decide ((s.fread o.ino o.from_ o.n).1.1 = (m.fread o.ino o.from_ o.n).1) && decide ((s.fread o.ino o.from_ o.n).1.2 = (m.fread o.ino o.from_ o.n).2), m, false), (s.fread o.ino o.from_ o.n).2)
 else if (do19 s m o).1.1 = 21 then ((true, m, true), (do19 s m o).1.2) else ((decide ((do19 s m o).1.1 = (do19 s m o).2.1), (do19 s m o).2.2, false), (do19 s m o).1.2)
theorem D18.of {s s' : VS} {m m' : MF} {i : Nat} (h : D18 s m i) (hi : i ≤ 100) (k : Int) (p : List UInt8) (j : Int) (hj : j = 2 + i) (hf : (doT s m k p [] j).1.2.2 = false) (hs : (doT s m k p [] j).2 = s') (hm : (doT s m k p [] j).1.2.1 = m') : D18 s' m' (i + 1) := by
 rcases h.step hi k p [] j hj with q | ⟨_, _, q⟩
 ·rw [hf] at q; cases q
 ·rwa [hs, hm] at q
theorem bs_ps {a : AV} {l : List UInt8} (h : Bs a l) : AVLe a (.ps (bv l)) := by
 cases h with
 | ps => exact AVLe.refl _
 | nils => exact nils_ps
 | cz => exact cz_ps
def cuF : List FOp → Nat → Nat → Nat
 | [], i, _ => i
 | o :: r, i, n => if 60 ≤ i ∨ 20000 < n + min o.b.length 9000 then i else cuF r (i + 1) (n + min o.b.length 9000)
structure CuI (l : List FOp) where
 i : Nat
 n : Nat
 h : i ≤ l.length
 hn : n ≤ 9000 * i
 h6 : i ≤ 60
 e : cuF (l.drop i) i n = cuF l 0 0
structure D19 (s : VS) (m : MF) (i : Nat) : Prop where
 v : VJ s (600 + 150 * i)
 r : ∃ par, Rel s.shown.row m par
 w : m.wk 30
 f : ∀ j, j = 3 ∨ j = 4 → ∃ x, m.file j = some x
 d : m.file 2 = none
theorem D19.u {s : VS} {m : MF} {i : Nat} (h : D19 s m i) : m.length ≤ 100000 ∧ ∀ x ∈ m, x.b.length ≤ 4096 := by
 obtain ⟨par, R⟩ := h.r
 refine ⟨by have := h.w.l; omega, fun x hx => ?_⟩
 have hat := R.fst x hx
 rcases R.kin _ _ hat with q | q
 ·rw [q.2]; exact Nat.zero_le _
 ·exact (R.bl hat q.1).1
theorem file_with {m : MF} {i : Int} {x : MN} (hx : m.file i = some x) (b : List UInt8) (j : Int) : (m.with { x with b := b }).file j = if j = i then some { x with b := b } else m.file j := by
 obtain ⟨h1, h2⟩ := file_at hx
 have hi := (at_mem h1).2
 unfold MF.file
 rw [at_with]
 dsimp only
 rw [hi]
 by_cases e : j = i
 ·rw [if_pos e, if_pos e]; exact if_pos h2
 ·rw [if_neg e, if_neg e]
structure KpF (m m' : MF) : Prop where
 w : ∀ c, m.wk c → m'.wk c
 f : ∀ j, (∃ x, m.file j = some x) → ∃ x, m'.file j = some x
 n : ∀ j, m.file j = none → m'.file j = none
theorem KpF.refl (m : MF) : KpF m m := ⟨fun _ h => h, fun _ h => h, fun _ h => h⟩
theorem KpF.data {m : MF} {i : Int} {x : MN} (hx : m.file i = some x) (b : List UInt8) : KpF m (m.with { x with b := b }) :=
 ⟨fun c h => wk_data h (file_at hx).1 b, fun j ⟨y, hy⟩ => by
  rw [file_with hx]
  split
  ·exact ⟨_, rfl⟩
  ·exact ⟨y, hy⟩, fun j hj => by
  rw [file_with hx, if_neg]
  ·exact hj
  ·rintro rfl; rw [hx] at hj; cases hj⟩
theorem fwrite_kp (m : MF) (i o : Int) (b : List UInt8) : KpF m (m.fwrite i o b).2 := by
 unfold MF.fwrite
 cases hx : m.file i with
 | none => exact KpF.refl m
 | some x =>
  dsimp only
  split
  ·exact KpF.refl m
  split
  ·exact KpF.refl m
  split
  ·exact KpF.refl m
  ·exact KpF.data hx _
theorem ftrunc_kp (m : MF) (i z : Int) : KpF m (m.ftrunc i z).2 := by
 unfold MF.ftrunc
 cases hx : m.file i with
 | none => exact KpF.refl m
 | some x =>
  dsimp only
  split
  ·exact KpF.refl m
  split
  ·exact KpF.refl m
  ·exact KpF.data hx _
theorem D19.step {s : VS} {m : MF} {i : Nat} (h : D19 s m i) (o : FOp) (ho : o.ok) :
  (doT19 s m o).1.2.2 = true ∨ ((doT19 s m o).1.1 = true ∧ (doT19 s m o).1.2.2 = false ∧ D19 (doT19 s m o).2 (doT19 s m o).1.2.1 (i + 1)) := by
 obtain ⟨par, R⟩ := h.r
 unfold doT19
 by_cases h0 : o.kind = 0
 ·rw [if_pos h0]
  obtain ⟨e1, e2⟩ := fread_sim h.v R ho.u o.from_ o.n
  refine .inr ⟨?_, rfl, ?_⟩
  ·dsimp only; rw [e1]; simp
  ·dsimp only
   rw [e2]
   exact ⟨(h.v.rd _).mono (by omega), ⟨par, R⟩, h.w, h.f, h.d⟩
 rw [if_neg h0]
 have key : ∀ (q : Int × VS) (r : Int × MF), (q.1 = 21 ∨ (q.1 = r.1 ∧ Rel q.2.shown.row r.2 par)) → VJ q.2 (600 + 150 * i + 100) → KpF m r.2 →
   (if q.1 = 21 then ((true, m, true), q.2) else ((decide (q.1 = r.1), r.2, false), q.2)).1.2.2 = true ∨ ((if q.1 = 21 then ((true, m, true), q.2) else ((decide (q.1 = r.1), r.2, false), q.2)).1.1 = true ∧ (if q.1 = 21 then ((true, m, true), q.2) else ((decide (q.1 = r.1), r.2, false), q.2)).1.2.2 = false ∧ D19 (if q.1 = 21 then ((true, m, true), q.2) else ((decide (q.1 = r.1), r.2, false), q.2)).2 (if q.1 = 21 then ((true, m, true), q.2) else ((decide (q.1 = r.1), r.2, false), q.2)).1.2.1 (i + 1)) := by
  intro q r h1 h2 h3
  by_cases e : q.1 = 21
  ·rw [if_pos e]; exact .inl rfl
  ·rw [if_neg e]
   obtain ⟨h5, h6⟩ := h1.resolve_left e
   exact .inr ⟨decide_eq_true h5, rfl, h2.mono (by omega), ⟨par, h6⟩, h3.w _ h.w, fun j hj => h3.f j (h.f j hj), h3.n _ h.d⟩
 by_cases h1 : o.kind = 1
 ·have e : do19 s m o = (s.fwrite o.ino o.from_ o.b, m.fwrite o.ino o.from_ o.b) := by unfold do19; rw [if_pos h1]
  rw [e]
  exact key _ _ (fwrite_sim h.v R ho.u o.from_ o.b) ((fwrite_ok h.v o.ino o.from_ o.b).mono (by omega)) (fwrite_kp m _ _ _)
 by_cases h2 : o.kind = 2
 ·have e : do19 s m o = (s.ftrunc o.ino o.n, m.ftrunc o.ino o.n) := by unfold do19; rw [if_neg h1, if_pos h2]
  rw [e]
  exact key _ _ (ftrunc_sim h.v R ho.u o.n) ((ftrunc_ok h.v o.ino o.n).mono (by omega)) (ftrunc_kp m _ _)
 have e : do19 s m o = ((0, s), (0, m)) := by unfold do19; rw [if_neg h1, if_neg h2]
 rw [e]
 exact key (0, s) (0, m) (.inr ⟨rfl, R⟩) (h.v.mono (by omega)) (KpF.refl m)
end Go.Proofs.YtdkegmmigongoaaGreatDoor

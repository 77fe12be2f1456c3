import Derived.Test.YtdkegmmigongoaaGreatDoorM22
import Derived.Test.YtdkegmmigongoaaGreatDoorM15
import Derived.Test.YtdkegmmigongoaaGreatDoorM9
import Derived.Test.YtdkegmmigongoaaGreatDoorM1
import Derived.Test.YtdkegmmigongoaaGreatDoorM7
import Derived.Test.YtdkegmmigongoaaGreatDoorGo
namespace Go.Proofs.YtdkegmmigongoaaGreatDoor
set_option maxRecDepth 20000
open Go.Awp Tr
def nd0 : Nd := (0, 0, 0, 0)
def fE : Option Nd → Int
 | some _ => 0
 | none => 16
set_option maxHeartbeats 4000000 in
theorem fload_spec {s : VS} {m : Nat} (h : VJ s m) (hm : m ≤ 1000000) (i : Int) (hi : U32 i) : Con Tryz.prog 150 [vP, .p (.int .u32 i)] (vH s) (.tup [ndT ((s.fload i).getD nd0), .p (.int .i64 (fE (s.fload i)))]) (vH (s.rd (keyH 73 i))) [] := by
 have c1 := wload_spec h hm i hi
 rw [nodeT_tup] at c1
 unfold VS.fload
 generalize s.rd (keyH 73 i) = s1 at c1
 generalize s.load i = g at c1
 cases g with
 | none =>
  refine con_of Tryz.func150 rfl (by kernel_rfl) rfl fun F w0 β0 => ?_
  refine K_tell rfl ?_
  refine go ?_
  refine K_op rfl rfl (opr_callS [.o 0, .o 1] rfl rfl (c1) rfl rfl rfl ⟨⟨rfl, rfl⟩, ⟨rfl, rfl⟩, trivial⟩ rfl rfl rfl rfl) rfl ?_
  refine go ?_
  exact J_done hT rfl rfl rfl
 | some g =>
  dsimp only
  by_cases hk : g.1 = 1
  ·rw [if_pos hk]
   refine con_of Tryz.func150 rfl (by kernel_rfl) rfl fun F w0 β0 => ?_
   refine K_tell rfl ?_
   refine go ?_
   refine K_op rfl rfl (opr_callS [.o 0, .o 1] rfl rfl (c1) rfl rfl rfl ⟨⟨rfl, rfl⟩, ⟨rfl, rfl⟩, trivial⟩ rfl rfl rfl rfl) rfl ?_
   refine go ?_
   refine K_condF rfl (by simp [hk]) ?_
   refine go ?_
   exact J_done hT rfl rfl rfl
  ·rw [if_neg hk]
   refine con_of Tryz.func150 rfl (by kernel_rfl) rfl fun F w0 β0 => ?_
   refine K_tell rfl ?_
   refine go ?_
   refine K_op rfl rfl (opr_callS [.o 0, .o 1] rfl rfl (c1) rfl rfl rfl ⟨⟨rfl, rfl⟩, ⟨rfl, rfl⟩, trivial⟩ rfl rfl rfl rfl) rfl ?_
   refine go ?_
   refine K_condT rfl (by simpa using hk) ?_
   refine go ?_
   exact J_done hT rfl rfl rfl
abbrev bA (l : List UInt8) : AObj := .arr 5 true 1 (bv l)
theorem bv_take (l : List UInt8) (n : Nat) : (bv l).take n = bv (l.take n) := by unfold bv; rw [List.map_take]
theorem bv_drop (l : List UInt8) (n : Nat) : (bv l).drop n = bv (l.drop n) := by unfold bv; rw [List.map_drop]
theorem padB_min (v : List UInt8) : padB v = v.take (min v.length 64) ++ List.replicate (64 - min v.length 64) 0 := by
 unfold padB
 by_cases h : 64 ≤ v.length
 ·rw [List.take_append_of_le_length h, Nat.min_eq_right h]; simp
 ·rw [List.take_append, List.take_of_length_le (by omega), List.take_replicate, Nat.min_eq_left (show v.length ≤ 64 by omega), List.take_length, Nat.min_eq_left (by omega)]
set_option maxHeartbeats 4000000 in
theorem block_spec {s : VS} {m : Nat} (h : VJ s m) (i : Int) (hi : U32 i) (n : Int) (k : Nat) (hn : n = (k : Int)) : Con Tryz.prog 152 [vP, .p (.int .u32 i), .p (.int .i64 n)] (vH s) (.sl (.l 0) 64 0 64) (vH s) [bA (s.block i k)] := by
 subst hn
 have c1 := kblock_spec i (k : Int) hi []
 have c2 := vlook_spec s (blockK i k)
 rw [getT_tup] at c2
 unfold VS.block
 have hl := h.len0 (blockK i k)
 generalize s.shown.get (blockK i k) = g at c2 hl
 generalize g.getD [] = v at c2 hl
 generalize g.isSome = b at c2
 have e : (List.replicate 64 (zrow ⟨.int .u8, 1, 1, [.int .u8 0]⟩)).take 0 ++ (bv v).take (min v.length 64) ++ (List.replicate 64 (zrow ⟨.int .u8, 1, 1, [.int .u8 0]⟩)).drop (0 + ((bv v).take (min v.length 64)).length) = bv (padB v) := by
  rw [padB_min, bv_append, bv_replicate, List.take_zero, List.nil_append, Nat.zero_add, bv_take, bv_length, List.drop_replicate, List.length_take, show min (min v.length 64) v.length = min v.length 64 by omega]
  rfl
 unfold bA
 rw [← e]
 refine con_of Tryz.func152 rfl (by kernel_rfl) rfl fun F w0 β0 => ?_
 refine K_tell rfl ?_
 refine go ?_
 refine K_op rfl rfl (opr_callP rfl rfl (c1) rfl rfl rfl rfl) rfl ?_
 refine go ?_
 refine K_op rfl rfl (opr_callS [.o 0, .o 1] rfl rfl (c2) rfl rfl rfl ⟨⟨rfl, rfl⟩, ⟨rfl, rfl⟩, trivial⟩ rfl rfl rfl rfl) rfl ?_
 refine go ?_
 refine K_op rfl rfl (opr_make (n := 64) hT rfl rfl rfl rfl rfl rfl rfl rfl rfl (by decide)) rfl ?_
 refine go ?_
 refine K_op rfl rfl (opr_copyM (rows := bv v) hT rfl rfl rfl rfl (by simp) rfl (.str v) hbs_str (bv_cl v) (bv_size v) (by decide) (by simp) (min v.length 64) (by rw [bv_length])) rfl ?_
 refine go ?_
 exact J_give hT rfl rfl
structure TrI (b : List UInt8) where
 k : Nat
 h : k ≤ b.length
 e : trim0 (b.take k) = trim0 b
theorem trim0_last {b : List UInt8} {x : UInt8} {k : Nat} (hx : b[k]? = some x) : trim0 (b.take (k + 1)) = if x = 0 then trim0 (b.take k) else b.take (k + 1) := by
 have hl := (List.getElem?_eq_some_iff.1 hx).1
 have e : b.take (k + 1) = b.take k ++ [x] := by rw [List.take_add_one, hx]; rfl
 by_cases h : x = 0
 ·subst h
  rw [if_pos rfl, e, trim0_snoc]
 ·rw [if_neg h, e]
  unfold trim0
  rw [List.reverse_append, List.reverse_singleton, List.singleton_append, List.dropWhile_cons_of_neg (by simpa using h), ← List.reverse_singleton, ← List.singleton_append, List.reverse_append]
  simp
theorem rd_part {H L : List AObj} {hd : Hd} {b : List UInt8} {k : Nat} (hg : (⟨H, L, noF⟩ : Hp).get hd = some (bA b)) : Rd H L (.sl hd b.length 0 k) (bv (b.take k)) := by
 have := Rd.sl (H := H) (L := L) (h := hd) (n := b.length) (st := 0) (len := k) hg (by simp)
 rwa [List.drop_zero, bv_take] at this
set_option maxHeartbeats 8000000 in
theorem trimByte_spec (b : List UInt8) (hb : b.length ≤ 100000) : Con Tryz.prog 180 [.sl (.o 0) b.length 0 b.length, .p (.int .u8 0)] [bA b] (.sl (.o 0) b.length 0 (trim0 b).length) [bA b] [] := by
 have hrd : ∀ L k, Rd [bA b] L (.sl (.o 0) b.length 0 k) (bv (b.take k)) := fun L k => rd_part rfl
 have hE : ∀ k, ∀ r ∈ bv (b.take k), (cellsOf r).length = 1 := fun k => bv_size _
 refine con_of Tryz.func180 rfl (by kernel_rfl) rfl fun F w0 β0 => ?_
 refine K_tell rfl ?_
 refine go ?_
 refine J_loop (fun q : TrI b => [(0, .sl (.o 0) b.length 0 q.k), (1, .p (.int .u8 0))]) (fun _ => [bA b]) (fun _ => []) (fun q => q.k) ⟨b.length, Nat.le_refl _, by rw [List.take_length]⟩ ⟨rfl, rfl, trivial⟩ rfl rfl (fun q => ?_)
 have hk := q.h
 have he := q.e
 generalize hqk : q.k = k at hk he
 have hlk : (bv (b.take k)).length = k := by simp; omega
 refine gx ?_
 refine K_op rfl rfl (opr_len_rd hT rfl rfl (hrd _ k)) rfl ?_
 rw [hlk]
 cases k with
 | zero =>
  have h0 : (trim0 b).length = 0 := by rw [← he]; rfl
  rw [h0]
  refine gx ?_
  refine go ?_
  exact J_done hT rfl rfl rfl
 | succ j =>
  have hx : b[j]? = some b[j] := List.getElem?_eq_getElem (by omega)
  generalize b[j] = x at hx
  have hl := trim0_last hx
  rw [he] at hl
  have hxk : (bv (b.take (j + 1)))[((j : Nat) : Int).toNat]? = some (.int .u8 x.toNat) := by rw [Int.toNat_natCast]; unfold bv; rw [List.getElem?_map, List.getElem?_take, if_pos (by omega), hx]; rfl
  refine gx ?_
  refine J_val 8 (.p (.bool true)) rfl (congrArg (fun z => TV.p (.bool z)) (decide_eq_true (by omega))) ?_
  refine gx ?_
  refine K_yes rfl rfl rfl (opr_len_rd hT rfl rfl (hrd _ (j + 1))) rfl ?_
  rw [hlk]
  refine gx ?_
  have e12 : IntKind.i64.wrap (((j + 1 : Nat) : Int) - 1) = (j : Int) := by rw [IntWalk.i64_in _ (by omega)]; omega
  refine J_val 12 (.p (.int .i64 (j : Int))) rfl (congrArg (fun z => TV.p (.int .i64 z)) e12) ?_
  refine K_yes rfl rfl rfl (opr_index hT rfl rfl rfl rfl rfl (hrd _ (j + 1)) (by omega) (by rw [hlk]; omega)) rfl ?_
  refine gx ?_
  refine K_yes rfl rfl rfl (opr_load_el hT rfl rfl (hrd _ (j + 1)) hxk rfl rfl) rfl ?_
  refine gx ?_
  by_cases h0 : x = 0
  ·subst h0
   rw [if_pos rfl] at hl
   refine K_condT rfl rfl ?_
   refine go ?_
   refine K_op rfl rfl (opr_len_rd hT rfl rfl (hrd _ (j + 1))) rfl ?_
   rw [hlk]
   refine go ?_
   refine J_val 21 (.p (.int .i64 (j : Int))) rfl (congrArg (fun z => TV.p (.int .i64 z)) e12) ?_
   refine K_op rfl rfl (opr_cut hT rfl rfl rfl rfl (hrd _ (j + 1)) rfl rfl (by omega) (by omega) (by rw [hlk]; omega) (hE _)) rfl ?_
   refine go ?_
   rw [← hqk]
   refine J_again (i := q) (m := fun q : TrI b => q.k) ⟨j, by omega, hl.symm⟩ (by show j < q.k; omega) ⟨rfl, rfl, trivial⟩ rfl rfl
  ·rw [if_neg h0] at hl
   have hn : (trim0 b).length = j + 1 := by rw [hl]; simp; omega
   rw [hn]
   refine K_condF rfl (by simpa using fun e : x.toNat = 0 => h0 (UInt8.toNat_inj.1 e)) ?_
   refine go ?_
   exact J_done hT rfl rfl rfl
theorem trimR_spec (b : List UInt8) (hb : b.length ≤ 100000) (hne : b ≠ []) : Con Tryz.prog 171 [.sl (.o 0) b.length 0 b.length, .p (.str [0])] [bA b] (.sl (.o 0) b.length 0 (trim0 b).length) [bA b] [] := by
 have c1 := trimByte_spec b hb
 have hrd : ∀ L, Rd [bA b] L (.sl (.o 0) b.length 0 b.length) (bv b) := fun L => Rd.full rfl (by simp)
 have hl : b.length ≠ 0 := fun e => hne (List.eq_nil_of_length_eq_zero e)
 refine con_of Tryz.func171 rfl (by kernel_rfl) rfl fun F w0 β0 => ?_
 refine K_tell rfl ?_
 refine gx ?_
 refine K_op rfl rfl (opr_len_rd hT rfl rfl (hrd _)) rfl ?_
 rw [bv_length]
 refine gx ?_
 refine J_val 10 (.p (.bool false)) rfl (congrArg (fun z => TV.p (.bool z)) (by simpa using hl)) ?_
 refine go ?_
 refine K_yes rfl rfl rfl (opr_byte hT rfl rfl rfl rfl (by decide) rfl) rfl ?_
 refine go ?_
 refine K_op rfl rfl (opr_byte hT rfl rfl rfl rfl (by decide) rfl) rfl ?_
 refine go ?_
 refine K_op rfl rfl (opr_callS [.o 0] rfl rfl (c1) rfl rfl rfl ⟨⟨rfl, rfl⟩, trivial⟩ rfl rfl rfl rfl) rfl ?_
 refine go ?_
 exact J_done hT rfl rfl rfl
theorem fput_spec {s : VS} {m : Nat} (h : VJ s m) (hm : m ≤ 1000000) (i : Int) (hi : U32 i) (n : Int) (k : Nat) (hn : n = (k : Int)) (b : List UInt8) (hb : b.length = 64) :
  Con Tryz.prog 153 [vP, .p (.int .u32 i), .p (.int .i64 n), .sl (.o 2) 64 0 64] [vB (.o 1) s.base s.shown s.writes s.reads s.ranges.length, vR s.ranges, bA b] (.p (.bool (s.putB i k b).1)) [vB (.o 1) (s.putB i k b).2.base (s.putB i k b).2.shown (s.putB i k b).2.writes (s.putB i k b).2.reads (s.putB i k b).2.ranges.length, vR (s.putB i k b).2.ranges, bA b] [] := by
 subst hn
 have c1 := kblock_spec i (k : Int) hi []
 have c2 := trimR_spec b (by omega) (by rintro rfl; simp at hb)
 rw [hb] at c2
 have hrd : ∀ H0 H1 L, Rd [H0, H1, bA b] L (.sl (.o 2) 64 0 (trim0 b).length) (bv (trim0 b)) := fun H0 H1 L => by
  have := rd_part (H := [H0, H1, bA b]) (L := L) (hd := .o 2) (b := b) (k := (trim0 b).length) rfl
  rw [hb] at this
  have e : b.take (trim0 b).length = trim0 b := by
   obtain ⟨z, hz⟩ := trim0_eq b
   refine (congrArg (List.take (trim0 b).length) hz).trans ?_
   rw [List.take_append_of_le_length (Nat.le_refl _), List.take_length]
  rwa [e] at this
 unfold VS.putB
 have ht := trim0_len b
 have c3 := vset_spec s (blockK i k) (trim0 b) (by have := h.zw; unfold big40; omega) (by have := h.zs; unfold big40; omega) (by omega)
 change Con Tryz.prog _ _ _ _ (vH (s.put (blockK i k) (trim0 b))) _ at c3
 have c4 := vlook_spec s (blockK i k)
 rw [getT_tup] at c4
 have c5 := vcut_spec s (blockK i k) (by have := h.zw; unfold big40; omega) (by have := h.zs; unfold big40; omega)
 change Con Tryz.prog _ _ _ _ (vH (s.del (blockK i k))) _ at c5
 generalize s.put (blockK i k) (trim0 b) = s3 at c3
 generalize s.del (blockK i k) = s4 at c5
 generalize s.room (blockK i k) = r at c3 c5
 generalize s.shown.get (blockK i k) = g at c4
 by_cases ht : trim0 b ≠ []
 ·rw [if_pos ht]
  refine con_of Tryz.func153 rfl (by kernel_rfl) rfl fun F w0 β0 => ?_
  refine K_tell rfl ?_
  refine go ?_
  refine K_op rfl rfl (opr_callP rfl rfl (c1) rfl rfl rfl rfl) rfl ?_
  refine go ?_
  refine K_op rfl rfl (opr_callS [.o 2] rfl rfl (c2) rfl rfl rfl ⟨⟨rfl, rfl⟩, trivial⟩ rfl rfl rfl rfl) rfl ?_
  refine go ?_
  refine K_op rfl rfl (opr_to_str hT rfl rfl rfl rfl rfl (hrd _ _ _)) rfl ?_
  refine go ?_
  refine K_condT rfl (by simpa using ht) ?_
  refine go ?_
  refine K_op rfl rfl (opr_callS [.o 0, .o 1] rfl rfl (c3) rfl rfl rfl ⟨⟨rfl, rfl⟩, ⟨rfl, rfl⟩, trivial⟩ rfl rfl rfl rfl) rfl ?_
  refine go ?_
  exact J_done hT rfl rfl rfl
 ·rw [if_neg ht]
  have ht : trim0 b = [] := by simpa using ht
  cases g with
  | none =>
   rw [if_pos rfl]
   refine con_of Tryz.func153 rfl (by kernel_rfl) rfl fun F w0 β0 => ?_
   refine K_tell rfl ?_
   refine go ?_
   refine K_op rfl rfl (opr_callP rfl rfl (c1) rfl rfl rfl rfl) rfl ?_
   refine go ?_
   refine K_op rfl rfl (opr_callS [.o 2] rfl rfl (c2) rfl rfl rfl ⟨⟨rfl, rfl⟩, trivial⟩ rfl rfl rfl rfl) rfl ?_
   refine go ?_
   refine K_op rfl rfl (opr_to_str hT rfl rfl rfl rfl rfl (hrd _ _ _)) rfl ?_
   refine go ?_
   refine K_condF rfl (by rw [ht]; rfl) ?_
   refine go ?_
   refine K_op rfl rfl (opr_callS [.o 0, .o 1] rfl rfl (c4) rfl rfl rfl ⟨⟨rfl, rfl⟩, ⟨rfl, rfl⟩, trivial⟩ rfl rfl rfl rfl) rfl ?_
   refine go ?_
   exact J_done hT rfl rfl rfl
  | some v =>
   rw [if_neg (by simp)]
   refine con_of Tryz.func153 rfl (by kernel_rfl) rfl fun F w0 β0 => ?_
   refine K_tell rfl ?_
   refine go ?_
   refine K_op rfl rfl (opr_callP rfl rfl (c1) rfl rfl rfl rfl) rfl ?_
   refine go ?_
   refine K_op rfl rfl (opr_callS [.o 2] rfl rfl (c2) rfl rfl rfl ⟨⟨rfl, rfl⟩, trivial⟩ rfl rfl rfl rfl) rfl ?_
   refine go ?_
   refine K_op rfl rfl (opr_to_str hT rfl rfl rfl rfl rfl (hrd _ _ _)) rfl ?_
   refine go ?_
   refine K_condF rfl (by rw [ht]; rfl) ?_
   refine go ?_
   refine K_op rfl rfl (opr_callS [.o 0, .o 1] rfl rfl (c4) rfl rfl rfl ⟨⟨rfl, rfl⟩, ⟨rfl, rfl⟩, trivial⟩ rfl rfl rfl rfl) rfl ?_
   refine go ?_
   refine K_op rfl rfl (opr_callS [.o 0, .o 1] rfl rfl (c5) rfl rfl rfl ⟨⟨rfl, rfl⟩, ⟨rfl, rfl⟩, trivial⟩ rfl rfl rfl rfl) rfl ?_
   refine go ?_
   exact J_done hT rfl rfl rfl
abbrev Pc := Nat × Nat × Nat
def pcA (x : Pc) : AV := .agg [.int .i64 (x.1 : Int), .int .i64 (x.2.1 : Int), .int .i64 (x.2.2 : Int)]
abbrev pcB (x : Pc) : AObj := .box 180 [.p (.int .i64 (x.1 : Int)), .p (.int .i64 (x.2.1 : Int)), .p (.int .i64 (x.2.2 : Int))]
theorem pieces_pcs : ∀ (f o n : Nat), pieces f (o : Int) (n : Int) = (pcsN f o n).map pcA
 | 0, _, _ => rfl
 | f + 1, o, n => by
  unfold pieces pcsN
  by_cases h : n = 0
  ·rw [if_pos h, if_pos (by omega)]; rfl
  ·rw [if_neg h, if_neg (by omega), List.map_cons, ← pieces_pcs f]
   have e : min (n : Int) (64 - (o : Int) % 64) = ((min n (64 - o % 64) : Nat) : Int) := by omega
   rw [e]
   congr 1
   ·unfold cutRow pcA
    rw [e]; rfl
   ·congr 1; omega
theorem pcs_mem : ∀ {g o n : Nat} {x : Pc}, x ∈ pcsN g o n → x.2.1 + x.2.2 ≤ 64 ∧ 1 ≤ x.2.2 ∧ 64 * x.1 < o + n
 | 0, _, _, _, h => by cases h
 | g + 1, o, n, x, h => by
  unfold pcsN at h
  split at h
  ·cases h
  ·rcases List.mem_cons.1 h with rfl | h
   ·dsimp only; omega
   ·have := pcs_mem h; omega
def pcN (o n : Int) : List Pc := if cutBad o n then [] else pcsN n.toNat o.toNat n.toNat
theorem pcN_sl (o n : Int) : Sl pcA (cutV o n) (pcN o n) := by
 unfold cutV pcN
 by_cases h : cutBad o n
 ·rw [if_pos h, if_pos h]; exact .nils
 ·rw [if_neg h, if_neg h]
  have h2 := h
  unfold cutBad at h2
  have e := pieces_pcs n.toNat o.toNat n.toNat
  rw [Int.toNat_of_nonneg (by omega), Int.toNat_of_nonneg (by omega)] at e
  rw [e]
  exact .ps _
theorem pcN_mem {o n : Int} {x : Pc} (h : x ∈ pcN o n) : x.2.1 + x.2.2 ≤ 64 ∧ 1 ≤ x.2.2 ∧ x.1 ≤ 64 := by
 unfold pcN at h
 split at h
 ·cases h
 ·rename_i hb
  unfold cutBad at hb
  have := pcs_mem h
  omega
theorem pcN_len (o n : Int) : (pcN o n).length ≤ 70 := by
 unfold pcN
 split
 ·exact Nat.zero_le _
 ·rename_i hb
  unfold cutBad at hb
  have := pcs_len n.toNat o.toNat n.toNat
  split at this <;> omega
theorem bytesF_cut (s : VS) (i o n : Int) : s.bytesF i o n = (pcN o n).flatMap fun x => ((s.block i x.1).drop x.2.1).take x.2.2 := by
 unfold VS.bytesF pcN
 split <;> rfl
theorem flat_len {f : Pc → List UInt8} (h : ∀ x, (f x).length ≤ 64) : ∀ l : List Pc, (l.flatMap f).length ≤ 64 * l.length
 | [] => Nat.le_refl _
 | x :: r => by
  rw [List.flatMap_cons, List.length_append, List.length_cons]
  have := h x
  have := flat_len h r
  omega
set_option maxHeartbeats 8000000 in
theorem bytesOf_spec {s : VS} {m : Nat} (h : VJ s m) (i : Int) (hi : U32 i) (o n : Int) (ho : -9223372036854775808 ≤ o ∧ o ≤ 9223372036854775807) (hn : -9223372036854775808 ≤ n ∧ n ≤ 9223372036854775807) :
  Con Tryz.prog 151 [vP, .p (.int .u32 i), .p (.int .i64 o), .p (.int .i64 n)] (vH s) (.p (.ps (bv (s.bytesF i o n)))) (vH s) [] := by
 rw [bytesF_cut]
 refine Con.freeze (n := ((pcN o n).flatMap fun x => ((s.block i x.1).drop x.2.1).take x.2.2).length) (Ty := 5) (b := true) (e := 1) ?_ (by simp)
 have c1 := cut_spec o n ho hn []
 have hsl := pcN_sl o n
 have hmem : ∀ x ∈ pcN o n, x.2.1 + x.2.2 ≤ 64 ∧ 1 ≤ x.2.2 ∧ x.1 ≤ 64 := fun x hx => pcN_mem hx
 have hll := pcN_len o n
 generalize pcN o n = l at hsl hmem hll
 generalize cutV o n = c at c1 hsl
 have hrd := hsl.rd
 have hlen : (l.map pcA).length = l.length := by simp
 have hfl : ∀ l : List Pc, (l.flatMap fun x => ((s.block i x.1).drop x.2.1).take x.2.2).length ≤ 64 * l.length := flat_len fun x => by
  have := block_len s i x.1
  simp; omega
 refine con_of Tryz.func151 rfl (by kernel_rfl) rfl fun F w0 β0 => ?_
 refine K_tell rfl ?_
 refine go ?_
 refine J_lazyE 9 5 (e := 1) rfl rfl (.inl rfl) ?_
 refine K_op rfl rfl (opr_callP rfl rfl (c1) rfl rfl rfl rfl) rfl ?_
 refine K_op rfl rfl (opr_len_rd hT rfl rfl (hrd _ _)) rfl ?_
 rw [hlen]
 refine go ?_
 refine J_loop (fun q : Ix l.length => [(0, vP), (1, .p (.int .u32 i)), (9, .sl (.l 0) ((l.take q.i).flatMap fun x => ((s.block i x.1).drop x.2.1).take x.2.2).length 0 ((l.take q.i).flatMap fun x => ((s.block i x.1).drop x.2.1).take x.2.2).length), (14, .p c), (15, .p (.int .i64 (l.length : Int))), (16, .p (.int .i64 (q.i : Int)))]) (fun _ => vH s) (fun q => [bA ((l.take q.i).flatMap fun x => ((s.block i x.1).drop x.2.1).take x.2.2)]) (fun q => l.length - q.i) ⟨0, by omega⟩ ⟨rfl, rfl, rfl, rfl, rfl, rfl, trivial⟩ rfl rfl (fun q => ?_)
 have hi' := q.h
 refine go ?_
 by_cases hlt : q.i < l.length
 ·have hx : l[q.i]? = some l[q.i] := List.getElem?_eq_getElem hlt
  have hxm := hmem _ (List.getElem_mem hlt)
  generalize l[q.i] = x at hx hxm
  have hxk := map_get pcA hx
  have hnx : (l.take (q.i + 1)).flatMap (fun x => ((s.block i x.1).drop x.2.1).take x.2.2) = (l.take q.i).flatMap (fun x => ((s.block i x.1).drop x.2.1).take x.2.2) ++ ((s.block i x.1).drop x.2.1).take x.2.2 := by
   rw [List.take_add_one, hx, List.flatMap_append]; simp
  have hac := hfl (l.take q.i)
  rw [List.length_take] at hac
  generalize (l.take q.i).flatMap (fun x => ((s.block i x.1).drop x.2.1).take x.2.2) = acc at hnx hac
  have hbl := block_len s i x.1
  have c2 := (block_spec h i hi (x.1 : Int) x.1 rfl).freeze (by rw [bv_length]; exact hbl)
  have e13 : cutA ((x.2.1 : Int)).toNat (IntKind.i64.wrap ((x.2.1 : Int) + (x.2.2 : Int))).toNat (.p (.ps (bv (s.block i x.1)))) = .p (.ps (bv (((s.block i x.1).drop x.2.1).take x.2.2))) := by
   rw [IntWalk.i64_in _ (by omega)]
   show TV.p (.ps (((bv _).drop _).take _)) = _
   rw [bv_drop, bv_take, show ((x.2.1 : Int) + (x.2.2 : Int)).toNat - ((x.2.1 : Int)).toNat = x.2.2 by omega]; rfl
  refine K_condT rfl (decide_eq_true (by omega)) ?_
  refine go ?_
  refine K_op rfl rfl (opr_index hT rfl rfl rfl rfl rfl (hrd _ _) (by omega) (by rw [hlen]; omega)) rfl ?_
  refine go ?_
  refine K_op rfl rfl (opr_load_el hT rfl rfl (hrd _ _) hxk rfl rfl) rfl ?_
  refine go ?_
  refine J_draw [[bA acc, pcB x], [.arr 5 true 1 (bv acc ++ bv (((s.block i x.1).drop x.2.1).take x.2.2)), pcB x]] [14] (by kernel_rfl) (by kernel_rfl) rfl ?_
  refine gdW ?_
  refine T_op2D rfl rfl rfl rfl rfl rfl (opr_idxArr hT rfl rfl rfl rfl rfl) (opr_idxArr hT rfl rfl rfl rfl rfl) rfl ?_
  refine gdW ?_
  refine T_opD rfl rfl rfl rfl rfl (opr_callS [.o 0, .o 1] rfl rfl c2 rfl rfl rfl ⟨⟨rfl, rfl⟩, ⟨rfl, rfl⟩, trivial⟩ rfl rfl rfl rfl) rfl ?_
  refine gdW ?_
  refine T_op2D rfl rfl rfl rfl rfl rfl (opr_idxArr hT rfl rfl rfl rfl rfl) (opr_idxArr hT rfl rfl rfl rfl rfl) rfl ?_
  refine gdW ?_
  refine T_op2D rfl rfl rfl rfl rfl rfl (opr_idxArr hT rfl rfl rfl rfl rfl) (opr_idxArr hT rfl rfl rfl rfl rfl) rfl ?_
  refine gdW ?_
  refine T_op2D rfl rfl rfl rfl rfl rfl (opr_idxArr hT rfl rfl rfl rfl rfl) (opr_idxArr hT rfl rfl rfl rfl rfl) rfl ?_
  refine gdW ?_
  refine T_opD rfl rfl rfl rfl rfl (opr_at (opr_cut hT rfl rfl rfl rfl (.ps _) rfl rfl (by omega) (by rw [IntWalk.i64_in _ (by omega)]; omega) (by rw [IntWalk.i64_in _ (by omega), bv_length, hbl]; omega) (bv_size _)) e13) rfl ?_
  refine gdW ?_
  refine T_stD rfl rfl rfl rfl (opr_app_own (i := 0) (n := acc.length) (rows0 := bv acc) (rows := bv (((s.block i x.1).drop x.2.1).take x.2.2)) (Ty := 5) (te := ⟨.int .u8, 1, 1, [.int .u8 0]⟩) hT rfl rfl rfl rfl (bv_length acc) rfl rfl (.rd (.ps _)) hbs_ps (bv_cl _) (bv_size _) (by decide) (by show (acc.length + (bv _).length) * 1 ≤ _; rw [bv_length]; simp; omega)) rfl ?_
  refine gdW ?_
  refine go ?_
  have e9 : TV.sl (.l 0) (acc.length + (bv (((s.block i x.1).drop x.2.1).take x.2.2)).length) 0 (acc.length + (bv (((s.block i x.1).drop x.2.1).take x.2.2)).length) = .sl (.l 0) (acc ++ ((s.block i x.1).drop x.2.1).take x.2.2).length 0 (acc ++ ((s.block i x.1).drop x.2.1).take x.2.2).length := by rw [bv_length, ← List.length_append]
  refine J_val 9 _ rfl e9 ?_
  refine J_take 1 [(0, vP), (1, .p (.int .u32 i)), (9, .sl (.l 0) (acc ++ ((s.block i x.1).drop x.2.1).take x.2.2).length 0 (acc ++ ((s.block i x.1).drop x.2.1).take x.2.2).length), (14, .p c), (15, .p (.int .i64 (l.length : Int))), (16, .p (.int .i64 (IntKind.i64.wrap ((q.i : Int) + 1))))] ⟨rfl, rfl, rfl, rfl, rfl, rfl, trivial⟩ rfl rfl ?_
  refine J_again ⟨q.i + 1, by omega⟩ (by show l.length - (q.i + 1) < l.length - q.i; omega) ⟨rfl, rfl, (by show TV.sl _ _ _ _ = TV.sl _ _ _ _; rw [← hnx]), rfl, rfl, congrArg (fun z => TV.p (.int .i64 z)) (by rw [IntWalk.i64_in _ (by omega)]; rfl), trivial⟩ rfl (by show [AObj.arr _ _ _ _] = [AObj.arr _ _ _ _]; rw [hnx, bv_append])
 ·have e : q.i = l.length := by omega
  rw [e, List.take_length]
  refine K_condF rfl (decide_eq_false (by omega)) ?_
  refine go ?_
  exact J_give hT rfl rfl
theorem fload_bd {s : VS} {i : Int} {x : Nd} (h : s.fload i = some x) : Nd.ok x ∧ x.1 = 1 := by
 unfold VS.fload at h
 split at h
 ·rename_i y hy
  split at h
  ·rename_i hk
   obtain rfl := Option.some.inj h
   exact ⟨ndOf_ok hy, hk⟩
  ·cases h
 ·cases h
theorem mm_min2 (a b : Int) : mmA .min a b = min a b := by unfold mmA; simp only []; split <;> omega
theorem mm_max2 (a b : Int) : mmA .max a b = max a b := by unfold mmA; simp only []; split <;> omega
def bytA (r : List UInt8 × Int) : AV := if r.2 = 0 then .ps (bv r.1) else .nils
set_option maxHeartbeats 8000000 in
theorem fread_spec {s : VS} {m : Nat} (h : VJ s m) (hm : m ≤ 100000) (i : Int) (hi : U32 i) (o n : Int) (ho : -9223372036854775808 ≤ o ∧ o ≤ 9223372036854775807) (hn : -9223372036854775808 ≤ n ∧ n ≤ 9223372036854775807) :
  Con Tryz.prog 118 [vP, .p (.int .u32 i), .p (.int .i64 o), .p (.int .i64 n)] (vH s) (.tup [.p (bytA (s.fread i o n).1), .p (.int .i64 (s.fread i o n).1.2)]) (vH (s.fread i o n).2) [] := by
 have c1 := fload_spec h (by omega) i hi
 have hv := h.rd (keyH 73 i)
 have hbd := @fload_bd s i
 unfold VS.fread
 generalize s.rd (keyH 73 i) = s1 at c1 hv
 generalize s.fload i = g at c1 hbd
 cases g with
 | none =>
  refine con_of Tryz.func118 rfl (by kernel_rfl) rfl fun F w0 β0 => ?_
  refine K_tell rfl ?_
  refine go ?_
  refine K_op rfl rfl (opr_callS [.o 0, .o 1] rfl rfl (c1) rfl rfl rfl ⟨⟨rfl, rfl⟩, ⟨rfl, rfl⟩, trivial⟩ rfl rfl rfl rfl) rfl ?_
  refine go ?_
  exact J_done hT rfl rfl rfl
 | some x =>
  obtain ⟨⟨_, _, hx3, _⟩, _⟩ := hbd rfl
  dsimp only
  by_cases hbad : o < 0 ∨ n < 0 ∨ n > 1024
  ·rw [if_pos hbad]
   refine con_of Tryz.func118 rfl (by kernel_rfl) rfl fun F w0 β0 => ?_
   refine K_tell rfl ?_
   refine go ?_
   refine K_op rfl rfl (opr_callS [.o 0, .o 1] rfl rfl (c1) rfl rfl rfl ⟨⟨rfl, rfl⟩, ⟨rfl, rfl⟩, trivial⟩ rfl rfl rfl rfl) rfl ?_
   refine go ?_
   refine K_condT rfl (by rcases hbad with q | q | q <;> simp [q]) ?_
   refine go ?_
   exact J_done hT rfl rfl rfl
  ·rw [if_neg hbad]
   have c2 := bytesOf_spec hv i hi o (min n (max (x.2.2.1 - o) 0)) ho (by omega)
   generalize s1.bytesF i o (min n (max (x.2.2.1 - o) 0)) = r at c2
   refine con_of Tryz.func118 rfl (by kernel_rfl) rfl fun F w0 β0 => ?_
   refine K_tell rfl ?_
   refine go ?_
   refine K_op rfl rfl (opr_callS [.o 0, .o 1] rfl rfl (c1) rfl rfl rfl ⟨⟨rfl, rfl⟩, ⟨rfl, rfl⟩, trivial⟩ rfl rfl rfl rfl) rfl ?_
   refine go ?_
   refine K_condF rfl (by simp; omega) ?_
   refine go ?_
   have e45 : mmA .min n (mmA .max (IntKind.i64.wrap (IntKind.i64.wrap x.2.2.1 - o)) 0) = min n (max (x.2.2.1 - o) 0) := by
    rw [mm_min2, mm_max2, IntWalk.i64_in x.2.2.1 (by omega), IntWalk.i64_in _ (by omega)]
   refine J_val 45 (.p (.int .i64 (min n (max (x.2.2.1 - o) 0)))) rfl (congrArg (fun z => TV.p (.int .i64 z)) e45) ?_
   refine K_op rfl rfl (opr_callS [.o 0, .o 1] rfl rfl (c2) rfl rfl rfl ⟨⟨rfl, rfl⟩, ⟨rfl, rfl⟩, trivial⟩ rfl rfl rfl rfl) rfl ?_
   refine go ?_
   exact J_done hT rfl rfl rfl
end Go.Proofs.YtdkegmmigongoaaGreatDoor

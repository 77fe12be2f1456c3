import Derived.Test.YtdkegmmigongoaaGreatDoorGo
import Derived.Test.YtdkegmmigongoaaGreatDoorM23
import Derived.Test.YtdkegmmigongoaaGreatDoorM15
import Derived.Test.YtdkegmmigongoaaGreatDoorM7
namespace Go.Proofs.YtdkegmmigongoaaGreatDoor
set_option maxRecDepth 20000
open Go.Awp Tr
abbrev Pc := Nat × Nat × Nat
def pcA (x : Pc) : AV := .agg [.int .i64 (x.1 : Int), .int .i64 (x.2.1 : Int), .int .i64 (x.2.2 : Int)]
abbrev pcB (x : Pc) : AObj := .box 180 [.p (.int .i64 (x.1 : Int)), .p (.int .i64 (x.2.1 : Int)), .p (.int .i64 (x.2.2 : Int))]
theorem pieces_pcs : ∀ (f o n : Nat), pieces f (o : Int) (n : Int) = (pcsN f o n).map pcA
 | 0, _, _ => rfl
 | f + 1, o, n => by
  unfold pieces pcsN
  by_cases h : n = 0
  ·rw [if_pos h, if_pos (by omega)]; rfl
  ·rw [if_neg h, if_neg (by omega), List.map_cons, ← pieces_pcs f]
   have e : min (n : Int) (64 - (o : Int) % 64) = ((min n (64 - o % 64) : Nat) : Int) := by omega
   rw [e]
   congr 1
   ·unfold cutRow pcA
    rw [e]; rfl
   ·congr 1; omega
theorem pcs_mem : ∀ {g o n : Nat} {x : Pc}, x ∈ pcsN g o n → x.2.1 + x.2.2 ≤ 64 ∧ 1 ≤ x.2.2 ∧ 64 * x.1 < o + n
 | 0, _, _, _, h => by cases h
 | g + 1, o, n, x, h => by
  unfold pcsN at h
  split at h
  ·cases h
  ·rcases List.mem_cons.1 h with rfl | h
   ·dsimp only; omega
   ·have := pcs_mem h; omega
def pcN (o n : Int) : List Pc := if cutBad o n then [] else pcsN n.toNat o.toNat n.toNat
theorem pcN_sl (o n : Int) : Sl pcA (cutV o n) (pcN o n) := by
 unfold cutV pcN
 by_cases h : cutBad o n
 ·rw [if_pos h, if_pos h]; exact .nils
 ·rw [if_neg h, if_neg h]
  have h2 := h
  unfold cutBad at h2
  have e := pieces_pcs n.toNat o.toNat n.toNat
  rw [Int.toNat_of_nonneg (by omega), Int.toNat_of_nonneg (by omega)] at e
  rw [e]
  exact .ps _
theorem pcN_mem {o n : Int} {x : Pc} (h : x ∈ pcN o n) : x.2.1 + x.2.2 ≤ 64 ∧ 1 ≤ x.2.2 ∧ x.1 ≤ 64 := by
 unfold pcN at h
 split at h
 ·cases h
 ·rename_i hb
  unfold cutBad at hb
  have := pcs_mem h
  omega
theorem pcN_len (o n : Int) : (pcN o n).length ≤ 70 := by
 unfold pcN
 split
 ·exact Nat.zero_le _
 ·rename_i hb
  unfold cutBad at hb
  have := pcs_len n.toNat o.toNat n.toNat
  split at this <;> omega
theorem bytesF_cut (s : VS) (i o n : Int) : s.bytesF i o n = (pcN o n).flatMap fun x => ((s.block i x.1).drop x.2.1).take x.2.2 := by
 unfold VS.bytesF pcN
 split <;> rfl
theorem flat_len {f : Pc → List UInt8} (h : ∀ x, (f x).length ≤ 64) : ∀ l : List Pc, (l.flatMap f).length ≤ 64 * l.length
 | [] => Nat.le_refl _
 | x :: r => by
  rw [List.flatMap_cons, List.length_append, List.length_cons]
  have := h x
  have := flat_len h r
  omega
set_option maxHeartbeats 8000000 in
theorem bytesOf_spec {s : VS} {m : Nat} (h : VJ s m) (i : Int) (hi : U32 i) (o n : Int) (ho : -9223372036854775808 ≤ o ∧ o ≤ 9223372036854775807) (hn : -9223372036854775808 ≤ n ∧ n ≤ 9223372036854775807) :
  Con Tryz.prog 151 [vP, .p (.int .u32 i), .p (.int .i64 o), .p (.int .i64 n)] (vH s) (.p (.ps (bv (s.bytesF i o n)))) (vH s) [] := by
 rw [bytesF_cut]
 refine Con.freeze (n := ((pcN o n).flatMap fun x => ((s.block i x.1).drop x.2.1).take x.2.2).length) (Ty := 5) (b := true) (e := 1) ?_ (by simp)
 have c1 := cut_spec o n ho hn []
 have hsl := pcN_sl o n
 have hmem : ∀ x ∈ pcN o n, x.2.1 + x.2.2 ≤ 64 ∧ 1 ≤ x.2.2 ∧ x.1 ≤ 64 := fun x hx => pcN_mem hx
 have hll := pcN_len o n
 generalize pcN o n = l at hsl hmem hll
 generalize cutV o n = c at c1 hsl
 have hrd := hsl.rd
 have hlen : (l.map pcA).length = l.length := by simp
 have hfl : ∀ l : List Pc, (l.flatMap fun x => ((s.block i x.1).drop x.2.1).take x.2.2).length ≤ 64 * l.length := flat_len fun x => by
  have := block_len s i x.1
  simp; omega
 refine con_of Tryz.func151 rfl (by kernel_rfl) rfl fun F w0 β0 => ?_
 refine K_tell rfl ?_
 refine go ?_
 refine J_lazyE 9 5 (e := 1) rfl rfl (.inl rfl) ?_
 refine K_op rfl rfl (opr_callP rfl rfl (c1) rfl rfl rfl rfl) rfl ?_
 refine K_op rfl rfl (opr_len_rd hT rfl rfl (hrd _ _)) rfl ?_
 rw [hlen]
 refine go ?_
 refine J_loop (fun q : Ix l.length => [(0, vP), (1, .p (.int .u32 i)), (9, .sl (.l 0) ((l.take q.i).flatMap fun x => ((s.block i x.1).drop x.2.1).take x.2.2).length 0 ((l.take q.i).flatMap fun x => ((s.block i x.1).drop x.2.1).take x.2.2).length), (14, .p c), (15, .p (.int .i64 (l.length : Int))), (16, .p (.int .i64 (q.i : Int)))]) (fun _ => vH s) (fun q => [bA ((l.take q.i).flatMap fun x => ((s.block i x.1).drop x.2.1).take x.2.2)]) (fun q => l.length - q.i) ⟨0, by omega⟩ ⟨rfl, rfl, rfl, rfl, rfl, rfl, trivial⟩ rfl rfl (fun q => ?_)
 have hi' := q.h
 refine go ?_
 by_cases hlt : q.i < l.length
 ·have hx : l[q.i]? = some l[q.i] := List.getElem?_eq_getElem hlt
  have hxm := hmem _ (List.getElem_mem hlt)
  generalize l[q.i] = x at hx hxm
  have hxk := map_get pcA hx
  have hnx : (l.take (q.i + 1)).flatMap (fun x => ((s.block i x.1).drop x.2.1).take x.2.2) = (l.take q.i).flatMap (fun x => ((s.block i x.1).drop x.2.1).take x.2.2) ++ ((s.block i x.1).drop x.2.1).take x.2.2 := by
   rw [List.take_add_one, hx, List.flatMap_append]; simp
  have hac := hfl (l.take q.i)
  rw [List.length_take] at hac
  generalize (l.take q.i).flatMap (fun x => ((s.block i x.1).drop x.2.1).take x.2.2) = acc at hnx hac
  have hbl := block_len s i x.1
  have c2 := (block_spec h i hi (x.1 : Int) x.1 rfl).freeze (by rw [bv_length]; exact hbl)
  have e13 : cutA ((x.2.1 : Int)).toNat (IntKind.i64.wrap ((x.2.1 : Int) + (x.2.2 : Int))).toNat (.p (.ps (bv (s.block i x.1)))) = .p (.ps (bv (((s.block i x.1).drop x.2.1).take x.2.2))) := by
   rw [IntWalk.i64_in _ (by omega)]
   show TV.p (.ps (((bv _).drop _).take _)) = _
   rw [bv_drop, bv_take, show ((x.2.1 : Int) + (x.2.2 : Int)).toNat - ((x.2.1 : Int)).toNat = x.2.2 by omega]; rfl
  refine K_condT rfl (decide_eq_true (by omega)) ?_
  refine go ?_
  refine K_op rfl rfl (opr_index hT rfl rfl rfl rfl rfl (hrd _ _) (by omega) (by rw [hlen]; omega)) rfl ?_
  refine go ?_
  refine K_op rfl rfl (opr_load_el hT rfl rfl (hrd _ _) hxk rfl rfl) rfl ?_
  refine go ?_
  refine J_draw [[bA acc, pcB x], [.arr 5 true 1 (bv acc ++ bv (((s.block i x.1).drop x.2.1).take x.2.2)), pcB x]] [14] (by kernel_rfl) (by kernel_rfl) rfl ?_
  refine gdW ?_
  refine T_op2D rfl rfl rfl rfl rfl rfl (opr_idxArr hT rfl rfl rfl rfl rfl) (opr_idxArr hT rfl rfl rfl rfl rfl) rfl ?_
  refine gdW ?_
  refine T_opD rfl rfl rfl rfl rfl (opr_callS [.o 0, .o 1] rfl rfl c2 rfl rfl rfl ⟨⟨rfl, rfl⟩, ⟨rfl, rfl⟩, trivial⟩ rfl rfl rfl rfl) rfl ?_
  refine gdW ?_
  refine T_op2D rfl rfl rfl rfl rfl rfl (opr_idxArr hT rfl rfl rfl rfl rfl) (opr_idxArr hT rfl rfl rfl rfl rfl) rfl ?_
  refine gdW ?_
  refine T_op2D rfl rfl rfl rfl rfl rfl (opr_idxArr hT rfl rfl rfl rfl rfl) (opr_idxArr hT rfl rfl rfl rfl rfl) rfl ?_
  refine gdW ?_
  refine T_op2D rfl rfl rfl rfl rfl rfl (opr_idxArr hT rfl rfl rfl rfl rfl) (opr_idxArr hT rfl rfl rfl rfl rfl) rfl ?_
  refine gdW ?_
  refine T_opD rfl rfl rfl rfl rfl (opr_at (opr_cut hT rfl rfl rfl rfl (.ps _) rfl rfl (by omega) (by rw [IntWalk.i64_in _ (by omega)]; omega) (by rw [IntWalk.i64_in _ (by omega), bv_length, hbl]; omega) (bv_size _)) e13) rfl ?_
  refine gdW ?_
  refine T_stD rfl rfl rfl rfl (opr_app_own (i := 0) (n := acc.length) (rows0 := bv acc) (rows := bv (((s.block i x.1).drop x.2.1).take x.2.2)) (Ty := 5) (te := ⟨.int .u8, 1, 1, [.int .u8 0]⟩) hT rfl rfl rfl rfl (bv_length acc) rfl rfl (.rd (.ps _)) hbs_ps (bv_cl _) (bv_size _) (by decide) (by show (acc.length + (bv _).length) * 1 ≤ _; rw [bv_length]; simp; omega)) rfl ?_
  refine gdW ?_
  refine go ?_
  have e9 : TV.sl (.l 0) (acc.length + (bv (((s.block i x.1).drop x.2.1).take x.2.2)).length) 0 (acc.length + (bv (((s.block i x.1).drop x.2.1).take x.2.2)).length) = .sl (.l 0) (acc ++ ((s.block i x.1).drop x.2.1).take x.2.2).length 0 (acc ++ ((s.block i x.1).drop x.2.1).take x.2.2).length := by rw [bv_length, ← List.length_append]
  refine J_val 9 _ rfl e9 ?_
  refine J_take 1 [(0, vP), (1, .p (.int .u32 i)), (9, .sl (.l 0) (acc ++ ((s.block i x.1).drop x.2.1).take x.2.2).length 0 (acc ++ ((s.block i x.1).drop x.2.1).take x.2.2).length), (14, .p c), (15, .p (.int .i64 (l.length : Int))), (16, .p (.int .i64 (IntKind.i64.wrap ((q.i : Int) + 1))))] ⟨rfl, rfl, rfl, rfl, rfl, rfl, trivial⟩ rfl rfl ?_
  refine J_again ⟨q.i + 1, by omega⟩ (by show l.length - (q.i + 1) < l.length - q.i; omega) ⟨rfl, rfl, (by show TV.sl _ _ _ _ = TV.sl _ _ _ _; rw [← hnx]), rfl, rfl, congrArg (fun z => TV.p (.int .i64 z)) (by rw [IntWalk.i64_in _ (by omega)]; rfl), trivial⟩ rfl (by show [AObj.arr _ _ _ _] = [AObj.arr _ _ _ _]; rw [hnx, bv_append])
 ·have e : q.i = l.length := by omega
  rw [e, List.take_length]
  refine K_condF rfl (decide_eq_false (by omega)) ?_
  refine go ?_
  exact J_give hT rfl rfl
theorem fload_bd {s : VS} {i : Int} {x : Nd} (h : s.fload i = some x) : Nd.ok x ∧ x.1 = 1 := by
 unfold VS.fload at h
 split at h
 ·rename_i y hy
  split at h
  ·rename_i hk
   obtain rfl := Option.some.inj h
   exact ⟨ndOf_ok hy, hk⟩
  ·cases h
 ·cases h
theorem mm_min2 (a b : Int) : mmA .min a b = min a b := by unfold mmA; simp only []; split <;> omega
theorem mm_max2 (a b : Int) : mmA .max a b = max a b := by unfold mmA; simp only []; split <;> omega
def bytA (r : List UInt8 × Int) : AV := if r.2 = 0 then .ps (bv r.1) else .nils
set_option maxHeartbeats 8000000 in
theorem fread_spec {s : VS} {m : Nat} (h : VJ s m) (hm : m ≤ 100000) (i : Int) (hi : U32 i) (o n : Int) (ho : -9223372036854775808 ≤ o ∧ o ≤ 9223372036854775807) (hn : -9223372036854775808 ≤ n ∧ n ≤ 9223372036854775807) :
  Con Tryz.prog 118 [vP, .p (.int .u32 i), .p (.int .i64 o), .p (.int .i64 n)] (vH s) (.tup [.p (bytA (s.fread i o n).1), .p (.int .i64 (s.fread i o n).1.2)]) (vH (s.fread i o n).2) [] := by
 have c1 := fload_spec h (by omega) i hi
 have hv := h.rd (keyH 73 i)
 have hbd := @fload_bd s i
 unfold VS.fread
 generalize s.rd (keyH 73 i) = s1 at c1 hv
 generalize s.fload i = g at c1 hbd
 cases g with
 | none =>
  refine con_of Tryz.func118 rfl (by kernel_rfl) rfl fun F w0 β0 => ?_
  refine K_tell rfl ?_
  refine go ?_
  refine K_op rfl rfl (opr_callS [.o 0, .o 1] rfl rfl (c1) rfl rfl rfl ⟨⟨rfl, rfl⟩, ⟨rfl, rfl⟩, trivial⟩ rfl rfl rfl rfl) rfl ?_
  refine go ?_
  exact J_done hT rfl rfl rfl
 | some x =>
  obtain ⟨⟨_, _, hx3, _⟩, _⟩ := hbd rfl
  dsimp only
  by_cases hbad : o < 0 ∨ n < 0 ∨ n > 1024
  ·rw [if_pos hbad]
   refine con_of Tryz.func118 rfl (by kernel_rfl) rfl fun F w0 β0 => ?_
   refine K_tell rfl ?_
   refine go ?_
   refine K_op rfl rfl (opr_callS [.o 0, .o 1] rfl rfl (c1) rfl rfl rfl ⟨⟨rfl, rfl⟩, ⟨rfl, rfl⟩, trivial⟩ rfl rfl rfl rfl) rfl ?_
   refine go ?_
   refine K_condT rfl (by rcases hbad with q | q | q <;> simp [q]) ?_
   refine go ?_
   exact J_done hT rfl rfl rfl
  ·rw [if_neg hbad]
   have c2 := bytesOf_spec hv i hi o (min n (max (x.2.2.1 - o) 0)) ho (by omega)
   generalize s1.bytesF i o (min n (max (x.2.2.1 - o) 0)) = r at c2
   refine con_of Tryz.func118 rfl (by kernel_rfl) rfl fun F w0 β0 => ?_
   refine K_tell rfl ?_
   refine go ?_
   refine K_op rfl rfl (opr_callS [.o 0, .o 1] rfl rfl (c1) rfl rfl rfl ⟨⟨rfl, rfl⟩, ⟨rfl, rfl⟩, trivial⟩ rfl rfl rfl rfl) rfl ?_
   refine go ?_
   refine K_condF rfl (by simp; omega) ?_
   refine go ?_
   have e45 : mmA .min n (mmA .max (IntKind.i64.wrap (IntKind.i64.wrap x.2.2.1 - o)) 0) = min n (max (x.2.2.1 - o) 0) := by
    rw [mm_min2, mm_max2, IntWalk.i64_in x.2.2.1 (by omega), IntWalk.i64_in _ (by omega)]
   refine J_val 45 (.p (.int .i64 (min n (max (x.2.2.1 - o) 0)))) rfl (congrArg (fun z => TV.p (.int .i64 z)) e45) ?_
   refine K_op rfl rfl (opr_callS [.o 0, .o 1] rfl rfl (c2) rfl rfl rfl ⟨⟨rfl, rfl⟩, ⟨rfl, rfl⟩, trivial⟩ rfl rfl rfl rfl) rfl ?_
   refine go ?_
   exact J_done hT rfl rfl rfl
theorem wrL_nil (i : Int) (s : VS) (b : List UInt8) (ok : Bool) : wrL i [] s b ok = (ok, s) := rfl
theorem wrL_cons (i : Int) (x : Pc) (r : List Pc) (s : VS) (b : List UInt8) (ok : Bool) : wrL i (x :: r) s b ok = wrL i r (s.putB i x.1 (inB64 (s.block i x.1) x.2.1 (b.take x.2.2))).2 (b.drop x.2.2) ((s.putB i x.1 (inB64 (s.block i x.1) x.2.1 (b.take x.2.2))).1 && ok) := rfl
def sumC : List Pc → Nat
 | [] => 0
 | x :: r => x.2.2 + sumC r
theorem pcs_sum : ∀ {g o n : Nat}, n ≤ g → sumC (pcsN g o n) = n
  | 0, _, n, h => by obtain rfl : n = 0 := by omega
                     rfl
  | g + 1, o, n, h => by
    unfold pcsN
    by_cases h0 : n = 0
    · rw [if_pos h0, h0]; rfl
    · rw [if_neg h0]
      unfold sumC
      rw [pcs_sum (g := g) (by omega)]
      dsimp only
      omega
structure WrS (i : Int) (m : Nat) (l : List Pc) (s0 : VS) (b0 : List UInt8) (ok0 : Bool) where
 k : Nat
 h : k ≤ l.length
 s : VS
 d : Nat
 ok : Bool
 v : VJ s (m + k)
 e : wrL i (l.drop k) s (b0.drop d) ok = wrL i l s0 b0 ok0
 t : d + sumC (l.drop k) = b0.length
set_option maxHeartbeats 16000000 in
theorem fwrite_ps {s : VS} {m : Nat} (h : VJ s m) (hm : m ≤ 100000) (i : Int) (hi : U32 i) (o : Int) (ho : -9223372036854775808 ≤ o ∧ o ≤ 9223372036854775807) (b : List UInt8) (hb : b.length ≤ 140737488355328) :
  Con Tryz.prog 119 [vP, .p (.int .u32 i), .p (.int .i64 o), (.p (.ps (bv b)))] [vB (.o 1) s.base s.shown s.writes s.reads s.ranges.length, vR s.ranges] (.p (.int .i64 (s.fwrite i o b).1)) [vB (.o 1) (s.fwrite i o b).2.base (s.fwrite i o b).2.shown (s.fwrite i o b).2.writes (s.fwrite i o b).2.reads (s.fwrite i o b).2.ranges.length, vR (s.fwrite i o b).2.ranges] [] := by
 have c1 := fload_spec h (by omega) i hi
 have hv := h.rd (keyH 73 i)
 have hbd := @fload_bd s i
 have hrd : ∀ H0 H1 L d, Rd (H0 :: H1 :: []) L (.p (.ps (bv (b.drop d)))) (bv (b.drop d)) := fun H0 H1 L d => .ps _
 have hrd0 : ∀ H0 H1 L, Rd (H0 :: H1 :: []) L (.p (.ps (bv b))) (bv b) := fun H0 H1 L => .ps _
 unfold VS.fwrite
 generalize s.rd (keyH 73 i) = s1 at c1 hv
 generalize s.fload i = g at c1 hbd
 cases g with
 | none =>
  refine con_of Tryz.func119 rfl (by kernel_rfl) rfl fun F w0 β0 => ?_
  refine K_tell rfl ?_
  refine go ?_
  refine K_op rfl rfl (opr_callS [.o 0, .o 1] rfl rfl (c1) rfl rfl rfl ⟨⟨rfl, rfl⟩, ⟨rfl, rfl⟩, trivial⟩ rfl rfl rfl rfl) rfl ?_
  refine go ?_
  exact J_done hT rfl rfl rfl
 | some x =>
  obtain ⟨⟨hx1, hx2, hx3, hx4⟩, _⟩ := hbd rfl
  dsimp only
  by_cases h1 : o < 0 ∨ (b.length : Int) > 1024
  ·rw [if_pos h1]
   refine con_of Tryz.func119 rfl (by kernel_rfl) rfl fun F w0 β0 => ?_
   refine K_tell rfl ?_
   refine go ?_
   refine K_op rfl rfl (opr_callS [.o 0, .o 1] rfl rfl (c1) rfl rfl rfl ⟨⟨rfl, rfl⟩, ⟨rfl, rfl⟩, trivial⟩ rfl rfl rfl rfl) rfl ?_
   refine gx ?_
   by_cases h0 : o < 0
   ·refine J_val 29 (.p (.bool true)) rfl (congrArg (fun z => TV.p (.bool z)) (decide_eq_true h0)) ?_
    refine go ?_
    exact J_done hT rfl rfl rfl
   ·refine J_val 29 (.p (.bool false)) rfl (congrArg (fun z => TV.p (.bool z)) (decide_eq_false h0)) ?_
    refine gx ?_
    skip
    rw [bv_length]
    refine gx ?_
    refine K_condT rfl (decide_eq_true (by omega)) ?_
    refine go ?_
    exact J_done hT rfl rfl rfl
  rw [if_neg h1]
  by_cases h2 : o > 4096 ∨ (b.length : Int) > 4096 - o
  ·rw [if_pos h2]
   refine con_of Tryz.func119 rfl (by kernel_rfl) rfl fun F w0 β0 => ?_
   refine K_tell rfl ?_
   refine go ?_
   refine K_op rfl rfl (opr_callS [.o 0, .o 1] rfl rfl (c1) rfl rfl rfl ⟨⟨rfl, rfl⟩, ⟨rfl, rfl⟩, trivial⟩ rfl rfl rfl rfl) rfl ?_
   refine gx ?_
   refine J_val 29 (.p (.bool false)) rfl (congrArg (fun z => TV.p (.bool z)) (decide_eq_false (by omega))) ?_
   refine gx ?_
   skip
   rw [bv_length]
   refine gx ?_
   refine K_condF rfl (decide_eq_false (by omega)) ?_
   refine gx ?_
   by_cases h0 : o > 4096
   ·refine J_val 37 (.p (.bool true)) rfl (congrArg (fun z => TV.p (.bool z)) (decide_eq_true h0)) ?_
    refine go ?_
    exact J_done hT rfl rfl rfl
   ·refine J_val 37 (.p (.bool false)) rfl (congrArg (fun z => TV.p (.bool z)) (decide_eq_false h0)) ?_
    refine gx ?_
    skip
    rw [bv_length]
    refine gx ?_
    refine K_condT rfl (decide_eq_true (by rw [IntWalk.i64_in _ (by omega)]; omega)) ?_
    refine go ?_
    exact J_done hT rfl rfl rfl
  rw [if_neg h2]
  by_cases h3 : b.length = 0
  ·rw [if_pos h3]
   refine con_of Tryz.func119 rfl (by kernel_rfl) rfl fun F w0 β0 => ?_
   refine K_tell rfl ?_
   refine go ?_
   refine K_op rfl rfl (opr_callS [.o 0, .o 1] rfl rfl (c1) rfl rfl rfl ⟨⟨rfl, rfl⟩, ⟨rfl, rfl⟩, trivial⟩ rfl rfl rfl rfl) rfl ?_
   refine gx ?_
   refine J_val 29 (.p (.bool false)) rfl (congrArg (fun z => TV.p (.bool z)) (decide_eq_false (by omega))) ?_
   refine gx ?_
   skip
   rw [bv_length]
   refine gx ?_
   refine K_condF rfl (decide_eq_false (by omega)) ?_
   refine gx ?_
   refine J_val 37 (.p (.bool false)) rfl (congrArg (fun z => TV.p (.bool z)) (decide_eq_false (by omega))) ?_
   refine gx ?_
   skip
   rw [bv_length]
   refine gx ?_
   refine K_condF rfl (decide_eq_false (by rw [IntWalk.i64_in _ (by omega)]; omega)) ?_
   refine gx ?_
   skip
   rw [bv_length]
   refine go ?_
   refine K_condT rfl (by rw [h3]; rfl) ?_
   refine go ?_
   exact J_done hT rfl rfl rfl
  rw [if_neg h3]
  have hg : Nd.ok (sizeN x (max x.2.2.1 (o + b.length))) := ⟨hx1, hx2, by unfold sizeN; dsimp only; omega, hx4⟩
  have c2 := wsave_spec hv (by omega) i hi (sizeN x (max x.2.2.1 (o + b.length))) hg
  have hv2 := hv.fsave i (sizeN x (max x.2.2.1 (o + b.length)))
  generalize s1.save i (sizeN x (max x.2.2.1 (o + b.length))) = s2 at c2 hv2
  generalize s1.room (keyH 73 i) = r0 at c2
  have c3 := cut_spec o (b.length : Int) ho (by omega) []
  have hsl := pcN_sl o (b.length : Int)
  have hmem : ∀ x ∈ pcN o (b.length : Int), x.2.1 + x.2.2 ≤ 64 ∧ 1 ≤ x.2.2 ∧ x.1 ≤ 64 := fun x hx => pcN_mem hx
  have hll := pcN_len o (b.length : Int)
  have hpc : pcN o (b.length : Int) = pcsN b.length o.toNat b.length := by unfold pcN; rw [if_neg (by unfold cutBad; omega), Int.toNat_natCast]
  have hsum := pcs_sum (g := b.length) (o := o.toNat) (n := b.length) (Nat.le_refl _)
  rw [hpc] at hsl hmem hll
  generalize pcsN b.length o.toNat b.length = l at hsl hmem hll hsum
  generalize cutV o (b.length : Int) = c at c3 hsl
  have hrdl := hsl.rd
  have hlen : (l.map pcA).length = l.length := by simp
  have e55 : mmA .max x.2.2.1 (IntKind.u32.wrap (IntKind.i64.wrap (o + (b.length : Int)))) = max x.2.2.1 (o + b.length) := by
   rw [mm_max2, IntWalk.i64_in _ (by omega), u32_in _ (by omega)]
  refine con_of Tryz.func119 rfl (by kernel_rfl) rfl fun F w0 β0 => ?_
  refine K_tell rfl ?_
  refine go ?_
  refine K_op rfl rfl (opr_callS [.o 0, .o 1] rfl rfl (c1) rfl rfl rfl ⟨⟨rfl, rfl⟩, ⟨rfl, rfl⟩, trivial⟩ rfl rfl rfl rfl) rfl ?_
  refine gx ?_
  refine J_val 29 (.p (.bool false)) rfl (congrArg (fun z => TV.p (.bool z)) (decide_eq_false (by omega))) ?_
  refine gx ?_
  skip
  rw [bv_length]
  refine gx ?_
  refine K_condF rfl (decide_eq_false (by omega)) ?_
  refine gx ?_
  refine J_val 37 (.p (.bool false)) rfl (congrArg (fun z => TV.p (.bool z)) (decide_eq_false (by omega))) ?_
  refine gx ?_
  skip
  rw [bv_length]
  refine gx ?_
  refine K_condF rfl (decide_eq_false (by rw [IntWalk.i64_in _ (by omega)]; omega)) ?_
  refine gx ?_
  skip
  rw [bv_length]
  refine go ?_
  refine K_condF rfl (by simpa using h3) ?_
  refine go ?_
  skip
  rw [bv_length]
  refine go ?_
  refine J_val 59 (.agg [.p (.int .u8 x.1), .p (.int .u32 x.2.1), .p (.int .u32 (max x.2.2.1 (o + b.length))), .p (.int .u32 x.2.2.2)]) rfl (congrArg (fun z => TV.agg [.p (.int .u8 x.1), .p (.int .u32 x.2.1), .p (.int .u32 z), .p (.int .u32 x.2.2.2)]) e55) ?_
  refine K_op rfl rfl (opr_callS [.o 0, .o 1] rfl rfl (c2) rfl rfl rfl ⟨⟨rfl, rfl⟩, ⟨rfl, rfl⟩, trivial⟩ rfl rfl rfl rfl) rfl ?_
  refine go ?_
  skip
  rw [bv_length]
  refine go ?_
  refine K_op rfl rfl (opr_callP rfl rfl (c3) rfl rfl rfl rfl) rfl ?_
  refine K_op rfl rfl (opr_len_rd hT rfl rfl (hrdl _ _)) rfl ?_
  rw [hlen]
  refine go ?_
  refine J_take 0 [(0, vP), (1, .p (.int .u32 i)), (3, (.p (.ps (bv b)))), (11, .p (.bool r0)), (64, .p c), (65, .p (.int .i64 (l.length : Int))), (66, .p (.int .i64 0))] ⟨rfl, rfl, rfl, rfl, rfl, rfl, rfl, trivial⟩ rfl rfl ?_
  refine J_loop (fun q : WrS i (m + 2) l s2 b r0 => [(0, vP), (1, .p (.int .u32 i)), (3, (.p (.ps (bv (b.drop q.d))))), (11, .p (.bool q.ok)), (64, .p c), (65, .p (.int .i64 (l.length : Int))), (66, .p (.int .i64 (q.k : Int)))]) (fun q => [vB (.o 1) q.s.base q.s.shown q.s.writes q.s.reads q.s.ranges.length, vR q.s.ranges]) (fun _ => []) (fun q => l.length - q.k) ⟨0, by omega, s2, 0, r0, hv2.mono (by omega), rfl, by rw [List.drop_zero, hsum]; omega⟩ ⟨rfl, rfl, (by show TV.p (.ps (bv b)) = _; rw [List.drop_zero]), rfl, rfl, rfl, rfl, trivial⟩ rfl rfl (fun q => ?_)
  have hk := q.h
  have he := q.e
  have ht := q.t
  have hvq := q.v
  refine go ?_
  by_cases hlt : q.k < l.length
  ·have hx : l[q.k]? = some l[q.k] := List.getElem?_eq_getElem hlt
   have hdr : l.drop q.k = l[q.k] :: l.drop (q.k + 1) := List.drop_eq_getElem_cons hlt
   have hxm := hmem _ (List.getElem_mem hlt)
   generalize l[q.k] = x at hx hxm hdr
   obtain ⟨xk, xa, xn⟩ := x
   dsimp only at hxm
   have hxk := map_get pcA hx
   rw [hdr] at he ht
   rw [wrL_cons] at he
   unfold sumC at ht
   dsimp only at he ht
   have hbl := block_len q.s i xk
   have c4 := block_spec hvq i hi (xk : Int) xk rfl
   have hil := inB64_len hbl (a := xa) (b := (b.drop q.d).take xn) (by simp; omega)
   have hin : (bv (q.s.block i xk)).take xa ++ (bv (b.drop q.d)).take xn ++ (bv (q.s.block i xk)).drop (xa + ((bv (b.drop q.d)).take xn).length) = bv (inB64 (q.s.block i xk) xa ((b.drop q.d).take xn)) := by
    unfold inB64
    rw [bv_append, bv_append, bv_take, bv_take, bv_length, bv_drop]
   have c5 := fput_spec hvq (by omega) i hi (xk : Int) xk rfl (inB64 (q.s.block i xk) xa ((b.drop q.d).take xn)) hil
   have hv3 := hvq.putB i xk (b := inB64 (q.s.block i xk) xa ((b.drop q.d).take xn)) (by omega)
   generalize hblk : q.s.block i xk = blk at c4 hin c5 hv3 he hbl
   generalize hB : inB64 blk xa ((b.drop q.d).take xn) = B at c5 hv3 he hin
   generalize hQ : q.s.putB i xk B = Q at c5 hv3 he
   obtain ⟨r1, s3⟩ := Q
   dsimp only at c5 hv3 he
   have e83 : TV.sl (.l 1) 64 (0 + (xa : Int).toNat) ((IntKind.i64.wrap ((xa : Int) + (xn : Int))).toNat - (xa : Int).toNat) = .sl (.l 1) 64 xa xn := by
    rw [IntWalk.i64_in _ (by omega), show ((xa : Int) + (xn : Int)).toNat - (xa : Int).toNat = xn by omega, show 0 + (xa : Int).toNat = xa by omega]
   refine K_condT rfl (decide_eq_true (by omega)) ?_
   refine go ?_
   refine K_op rfl rfl (opr_index hT rfl rfl rfl rfl rfl (hrdl _ _) (by omega) (by rw [hlen]; omega)) rfl ?_
   refine go ?_
   refine K_op rfl rfl (opr_load_el hT rfl rfl (hrdl _ _) hxk rfl rfl) rfl ?_
   refine go ?_
   refine K_op rfl rfl (opr_callS [.o 0, .o 1] rfl rfl (c4) rfl rfl rfl ⟨⟨rfl, rfl⟩, ⟨rfl, rfl⟩, trivial⟩ rfl rfl rfl rfl) rfl ?_
   refine go ?_
   refine K_op rfl rfl (opr_cut hT rfl rfl rfl rfl (Rd.own (i := 1) rfl (by rw [bv_length]; exact hbl)) rfl rfl (by dsimp only; omega) (by dsimp only; rw [IntWalk.i64_in _ (by omega)]; omega) (by dsimp only; rw [IntWalk.i64_in _ (by omega), bv_length, hbl]; omega) (bv_size _)) rfl ?_
   refine J_val 83 _ rfl e83 ?_
   refine go ?_
   refine K_op rfl rfl (opr_copyM (rows0 := bv blk) (rows := bv (b.drop q.d)) hT rfl rfl rfl rfl (by rw [bv_length]; exact hbl) rfl (.rd (hrd _ _ _ q.d)) hbs_ps (bv_cl _) (bv_size _) (by omega) (by rw [bv_length]; omega) xn (by rw [bv_length, List.length_drop]; omega)) rfl ?_
   rw [hin]
   refine go ?_
   refine K_op rfl rfl (opr_cut hT rfl rfl rfl rfl (hrd _ _ _ q.d) rfl rfl (by omega) (by rw [bv_length, List.length_drop]; omega) (by omega) (bv_size _)) rfl ?_
   have e88 : TV.p (.ps (((bv (b.drop q.d)).drop (xn : Int).toNat).take (((bv (b.drop q.d)).length : Int).toNat - (xn : Int).toNat))) = (.p (.ps (bv (b.drop (q.d + xn))))) := by rw [bv_drop, bv_take, bv_length, List.drop_drop, List.take_of_length_le (by simp; omega)]; rfl
   refine J_val 88 _ rfl e88 ?_
   refine go ?_
   refine K_op rfl rfl (opr_callS [.o 0, .o 1, .l 1] rfl rfl (c5) rfl rfl rfl ⟨⟨rfl, rfl⟩, ⟨rfl, rfl⟩, ⟨rfl, rfl⟩, trivial⟩ rfl rfl rfl rfl) rfl ?_
   refine go ?_
   refine J_take 0 [(0, vP), (1, .p (.int .u32 i)), (3, (.p (.ps (bv (b.drop (q.d + xn)))))), (11, .p (.bool (r1 && q.ok))), (64, .p c), (65, .p (.int .i64 (l.length : Int))), (66, .p (.int .i64 (IntKind.i64.wrap ((q.k : Int) + 1))))] ⟨rfl, rfl, rfl, rfl, rfl, rfl, rfl, trivial⟩ rfl rfl ?_
   refine J_again ⟨q.k + 1, by omega, s3, q.d + xn, r1 && q.ok, hv3.mono (by omega), by rw [← he, List.drop_drop], by omega⟩ (by show l.length - (q.k + 1) < l.length - q.k; omega) ⟨rfl, rfl, rfl, rfl, rfl, rfl, congrArg (fun z => TV.p (.int .i64 z)) (by rw [IntWalk.i64_in _ (by omega)]; rfl), trivial⟩ rfl rfl
  ·have hkl : q.k = l.length := by omega
   rw [hkl, List.drop_length, wrL_nil] at he
   rw [← he]
   dsimp only
   refine K_condF rfl (decide_eq_false (by omega)) ?_
   refine go ?_
   refine J_split 99 rfl (fun hs => ?_) (fun hs => ?_)
   ·rw [hs]
    refine go ?_
    rw [show fullB true = 0 from rfl]
    exact J_done hT rfl rfl rfl
   ·rw [hs]
    refine go ?_
    rw [show fullB false = 21 from rfl]
    exact J_done hT rfl rfl rfl
end Go.Proofs.YtdkegmmigongoaaGreatDoor

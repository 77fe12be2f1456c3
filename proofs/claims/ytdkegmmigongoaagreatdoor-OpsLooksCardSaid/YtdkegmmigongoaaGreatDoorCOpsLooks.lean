import Derived.Test.YtdkegmmigongoaaGreatDoorM31
import Derived.Test.YtdkegmmigongoaaGreatDoorM5
import Derived.Test.YtdkegmmigongoaaGreatDoorM28
namespace Go.Proofs.YtdkegmmigongoaaGreatDoor
set_option maxRecDepth 20000
open Go.Awp Tr
theorem D20.numb {s : VS} {l : List Int} {m : MF} {i : Nat} (d : D20 s l m (fun k => k < (2 + i : Nat)) i) (hi : i ≤ 100) (o : Op20) : (sdo s l o (2 + i : Nat)).1.e = 21 ∨ ∃ m', D20 (sdo s l o (2 + i : Nat)).2.1 (sdo s l o (2 + i : Nat)).2.2 m' (fun k => k < (2 + (i + 1) : Nat)) (i + 1) :=
 (d.step (Q := fun k => k < (2 + (i + 1) : Nat)) (by omega) o (j := (2 + i : Nat)) (by unfold U32; omega) (by omega) (by omega) (fun k h => by omega) (by omega)).imp_right fun ⟨_, _, h⟩ => ⟨_, h⟩
theorem own_ps' (o : Op20) (hl : o.b.length ≤ 140737488351232) : Con Tryz.prog 16 [oA20 o (.ps (bv o.b))] [] (opT o (.p (.ps (bv o.b)))) [] [] := own_ps o (.ps o.b) hl
theorem sdo_names {s : VS} {l : List Int} {m : MF} {P : Int → Prop} {i : Nat} (d : D20 s l m P i) (o : Op20) (j : Int) : (sdo s l o j).1.names.length ≤ 6 * i + 2 := by
 by_cases k15 : o.kind = 15
 ·obtain ⟨par, R⟩ := d.r
  obtain ⟨e1, _⟩ := list_sim d.v R o.path
  unfold sdo
  rw [if_neg (show ¬ o.kind = 4 by omega), if_neg (show ¬ o.kind = 5 by omega), if_neg (show ¬ o.kind = 6 by omega), if_neg (show ¬ o.kind = 7 by omega), if_neg (show ¬ o.kind = 8 by omega), if_neg (show ¬ o.kind = 9 by omega), if_neg (show ¬ o.kind = 10 by omega), if_neg (show ¬ o.kind = 11 by omega), if_neg (show ¬ o.kind = 12 by omega), if_neg (show ¬ o.kind = 13 by omega), if_neg (show ¬ o.kind = 14 by omega), if_pos k15]
  show (s.dlist o.path).1.1.length ≤ _
  rw [e1]
  have := mdo_names d.w l o j
  unfold mdo at this
  rw [if_neg (show ¬ o.kind = 4 by omega), if_neg (show ¬ o.kind = 5 by omega), if_neg (show ¬ o.kind = 6 by omega), if_neg (show ¬ o.kind = 7 by omega), if_neg (show ¬ o.kind = 8 by omega), if_neg (show ¬ o.kind = 9 by omega), if_neg (show ¬ o.kind = 10 by omega), if_neg (show ¬ o.kind = 11 by omega), if_neg (show ¬ o.kind = 12 by omega), if_neg (show ¬ o.kind = 13 by omega), if_neg (show ¬ o.kind = 14 by omega), if_pos k15] at this
  exact this
 ·have : (sdo s l o j).1.names = [] := by
   unfold sdo
   by_cases k4 : o.kind = 4
   ·rw [if_pos k4]
    repeat' split
    all_goals rfl
   rw [if_neg k4]
   by_cases k5 : o.kind = 5
   ·rw [if_pos k5]
    repeat' split
    all_goals rfl
   rw [if_neg k5]
   by_cases k6 : o.kind = 6
   ·rw [if_pos k6]
    repeat' split
    all_goals rfl
   rw [if_neg k6]
   by_cases k7 : o.kind = 7
   ·rw [if_pos k7]
    repeat' split
    all_goals rfl
   rw [if_neg k7]
   by_cases k8 : o.kind = 8
   ·rw [if_pos k8]
    repeat' split
    all_goals rfl
   rw [if_neg k8]
   by_cases k9 : o.kind = 9
   ·rw [if_pos k9]
    repeat' split
    all_goals rfl
   rw [if_neg k9]
   by_cases k10 : o.kind = 10
   ·rw [if_pos k10]
    repeat' split
    all_goals rfl
   rw [if_neg k10]
   by_cases k11 : o.kind = 11
   ·rw [if_pos k11]
    repeat' split
    all_goals rfl
   rw [if_neg k11]
   by_cases k12 : o.kind = 12
   ·rw [if_pos k12]
    repeat' split
    all_goals rfl
   rw [if_neg k12]
   by_cases k13 : o.kind = 13
   ·rw [if_pos k13]
    repeat' split
    all_goals rfl
   rw [if_neg k13]
   by_cases k14 : o.kind = 14
   ·rw [if_pos k14]
    repeat' split
    all_goals rfl
   rw [if_neg k14]
   rw [if_neg k15]
   by_cases k16 : o.kind = 16
   ·rw [if_pos k16]
    repeat' split
    all_goals rfl
   rw [if_neg k16]
   rfl
  rw [this]
  exact Nat.zero_le _
theorem sdo_hand (s : VS) (l : List Int) (o : Op20) (i : Int) (h6 : o.kind ≠ 6) (h7 : o.kind ≠ 7) : (sdo s l o i).2.2 = l := by
 unfold sdo
 by_cases k4 : o.kind = 4
 ·rw [if_pos k4]
  repeat' split
  all_goals rfl
 rw [if_neg k4]
 by_cases k5 : o.kind = 5
 ·rw [if_pos k5]
  repeat' split
  all_goals rfl
 rw [if_neg k5]
 rw [if_neg h6]
 rw [if_neg h7]
 by_cases k8 : o.kind = 8
 ·rw [if_pos k8]
  repeat' split
  all_goals rfl
 rw [if_neg k8]
 by_cases k9 : o.kind = 9
 ·rw [if_pos k9]
  repeat' split
  all_goals rfl
 rw [if_neg k9]
 by_cases k10 : o.kind = 10
 ·rw [if_pos k10]
  repeat' split
  all_goals rfl
 rw [if_neg k10]
 by_cases k11 : o.kind = 11
 ·rw [if_pos k11]
  repeat' split
  all_goals rfl
 rw [if_neg k11]
 by_cases k12 : o.kind = 12
 ·rw [if_pos k12]
  repeat' split
  all_goals rfl
 rw [if_neg k12]
 by_cases k13 : o.kind = 13
 ·rw [if_pos k13]
  repeat' split
  all_goals rfl
 rw [if_neg k13]
 by_cases k14 : o.kind = 14
 ·rw [if_pos k14]
  repeat' split
  all_goals rfl
 rw [if_neg k14]
 by_cases k15 : o.kind = 15
 ·rw [if_pos k15]
  repeat' split
  all_goals rfl
 rw [if_neg k15]
 by_cases k16 : o.kind = 16
 ·rw [if_pos k16]
  repeat' split
  all_goals rfl
 rw [if_neg k16]
namespace opsLooks
structure St (l : List POp) where
 i : Nat
 h : i ≤ l.length
 s : VS
 k : List Int
 m : MF
 f0 : Int
 d : D20 s k m (fun k => k < (2 + i : Nat)) i
abbrev Ll (x : POp) (s : VS) (k : List Int) (f0 : Int) : List AObj := [opB x.o (.p (.ps (bv x.o.b))), vB (.l 2) s.base s.shown s.writes s.reads s.ranges.length, vR s.ranges, deskB (.l 1) k f0]
set_option maxHeartbeats 64000000 in
theorem con {a0 : AV} {a1 : List AV} (s0 : Shp tab 8 22 a0) (s1 : All2 (Shp tab 8) [5, 9, 9, 3, 3, 3, 31] a1) : Con Tryz.prog 7 [.p a0, .p (.agg a1)] [] (.p (.bool true)) [] [] := by
 obtain ⟨lo, hlo, hok, hlo2⟩ := ops_shp20 s0
 obtain ⟨o', ho', c1⟩ := cut20_spec hlo hok hlo2
 have l60 := cut20_len (l := lo)
 have hok : ∀ x ∈ lo.take (cutG stop20 lo 0), x.ok := fun x hx => hok x (List.mem_of_mem_take hx)
 generalize lo.take (cutG stop20 lo 0) = l at ho' l60 hok
 obtain ⟨z, hz, hzo⟩ := op_shp (n := 1) s1
 rw [hz]
 have hrd := ho'.rd
 have hlen : (l.map popV).length = l.length := by simp
 have cg := great_spec z.o (.ps z.o.b)
 have cow := own_ps' z.o hzo.l
 generalize great z.o = g at cg
 cases g with
 | true =>
  refine con_of Tryz.func7 rfl (by kernel_rfl) rfl fun F w0 β0 => ?_
  refine K_tell rfl ?_
  refine J_rep 1 (oA20 z.o (.ps (bv z.o.b))) rfl (oA20_mono z.o (bs_ps hzo.bs)) ?_
  refine go ?_
  refine K_op rfl rfl (opr_callP rfl rfl (cg) rfl rfl rfl rfl) rfl ?_
  refine go ?_
  refine K_op rfl rfl (opr_callP rfl rfl (fixed20_spec) rfl rfl rfl rfl) rfl ?_
  refine go ?_
  exact J_done hT rfl rfl rfl
 | false =>
 refine con_of Tryz.func7 rfl (by kernel_rfl) rfl fun F w0 β0 => ?_
 refine K_tell rfl ?_
 refine J_rep 1 (oA20 z.o (.ps (bv z.o.b))) rfl (oA20_mono z.o (bs_ps hzo.bs)) ?_
 refine go ?_
 refine K_op rfl rfl (opr_callP rfl rfl (cg) rfl rfl rfl rfl) rfl ?_
 refine go ?_
 refine K_op rfl rfl (opr_callP rfl rfl (tnew_spec) rfl rfl rfl rfl) rfl ?_
 refine go ?_
 refine K_op rfl rfl (opr_callP rfl rfl (vnew_spec .nil) rfl rfl rfl rfl) rfl ?_
 refine go ?_
 refine K_op rfl rfl (opr_callS [.l 1, .l 2] rfl rfl (onew_spec (VS.new .nil)) rfl rfl rfl ⟨⟨rfl, rfl⟩, ⟨rfl, rfl⟩, trivial⟩ rfl rfl rfl rfl) rfl ?_
 refine go ?_
 refine K_op rfl rfl (opr_callP rfl rfl (c1) rfl rfl rfl rfl) rfl ?_
 refine go ?_
 refine K_op rfl rfl (opr_len_rd hT rfl rfl (hrd _ _)) rfl ?_
 rw [hlen]
 refine go ?_
 refine J_loop (fun q : St l => [(3, .ad (.l 0) 0), (5, .ad (.l 1) 0), (6, .ad (.l 3) 0), (25, .p o'), (26, .p (.int .i64 (l.length : Int))), (27, .p (.int .i64 (q.i : Int)))]) (fun _ => []) (fun q => Ll z q.s q.k q.f0) (fun q => l.length - q.i) ⟨0, by omega, VS.new .nil, noH, newM, 0, D20.start⟩ ⟨rfl, rfl, rfl, rfl, rfl, rfl, trivial⟩ rfl rfl (fun q => ?_)
 have d := q.d
 have qh := q.h
 obtain ⟨a0, a1, a2, a3, a4, a5, a6, a7, a8, a9, a10, a11, a12, a13, a14, a15, hk⟩ := len16 d.l.1
 rw [hk] at d ⊢
 refine go ?_
 by_cases h : q.i < l.length
 ·have hx : l[q.i]? = some l[q.i] := List.getElem?_eq_getElem h
  have hxo := hok _ (List.getElem_mem h)
  generalize l[q.i] = x at hx hxo
  have hxk : (l.map popV)[((q.i : Nat) : Int).toNat]? = some (popV x) := by rw [Int.toNat_natCast, List.getElem?_map, hx]; rfl
  have co := own_ps' x.o hxo.l
  obtain ⟨x1, n1, hx1, hn1, c2⟩ := do20_ps d.v (by omega) d.l.1 d.l.2 x.o hxo.o (i := (2 + q.i : Nat)) (by unfold U32; omega) q.f0 (.ps x.o.b)
  have hst := d.numb (by omega) x.o
  have hl' := (sdo_l d.l q.s x.o (2 + q.i : Nat)).1
  generalize (sdo q.s [a0, a1, a2, a3, a4, a5, a6, a7, a8, a9, a10, a11, a12, a13, a14, a15] x.o (2 + q.i : Nat)).1 = r at c2 hst hx1 hn1
  generalize (sdo q.s [a0, a1, a2, a3, a4, a5, a6, a7, a8, a9, a10, a11, a12, a13, a14, a15] x.o (2 + q.i : Nat)).2.1 = s2 at c2 hst
  generalize (sdo q.s [a0, a1, a2, a3, a4, a5, a6, a7, a8, a9, a10, a11, a12, a13, a14, a15] x.o (2 + q.i : Nat)).2.2 = k2 at c2 hst hl'
  obtain ⟨b0, b1, b2, b3, b4, b5, b6, b7, b8, b9, b10, b11, b12, b13, b14, b15, rfl⟩ := len16 hl'
  have e37 : IntKind.u32.wrap (IntKind.i64.wrap (2 + (q.i : Int))) = ((2 + q.i : Nat) : Int) := by
   rw [IntWalk.i64_in _ (by omega), u32_in _ (by omega)]; omega
  refine K_condT rfl (decide_eq_true (by omega)) ?_
  refine go ?_
  refine K_op rfl rfl (opr_index hT rfl rfl rfl rfl rfl (hrd _ _) (by omega) (by rw [hlen]; omega)) rfl ?_
  refine go ?_
  refine K_op rfl rfl (opr_load_el hT rfl rfl (hrd _ _) hxk rfl rfl) rfl ?_
  refine J_rep 31 (opT x.o (.p (.ps (bv x.o.b)))) rfl (agg_rep 6 rfl (bs_ps hxo.bs)) ?_
  refine go ?_
  refine K_op rfl rfl (opr_callP rfl rfl (co) rfl rfl rfl rfl) rfl ?_
  refine go ?_
  rw [e37]
  refine K_op rfl rfl (opr_callS [.l 3, .l 1, .l 2] rfl rfl (c2) rfl rfl rfl ⟨⟨rfl, rfl⟩, ⟨rfl, rfl⟩, ⟨rfl, rfl⟩, trivial⟩ rfl rfl rfl rfl) rfl ?_
  refine go ?_
  by_cases h21 : r.e = 21
  ·refine K_condT rfl (by simp [h21]) ?_
   refine go ?_
   refine K_op rfl rfl (opr_callP rfl rfl (fixed20_spec) rfl rfl rfl rfl) rfl ?_
   refine go ?_
   exact J_done hT rfl rfl rfl
  obtain ⟨m2, d2⟩ := hst.resolve_left h21
  refine K_condF rfl (by simpa using h21) ?_
  refine go ?_
  refine J_take 4 [(3, .ad (.l 0) 0), (5, .ad (.l 1) 0), (6, .ad (.l 3) 0), (25, .p o'), (26, .p (.int .i64 (l.length : Int))), (27, .p (.int .i64 (IntKind.i64.wrap ((q.i : Int) + 1))))] ⟨rfl, rfl, rfl, rfl, rfl, rfl, trivial⟩ rfl rfl ?_
  refine J_again ⟨q.i + 1, by omega, s2, [b0, b1, b2, b3, b4, b5, b6, b7, b8, b9, b10, b11, b12, b13, b14, b15], m2, (2 + q.i : Nat), d2⟩ (by show l.length - (q.i + 1) < l.length - q.i; omega) ⟨rfl, rfl, rfl, rfl, rfl, congrArg (fun z => TV.p (.int .i64 z)) (by rw [IntWalk.i64_in _ (by omega)]; rfl), trivial⟩ rfl rfl
 refine K_condF rfl (decide_eq_false (by omega)) ?_
 obtain ⟨par, R⟩ := d.r
 have hv := d.v
 have hvr := hv.zg
 have hvw := hv.zw
 have rf1 := (sdo_rf (s := q.s) (s' := q.s) rfl [a0, a1, a2, a3, a4, a5, a6, a7, a8, a9, a10, a11, a12, a13, a14, a15] z.o 99).1
 have rf2 := fun hh => (sdo_rf (s := q.s) (s' := (sdo q.s [a0, a1, a2, a3, a4, a5, a6, a7, a8, a9, a10, a11, a12, a13, a14, a15] z.o 99).2.1) hh [a0, a1, a2, a3, a4, a5, a6, a7, a8, a9, a10, a11, a12, a13, a14, a15] z.o 99).2
 have hv3 := sdo_vj d.v R [a0, a1, a2, a3, a4, a5, a6, a7, a8, a9, a10, a11, a12, a13, a14, a15] z.o 99
 have hl3 := sdo_l d.l q.s z.o 99
 have hnm3 := sdo_names d z.o 99
 have hand := sdo_hand q.s [a0, a1, a2, a3, a4, a5, a6, a7, a8, a9, a10, a11, a12, a13, a14, a15] z.o 99
 obtain ⟨x3, n3, hx3, hn3, c3⟩ := do20_ps d.v (by omega) d.l.1 d.l.2 z.o hzo.o (i := 99) (by decide) q.f0 (.ps z.o.b)
 obtain ⟨x5, n5, hx5, hn5, c5⟩ := do20_ps hv3 (by omega) hl3.1 hl3.2 z.o hzo.o (i := 99) (by decide) 99 (.ps z.o.b)
 have hl5 := (sdo_l hl3 (sdo q.s [a0, a1, a2, a3, a4, a5, a6, a7, a8, a9, a10, a11, a12, a13, a14, a15] z.o 99).2.1 z.o 99).1
 have hs : SV q.s (sdo q.s [a0, a1, a2, a3, a4, a5, a6, a7, a8, a9, a10, a11, a12, a13, a14, a15] z.o 99).2.1 → ¬ (F01 (sdo q.s [a0, a1, a2, a3, a4, a5, a6, a7, a8, a9, a10, a11, a12, a13, a14, a15] z.o 99).1.e ∧ looksB z.o.kind = false) → z.o.kind ≠ 6 → z.o.kind ≠ 7 → (sdo (sdo q.s [a0, a1, a2, a3, a4, a5, a6, a7, a8, a9, a10, a11, a12, a13, a14, a15] z.o 99).2.1 (sdo q.s [a0, a1, a2, a3, a4, a5, a6, a7, a8, a9, a10, a11, a12, a13, a14, a15] z.o 99).2.2 z.o 99).1 = (sdo q.s [a0, a1, a2, a3, a4, a5, a6, a7, a8, a9, a10, a11, a12, a13, a14, a15] z.o 99).1 := fun h1 h2 h6 h7 => by
  rw [hand h6 h7]
  rcases rf2 h1.sh with q | q | q | q
  ·exact absurd q h2
  ·exact absurd q h6
  ·exact absurd q h7
  ·exact q
 clear rf2 hand
 generalize sdo (sdo q.s [a0, a1, a2, a3, a4, a5, a6, a7, a8, a9, a10, a11, a12, a13, a14, a15] z.o 99).2.1 (sdo q.s [a0, a1, a2, a3, a4, a5, a6, a7, a8, a9, a10, a11, a12, a13, a14, a15] z.o 99).2.2 z.o 99 = q5 at c5 hl5 hs hx5 hn5
 generalize sdo q.s [a0, a1, a2, a3, a4, a5, a6, a7, a8, a9, a10, a11, a12, a13, a14, a15] z.o 99 = q3 at c3 c5 hv3 hl3 hnm3 hs rf1 hx3 hn3
 obtain ⟨r3, s3, k3⟩ := q3
 obtain ⟨r5, s5, k5⟩ := q5
 dsimp only at c3 c5 hv3 hl3 hl5 hnm3 hs rf1 hx3 hn3 hx5 hn5
 obtain ⟨e0, e1, e2, e3, e4, e5, e6, e7, e8, e9, e10, e11, e12, e13, e14, e15, rfl⟩ := len16 hl3.1
 obtain ⟨w0, w1, w2, w3, w4, w5, w6, w7, w8, w9, w10, w11, w12, w13, w14, w15, rfl⟩ := len16 hl5
 have cw1 := (vwrites_spec q.s (by unfold big40; omega)).freeze (by rw [List.length_map, row_len])
 have cw2 := (vwrites_spec s3 (by have := hv3.zw; unfold big40; omega)).freeze (by rw [List.length_map, row_len])
 have hWe : s3.writes = q.s.writes → s3.writes.row = q.s.writes.row := fun h => by rw [h]
 have hwl : q.s.writes.row.length ≤ 200 * q.i := by rw [row_len]; exact hvw
 have goal1 : looksB z.o.kind = false → r3.e ≠ 0 → r3.e ≠ 21 → ¬ (F01 r3.e ∧ looksB z.o.kind = false) := fun _ h0 h1 h => by rcases h.1 with h | h; exact h1 h; exact h0 h
 have goal2 : looksB z.o.kind = true → ¬ (F01 r3.e ∧ looksB z.o.kind = false) := fun h1 h => by rw [h1] at h; cases h.2
 have lkA : z.o.kind ≥ 15 → looksB z.o.kind = true := fun h => by unfold looksB; rw [decide_eq_true h]; rfl
 have lkB : ¬ z.o.kind ≥ 15 → z.o.kind ≥ 6 → z.o.kind ≤ 8 → looksB z.o.kind = true := fun h1 h2 h3 => by unfold looksB; rw [decide_eq_true h2, decide_eq_true h3]; simp
 have lkC : ¬ z.o.kind ≥ 15 → ¬ z.o.kind ≤ 8 → looksB z.o.kind = false := fun h1 h3 => by unfold looksB; rw [decide_eq_false h1, decide_eq_false h3]; simp
 have lkD : ¬ z.o.kind ≥ 15 → ¬ z.o.kind ≥ 6 → looksB z.o.kind = false := fun h1 h2 => by unfold looksB; rw [decide_eq_false h1, decide_eq_false h2]; simp
 refine go ?_
 refine K_op rfl rfl (opr_callS [.l 1, .l 2] rfl rfl (vcopy_spec q.s (by unfold big40; omega)) rfl rfl rfl ⟨⟨rfl, rfl⟩, ⟨rfl, rfl⟩, trivial⟩ rfl rfl rfl rfl) rfl ?_
 refine go ?_
 refine K_op rfl rfl (opr_callP rfl rfl (cow) rfl rfl rfl rfl) rfl ?_
 refine go ?_
 refine K_op rfl rfl (opr_callS [.l 3, .l 1, .l 2] rfl rfl (c3) rfl rfl rfl ⟨⟨rfl, rfl⟩, ⟨rfl, rfl⟩, ⟨rfl, rfl⟩, trivial⟩ rfl rfl rfl rfl) rfl ?_
 refine J_rep 48 (resT r3 (.ps (bv r3.data)) (.ps (r3.names.map .str))) rfl (res_le hx3 hn3) ?_
 refine gx ?_
 generalize q.s.writes.row = W at cw1 cw2 hwl hWe
 have hWl : (W.map fun x => pwV (wr x)).length = W.length := by simp
 by_cases hA : z.o.kind ≥ 15
 focus
  have hF := goal2 (lkA hA)
  refine J_true 52 rfl (decide_eq_true hA) ?_
  refine gx ?_
 rotate_left
 focus
  refine J_false 52 rfl (decide_eq_false hA) ?_
  refine gx ?_
  by_cases hB : z.o.kind ≥ 6
  focus
   refine J_true 56 rfl (decide_eq_true hB) ?_
   refine gx ?_
   by_cases hC : z.o.kind ≤ 8
   focus
    have hF := goal2 (lkB hA hB hC)
    refine J_false 64 rfl (by simp [hC]) ?_
    refine gx ?_
   rotate_left
   focus
    have hlk := lkC hA hC
    refine J_true 64 rfl (by simp [hC]) ?_
    refine gx ?_
    by_cases h0 : r3.e = 0
    focus
     refine J_true 68 rfl (by simp [h0]) ?_
     refine gx ?_
     refine K_op rfl rfl (opr_callP rfl rfl (fixed20_spec) rfl rfl rfl rfl) rfl ?_
     refine go ?_
     refine K_yes rfl rfl rfl (opr_callS [.l 3, .l 1, .l 2] rfl rfl (view20_spec s3 (l := [e0, e1, e2, e3, e4, e5, e6, e7, e8, e9, e10, e11, e12, e13, e14, e15]) rfl 99) rfl rfl rfl ⟨⟨rfl, rfl⟩, ⟨rfl, rfl⟩, ⟨rfl, rfl⟩, trivial⟩ rfl rfl rfl rfl) rfl ?_
     refine go ?_
     refine K_yes rfl rfl rfl (opr_eqSame (e := 83) hT rfl (by kernel_rfl) rfl rfl rfl rfl rfl) rfl ?_
     refine go ?_
     exact J_done hT rfl rfl rfl
    focus
     refine J_false 68 rfl (by simpa using h0) ?_
     refine gx ?_
     by_cases h21 : r3.e = 21
     focus
      refine K_condT rfl (by simp [h21]) ?_
      refine gx ?_
      refine K_op rfl rfl (opr_callP rfl rfl (fixed20_spec) rfl rfl rfl rfl) rfl ?_
      refine go ?_
      refine K_yes rfl rfl rfl (opr_callS [.l 3, .l 1, .l 2] rfl rfl (view20_spec s3 (l := [e0, e1, e2, e3, e4, e5, e6, e7, e8, e9, e10, e11, e12, e13, e14, e15]) rfl 99) rfl rfl rfl ⟨⟨rfl, rfl⟩, ⟨rfl, rfl⟩, ⟨rfl, rfl⟩, trivial⟩ rfl rfl rfl rfl) rfl ?_
      refine go ?_
      refine K_yes rfl rfl rfl (opr_eqSame (e := 83) hT rfl (by kernel_rfl) rfl rfl rfl rfl rfl) rfl ?_
      refine go ?_
      exact J_done hT rfl rfl rfl
     focus
      have hF := goal1 hlk h0 h21
      refine K_condF rfl (by simpa using h21) ?_
      refine gx ?_
  rotate_left
  rotate_left
  focus
   have hlk := lkD hA hB
   refine J_false 56 rfl (decide_eq_false hB) ?_
   refine gx ?_
   by_cases h0 : r3.e = 0
   focus
    refine J_true 68 rfl (by simp [h0]) ?_
    refine gx ?_
    refine K_op rfl rfl (opr_callP rfl rfl (fixed20_spec) rfl rfl rfl rfl) rfl ?_
    refine go ?_
    refine K_yes rfl rfl rfl (opr_callS [.l 3, .l 1, .l 2] rfl rfl (view20_spec s3 (l := [e0, e1, e2, e3, e4, e5, e6, e7, e8, e9, e10, e11, e12, e13, e14, e15]) rfl 99) rfl rfl rfl ⟨⟨rfl, rfl⟩, ⟨rfl, rfl⟩, ⟨rfl, rfl⟩, trivial⟩ rfl rfl rfl rfl) rfl ?_
    refine go ?_
    refine K_yes rfl rfl rfl (opr_eqSame (e := 83) hT rfl (by kernel_rfl) rfl rfl rfl rfl rfl) rfl ?_
    refine go ?_
    exact J_done hT rfl rfl rfl
   focus
    refine J_false 68 rfl (by simpa using h0) ?_
    refine gx ?_
    by_cases h21 : r3.e = 21
    focus
     refine K_condT rfl (by simp [h21]) ?_
     refine gx ?_
     refine K_op rfl rfl (opr_callP rfl rfl (fixed20_spec) rfl rfl rfl rfl) rfl ?_
     refine go ?_
     refine K_yes rfl rfl rfl (opr_callS [.l 3, .l 1, .l 2] rfl rfl (view20_spec s3 (l := [e0, e1, e2, e3, e4, e5, e6, e7, e8, e9, e10, e11, e12, e13, e14, e15]) rfl 99) rfl rfl rfl ⟨⟨rfl, rfl⟩, ⟨rfl, rfl⟩, ⟨rfl, rfl⟩, trivial⟩ rfl rfl rfl rfl) rfl ?_
     refine go ?_
     refine K_yes rfl rfl rfl (opr_eqSame (e := 83) hT rfl (by kernel_rfl) rfl rfl rfl rfl rfl) rfl ?_
     refine go ?_
     exact J_done hT rfl rfl rfl
    focus
     have hF := goal1 hlk h0 h21
     refine K_condF rfl (by simpa using h21) ?_
     refine gx ?_
 all_goals
  have hsv := rf1.resolve_left hF
  have hr5 := hs hsv hF
  rw [hWe hsv.w] at cw2
  refine K_op rfl rfl (opr_callS [.l 4, .l 5] rfl rfl (cw1) rfl rfl rfl ⟨⟨rfl, rfl⟩, ⟨rfl, rfl⟩, trivial⟩ rfl rfl rfl rfl) rfl ?_
  refine go ?_
  refine K_op rfl rfl (opr_callS [.l 1, .l 2] rfl rfl (cw2) rfl rfl rfl ⟨⟨rfl, rfl⟩, ⟨rfl, rfl⟩, trivial⟩ rfl rfl rfl rfl) rfl ?_
  refine go ?_
  refine K_condF rfl (by simp) ?_
  refine go ?_
  refine J_take 7 [(3, .ad (.l 0) 0), (5, .ad (.l 1) 0), (6, .ad (.l 3) 0), (10, .ad (.l 6) 0), (12, .p (.ps (W.map fun x => pwV (wr x)))), (13, .p (.ps (W.map fun x => pwV (wr x)))), (91, .p (.int .i64 ((W.map fun x => pwV (wr x)).length : Int))), (92, .p (.int .i64 0))] ⟨rfl, rfl, rfl, rfl, rfl, rfl, rfl, rfl, trivial⟩ rfl rfl ?_
  refine J_loop (fun p : Ix W.length => [(3, .ad (.l 0) 0), (5, .ad (.l 1) 0), (6, .ad (.l 3) 0), (10, .ad (.l 6) 0), (12, .p (.ps (W.map fun x => pwV (wr x)))), (13, .p (.ps (W.map fun x => pwV (wr x)))), (91, .p (.int .i64 (W.length : Int))), (92, .p (.int .i64 (p.i : Int)))]) (fun _ => []) (fun _ => [opB z.o (.p (.ps (bv z.o.b))), vB (.l 2) s3.base s3.shown s3.writes s3.reads s3.ranges.length, vR s3.ranges, deskB (.l 1) [e0, e1, e2, e3, e4, e5, e6, e7, e8, e9, e10, e11, e12, e13, e14, e15] 99, vB (.l 5) q.s.base q.s.shown q.s.writes q.s.reads q.s.ranges.length, vR q.s.ranges, resB r3 (.ps (bv r3.data)) (.ps (r3.names.map .str))]) (fun p => W.length - p.i) ⟨0, by omega⟩ ⟨rfl, rfl, rfl, rfl, rfl, rfl, (by rw [← hWl]; rfl), rfl, trivial⟩ rfl rfl (fun p => ?_)
  have hp := p.h
  refine go ?_
  by_cases hlt : p.i < W.length
  ·have hx : W[p.i]? = some W[p.i] := List.getElem?_eq_getElem hlt
   generalize W[p.i] = y at hx
   have hxk : (W.map fun x => pwV (wr x))[((p.i : Nat) : Int).toNat]? = some (pwV (wr y)) := by rw [Int.toNat_natCast, List.getElem?_map, hx]; rfl
   refine K_condT rfl (decide_eq_true (by omega)) ?_
   refine go ?_
   refine J_draw [_] [] (by kernel_rfl) (by kernel_rfl) rfl ?_
   refine gd ?_
   refine T_opD rfl rfl rfl rfl rfl (opr_index hT rfl rfl rfl rfl rfl (.ps _) (by omega) (by rw [hWl]; omega)) rfl ?_
   refine gd ?_
   refine T_opD rfl rfl rfl rfl rfl (opr_load_el hT rfl rfl (.ps _) hxk rfl rfl) rfl ?_
   refine gd ?_
   refine T_opD rfl rfl rfl rfl rfl (opr_index hT rfl rfl rfl rfl rfl (.ps _) (by omega) (by rw [hWl]; omega)) rfl ?_
   refine gd ?_
   refine T_opD rfl rfl rfl rfl rfl (opr_load_el hT rfl rfl (.ps _) hxk rfl rfl) rfl ?_
   refine gd ?_
   refine T_opD rfl rfl rfl rfl rfl (opr_eqAgg hT rfl (by kernel_rfl) rfl rfl rfl rfl rfl) rfl ?_
   refine gd ?_
   refine K_condF rfl (by simp) ?_
   refine go ?_
   refine J_again ⟨p.i + 1, by omega⟩ (by show W.length - (p.i + 1) < W.length - p.i; omega) ⟨rfl, rfl, rfl, rfl, rfl, rfl, rfl, congrArg (fun z => TV.p (.int .i64 z)) (by rw [IntWalk.i64_in _ (by omega)]; rfl), trivial⟩ rfl rfl
  refine K_condF rfl (decide_eq_false (by omega)) ?_
  refine gx ?_
  by_cases k6 : z.o.kind = 6
  ·refine J_true 108 rfl (by simp [k6]) ?_
   refine go ?_
   refine K_op rfl rfl (opr_callP rfl rfl (fixed20_spec) rfl rfl rfl rfl) rfl ?_
   refine go ?_
   exact J_done hT rfl rfl rfl
  refine J_false 108 rfl (by simpa using k6) ?_
  refine gx ?_
  by_cases k7 : z.o.kind = 7
  ·refine K_condT rfl (by simp [k7]) ?_
   refine go ?_
   refine K_op rfl rfl (opr_callP rfl rfl (fixed20_spec) rfl rfl rfl rfl) rfl ?_
   refine go ?_
   exact J_done hT rfl rfl rfl
  refine K_condF rfl (by simpa using k7) ?_
  refine go ?_
  obtain rfl := hr5 k6 k7
  have csm := same20_spec r5 hx5 hn5 (.ps r5.data) (.ps r5.names) (by unfold big40; omega)
  refine J_drawH [[], []] [[opB z.o (.p (.ps (bv z.o.b))), vB (.l 2) s3.base s3.shown s3.writes s3.reads s3.ranges.length, vR s3.ranges, deskB (.l 1) [e0, e1, e2, e3, e4, e5, e6, e7, e8, e9, e10, e11, e12, e13, e14, e15] 99, vB (.l 5) q.s.base q.s.shown q.s.writes q.s.reads q.s.ranges.length, vR q.s.ranges, resB r5 (.ps (bv r5.data)) (.ps (r5.names.map .str))], [opB z.o (.p (.ps (bv z.o.b))), vB (.l 2) s5.base s5.shown s5.writes s5.reads s5.ranges.length, vR s5.ranges, deskB (.l 1) [w0, w1, w2, w3, w4, w5, w6, w7, w8, w9, w10, w11, w12, w13, w14, w15] 99, vB (.l 5) q.s.base q.s.shown q.s.writes q.s.reads q.s.ranges.length, vR q.s.ranges, resB r5 (.ps (bv r5.data)) (.ps (r5.names.map .str))]] [5] (by kernel_rfl) (by kernel_rfl) rfl rfl ?_
  refine T_op2H rfl rfl rfl rfl rfl rfl rfl rfl (opr_call0P rfl rfl fixed20_spec rfl rfl rfl) (opr_call0P rfl rfl fixed20_spec rfl rfl rfl) rfl ?_
  refine gdK ?_
  refine T_yesH rfl rfl rfl rfl rfl rfl rfl (opr_call0P rfl rfl cow rfl rfl rfl) rfl ?_
  refine T_stYH rfl rfl rfl rfl rfl rfl rfl (opr_callS [.l 3, .l 1, .l 2] rfl rfl c5 rfl rfl rfl ⟨⟨rfl, rfl⟩, ⟨rfl, rfl⟩, ⟨rfl, rfl⟩, trivial⟩ rfl rfl rfl rfl) rfl ?_
  refine gdK ?_
  refine T_yesH rfl rfl rfl rfl rfl rfl rfl (opr_call0P rfl rfl csm rfl rfl rfl) rfl ?_
  refine gdK ?_
  refine go ?_
  exact J_done hT rfl rfl rfl
end opsLooks
end Go.Proofs.YtdkegmmigongoaaGreatDoor

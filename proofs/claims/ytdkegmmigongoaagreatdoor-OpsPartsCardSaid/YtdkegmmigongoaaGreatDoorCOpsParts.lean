import Derived.Test.YtdkegmmigongoaaGreatDoorGo
import Derived.Test.YtdkegmmigongoaaGreatDoorM32
namespace Go.Proofs.YtdkegmmigongoaaGreatDoor
set_option maxRecDepth 20000
open Go.Awp Tr
namespace opsParts
abbrev Lq (s : VS) (k : List Int) (f0 : Int) : List AObj := [vB (.l 1) s.base s.shown s.writes s.reads s.ranges.length, vR s.ranges, deskB (.l 0) k f0, vB (.l 4) s.base s.shown s.writes s.reads s.ranges.length, vR s.ranges, deskB (.l 3) k f0]
set_option maxHeartbeats 64000000 in
theorem con {a0 a1 a2 a3 : AV} (s0 : Shp tab 8 22 a0) (s1 : Shp tab 8 3 a1) (s2 : Shp tab 8 31 a2) (s3 : Shp tab 8 23 a3) : Con Tryz.prog 4 [.p a0, .p a1, .p a2, .p a3] [] (.p (.bool true)) [] [] := by
 obtain ⟨lo, hlo, hok, hlo2⟩ := ops_shp20 s0
 obtain ⟨o', ho', c1⟩ := cut20_spec hlo hok hlo2
 have l60 := cut20_len (l := lo)
 have hok : ∀ x ∈ lo.take (cutG stop20 lo 0), x.ok := fun x hx => hok x (List.mem_of_mem_take hx)
 generalize lo.take (cutG stop20 lo 0) = l at ho' l60 hok
 obtain ⟨fm, rfl, hfm⟩ := s1.int rfl
 obtain ⟨b, hb, hbl⟩ := bytesN_shp (n := 1) s2
 obtain ⟨ct, rfl, hct⟩ := s3.int rfl
 change -9223372036854775808 ≤ fm ∧ fm ≤ 9223372036854775807 at hfm
 change 0 ≤ ct ∧ ct ≤ 65535 at hct
 have hrd := ho'.rd
 have hlen : (l.map popV).length = l.length := by simp
 have hbv := bv_length b
 have e31 : IntKind.i64.wrap (4096 - (b.length : Int)) = 4096 - (b.length : Int) := IntWalk.i64_in _ (by omega)
 by_cases hbad : (b.length : Int) > 1024 ∨ fm < 0 ∨ fm > 4096 - (b.length : Int)
 ·skip
  refine con_of Tryz.func4 rfl (by kernel_rfl) rfl fun F w0 β0 => ?_
  refine K_tell rfl ?_
  refine J_rep 2 (.p (.ps (bv b))) rfl (fun w β G v q => by cases q with | p q => exact .p (bs_ps hb _ _ _ q)) ?_
  refine go ?_
  rw [hbv, e31]
  refine K_condT rfl (by rcases hbad with q | q | q <;> simp [q]) ?_
  refine go ?_
  refine K_op rfl rfl (opr_callP rfl rfl (fixed20_spec) rfl rfl rfl rfl) rfl ?_
  refine go ?_
  exact J_done hT rfl rfl rfl
 obtain ⟨fo, rfl⟩ : ∃ n : Nat, fm = (n : Int) := ⟨fm.toNat, by omega⟩
 obtain ⟨cn, rfl⟩ : ∃ n : Nat, ct = (n : Int) := ⟨ct.toNat, by omega⟩
 have e81 : IntKind.i64.wrap ((b.length : Int) + 1) = (b.length : Int) + 1 := IntWalk.i64_in _ (by omega)
 have e78 : IntKind.i64.wrap (cn : Int) = (cn : Int) := IntWalk.i64_in _ (by omega)
 have ek : ((cn : Int)).tmod ((b.length : Int) + 1) = ((cn % (b.length + 1) : Nat) : Int) := by
  rw [Int.tmod_eq_emod_of_nonneg (by omega), show (b.length : Int) + 1 = ((b.length + 1 : Nat) : Int) by omega]
  exact (Int.natCast_emod ..).symm
 have hkb : cn % (b.length + 1) ≤ b.length := Nat.le_of_lt_succ (Nat.mod_lt _ (by omega))
 generalize cn % (b.length + 1) = k at ek hkb
 refine con_of Tryz.func4 rfl (by kernel_rfl) rfl fun F w0 β0 => ?_
 refine K_tell rfl ?_
 refine J_rep 2 (.p (.ps (bv b))) rfl (fun w β G v q => by cases q with | p q => exact .p (bs_ps hb _ _ _ q)) ?_
 refine go ?_
 rw [hbv, e31]
 refine K_condF rfl (by simp; omega) ?_
 refine go ?_
 refine K_op rfl rfl (opr_callP rfl rfl (tnew_spec) rfl rfl rfl rfl) rfl ?_
 refine go ?_
 refine K_op rfl rfl (opr_callP rfl rfl (vnew_spec .nil) rfl rfl rfl rfl) rfl ?_
 refine go ?_
 refine K_op rfl rfl (opr_callS [.l 0, .l 1] rfl rfl (onew_spec (VS.new .nil)) rfl rfl rfl ⟨⟨rfl, rfl⟩, ⟨rfl, rfl⟩, trivial⟩ rfl rfl rfl rfl) rfl ?_
 refine go ?_
 refine K_op rfl rfl (opr_callP rfl rfl (tnew_spec) rfl rfl rfl rfl) rfl ?_
 refine go ?_
 refine K_op rfl rfl (opr_callP rfl rfl (vnew_spec .nil) rfl rfl rfl rfl) rfl ?_
 refine go ?_
 refine K_op rfl rfl (opr_callS [.l 3, .l 4] rfl rfl (onew_spec (VS.new .nil)) rfl rfl rfl ⟨⟨rfl, rfl⟩, ⟨rfl, rfl⟩, trivial⟩ rfl rfl rfl rfl) rfl ?_
 refine go ?_
 refine K_op rfl rfl (opr_callP rfl rfl (c1) rfl rfl rfl rfl) rfl ?_
 refine go ?_
 refine K_op rfl rfl (opr_len_rd hT rfl rfl (hrd _ _)) rfl ?_
 rw [hlen]
 refine go ?_
 refine J_loop (fun q : St l => [(1, .p (.int .i64 (fo : Int))), (2, .p (.ps (bv b))), (3, .p (.int .u16 (cn : Int))), (9, .ad (.l 2) 0), (10, .ad (.l 5) 0), (48, .p o'), (49, .p (.int .i64 (l.length : Int))), (50, .p (.int .i64 (q.i : Int)))]) (fun _ => []) (fun q => Lq q.s q.k q.f0) (fun q => l.length - q.i) ⟨0, by omega, VS.new .nil, noH, newM, 0, D20.start⟩ ⟨rfl, rfl, rfl, rfl, rfl, rfl, rfl, rfl, trivial⟩ rfl rfl (fun q => ?_)
 have d := q.d
 have qh := q.h
 obtain ⟨a0, a1, a2, a3, a4, a5, a6, a7, a8, a9, a10, a11, a12, a13, a14, a15, hk⟩ := len16 d.l.1
 rw [hk] at d ⊢
 refine go ?_
 by_cases h : q.i < l.length
 ·have hx : l[q.i]? = some l[q.i] := List.getElem?_eq_getElem h
  have hxo := hok _ (List.getElem_mem h)
  generalize l[q.i] = x at hx hxo
  have hxk : (l.map popV)[((q.i : Nat) : Int).toNat]? = some (popV x) := by rw [Int.toNat_natCast, List.getElem?_map, hx]; rfl
  have co := ownP x.o hxo.l
  obtain ⟨x1, n1, hx1, hn1, c2⟩ := do20_ps d.v (by omega) d.l.1 d.l.2 x.o hxo.o (i := (2 + q.i : Nat)) (by unfold U32; omega) q.f0 (.ps x.o.b)
  have hst := numb d (by omega) x.o
  have hl' := (sdo_l d.l q.s x.o (2 + q.i : Nat)).1
  generalize (sdo q.s [a0, a1, a2, a3, a4, a5, a6, a7, a8, a9, a10, a11, a12, a13, a14, a15] x.o (2 + q.i : Nat)).1 = r at c2 hst hx1 hn1
  generalize (sdo q.s [a0, a1, a2, a3, a4, a5, a6, a7, a8, a9, a10, a11, a12, a13, a14, a15] x.o (2 + q.i : Nat)).2.1 = s2 at c2 hst
  generalize (sdo q.s [a0, a1, a2, a3, a4, a5, a6, a7, a8, a9, a10, a11, a12, a13, a14, a15] x.o (2 + q.i : Nat)).2.2 = k2 at c2 hst hl'
  obtain ⟨b0, b1, b2, b3, b4, b5, b6, b7, b8, b9, b10, b11, b12, b13, b14, b15, rfl⟩ := len16 hl'
  have e37 : IntKind.u32.wrap (IntKind.i64.wrap (2 + (q.i : Int))) = ((2 + q.i : Nat) : Int) := by
   rw [IntWalk.i64_in _ (by omega), u32_in _ (by omega)]; omega
  refine K_condT rfl (decide_eq_true (by omega)) ?_
  refine go ?_
  refine K_op rfl rfl (opr_index hT rfl rfl rfl rfl rfl (hrd _ _) (by omega) (by rw [hlen]; omega)) rfl ?_
  refine go ?_
  refine K_op rfl rfl (opr_load_el hT rfl rfl (hrd _ _) hxk rfl rfl) rfl ?_
  refine J_rep 54 (opT x.o (.p (.ps (bv x.o.b)))) rfl (agg_rep 6 rfl (bs_ps hxo.bs)) ?_
  refine go ?_
  refine K_op rfl rfl (opr_callP rfl rfl (co) rfl rfl rfl rfl) rfl ?_
  refine go ?_
  rw [e37]
  refine K_op rfl rfl (opr_callS [.l 2, .l 0, .l 1] rfl rfl (c2) rfl rfl rfl ⟨⟨rfl, rfl⟩, ⟨rfl, rfl⟩, ⟨rfl, rfl⟩, trivial⟩ rfl rfl rfl rfl) rfl ?_
  refine gx ?_
  by_cases h21 : r.e = 21
  ·refine J_true 64 rfl (by simp [h21]) ?_
   refine go ?_
   refine K_op rfl rfl (opr_callP rfl rfl (fixed20_spec) rfl rfl rfl rfl) rfl ?_
   refine go ?_
   exact J_done hT rfl rfl rfl
  obtain ⟨m2, d2⟩ := hst.resolve_left h21
  refine J_false 64 rfl (by simpa using h21) ?_
  refine gx ?_
  refine K_yes rfl rfl rfl (opr_callP rfl rfl (co) rfl rfl rfl rfl) rfl ?_
  refine gx ?_
  rw [e37]
  refine K_yes rfl rfl rfl (opr_callS [.l 5, .l 3, .l 4] rfl rfl (c2) rfl rfl rfl ⟨⟨rfl, rfl⟩, ⟨rfl, rfl⟩, ⟨rfl, rfl⟩, trivial⟩ rfl rfl rfl rfl) rfl ?_
  refine gx ?_
  refine K_condF rfl (by simpa using h21) ?_
  refine go ?_
  refine J_take 6 [(1, .p (.int .i64 (fo : Int))), (2, .p (.ps (bv b))), (3, .p (.int .u16 (cn : Int))), (9, .ad (.l 2) 0), (10, .ad (.l 5) 0), (48, .p o'), (49, .p (.int .i64 (l.length : Int))), (50, .p (.int .i64 (IntKind.i64.wrap ((q.i : Int) + 1))))] ⟨rfl, rfl, rfl, rfl, rfl, rfl, rfl, rfl, trivial⟩ rfl rfl ?_
  refine J_again ⟨q.i + 1, by omega, s2, [b0, b1, b2, b3, b4, b5, b6, b7, b8, b9, b10, b11, b12, b13, b14, b15], m2, (2 + q.i : Nat), d2⟩ (by show l.length - (q.i + 1) < l.length - q.i; omega) ⟨rfl, rfl, rfl, rfl, rfl, rfl, rfl, congrArg (fun z => TV.p (.int .i64 z)) (by rw [IntWalk.i64_in _ (by omega)]; rfl), trivial⟩ rfl rfl
 refine K_condF rfl (decide_eq_false (by omega)) ?_
 refine gx ?_
 rw [hbv, e81, e78]
 refine K_op rfl rfl (opr_bin hT rfl (remA (by omega))) rfl ?_
 refine J_val 82 (.p (.int .i64 (k : Int))) rfl (congrArg (fun z => TV.p (.int .i64 z)) ek) ?_
 have hk2 : (b.take k).length = k := by rw [List.length_take]; omega
 have hk3 : (b.drop k).length = b.length - k := List.length_drop
 have P := parts20 d fo k b hkb (by omega) (by omega)
 have e92 : cutA ((0 : Int)).toNat ((k : Int)).toNat (.p (.ps (bv b))) = .p (.ps (bv (b.take k))) := by
  show TV.p (.ps (((bv _).drop _).take _)) = _
  rw [bv_drop, bv_take]; simp
 have e101 : cutA ((k : Int)).toNat (((bv b).length : Int)).toNat (.p (.ps (bv b))) = .p (.ps (bv (b.drop k))) := by
  show TV.p (.ps (((bv _).drop _).take _)) = _
  rw [hbv, bv_drop, bv_take, Int.toNat_natCast, Int.toNat_natCast, List.take_of_length_le (by rw [hk3]; exact Nat.le_refl _)]
 have e98 : IntKind.i64.wrap ((fo : Int) + (k : Int)) = ((fo + k : Nat) : Int) := by rw [IntWalk.i64_in _ (by omega)]; omega
 obtain ⟨p1, p2, p3, v5, v6, P⟩ := P
 have ok5 : (w9 fo b).ok := ⟨by show (_ : Int) ≤ 0 ∧ (0 : Int) ≤ _; decide, by show (_ : Int) ≤ (fo : Int) ∧ (fo : Int) ≤ _; omega, by show b.length ≤ _; omega⟩
 have ok6 : (w9 fo (b.take k)).ok := ⟨by show (_ : Int) ≤ 0 ∧ (0 : Int) ≤ _; decide, by show (_ : Int) ≤ (fo : Int) ∧ (fo : Int) ≤ _; omega, by show (b.take k).length ≤ _; omega⟩
 have ok7 : (w9 (fo + k : Nat) (b.drop k)).ok := ⟨by show (_ : Int) ≤ 0 ∧ (0 : Int) ≤ _; decide, by show (_ : Int) ≤ ((fo + k : Nat) : Int) ∧ ((fo + k : Nat) : Int) ≤ _; omega, by show (b.drop k).length ≤ _; omega⟩
 obtain ⟨x5, n5, hx5, hn5, c5⟩ := do20_ps d.v (by omega) d.l.1 d.l.2 (w9 fo b) ok5 (i := 99) (by decide) q.f0 (.ps b)
 obtain ⟨x6, n6, hx6, hn6, c6⟩ := do20_ps d.v (by omega) d.l.1 d.l.2 (w9 fo (b.take k)) ok6 (i := 99) (by decide) q.f0 (.ps (b.take k))
 obtain ⟨x7, n7, hx7, hn7, c7⟩ := do20_ps v6 (by omega) d.l.1 d.l.2 (w9 (fo + k : Nat) (b.drop k)) ok7 (i := 99) (by decide) 99 (.ps (b.drop k))
 rw [p1] at c5
 rw [p2] at c6
 rw [p3] at c7
 clear p1 p2 p3
 generalize sdo (sdo q.s [a0, a1, a2, a3, a4, a5, a6, a7, a8, a9, a10, a11, a12, a13, a14, a15] (w9 fo (b.take k)) 99).2.1 [a0, a1, a2, a3, a4, a5, a6, a7, a8, a9, a10, a11, a12, a13, a14, a15] (w9 (fo + k : Nat) (b.drop k)) 99 = q7 at P c7 hx7 hn7
 generalize sdo q.s [a0, a1, a2, a3, a4, a5, a6, a7, a8, a9, a10, a11, a12, a13, a14, a15] (w9 fo (b.take k)) 99 = q6 at P c6 c7 v6 hx6 hn6
 generalize sdo q.s [a0, a1, a2, a3, a4, a5, a6, a7, a8, a9, a10, a11, a12, a13, a14, a15] (w9 fo b) 99 = q5 at P c5 v5 hx5 hn5
 obtain ⟨r5, s5, _⟩ := q5
 obtain ⟨r6, s6, _⟩ := q6
 obtain ⟨r7, s7, _⟩ := q7
 dsimp only at P c5 c6 c7 v5 v6 hx5 hx6 hx7 hn5 hn6 hn7
 refine gx ?_
 refine K_op rfl rfl (opr_callS [.l 2, .l 0, .l 1] rfl rfl (c5) rfl rfl rfl ⟨⟨rfl, rfl⟩, ⟨rfl, rfl⟩, ⟨rfl, rfl⟩, trivial⟩ rfl rfl rfl rfl) rfl ?_
 refine J_rep 87 (resT r5 (.ps (bv r5.data)) (.ps (r5.names.map .str))) rfl (res_le hx5 hn5) ?_
 refine gx ?_
 refine K_op rfl rfl (opr_at (opr_cut hT rfl rfl rfl rfl (.ps _) rfl rfl (by omega) (by omega) (by rw [hbv]; omega) (bv_size _)) e92) rfl ?_
 refine gx ?_
 refine K_op rfl rfl (opr_callS [.l 5, .l 3, .l 4] rfl rfl (c6) rfl rfl rfl ⟨⟨rfl, rfl⟩, ⟨rfl, rfl⟩, ⟨rfl, rfl⟩, trivial⟩ rfl rfl rfl rfl) rfl ?_
 refine J_rep 94 (resT r6 (.ps (bv r6.data)) (.ps (r6.names.map .str))) rfl (res_le hx6 hn6) ?_
 refine gx ?_
 rw [e98]
 refine K_op rfl rfl (opr_at (opr_cut hT rfl rfl rfl rfl (.ps _) rfl rfl (by omega) (by rw [hbv]; omega) (by omega) (bv_size _)) e101) rfl ?_
 refine gx ?_
 refine K_op rfl rfl (opr_callS [.l 5, .l 3, .l 4] rfl rfl (c7) rfl rfl rfl ⟨⟨rfl, rfl⟩, ⟨rfl, rfl⟩, ⟨rfl, rfl⟩, trivial⟩ rfl rfl rfl rfl) rfl ?_
 refine J_rep 103 (resT r7 (.ps (bv r7.data)) (.ps (r7.names.map .str))) rfl (res_le hx7 hn7) ?_
 refine gx ?_
 by_cases q5 : r5.e = 21
 ·refine J_true 107 rfl (by simp [q5]) ?_
  refine go ?_
  refine K_op rfl rfl (opr_callP rfl rfl (fixed20_spec) rfl rfl rfl rfl) rfl ?_
  refine go ?_
  exact J_done hT rfl rfl rfl
 refine J_false 107 rfl (by simpa using q5) ?_
 refine gx ?_
 by_cases q6 : r6.e = 21
 ·refine J_true 112 rfl (by simp [q6]) ?_
  refine go ?_
  refine K_op rfl rfl (opr_callP rfl rfl (fixed20_spec) rfl rfl rfl rfl) rfl ?_
  refine go ?_
  exact J_done hT rfl rfl rfl
 refine J_false 112 rfl (by simpa using q6) ?_
 refine gx ?_
 by_cases q7 : r7.e = 21
 ·refine K_condT rfl (by simp [q7]) ?_
  refine go ?_
  refine K_op rfl rfl (opr_callP rfl rfl (fixed20_spec) rfl rfl rfl rfl) rfl ?_
  refine go ?_
  exact J_done hT rfl rfl rfl
 refine K_condF rfl (by simpa using q7) ?_
 obtain ⟨f1, f2, f3, f4, f5, hrow, ⟨m', par', R5⟩, v7⟩ := ((P.resolve_left q5).resolve_left q6).resolve_left q7
 have R7 : Rel s7.shown.row m' par' := by rw [hrow]; exact R5
 have e137 : IntKind.i64.wrap (r6.n + r7.n) = r5.n := by rw [← f3]; exact IntWalk.i64_in _ (by omega)
 have ra5 := range_all v5 (by omega) R5
 have ra7 := range_all v7 (by omega) R7
 rw [hrow] at ra7
 have hW : s5.shown.row.length ≤ 1000000 := by rw [row_len]; have := v5.zs; omega
 generalize s5.shown.row = W at ra5 ra7 hW
 have hlk : (kvs W).length = W.length := by simp
 refine gx ?_
 refine J_false 123 rfl (by simp [f1]) ?_
 refine gx ?_
 refine J_false 130 rfl (by simp [f2]) ?_
 refine gx ?_
 rw [e137]
 refine K_condF rfl (by simp) ?_
 refine go ?_
 refine K_op rfl rfl (opr_callS [.l 2, .l 0, .l 1] rfl rfl (view20_spec s5 (l := [a0, a1, a2, a3, a4, a5, a6, a7, a8, a9, a10, a11, a12, a13, a14, a15]) rfl 99) rfl rfl rfl ⟨⟨rfl, rfl⟩, ⟨rfl, rfl⟩, ⟨rfl, rfl⟩, trivial⟩ rfl rfl rfl rfl) rfl ?_
 refine go ?_
 refine K_op rfl rfl (opr_callS [.l 0, .l 1] rfl rfl (ra5) rfl rfl rfl ⟨⟨rfl, rfl⟩, ⟨rfl, rfl⟩, trivial⟩ rfl rfl rfl rfl) rfl ?_
 refine go ?_
 refine K_op rfl rfl (opr_callS [.l 5, .l 3, .l 4] rfl rfl (view20_spec s7 (l := [a0, a1, a2, a3, a4, a5, a6, a7, a8, a9, a10, a11, a12, a13, a14, a15]) rfl 99) rfl rfl rfl ⟨⟨rfl, rfl⟩, ⟨rfl, rfl⟩, ⟨rfl, rfl⟩, trivial⟩ rfl rfl rfl rfl) rfl ?_
 refine go ?_
 refine K_op rfl rfl (opr_callS [.l 3, .l 4] rfl rfl (ra7) rfl rfl rfl ⟨⟨rfl, rfl⟩, ⟨rfl, rfl⟩, trivial⟩ rfl rfl rfl rfl) rfl ?_
 refine go ?_
 refine K_condF rfl (by simp) ?_
 refine go ?_
 refine J_take 0 [(17, .p (.ps (kvs W))), (18, .p (.ps (kvs W))), (152, .p (.int .i64 ((kvs W).length : Int))), (153, .p (.int .i64 0))] ⟨rfl, rfl, rfl, rfl, trivial⟩ rfl rfl ?_
 refine J_loop (fun p : Ix W.length => [(17, .p (.ps (kvs W))), (18, .p (.ps (kvs W))), (152, .p (.int .i64 (W.length : Int))), (153, .p (.int .i64 (p.i : Int)))]) (fun _ => []) (fun _ => []) (fun p => W.length - p.i) ⟨0, by omega⟩ ⟨rfl, rfl, (by rw [← hlk]; rfl), rfl, trivial⟩ rfl rfl (fun p => ?_)
 have hp := p.h
 refine go ?_
 by_cases hlt : p.i < W.length
 ·have hx : W[p.i]? = some W[p.i] := List.getElem?_eq_getElem hlt
  generalize W[p.i] = y at hx
  have hxk : (kvs W)[((p.i : Nat) : Int).toNat]? = some (kvV y) := kvs_get hx
  refine K_condT rfl (decide_eq_true (by omega)) ?_
  refine go ?_
  refine J_draw [_] [] (by kernel_rfl) (by kernel_rfl) rfl ?_
  refine gd ?_
  refine T_opD rfl rfl rfl rfl rfl (opr_index hT rfl rfl rfl rfl rfl (.ps _) (by omega) (by rw [hlk]; omega)) rfl ?_
  refine gd ?_
  refine T_opD rfl rfl rfl rfl rfl (opr_load_el hT rfl rfl (.ps _) hxk rfl rfl) rfl ?_
  refine gd ?_
  refine T_opD rfl rfl rfl rfl rfl (opr_index hT rfl rfl rfl rfl rfl (.ps _) (by omega) (by rw [hlk]; omega)) rfl ?_
  refine gd ?_
  refine T_opD rfl rfl rfl rfl rfl (opr_load_el hT rfl rfl (.ps _) hxk rfl rfl) rfl ?_
  refine gd ?_
  refine T_opD rfl rfl rfl rfl rfl (opr_eqAgg hT rfl (by kernel_rfl) rfl rfl rfl rfl rfl) rfl ?_
  refine gd ?_
  refine K_condF rfl (by simp) ?_
  refine go ?_
  refine J_take 0 [(17, .p (.ps (kvs W))), (18, .p (.ps (kvs W))), (152, .p (.int .i64 (W.length : Int))), (153, .p (.int .i64 (IntKind.i64.wrap ((p.i : Int) + 1))))] ⟨rfl, rfl, rfl, rfl, trivial⟩ rfl rfl ?_
  refine J_again ⟨p.i + 1, by omega⟩ (by show W.length - (p.i + 1) < W.length - p.i; omega) ⟨rfl, rfl, rfl, congrArg (fun z => TV.p (.int .i64 z)) (by rw [IntWalk.i64_in _ (by omega)]; rfl), trivial⟩ rfl rfl
 refine K_condF rfl (decide_eq_false (by omega)) ?_
 refine go ?_
 refine K_op rfl rfl (opr_callP rfl rfl (fixed20_spec) rfl rfl rfl rfl) rfl ?_
 refine go ?_
 exact J_done hT rfl rfl rfl
end opsParts
end Go.Proofs.YtdkegmmigongoaaGreatDoor

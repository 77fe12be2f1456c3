import Derived.Test.YtdkegmmigongoaaGreatDoorGo
import Derived.Test.YtdkegmmigongoaaGreatDoorM31
namespace Go.Proofs.YtdkegmmigongoaaGreatDoor
set_option maxRecDepth 20000
open Go.Awp Tr
namespace opsNumbers
theorem ownN (o : Op20) (hl : o.b.length ≤ 140737488351232) : Con Tryz.prog 16 [oA20 o (.ps (bv o.b))] [] (opT o (.p (.ps (bv o.b)))) [] [] := own_ps o (.ps o.b) hl
abbrev Ln (s : VS) (k : List Int) (f : Int) (t : VS) (k2 : List Int) (f2 : Int) : List AObj := [vB (.l 1) s.base s.shown s.writes s.reads s.ranges.length, vR s.ranges, deskB (.l 0) k f, vB (.l 4) t.base t.shown t.writes t.reads t.ranges.length, vR t.ranges, deskB (.l 3) k2 f2]
set_option maxHeartbeats 64000000 in
theorem con {a0 a1 : AV} (s0 : Shp tab 8 22 a0) (s1 : Shp tab 8 23 a1) : Con Tryz.prog 3 [.p a0, .p a1] [] (.p (.bool true)) [] [] := by
 obtain ⟨lo, hlo, hok, hlo2⟩ := ops_shp20 s0
 obtain ⟨o', ho', c1⟩ := cut20_spec hlo hok hlo2
 have l60 := cut20_len (l := lo)
 have hok : ∀ x ∈ lo.take (cutG stop20 lo 0), x.ok := fun x hx => hok x (List.mem_of_mem_take hx)
 generalize lo.take (cutG stop20 lo 0) = l at ho' l60 hok
 obtain ⟨ct, rfl, hct⟩ := s1.int rfl
 change 0 ≤ ct ∧ ct ≤ 65535 at hct
 obtain ⟨cn, rfl⟩ : ∃ n : Nat, ct = (n : Int) := ⟨ct.toNat, by omega⟩
 have hrd := ho'.rd
 have hlen : (l.map popV).length = l.length := by simp
 obtain ⟨g, hg, hgj⟩ := tn_ex cn (by omega)
 have e0 : D20 (VS.new .nil) (noH.map g) (renM g newM) (P2 cn 0) 0 := by
  rw [newM_ren hg, show noH.map g = noH by unfold noH; rw [List.map_replicate, hg.h0]]
  exact D20.new (by show (1 : Int) < 2 ∨ _; exact .inl (by decide))
 have en : noH.map g = noH := by unfold noH; rw [List.map_replicate, hg.h0]
 refine con_of Tryz.func3 rfl (by kernel_rfl) rfl fun F w0 β0 => ?_
 refine K_tell rfl ?_
 refine go ?_
 refine K_op rfl rfl (opr_callP rfl rfl (tnew_spec) rfl rfl rfl rfl) rfl ?_
 refine go ?_
 refine K_op rfl rfl (opr_callP rfl rfl (vnew_spec .nil) rfl rfl rfl rfl) rfl ?_
 refine go ?_
 refine K_op rfl rfl (opr_callS [.l 0, .l 1] rfl rfl (onew_spec (VS.new .nil)) rfl rfl rfl ⟨⟨rfl, rfl⟩, ⟨rfl, rfl⟩, trivial⟩ rfl rfl rfl rfl) rfl ?_
 refine go ?_
 refine K_op rfl rfl (opr_callP rfl rfl (tnew_spec) rfl rfl rfl rfl) rfl ?_
 refine go ?_
 refine K_op rfl rfl (opr_callP rfl rfl (vnew_spec .nil) rfl rfl rfl rfl) rfl ?_
 refine go ?_
 refine K_op rfl rfl (opr_callS [.l 3, .l 4] rfl rfl (onew_spec (VS.new .nil)) rfl rfl rfl ⟨⟨rfl, rfl⟩, ⟨rfl, rfl⟩, trivial⟩ rfl rfl rfl rfl) rfl ?_
 refine go ?_
 refine K_op rfl rfl (opr_callP rfl rfl (c1) rfl rfl rfl rfl) rfl ?_
 refine go ?_
 refine K_op rfl rfl (opr_len_rd hT rfl rfl (hrd _ _)) rfl ?_
 rw [hlen]
 refine go ?_
 refine J_loop (fun q : St g cn l => [(1, .p (.int .u16 (cn : Int))), (5, .ad (.l 2) 0), (6, .ad (.l 5) 0), (24, .p o'), (25, .p (.int .i64 (l.length : Int))), (26, .p (.int .i64 (q.i : Int)))]) (fun _ => []) (fun q => Ln q.s q.k q.f q.t (q.k.map g) q.f2) (fun q => l.length - q.i) ⟨0, by omega, VS.new .nil, noH, newM, 0, VS.new .nil, 0, D20.start, e0⟩ ⟨rfl, rfl, rfl, rfl, rfl, rfl, trivial⟩ rfl (by show Ln _ noH 0 _ (noH.map g) 0 = _; rw [en]; rfl) (fun q => ?_)
 have d := q.d
 have e := q.e
 have qh := q.h
 obtain ⟨a0, a1, a2, a3, a4, a5, a6, a7, a8, a9, a10, a11, a12, a13, a14, a15, hk⟩ := len16 d.l.1
 rw [hk] at d e ⊢
 refine go ?_
 by_cases h : q.i < l.length
 ·have hx : l[q.i]? = some l[q.i] := List.getElem?_eq_getElem h
  have hxo := hok _ (List.getElem_mem h)
  generalize l[q.i] = x at hx hxo
  have hxk : (l.map popV)[((q.i : Nat) : Int).toNat]? = some (popV x) := by rw [Int.toNat_natCast, List.getElem?_map, hx]; rfl
  have co := ownN x.o hxo.l
  have hu2 : U32 (tn cn q.i) := by unfold tn U32; omega
  obtain ⟨x1, n1, hx1, hn1, c2⟩ := do20_ps d.v (by omega) d.l.1 d.l.2 x.o hxo.o (i := (2 + q.i : Nat)) (by unfold U32; omega) q.f (.ps x.o.b)
  obtain ⟨x2, n2, hx2, hn2, c3⟩ := do20_ps e.v (by omega) e.l.1 e.l.2 x.o hxo.o (i := tn cn q.i) hu2 q.f2 (.ps x.o.b)
  have hst := both hg (by omega) (hgj q.i (by omega)) (by omega) d e x.o
  have hl' := (sdo_l d.l q.s x.o (2 + q.i : Nat)).1
  have hl2 := (sdo_l e.l q.t x.o (tn cn q.i)).1
  generalize sdo q.s [a0, a1, a2, a3, a4, a5, a6, a7, a8, a9, a10, a11, a12, a13, a14, a15] x.o (2 + q.i : Nat) = q1 at c2 hst hx1 hn1 hl'
  generalize sdo q.t ([a0, a1, a2, a3, a4, a5, a6, a7, a8, a9, a10, a11, a12, a13, a14, a15].map g) x.o (tn cn q.i) = q2 at c3 hst hx2 hn2 hl2
  obtain ⟨r, s2, k2⟩ := q1
  obtain ⟨r', t2, k3⟩ := q2
  dsimp only at c2 c3 hst hx1 hn1 hx2 hn2 hl' hl2
  obtain ⟨b0, b1, b2, b3, b4, b5, b6, b7, b8, b9, b10, b11, b12, b13, b14, b15, rfl⟩ := len16 hl'
  obtain ⟨e0, e1, e2, e3, e4, e5, e6, e7, e8, e9, e10, e11, e12, e13, e14, e15, rfl⟩ := len16 hl2
  have e37 : IntKind.u32.wrap (IntKind.i64.wrap (2 + (q.i : Int))) = ((2 + q.i : Nat) : Int) := by
   rw [IntWalk.i64_in _ (by omega), u32_in _ (by omega)]; omega
  have e49 : IntKind.u32.wrap (IntKind.u32.wrap (IntKind.i64.wrap (2 + IntKind.i64.wrap (cn : Int))) + IntKind.u32.wrap (IntKind.i64.wrap (7 * IntKind.i64.wrap (100 - (q.i : Int))))) = tn cn q.i := by
   rw [IntWalk.i64_in (cn : Int) (by omega), IntWalk.i64_in (2 + (cn : Int)) (by omega), IntWalk.i64_in (100 - (q.i : Int)) (by omega), IntWalk.i64_in (7 * (100 - (q.i : Int))) (by omega), u32_in (2 + (cn : Int)) (by omega), u32_in (7 * (100 - (q.i : Int))) (by omega), u32_in _ (by omega)]
   rfl
  refine K_condT rfl (decide_eq_true (by omega)) ?_
  refine go ?_
  refine K_op rfl rfl (opr_index hT rfl rfl rfl rfl rfl (hrd _ _) (by omega) (by rw [hlen]; omega)) rfl ?_
  refine go ?_
  refine K_op rfl rfl (opr_load_el hT rfl rfl (hrd _ _) hxk rfl rfl) rfl ?_
  refine J_rep 30 (opT x.o (.p (.ps (bv x.o.b)))) rfl (agg_rep 6 rfl (bs_ps hxo.bs)) ?_
  refine go ?_
  refine K_op rfl rfl (opr_callP rfl rfl (co) rfl rfl rfl rfl) rfl ?_
  refine go ?_
  rw [e37]
  refine K_op rfl rfl (opr_callS [.l 2, .l 0, .l 1] rfl rfl (c2) rfl rfl rfl ⟨⟨rfl, rfl⟩, ⟨rfl, rfl⟩, ⟨rfl, rfl⟩, trivial⟩ rfl rfl rfl rfl) rfl ?_
  refine J_rep 37 (resT r (.ps (bv r.data)) (.ps (r.names.map .str))) rfl (res_le hx1 hn1) ?_
  refine go ?_
  refine K_op rfl rfl (opr_callP rfl rfl (co) rfl rfl rfl rfl) rfl ?_
  refine go ?_
  rw [e49]
  refine K_op rfl rfl (opr_callS [.l 5, .l 3, .l 4] rfl rfl (c3) rfl rfl rfl ⟨⟨rfl, rfl⟩, ⟨rfl, rfl⟩, ⟨rfl, rfl⟩, trivial⟩ rfl rfl rfl rfl) rfl ?_
  refine J_rep 50 (resT r' (.ps (bv r'.data)) (.ps (r'.names.map .str))) rfl (res_le hx2 hn2) ?_
  refine gx ?_
  by_cases h1 : r.e = 21
  ·refine J_true 54 rfl (by simp [h1]) ?_
   refine go ?_
   refine K_op rfl rfl (opr_callP rfl rfl (fixed20_spec) rfl rfl rfl rfl) rfl ?_
   refine go ?_
   exact J_done hT rfl rfl rfl
  refine J_false 54 rfl (by simpa using h1) ?_
  refine gx ?_
  by_cases h2 : r'.e = 21
  ·refine K_condT rfl (by simp [h2]) ?_
   refine go ?_
   refine K_op rfl rfl (opr_callP rfl rfl (fixed20_spec) rfl rfl rfl rfl) rfl ?_
   refine go ?_
   exact J_done hT rfl rfl rfl
  refine K_condF rfl (by simpa using h2) ?_
  obtain ⟨rfl, hnm, m', d2, e2, hk3⟩ := (hst.resolve_left h1).resolve_left h2
  refine go ?_
  refine K_op rfl rfl (opr_callP rfl rfl (same20_spec _ (.ps _) (.ps _) (.ps _) (.ps _) (by unfold big40; omega)) rfl rfl rfl rfl) rfl ?_
  refine go ?_
  refine J_take 6 [(1, .p (.int .u16 (cn : Int))), (5, .ad (.l 2) 0), (6, .ad (.l 5) 0), (24, .p o'), (25, .p (.int .i64 (l.length : Int))), (26, .p (.int .i64 (IntKind.i64.wrap ((q.i : Int) + 1))))] ⟨rfl, rfl, rfl, rfl, rfl, rfl, trivial⟩ rfl rfl ?_
  rw [hk3] at e2
  refine J_again ⟨q.i + 1, by omega, s2, [b0, b1, b2, b3, b4, b5, b6, b7, b8, b9, b10, b11, b12, b13, b14, b15], m', (2 + q.i : Nat), t2, tn cn q.i, d2, e2⟩ (by show l.length - (q.i + 1) < l.length - q.i; omega) ⟨rfl, rfl, rfl, rfl, rfl, congrArg (fun z => TV.p (.int .i64 z)) (by rw [IntWalk.i64_in _ (by omega)]; rfl), trivial⟩ rfl (by show Ln _ _ _ _ ([b0, b1, b2, b3, b4, b5, b6, b7, b8, b9, b10, b11, b12, b13, b14, b15].map g) _ = _; rw [← hk3]; rfl)
 refine K_condF rfl (decide_eq_false (by omega)) ?_
 refine go ?_
 refine K_op rfl rfl (opr_callP rfl rfl (fixed20_spec) rfl rfl rfl rfl) rfl ?_
 refine go ?_
 exact J_done hT rfl rfl rfl
end opsNumbers
end Go.Proofs.YtdkegmmigongoaaGreatDoor

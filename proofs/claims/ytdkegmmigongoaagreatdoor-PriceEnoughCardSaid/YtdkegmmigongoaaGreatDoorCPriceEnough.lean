import Derived.Test.YtdkegmmigongoaaGreatDoorM31
import Derived.Test.YtdkegmmigongoaaGreatDoorM34
import Derived.Test.YtdkegmmigongoaaGreatDoorM21
namespace Go.Proofs.YtdkegmmigongoaaGreatDoor
set_option maxRecDepth 20000
open Go.Awp Tr
namespace priceEnough
structure St where
 i : Nat
 h6 : i ≤ 60
 s : VS
 k : List Int
 m : MF
 fr : Int
 f0 : Int
 b : 2 ≤ fr ∧ fr ≤ 2 + i
 d : D20 s k m (· < fr) i
 n : m.nd
structure Ix2 (n : Nat) where
 q : St
 h : q.i ≤ n
abbrev Lp (s : VS) (k : List Int) (f0 : Int) (m : MF) (fr : Int) : List AObj := [vB (.l 1) s.base s.shown s.writes s.reads s.ranges.length, vR s.ranges, deskB (.l 0) k f0, deB m k fr]
theorem lo_of {s : VS} {k : List Int} {m : MF} {P : Int → Prop} {i : Nat} (d : D20 s k m P i) (hi : i ≤ 60) : m.lo 1000 := by
 obtain ⟨par, R⟩ := d.r
 refine ⟨Nat.le_trans d.w.l (by omega), fun x hx => Nat.le_trans (d.w.e x hx) (by omega), fun x hx => ?_, fun x hx y hy => ?_⟩
 ·have hat := R.fst x hx
  rcases R.kin _ _ hat with q | q
  ·rw [q.2]; exact Nat.zero_le _
  ·exact (R.bl hat q.1).1
 ·have hat := R.fst x hx
  have hr : Rises x.e := by rw [R.ent _ _ hat]; exact sub_rises R.ri
  obtain ⟨hn, _⟩ := R.nam _ _ hat y.1 y.2 ((lget_some hr).2 hy)
  have := nameB_len hn
  omega
theorem key_len {l : List KV} {m : MF} {par : Int → Int} (R : Rel l m par) {y : KV} (hy : y ∈ l) : y.1.length ≤ 1000 ∧ y.2.length ≤ 1000 := by
 obtain ⟨c, j, r, hc, hj, hk⟩ := R.key y hy
 have hmem : (r, y.2) ∈ subL c j l := sub_mem.2 (by rw [← hk]; exact hy)
 have hl : y.1.length = 5 + r.length := by rw [hk, List.length_append, keyH_len]
 rcases hc with ⟨rfl, rfl⟩ | rfl | rfl
 ·cases hm : m.at j with
  | none =>
   rw [List.append_nil] at hk
   have h2 := (lget_some R.ri).2 (show (y.1, y.2) ∈ l from hy)
   rw [hk, R.non j hj hm] at h2; cases h2
  | some x =>
   have hn := R.nod j x hm
   rw [List.append_nil] at hk
   have h2 := (lget_some R.ri).2 (show (y.1, y.2) ∈ l from hy)
   rw [hk] at h2
   rw [h2] at hn
   change getNode y.2 = _ at hn
   have h13 := (getNode_some hn).1
   simp at hl
   omega
 ·cases hm : m.at j with
  | none => rw [R.eno j hj hm] at hmem; cases hmem
  | some x =>
   rw [← R.ent j x hm] at hmem
   have hr : Rises x.e := by rw [R.ent _ _ hm]; exact sub_rises R.ri
   obtain ⟨hn, c, z, hv, _⟩ := R.nam _ _ hm r y.2 ((lget_some hr).2 hmem)
   have := nameB_len hn
   rw [hv, beB_len]
   omega
 ·cases hm : m.at j with
  | none => rw [R.bno j hj hm] at hmem; cases hmem
  | some x =>
   rw [R.blk j x hm] at hmem
   obtain ⟨q1, q2⟩ := blkOf_val hmem
   dsimp only at q1 q2
   omega
set_option maxHeartbeats 32000000 in
theorem con {u0 : AV} (s0 : Shp tab 8 22 u0) : Con Tryz.prog 8 [.p u0] [] (.p (.bool true)) [] [] := by
 obtain ⟨l, hs, hok, hl2⟩ := ops_shp20 s0
 have hrd := hs.rd
 have hlen : (l.map popV).length = l.length := by simp
 refine con_of Tryz.func8 rfl (by kernel_rfl) rfl fun F w0 β0 => ?_
 refine K_tell rfl ?_
 refine go ?_
 refine K_op rfl rfl (opr_callP rfl rfl (tnew_spec) rfl rfl rfl rfl) rfl ?_
 refine go ?_
 refine K_op rfl rfl (opr_callP rfl rfl (vnew_spec .nil) rfl rfl rfl rfl) rfl ?_
 refine go ?_
 refine K_op rfl rfl (opr_callS [.l 0, .l 1] rfl rfl (onew_spec (VS.new .nil)) rfl rfl rfl ⟨⟨rfl, rfl⟩, ⟨rfl, rfl⟩, trivial⟩ rfl rfl rfl rfl) rfl ?_
 refine go ?_
 refine K_op rfl rfl (opr_callP rfl rfl (rnew18_spec) rfl rfl rfl rfl) rfl ?_
 refine go ?_
 refine K_op rfl rfl (opr_callP rfl rfl (rnew20_spec) rfl rfl rfl rfl) rfl ?_
 refine go ?_
 refine K_op rfl rfl (opr_len_rd hT rfl rfl (hrd _ _)) rfl ?_
 rw [hlen]
 refine go ?_
 refine J_midB (α := St) (fun q => [(3, .ad (.l 0) 0), (5, .ad (.l 3) 0)]) (fun _ => []) (fun q => Lp q.s q.k q.f0 q.m q.fr) ?_ ?_
 ·refine J_loop (fun q : Ix2 l.length => [(3, .ad (.l 0) 0), (4, .ad (.l 2) 0), (5, .ad (.l 3) 0), (20, .p u0), (21, .p (.int .i64 (l.length : Int))), (22, .p (.int .i64 (q.q.i : Int)))]) (fun _ => []) (fun q => Lp q.q.s q.q.k q.q.f0 q.q.m q.q.fr) (fun q => l.length - q.q.i) ⟨⟨0, by omega, VS.new .nil, noH, newM, 2, 0, by omega, D20.start, newM_nd⟩, Nat.zero_le _⟩ ⟨rfl, rfl, rfl, rfl, rfl, rfl, trivial⟩ rfl rfl (fun z => ?_)
  have b := z.q.b
  have d := z.q.d
  have h6 := z.q.h6
  have qh := z.h
  obtain ⟨a0, a1, a2, a3, a4, a5, a6, a7, a8, a9, a10, a11, a12, a13, a14, a15, hk⟩ := len16 d.l.1
  rw [hk] at d ⊢
  refine go ?_
  by_cases h : z.q.i < l.length
  ·have hx : l[z.q.i]? = some l[z.q.i] := List.getElem?_eq_getElem h
   have hxo := hok _ (List.getElem_mem h)
   generalize l[z.q.i] = x at hx hxo
   have hxk : (l.map popV)[((z.q.i : Nat) : Int).toNat]? = some (popV x) := by rw [Int.toNat_natCast, List.getElem?_map, hx]; rfl
   have cg := great_spec x.o (.ps x.o.b)
   refine K_condT rfl (decide_eq_true (by omega)) ?_
   refine go ?_
   refine K_op rfl rfl (opr_index hT rfl rfl rfl rfl rfl (hrd _ _) (by omega) (by rw [hlen]; omega)) rfl ?_
   refine go ?_
   refine K_op rfl rfl (opr_load_el hT rfl rfl (hrd _ _) hxk rfl rfl) rfl ?_
   refine J_rep 26 (opT x.o (.p (.ps (bv x.o.b)))) rfl (agg_rep 6 rfl (bs_ps hxo.bs)) ?_
   refine gx ?_
   by_cases h60 : 60 ≤ z.q.i
   ·refine J_true 29 rfl (decide_eq_true (by omega)) ?_
    refine go ?_
    refine J_take 4 [(3, .ad (.l 0) 0), (5, .ad (.l 3) 0)] ⟨rfl, rfl, trivial⟩ rfl rfl ?_
    exact J_end z.q ⟨rfl, rfl, trivial⟩ rfl (by rw [hk]; rfl)
   refine J_false 29 rfl (decide_eq_false (by omega)) ?_
   refine gx ?_
   refine K_yes rfl rfl rfl (opr_callP rfl rfl (cg) rfl rfl rfl rfl) rfl ?_
   generalize great x.o = g
   cases g with
   | true =>
    refine go ?_
    refine J_take 4 [(3, .ad (.l 0) 0), (5, .ad (.l 3) 0)] ⟨rfl, rfl, trivial⟩ rfl rfl ?_
    exact J_end z.q ⟨rfl, rfl, trivial⟩ rfl (by rw [hk]; rfl)
   | false =>
    obtain ⟨x1, n1, hx1, hn1, c2⟩ := do20_ps d.v (by omega) d.l.1 d.l.2 x.o hxo.o (i := z.q.fr) (by unfold U32; omega) z.q.f0 (.ps x.o.b)
    obtain ⟨x2, n2, hx2, hn2, c3⟩ := rdo20 (d.asked (by omega) z.q.fr (by omega)) x.o hxo.o (.ps x.o.b)
    have hst := d.stepF (by omega) x.o b.1 (by omega)
    have hbd := mfr_bd z.q.m [a0, a1, a2, a3, a4, a5, a6, a7, a8, a9, a10, a11, a12, a13, a14, a15] x.o z.q.fr
    have hl' := (sdo_l d.l z.q.s x.o z.q.fr).1
    have hnd := mdo_nd z.q.n [a0, a1, a2, a3, a4, a5, a6, a7, a8, a9, a10, a11, a12, a13, a14, a15] x.o z.q.fr
    generalize (sdo z.q.s [a0, a1, a2, a3, a4, a5, a6, a7, a8, a9, a10, a11, a12, a13, a14, a15] x.o z.q.fr).1 = r at c2 hst hx1 hn1
    generalize (sdo z.q.s [a0, a1, a2, a3, a4, a5, a6, a7, a8, a9, a10, a11, a12, a13, a14, a15] x.o z.q.fr).2.1 = s2 at c2 hst
    generalize (sdo z.q.s [a0, a1, a2, a3, a4, a5, a6, a7, a8, a9, a10, a11, a12, a13, a14, a15] x.o z.q.fr).2.2 = k2 at c2 hst hl'
    generalize mfr z.q.m [a0, a1, a2, a3, a4, a5, a6, a7, a8, a9, a10, a11, a12, a13, a14, a15] x.o z.q.fr = fr2 at c3 hst hbd
    generalize (mdo z.q.m [a0, a1, a2, a3, a4, a5, a6, a7, a8, a9, a10, a11, a12, a13, a14, a15] x.o z.q.fr).1 = r2 at c3 hst hx2 hn2
    generalize (mdo z.q.m [a0, a1, a2, a3, a4, a5, a6, a7, a8, a9, a10, a11, a12, a13, a14, a15] x.o z.q.fr).2.1 = m2 at c3 hst hnd
    generalize (mdo z.q.m [a0, a1, a2, a3, a4, a5, a6, a7, a8, a9, a10, a11, a12, a13, a14, a15] x.o z.q.fr).2.2 = k3 at c3 hst
    obtain ⟨b0, b1, b2, b3, b4, b5, b6, b7, b8, b9, b10, b11, b12, b13, b14, b15, rfl⟩ := len16 hl'
    refine go ?_
    refine K_op rfl rfl (opr_callS [.l 2, .l 0, .l 1] rfl rfl (c2) rfl rfl rfl ⟨⟨rfl, rfl⟩, ⟨rfl, rfl⟩, ⟨rfl, rfl⟩, trivial⟩ rfl rfl rfl rfl) rfl ?_
    refine go ?_
    by_cases h21 : r.e = 21
    ·refine K_condT rfl (by simp [h21]) ?_
     refine go ?_
     refine K_op rfl rfl (opr_callP rfl rfl ((fixed23_spec [])) rfl rfl rfl rfl) rfl ?_
     refine go ?_
     exact J_done hT rfl rfl rfl
    obtain ⟨rfl, hk3, d2⟩ := hst.resolve_left h21
    refine K_condF rfl (by simpa using h21) ?_
    refine go ?_
    rw [← hk3] at c3
    refine K_op rfl rfl (opr_callP rfl rfl (c3) rfl rfl rfl rfl) rfl ?_
    refine go ?_
    refine J_take 4 [(3, .ad (.l 0) 0), (4, .ad (.l 2) 0), (5, .ad (.l 3) 0), (20, .p u0), (21, .p (.int .i64 (l.length : Int))), (22, .p (.int .i64 (IntKind.i64.wrap ((z.q.i : Int) + 1))))] ⟨rfl, rfl, rfl, rfl, rfl, rfl, trivial⟩ rfl rfl ?_
    refine J_again ⟨⟨z.q.i + 1, by omega, s2, _, m2, fr2, z.q.fr, by omega, d2, hnd⟩, by dsimp only; omega⟩ (by show l.length - (z.q.i + 1) < l.length - z.q.i; omega) ⟨rfl, rfl, rfl, rfl, rfl, congrArg (fun z => TV.p (.int .i64 z)) (by rw [IntWalk.i64_in _ (by omega)]; rfl), trivial⟩ rfl rfl
  ·refine K_condF rfl (decide_eq_false (by omega)) ?_
   refine go ?_
   exact J_end z.q ⟨rfl, rfl, trivial⟩ rfl (by rw [hk]; rfl)
 intro q
 have d := q.d
 have h6 := q.h6
 have hlo := lo_of d h6
 obtain ⟨par, R⟩ := d.r
 have hv := d.v
 have ha := prc_all R q.n
 have hz := isz_all R q.n
 have c4 := range_all hv (by omega) R
 have hkl : ∀ y ∈ q.s.shown.row, y.1.length ≤ 1000 ∧ y.2.length ≤ 1000 := fun y hy => key_len R hy
 have hR := R.ri
 have hrl : q.s.shown.row.length ≤ 12000 := by have := hv.zs; rw [row_len]; omega
 have hpt := ptree_sum (l := q.s.shown.row) (by omega)
 have c6 := rofM_spec hlo (by omega)
 obtain ⟨a0, a1, a2, a3, a4, a5, a6, a7, a8, a9, a10, a11, a12, a13, a14, a15, hk⟩ := len16 d.l.1
 rw [hk]
 generalize q.s.range [] [255] = s0 at c4
 generalize q.s.shown.row = B at c4 hz ha hkl hR hrl hpt
 have hlk : (kvs B).length = B.length := by simp
 have hsz0 := foldT_size B hR
 have hrow : (B.foldl putT .nil).row = B := by
  rw [(putT_ok B .nil (by simp [row, Rises])).2]
  exact put_all B [] (by simpa using hR)
 refine go ?_
 refine K_op rfl rfl (opr_callP rfl rfl (tnew_spec) rfl rfl rfl rfl) rfl ?_
 refine go ?_
 refine K_op rfl rfl (opr_callS [.l 0, .l 1] rfl rfl (c4) rfl rfl rfl ⟨⟨rfl, rfl⟩, ⟨rfl, rfl⟩, trivial⟩ rfl rfl rfl rfl) rfl ?_
 refine go ?_
 rw [hlk]
 refine go ?_
 refine J_loop (fun p : Ix B.length => [(5, .ad (.l 3) 0), (8, W ((B.take p.i).foldl putT .nil)), (9, .p (.int .i64 (sumF isY (B.take p.i)))), (50, .p (.ps (kvs B))), (51, .p (.int .i64 (B.length : Int))), (52, .p (.int .i64 (p.i : Int)))]) (fun _ => []) (fun _ => [vB (.l 1) s0.base s0.shown s0.writes s0.reads s0.ranges.length, vR s0.ranges, deskB (.l 0) [a0, a1, a2, a3, a4, a5, a6, a7, a8, a9, a10, a11, a12, a13, a14, a15] q.f0, deB q.m [a0, a1, a2, a3, a4, a5, a6, a7, a8, a9, a10, a11, a12, a13, a14, a15] q.fr]) (fun p => B.length - p.i) ⟨0, by omega⟩ ⟨rfl, rfl, rfl, rfl, rfl, rfl, trivial⟩ rfl rfl (fun p => ?_)
 have hi := p.h
 have hsz := foldT_size (B.take p.i) (List.Pairwise.sublist (List.take_sublist _ _) hR)
 refine go ?_
 by_cases h : p.i < B.length
 ·have hx : B[p.i]? = some B[p.i] := List.getElem?_eq_getElem h
  generalize B[p.i] = x at hx
  have hxk : (kvs B)[((p.i : Nat) : Int).toNat]? = some (kvV x) := kvs_get hx
  have e2 := putT_take hx
  have c3 := tset_spec x.1 x.2 ((B.take p.i).foldl putT .nil) (by rw [hsz, List.length_take]; unfold big40; omega)
  change Con Tryz.prog _ _ _ (W (putT ((B.take p.i).foldl putT .nil) x)) _ _ at c3
  rw [e2] at c3
  have c5 := rsz_spec x.1 x.2
  have hnx := sumF_take isY hx
  have hb1 : ∀ y, 0 ≤ isY y ∧ isY y ≤ 144 := fun y => isz_b y.1 y.2
  have hb2 : sumF isY (B.take p.i) ≤ 144 * ((B.take p.i).length : Int) := sumF_len fun y _ => (hb1 y).2
  have hb3 : 0 ≤ sumF isY (B.take p.i) := sumF_nonneg fun y _ => (hb1 y).1
  have hb4 := hb1 x
  have hb5 := List.length_take_le p.i B
  refine K_condT rfl (decide_eq_true (by omega)) ?_
  refine go ?_
  refine K_op rfl rfl (opr_index hT rfl rfl rfl rfl rfl (.ps _) (by omega) (by rw [hlk]; omega)) rfl ?_
  refine go ?_
  refine K_op rfl rfl (opr_load_el hT rfl rfl (.ps _) hxk rfl rfl) rfl ?_
  refine go ?_
  refine K_op rfl rfl (opr_callP rfl rfl (c3) rfl rfl rfl rfl) rfl ?_
  refine go ?_
  refine K_op rfl rfl (opr_callP rfl rfl (c5) rfl rfl rfl rfl) rfl ?_
  refine go ?_
  refine J_take 4 [(5, .ad (.l 3) 0), (8, W ((B.take (p.i + 1)).foldl putT .nil)), (9, .p (.int .i64 (IntKind.i64.wrap (sumF isY (B.take p.i) + isz x.1 x.2)))), (50, .p (.ps (kvs B))), (51, .p (.int .i64 (B.length : Int))), (52, .p (.int .i64 (IntKind.i64.wrap ((p.i : Int) + 1))))] ⟨rfl, rfl, rfl, rfl, rfl, rfl, trivial⟩ rfl rfl ?_
  refine J_again ⟨p.i + 1, by omega⟩ (by show B.length - (p.i + 1) < B.length - p.i; omega) ⟨rfl, rfl, congrArg (fun z => TV.p (.int .i64 z)) (by rw [hnx]; exact IntWalk.i64_in _ (by unfold isY at *; omega)), rfl, rfl, congrArg (fun z => TV.p (.int .i64 z)) (by rw [IntWalk.i64_in _ (by omega)]; rfl), trivial⟩ rfl rfl
 refine K_condF rfl (decide_eq_false (by omega)) ?_
 rw [List.take_of_length_le (show B.length ≤ p.i by omega)]
 have c7 := ptree_specL (B.foldl putT .nil) (by rw [hsz0]; omega) (by rw [hrow]; exact hkl)
 rw [hrow, hpt, ha] at c7
 generalize sumF isY B = need at hz
 have c8 := fixed23_spec []
 have e1 : TV.p (.bool (q.m.of == q.m.of)) = .p (.bool true) := by simp
 have e2 : TV.p (.bool (decide (need ≤ q.m.of))) = .p (.bool true) := by rw [decide_eq_true hz]
 refine go ?_
 refine J_draw [_] [] (by kernel_rfl) (by kernel_rfl) rfl ?_
 refine gd ?_
 refine T_opD rfl rfl rfl rfl rfl (opr_call0P rfl rfl c8 rfl rfl rfl) rfl ?_
 refine gd ?_
 refine T_yesD rfl rfl rfl rfl rfl rfl (opr_call0P rfl rfl c7 rfl rfl rfl) rfl ?_
 refine gd ?_
 refine T_yesD rfl rfl rfl rfl rfl rfl (opr_call0P rfl rfl c6 rfl rfl rfl) rfl ?_
 refine T_yesD rfl rfl rfl rfl rfl rfl (opr_at (stepN_ok hT rfl) e1) rfl ?_
 refine gd ?_
 refine T_yesD rfl rfl rfl rfl rfl rfl (opr_call0P rfl rfl c7 rfl rfl rfl) rfl ?_
 refine T_yesD rfl rfl rfl rfl rfl rfl (opr_at (stepN_ok hT rfl) e2) rfl ?_
 refine gd ?_
 refine go ?_
 exact J_done hT rfl rfl rfl
end priceEnough
end Go.Proofs.YtdkegmmigongoaaGreatDoor

import Derived.Test.YtdkegmmigongoaaGreatDoorGo
import Derived.Test.YtdkegmmigongoaaGreatDoorM31
namespace Go.Proofs.YtdkegmmigongoaaGreatDoor
set_option maxRecDepth 20000
open Go.Awp Tr
namespace opsPlays
structure St (l : List POp) where
 i : Nat
 h : i ≤ l.length
 s : VS
 k : List Int
 m : MF
 fr : Int
 f0 : Int
 b : 2 ≤ fr ∧ fr ≤ 2 + i
 d : D20 s k m (· < fr) i
theorem openL_len : ∀ (k : List Int) (i : Nat), (openL k i).length ≤ k.length
 | [], _ => Nat.le_refl _
 | x :: r, i => by
  rw [openL_cons]
  have := openL_len r (i + 1)
  split
  ·rw [List.length_cons]; omega
  ·rw [List.length_cons, List.length_cons]; omega
structure Hd2 (k : List Int) where
 i : Nat
 n : Nat
 h : i ≤ k.length
 hn : n ≤ i
 hn2 : n ≤ (openL k 0).length
 e : (openL k 0).drop n = openL (k.drop i) i
abbrev Lp (s : VS) (k : List Int) (f0 : Int) (m : MF) (fr : Int) : List AObj := [vB (.l 1) s.base s.shown s.writes s.reads s.ranges.length, vR s.ranges, deskB (.l 0) k f0, deB m k fr]
set_option maxHeartbeats 32000000 in
theorem con {a0 : AV} (s0 : Shp tab 8 22 a0) : Con Tryz.prog 5 [.p a0] [] (.p (.bool true)) [] [] := by
 obtain ⟨lo, hlo, hok, hlo2⟩ := ops_shp20 s0
 obtain ⟨o', ho', c1⟩ := cut20_spec hlo hok hlo2
 have l60 := cut20_len (l := lo)
 have hok : ∀ x ∈ lo.take (cutG stop20 lo 0), x.ok := fun x hx => hok x (List.mem_of_mem_take hx)
 generalize lo.take (cutG stop20 lo 0) = l at ho' l60 hok
 have hrd := ho'.rd
 have hlen : (l.map popV).length = l.length := by simp
 refine con_of Tryz.func5 rfl (by kernel_rfl) rfl fun F w0 β0 => ?_
 refine K_tell rfl ?_
 refine go ?_
 refine K_op rfl rfl (opr_callP rfl rfl (tnew_spec) rfl rfl rfl rfl) rfl ?_
 refine go ?_
 refine K_op rfl rfl (opr_callP rfl rfl (vnew_spec .nil) rfl rfl rfl rfl) rfl ?_
 refine go ?_
 refine K_op rfl rfl (opr_callS [.l 0, .l 1] rfl rfl (onew_spec (VS.new .nil)) rfl rfl rfl ⟨⟨rfl, rfl⟩, ⟨rfl, rfl⟩, trivial⟩ rfl rfl rfl rfl) rfl ?_
 refine go ?_
 refine K_op rfl rfl (opr_callP rfl rfl (rnew18_spec) rfl rfl rfl rfl) rfl ?_
 refine go ?_
 refine K_op rfl rfl (opr_callP rfl rfl (rnew20_spec) rfl rfl rfl rfl) rfl ?_
 refine go ?_
 refine K_op rfl rfl (opr_callP rfl rfl (c1) rfl rfl rfl rfl) rfl ?_
 refine go ?_
 refine K_op rfl rfl (opr_len_rd hT rfl rfl (hrd _ _)) rfl ?_
 rw [hlen]
 refine go ?_
 refine J_loop (fun q : St l => [(3, .ad (.l 2) 0), (4, .ad (.l 3) 0), (23, .p o'), (24, .p (.int .i64 (l.length : Int))), (25, .p (.int .i64 (q.i : Int)))]) (fun _ => []) (fun q => Lp q.s q.k q.f0 q.m q.fr) (fun q => l.length - q.i) ⟨0, by omega, VS.new .nil, noH, newM, 2, 0, by omega, D20.start⟩ ⟨rfl, rfl, rfl, rfl, rfl, trivial⟩ rfl rfl (fun q => ?_)
 have b := q.b
 have d := q.d
 have qh := q.h
 obtain ⟨a0, a1, a2, a3, a4, a5, a6, a7, a8, a9, a10, a11, a12, a13, a14, a15, hk⟩ := len16 d.l.1
 rw [hk] at d ⊢
 refine go ?_
 by_cases h : q.i < l.length
 ·have hx : l[q.i]? = some l[q.i] := List.getElem?_eq_getElem h
  have hxo := hok _ (List.getElem_mem h)
  generalize l[q.i] = x at hx hxo
  have hxk : (l.map popV)[((q.i : Nat) : Int).toNat]? = some (popV x) := by rw [Int.toNat_natCast, List.getElem?_map, hx]; rfl
  have co := own_own x.o (.ps x.o.b) hxo.l
  obtain ⟨x1, n1, hx1, hn1, c2⟩ := do20_own d.v (by omega) d.l.1 d.l.2 x.o hxo.o (i := q.fr) (by unfold U32; omega) q.f0
  obtain ⟨x2, n2, hx2, hn2, c3⟩ := rdo20 (d.asked (by omega) q.fr (by omega)) x.o hxo.o (.ps x.o.b)
  have hst := d.stepF (by omega) x.o b.1 (by omega)
  have hnm := mdo_names d.w [a0, a1, a2, a3, a4, a5, a6, a7, a8, a9, a10, a11, a12, a13, a14, a15] x.o q.fr
  have hbd := mfr_bd q.m [a0, a1, a2, a3, a4, a5, a6, a7, a8, a9, a10, a11, a12, a13, a14, a15] x.o q.fr
  have hl' := (sdo_l d.l q.s x.o q.fr).1
  generalize (sdo q.s [a0, a1, a2, a3, a4, a5, a6, a7, a8, a9, a10, a11, a12, a13, a14, a15] x.o q.fr).1 = r at c2 hst hx1 hn1
  generalize (sdo q.s [a0, a1, a2, a3, a4, a5, a6, a7, a8, a9, a10, a11, a12, a13, a14, a15] x.o q.fr).2.1 = s2 at c2 hst
  generalize (sdo q.s [a0, a1, a2, a3, a4, a5, a6, a7, a8, a9, a10, a11, a12, a13, a14, a15] x.o q.fr).2.2 = k2 at c2 hst hl'
  generalize mfr q.m [a0, a1, a2, a3, a4, a5, a6, a7, a8, a9, a10, a11, a12, a13, a14, a15] x.o q.fr = fr2 at c3 hst hbd
  generalize (mdo q.m [a0, a1, a2, a3, a4, a5, a6, a7, a8, a9, a10, a11, a12, a13, a14, a15] x.o q.fr).1 = r2 at c3 hst hnm hx2 hn2
  generalize (mdo q.m [a0, a1, a2, a3, a4, a5, a6, a7, a8, a9, a10, a11, a12, a13, a14, a15] x.o q.fr).2.1 = m2 at c3 hst
  generalize (mdo q.m [a0, a1, a2, a3, a4, a5, a6, a7, a8, a9, a10, a11, a12, a13, a14, a15] x.o q.fr).2.2 = k3 at c3 hst
  obtain ⟨b0, b1, b2, b3, b4, b5, b6, b7, b8, b9, b10, b11, b12, b13, b14, b15, rfl⟩ := len16 hl'
  refine K_condT rfl (decide_eq_true (by omega)) ?_
  refine go ?_
  refine K_op rfl rfl (opr_index hT rfl rfl rfl rfl rfl (hrd _ _) (by omega) (by rw [hlen]; omega)) rfl ?_
  refine go ?_
  refine K_op rfl rfl (opr_load_el hT rfl rfl (hrd _ _) hxk rfl rfl) rfl ?_
  refine J_rep 28 (opT x.o (.p (.ps (bv x.o.b)))) rfl (agg_rep 6 rfl (bs_ps hxo.bs)) ?_
  refine go ?_
  refine K_op rfl rfl (opr_callP rfl rfl (co) rfl rfl rfl rfl) rfl ?_
  refine go ?_
  refine K_op rfl rfl (opr_callS [.l 2, .l 0, .l 1, .l 7] rfl rfl (c2) rfl rfl rfl ⟨⟨rfl, rfl⟩, ⟨rfl, rfl⟩, ⟨rfl, rfl⟩, ⟨rfl, rfl⟩, trivial⟩ rfl rfl rfl rfl) rfl ?_
  refine J_rep 35 (resT r (.ps (bv r.data)) (.ps (r.names.map .str))) rfl (res_le hx1 hn1) ?_
  refine go ?_
  refine K_op rfl rfl (opr_clear hT rfl rfl rfl rfl rfl rfl (bv_length x.o.b)) rfl ?_
  refine go ?_
  by_cases h21 : r.e = 21
  ·refine K_condT rfl (by simp [h21]) ?_
   refine go ?_
   refine K_op rfl rfl (opr_callP rfl rfl (fixed20_spec) rfl rfl rfl rfl) rfl ?_
   refine go ?_
   exact J_done hT rfl rfl rfl
  obtain ⟨rfl, hk3, d2⟩ := hst.resolve_left h21
  refine K_condF rfl (by simpa using h21) ?_
  refine go ?_
  rw [← hk3] at c3
  refine K_op rfl rfl (opr_callP rfl rfl (c3) rfl rfl rfl rfl) rfl ?_
  refine J_rep 45 (.tup [resT r (.ps (bv r.data)) (.ps (r.names.map .str)), deT m2 [b0, b1, b2, b3, b4, b5, b6, b7, b8, b9, b10, b11, b12, b13, b14, b15] fr2]) rfl (tupT_rep0 (res_le hx2 hn2)) ?_
  refine go ?_
  refine K_op rfl rfl (opr_callP rfl rfl (same20_spec r (.ps _) (.ps _) (.ps _) (.ps _) (by unfold big40; omega)) rfl rfl rfl rfl) rfl ?_
  refine go ?_
  refine K_op rfl rfl (opr_callS [.l 2, .l 0, .l 1] rfl rfl (open20_spec s2 (l := [b0, b1, b2, b3, b4, b5, b6, b7, b8, b9, b10, b11, b12, b13, b14, b15]) rfl q.fr) rfl rfl rfl ⟨⟨rfl, rfl⟩, ⟨rfl, rfl⟩, ⟨rfl, rfl⟩, trivial⟩ rfl rfl rfl rfl) rfl ?_
  refine go ?_
  refine J_take 4 [(3, .ad (.l 2) 0), (4, .ad (.l 3) 0), (23, .p o'), (24, .p (.int .i64 (l.length : Int))), (25, .p (.int .i64 (q.i : Int))), (11, .p (.ps ((openL [b0, b1, b2, b3, b4, b5, b6, b7, b8, b9, b10, b11, b12, b13, b14, b15] 0).map i64V))), (12, .p (.int .i64 0)), (56, .p (.ps ([b0, b1, b2, b3, b4, b5, b6, b7, b8, b9, b10, b11, b12, b13, b14, b15].map u32V))), (57, .p (.int .i64 16)), (58, .p (.int .i64 0))] ⟨rfl, rfl, rfl, rfl, rfl, rfl, rfl, rfl, rfl, rfl, trivial⟩ rfl rfl ?_
  obtain ⟨K, hK⟩ : ∃ K, K = [b0, b1, b2, b3, b4, b5, b6, b7, b8, b9, b10, b11, b12, b13, b14, b15] := ⟨_, rfl⟩
  rw [← hK] at hl' d2
  have hKl : (K.map u32V).length = 16 := by rw [List.length_map]; exact hl'
  have hOl : ((openL K 0).map i64V).length = (openL K 0).length := by simp
  have hO : (openL K 0).length ≤ 16 := by have := openL_len K 0; omega
  refine J_loop (fun p : Hd2 K => [(3, .ad (.l 2) 0), (4, .ad (.l 3) 0), (23, .p o'), (24, .p (.int .i64 (l.length : Int))), (25, .p (.int .i64 (q.i : Int))), (11, .p (.ps ((openL K 0).map i64V))), (12, .p (.int .i64 (p.n : Int))), (56, .p (.ps (K.map u32V))), (57, .p (.int .i64 16)), (58, .p (.int .i64 (p.i : Int)))]) (fun _ => []) (fun _ => Lp s2 [b0, b1, b2, b3, b4, b5, b6, b7, b8, b9, b10, b11, b12, b13, b14, b15] q.fr m2 fr2) (fun p => 16 - p.i) ⟨0, 0, Nat.zero_le _, Nat.le_refl _, Nat.zero_le _, rfl⟩ ⟨rfl, rfl, rfl, rfl, rfl, by rw [hK]; rfl, rfl, by rw [hK]; rfl, rfl, rfl, trivial⟩ rfl rfl (fun p => ?_)
  have nh := p.h
  have nhn := p.hn
  have nhl := p.hn2
  have ne := p.e
  rw [hl'] at nh
  refine go ?_
  by_cases hlt : p.i < 16
  ·obtain ⟨z, hz⟩ : ∃ z, K[p.i]? = some z := ⟨_, List.getElem?_eq_getElem (by rw [hl']; exact hlt)⟩
   have hdr : K.drop p.i = z :: K.drop (p.i + 1) := by
    obtain ⟨h1, rfl⟩ := List.getElem?_eq_some_iff.1 hz
    rw [List.drop_eq_getElem_cons h1]
   rw [hdr, openL_cons] at ne
   have hzk : (K.map u32V)[((p.i : Nat) : Int).toNat]? = some (u32V z) := by rw [Int.toNat_natCast, List.getElem?_map, hz]; rfl
   refine K_condT rfl (decide_eq_true (by omega)) ?_
   refine go ?_
   refine K_op rfl rfl (opr_index hT rfl rfl rfl rfl rfl (.ps _) (by omega) (by rw [hKl]; omega)) rfl ?_
   refine go ?_
   refine K_op rfl rfl (opr_load_el hT rfl rfl (.ps _) hzk rfl rfl) rfl ?_
   refine go ?_
   by_cases hz0 : z = 0
   ·rw [if_pos hz0] at ne
    refine K_condF rfl (by simp [hz0]) ?_
    refine go ?_
    refine J_again ⟨p.i + 1, p.n, by rw [hl']; omega, by omega, nhl, ne⟩ (by show 16 - (p.i + 1) < 16 - p.i; omega) ⟨rfl, rfl, rfl, rfl, rfl, rfl, rfl, rfl, rfl, congrArg (fun z => TV.p (.int .i64 z)) (by rw [IntWalk.i64_in _ (by omega)]; rfl), trivial⟩ rfl rfl
   ·rw [if_neg hz0] at ne
    have hget : (openL K 0)[p.n]? = some (p.i : Int) := by
     have := congrArg (fun L => L[0]?) ne
     simpa using this
    have hnl := (List.getElem?_eq_some_iff.1 hget).1
    have hgk : ((openL K 0).map i64V)[((p.n : Nat) : Int).toNat]? = some (i64V (p.i : Int)) := by rw [Int.toNat_natCast, List.getElem?_map, hget]; rfl
    have hnext : (openL K 0).drop (p.n + 1) = openL (K.drop (p.i + 1)) (p.i + 1) := by
     have := congrArg List.tail ne
     simpa using this
    refine K_condT rfl (by simp [hz0]) ?_
    refine gx ?_
    refine J_false 69 rfl (decide_eq_false (by rw [hOl]; omega)) ?_
    refine gx ?_
    refine K_yes rfl rfl rfl (opr_index hT rfl rfl rfl rfl rfl (.ps _) (by omega) (by rw [hOl]; omega)) rfl ?_
    refine gx ?_
    refine K_yes rfl rfl rfl (opr_load_el hT rfl rfl (.ps _) hgk rfl rfl) rfl ?_
    refine gx ?_
    refine K_condF rfl (by simp) ?_
    refine go ?_
    refine J_again ⟨p.i + 1, p.n + 1, by rw [hl']; omega, by omega, by omega, hnext⟩ (by show 16 - (p.i + 1) < 16 - p.i; omega) ⟨rfl, rfl, rfl, rfl, rfl, rfl, congrArg (fun z => TV.p (.int .i64 z)) (by rw [IntWalk.i64_in _ (by omega)]; rfl), rfl, rfl, congrArg (fun z => TV.p (.int .i64 z)) (by rw [IntWalk.i64_in _ (by omega)]; rfl), trivial⟩ rfl rfl
  ·have e0 : K.drop p.i = [] := List.drop_eq_nil_of_le (by rw [hl']; omega)
   rw [e0] at ne
   change _ = ([] : List Int) at ne
   have hnl : (openL K 0).length ≤ p.n := List.drop_eq_nil_iff.1 ne
   refine K_condF rfl (decide_eq_false (by omega)) ?_
   refine go ?_
   refine K_condF rfl (by rw [hOl]; simp; omega) ?_
   refine go ?_
   subst hK
   refine J_again ⟨q.i + 1, by omega, s2, [b0, b1, b2, b3, b4, b5, b6, b7, b8, b9, b10, b11, b12, b13, b14, b15], m2, fr2, q.fr, by omega, d2⟩ (by show l.length - (q.i + 1) < l.length - q.i; omega) ⟨rfl, rfl, rfl, rfl, congrArg (fun z => TV.p (.int .i64 z)) (by rw [IntWalk.i64_in _ (by omega)]; rfl), trivial⟩ rfl rfl
 ·refine K_condF rfl (decide_eq_false (by omega)) ?_
  refine go ?_
  refine K_op rfl rfl (opr_callP rfl rfl (fixed20_spec) rfl rfl rfl rfl) rfl ?_
  refine go ?_
  exact J_done hT rfl rfl rfl
end opsPlays
end Go.Proofs.YtdkegmmigongoaaGreatDoor

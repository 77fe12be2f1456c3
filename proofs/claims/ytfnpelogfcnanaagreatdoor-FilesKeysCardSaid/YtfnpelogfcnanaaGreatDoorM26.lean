/- Contracts and plain laws, several texts joined: F19h, RelBu. -/
import Derived.Test.YtfnpelogfcnanaaGreatDoorGo
import Derived.Test.YtfnpelogfcnanaaGreatDoorM25
import Derived.Test.YtfnpelogfcnanaaGreatDoorM7
import Derived.Test.YtfnpelogfcnanaaGreatDoorM22
/- flintlaw19: begin, fixed, cut; a view as the model, behind operations on files. -/
-- @D
namespace Go.Proofs.YtfnpelogfcnanaaGreatDoor
set_option maxRecDepth 20000
open Go.Awp Tr
/-! ### What is begun with -/
def bg1 : VS := ((VS.new .nil).make [47, 100] 2 2).2
def bg2 : VS := (bg1.make [47, 102] 1 3).2
def bg3 : VS := (bg2.make [47, 103] 1 4).2
def bm1 : MF := (newM.make [47, 100] 2 2).2
def bm2 : MF := (bm1.make [47, 102] 1 3).2
def bm3 : MF := (bm2.make [47, 103] 1 4).2
def s19 : VS := VS.new (basedT bg3)
theorem D18.of {s s' : VS} {m m' : MF} {i : Nat} (h : D18 s m i) (hi : i ≤ 100) (k : Int) (p : List UInt8) (j : Int) (hj : j = 2 + i) (hf : (doT s m k p [] j).1.2.2 = false) (hs : (doT s m k p [] j).2 = s') (hm : (doT s m k p [] j).1.2.1 = m') : D18 s' m' (i + 1) := by
  rcases h.step hi k p [] j hj with q | ⟨_, _, q⟩
  · rw [hf] at q; cases q
  · rwa [hs, hm] at q
theorem bg_ok : D18 bg1 bm1 1 ∧ D18 bg2 bm2 2 ∧ D18 bg3 bm3 3 := by
  have h1 : D18 bg1 bm1 1 := D18.new.of (by omega) 1 [47, 100] 2 rfl (by kernel_rfl) (by kernel_rfl) (by kernel_rfl)
  have h2 : D18 bg2 bm2 2 := h1.of (by omega) 0 [47, 102] 3 rfl (by kernel_rfl) (by kernel_rfl) (by kernel_rfl)
  exact ⟨h1, h2, h2.of (by omega) 0 [47, 103] 4 rfl (by kernel_rfl) (by kernel_rfl) (by kernel_rfl)⟩
set_option maxHeartbeats 16000000 in
theorem begin_spec : Con Tryz.prog 33 [] [] (.tup [.ad (.l 0) 0, fsT bm3]) [] [vB (.l 1) s19.base s19.shown s19.writes s19.reads s19.ranges.length, vR s19.ranges, fB bm3] := by
  obtain ⟨d1, d2, d3⟩ := bg_ok
  have c1 := make_spec D18.new.v (by omega) [47, 100] 2 2 (by decide)
  have c2 := make_spec d1.v (by omega) [47, 102] 1 3 (by decide)
  have c3 := make_spec d2.v (by omega) [47, 103] 1 4 (by decide)
  have e1 := rmake_spec D18.new.u.2.2 (by omega) [47, 100] 2 2 (by decide)
  have e2 := rmake_spec d1.u.2.2 (by omega) [47, 102] 1 3 (by decide)
  have e3 := rmake_spec d2.u.2.2 (by omega) [47, 103] 1 4 (by decide)
  have c4 := based19_spec d3.v (by omega)
  change Con Tryz.prog _ _ _ _ (vH bg1) _ at c1
  change Con Tryz.prog _ _ _ _ (vH bg2) _ at c2
  change Con Tryz.prog _ _ _ _ (vH bg3) _ at c3
  change Con Tryz.prog _ _ _ (eT _ bm1) _ _ at e1
  change Con Tryz.prog _ _ _ (eT _ bm2) _ _ at e2
  change Con Tryz.prog _ _ _ (eT _ bm3) _ _ at e3
  change Con Tryz.prog _ _ _ _ _ (vN s19) at c4
  generalize ((VS.new .nil).make [47, 100] 2 2).1 = x1 at c1
  generalize (bg1.make [47, 102] 1 3).1 = x2 at c2
  generalize (bg2.make [47, 103] 1 4).1 = x3 at c3
  generalize (newM.make [47, 100] 2 2).1 = y1 at e1
  generalize (bm1.make [47, 102] 1 3).1 = y2 at e2
  generalize (bm2.make [47, 103] 1 4).1 = y3 at e3
  generalize bg3.range [] [255] = s4 at c4
  generalize bg1 = v1 at c1 c2
  generalize bg2 = v2 at c2 c3
  generalize bg3 = v3 at c3 c4
  generalize bm1 = f1 at e1 e2
  generalize bm2 = f2 at e2 e3
  generalize bm3 = f3 at e3
  generalize s19 = v5 at c4
  refine con_of Tryz.func33 rfl (by kernel_rfl) rfl fun F w0 β0 => ?_
  refine K_tell rfl ?_
  refine go ?_
  refine K_op rfl rfl (opr_callP rfl rfl (tnew_spec) rfl rfl rfl rfl) rfl ?_
  refine go ?_
  refine K_op rfl rfl (opr_callP rfl rfl (vnew_spec .nil) rfl rfl rfl rfl) rfl ?_
  refine go ?_
  refine K_op rfl rfl (opr_callP rfl rfl (rnew18_spec) rfl rfl rfl rfl) rfl ?_
  refine go ?_
  refine K_op rfl rfl (opr_callS [.l 1, .l 2] rfl rfl (c1) rfl rfl rfl ⟨⟨rfl, rfl⟩, ⟨rfl, rfl⟩, trivial⟩ rfl rfl rfl rfl) rfl ?_
  refine go ?_
  refine K_op rfl rfl (opr_callS [.l 1, .l 2] rfl rfl (c2) rfl rfl rfl ⟨⟨rfl, rfl⟩, ⟨rfl, rfl⟩, trivial⟩ rfl rfl rfl rfl) rfl ?_
  refine go ?_
  refine K_op rfl rfl (opr_callS [.l 1, .l 2] rfl rfl (c3) rfl rfl rfl ⟨⟨rfl, rfl⟩, ⟨rfl, rfl⟩, trivial⟩ rfl rfl rfl rfl) rfl ?_
  refine go ?_
  refine K_op rfl rfl (opr_callP rfl rfl (e1) rfl rfl rfl rfl) rfl ?_
  refine go ?_
  refine K_op rfl rfl (opr_callP rfl rfl (e2) rfl rfl rfl rfl) rfl ?_
  refine go ?_
  refine K_op rfl rfl (opr_callP rfl rfl (e3) rfl rfl rfl rfl) rfl ?_
  refine go ?_
  refine J_draw [[fB0, vB (.l 2) v3.base v3.shown v3.writes v3.reads v3.ranges.length, vR v3.ranges, fB f3], [fB0, vB (.l 2) s4.base s4.shown s4.writes s4.reads s4.ranges.length, vR s4.ranges, fB f3, vB (.l 5) v5.base v5.shown v5.writes v5.reads v5.ranges.length, vR v5.ranges], [fB f3, vB (.l 2) s4.base s4.shown s4.writes s4.reads s4.ranges.length, vR s4.ranges, fB f3, vB (.l 5) v5.base v5.shown v5.writes v5.reads v5.ranges.length, vR v5.ranges]] [1, 4] (by kernel_rfl) (by kernel_rfl) rfl ?_
  refine gdW ?_
  refine T_stD rfl rfl rfl rfl (opr_callS [.l 1, .l 2] rfl rfl c4 rfl rfl rfl ⟨⟨rfl, rfl⟩, ⟨rfl, rfl⟩, trivial⟩ rfl rfl rfl rfl) rfl ?_
  refine gdW ?_
  refine go ?_
  refine J_pick [4, 5, 0] [(0, .ad (.l 0) 0), (1, .ad (.l 2) 0)] [vB (.l 1) v5.base v5.shown v5.writes v5.reads v5.ranges.length, vR v5.ranges, fB f3] ⟨rfl, rfl, trivial⟩ rfl rfl ⟨⟨rfl, rfl⟩, ⟨rfl, rfl⟩, ⟨rfl, rfl⟩, trivial⟩ ?_
  exact J_give hT rfl rfl
theorem bg_v : VJ s19 600 := bg_ok.2.2.based.1.v
theorem fixed19_parts : ∃ s1 s2 : VS, Con Tryz.prog 40 [vP, .p (.int .u32 3), .p (.int .i64 3), .p (.ps (bv [97, 98]))] (vH s19) (.p (.int .i64 0)) (vH s1) [] ∧ Con Tryz.prog 38 [vP, .p (.int .u32 3)] (vH s1) (.tup [.p (.ps (bv [0, 0, 0, 97, 98])), .p (.int .i64 0)]) (vH s2) [] := by
  have c1 := fwrite_ps bg_v (by omega) 3 (by decide) 3 (by decide) [97, 98] (by decide)
  have e1 : (s19.fwrite 3 3 [97, 98]).1 = 0 := by kernel_rfl
  have c2 := fall_spec (fwrite_ok bg_v 3 3 [97, 98]) (by omega) 3 (by decide)
  have e2 : ((s19.fwrite 3 3 [97, 98]).2.fall 3).1 = ([0, 0, 0, 97, 98], 0) := by kernel_rfl
  rw [e1] at c1
  rw [e2] at c2
  exact ⟨_, _, c1, c2⟩
set_option maxHeartbeats 4000000 in
theorem fixed19_spec : Con Tryz.prog 36 [] [] (.p (.bool true)) [] [] := by
  obtain ⟨s1, s2, c1, c2⟩ := fixed19_parts
  have c0 := begin_spec
  generalize s19 = s0 at c0 c1
  generalize bm3 = m at c0
  refine con_of Tryz.func36 rfl (by kernel_rfl) rfl fun F w0 β0 => ?_
  refine K_tell rfl ?_
  refine go ?_
  refine K_op rfl rfl (opr_callP rfl rfl (c0) rfl rfl rfl rfl) rfl ?_
  iterate 11 (refine g1 ?_)
  refine J_litmark hT rfl rfl rfl rfl rfl rfl rfl rfl rfl rfl rfl ?_
  refine go ?_
  refine K_op rfl rfl (opr_callS [.l 0, .l 1] rfl rfl (c1) rfl rfl rfl ⟨⟨rfl, rfl⟩, ⟨rfl, rfl⟩, trivial⟩ rfl rfl rfl rfl) rfl ?_
  refine go ?_
  refine K_op rfl rfl (opr_callS [.l 0, .l 1] rfl rfl (c2) rfl rfl rfl ⟨⟨rfl, rfl⟩, ⟨rfl, rfl⟩, trivial⟩ rfl rfl rfl rfl) rfl ?_
  refine go ?_
  exact J_done hT rfl rfl rfl
/-! ### Operations that come in -/
theorem bytes7_shp {a : AV} (h : Shp tab 7 77 a) : ∃ l, Bs a l ∧ l.length ≤ 140737488351232 := by
  rcases h.slice rfl with rfl | ⟨rows, te, ls, rfl, hte, hls, hlen, hrows⟩
  · exact ⟨[], .nils, by simp⟩
  · obtain rfl := Option.some.inj (hte.symm.trans (show tlk tab 5 = some ⟨.int .u8, 1, 1, [.int .u8 0]⟩ from rfl))
    obtain rfl := Option.some.inj (hls.symm.trans (show leaves tab 6 5 = some [5] from rfl))
    have key : ∀ rows : List AV, (∀ r ∈ rows, All2 (Shp tab 6) [5] (cellsOf r) ∧ (∀ y, isAggD (TyD.int .u8) = some false → cellsOf r = [y] → r = y) ∧ (isAggD (TyD.int .u8) = some true → ∃ cs, r = .agg cs)) → ∃ l, rows = bv l := by
      intro rows
      induction rows with
      | nil => intro _; exact ⟨[], rfl⟩
      | cons r rs ih =>
        intro hr
        obtain ⟨l, hl⟩ := ih fun r' h' => hr r' (by simp [h'])
        obtain ⟨h1, h2, _⟩ := hr r (by simp)
        match hc : cellsOf r, h1 with
        | [y], h1 =>
          obtain ⟨n, rfl, hn⟩ := h1.1.int rfl
          change 0 ≤ n ∧ n ≤ 255 at hn
          have hry := h2 _ rfl hc
          subst hry
          refine ⟨UInt8.ofNat n.toNat :: l, ?_⟩
          rw [hl]
          show _ = AV.int .u8 ((UInt8.ofNat n.toNat).toNat : Int) :: bv l
          rw [show ((UInt8.ofNat n.toNat).toNat : Int) = n by simp; omega]
    obtain ⟨l, rfl⟩ := key rows hrows
    refine ⟨l, .ps l, ?_⟩
    rw [bv_length] at hlen
    unfold Go.Awp.reach at hlen
    simpa using hlen
theorem all2_5 {R : Nat → AV → Prop} {a b c d e : Nat} {cs : List AV} (h : All2 R [a, b, c, d, e] cs) : ∃ x y z u v, cs = [x, y, z, u, v] ∧ R a x ∧ R b y ∧ R c z ∧ R d u ∧ R e v := by
  match cs, h with
  | [x, y, z, u, v], h => exact ⟨x, y, z, u, v, rfl, h.1, h.2.1, h.2.2.1, h.2.2.2.1, h.2.2.2.2.1⟩
theorem fops_shp {a : AV} (h : Shp tab 8 73 a) : ∃ l : List FOp, Sl fopV a l ∧ (∀ x ∈ l, x.ok) ∧ l.length ≤ 140737488355328 :=
  shp_agg fopV _ h rfl rfl rfl rfl (by decide) fun cs hc => by
    obtain ⟨x, y, z, u, v, rfl, hx, hy, hz, hu, hv⟩ := all2_5 hc
    obtain ⟨k, rfl, hk⟩ := hx.int rfl
    obtain ⟨i, rfl, hi⟩ := hy.int rfl
    obtain ⟨f, rfl, hf⟩ := hz.int rfl
    obtain ⟨n, rfl, hn⟩ := hu.int rfl
    obtain ⟨b, hb, hl⟩ := bytes7_shp hv
    exact ⟨⟨k, i, f, n, v, b⟩, rfl, hb, hi, hf, hn, hl⟩
/-- An operation as it is loaded. -/
abbrev opT19 (o : FOp) : TV := .agg [.p (.int .i64 o.kind), .p (.int .u32 o.ino), .p (.int .i64 o.from_), .p (.int .i64 o.n), .p (.ps (bv o.b))]
theorem bs_ps {a : AV} {l : List UInt8} (h : Bs a l) : AVLe a (.ps (bv l)) := by
  cases h with
  | ps => exact AVLe.refl _
  | nils => exact nils_ps
  | cz => exact cz_ps
/-- How many are gone through. -/
def cuF : List FOp → Nat → Nat → Nat
  | [], i, _ => i
  | o :: r, i, n => if 60 ≤ i ∨ 20000 < n + min o.b.length 9000 then i else cuF r (i + 1) (n + min o.b.length 9000)
theorem cuF_le : ∀ (l : List FOp) (i n : Nat), i ≤ 60 → cuF l i n ≤ 60
  | [], _, _, h => h
  | o :: r, i, n, h => by
    unfold cuF
    split
    · exact h
    · exact cuF_le r _ _ (by omega)
structure CuI (l : List FOp) where
  i : Nat
  n : Nat
  h : i ≤ l.length
  hn : n ≤ 9000 * i
  h6 : i ≤ 60
  e : cuF (l.drop i) i n = cuF l 0 0
theorem cuF_step {l : List FOp} {i n : Nat} {o : FOp} (h : l[i]? = some o) : cuF (l.drop i) i n = if 60 ≤ i ∨ 20000 < n + min o.b.length 9000 then i else cuF (l.drop (i + 1)) (i + 1) (n + min o.b.length 9000) := by
  obtain ⟨h2, rfl⟩ := List.getElem?_eq_some_iff.1 h
  rw [List.drop_eq_getElem_cons h2]
  rfl
set_option maxHeartbeats 8000000 in
theorem cut19_spec {s : AV} {l : List FOp} (hs : Sl fopV s l) (hok : ∀ x ∈ l, x.ok) (hl : l.length ≤ 140737488355328) : ∃ s', Sl fopV s' (l.take (cuF l 0 0)) ∧ Con Tryz.prog 34 [.p s] [] (.p s') [] [] := by
  have hrd := hs.rd []
  have hlen : (l.map fopV).length = l.length := by simp
  have hE : ∀ r ∈ l.map fopV, (cellsOf r).length = 5 := by
    intro r hr
    obtain ⟨o, _, rfl⟩ := List.mem_map.1 hr
    rfl
  refine ⟨if cuF l 0 0 = l.length then s else .ps ((l.take (cuF l 0 0)).map fopV), ?_, ?_⟩
  · split
    · rename_i h; rw [h, List.take_length]; exact hs
    · exact .ps _
  refine con_of Tryz.func34 rfl (by kernel_rfl) rfl fun F w0 β0 => ?_
  refine K_tell rfl ?_
  refine go ?_
  refine K_op rfl rfl (opr_len_rd hT rfl rfl (hrd _)) rfl ?_
  rw [hlen]
  refine go ?_
  refine J_loop (fun q : CuI l => [(0, .p s), (3, .p (.int .i64 (q.n : Int))), (6, .p s), (7, .p (.int .i64 (l.length : Int))), (8, .p (.int .i64 (q.i : Int)))]) (fun _ => []) (fun _ => []) (fun q => l.length - q.i) ⟨0, 0, by omega, by omega, by omega, rfl⟩ ⟨rfl, rfl, rfl, rfl, rfl, trivial⟩ rfl rfl (fun q => ?_)
  have hi := q.h
  have hn := q.hn
  have h6 := q.h6
  have he := q.e
  refine go ?_
  by_cases h : q.i < l.length
  · have hx : l[q.i]? = some l[q.i] := List.getElem?_eq_getElem h
    have hxo := hok _ (List.getElem_mem h)
    generalize l[q.i] = x at hx hxo
    have hxk : (l.map fopV)[((q.i : Nat) : Int).toNat]? = some (fopV x) := by rw [Int.toNat_natCast, List.getElem?_map, hx]; rfl
    rw [cuF_step hx] at he
    have hbr : ∀ H L, Rd H L (.p x.a) (bv x.b) := fun H L => hxo.bs.rd
    have e17 : IntKind.i64.wrap ((q.n : Int) + mmA .min (x.b.length : Int) 9000) = ((q.n + min x.b.length 9000 : Nat) : Int) := by
      rw [mm_min2, IntWalk.i64_in _ (by omega)]; omega
    refine K_condT rfl (decide_eq_true (by omega)) ?_
    refine go ?_
    refine K_op rfl rfl (opr_index hT rfl rfl rfl rfl rfl (hrd _) (by omega) (by rw [hlen]; omega)) rfl ?_
    refine go ?_
    refine K_op rfl rfl (opr_load_el hT rfl rfl (hrd _) hxk rfl rfl) rfl ?_
    refine J_rep 12 (opT19 x) rfl (agg_rep 4 rfl (bs_ps hxo.bs)) ?_
    refine go ?_
    rw [bv_length]
    rw [e17]
    by_cases hk : 60 ≤ q.i ∨ 20000 < q.n + min x.b.length 9000
    · rw [if_pos hk] at he
      rw [← he, if_neg (by omega)]
      refine K_condT rfl ?_ ?_
      · rcases hk with hk | hk
        · rw [decide_eq_true (show ((q.i : Nat) : Int) ≥ 60 by omega)]; rfl
        · rw [decide_eq_true (show ((q.n + min x.b.length 9000 : Nat) : Int) > 20000 by omega), Bool.or_true]
      cases hs with
      | nils => simp at hx
      | ps =>
        have e : ((l.map fopV).drop 0).take (((q.i : Nat) : Int).toNat - 0) = (l.take q.i).map fopV := by simp
        rw [← e]
        refine go ?_
        refine K_op rfl rfl (opr_cut hT rfl rfl rfl rfl (hrd _) rfl rfl (by omega) (by omega) (by rw [hlen]; omega) hE) rfl ?_
        refine go ?_
        exact J_done hT rfl rfl rfl
    · rw [if_neg hk] at he
      refine K_condF rfl ?_ ?_
      · rw [decide_eq_false (show ¬ ((q.i : Nat) : Int) ≥ 60 by omega), decide_eq_false (show ¬ ((q.n + min x.b.length 9000 : Nat) : Int) > 20000 by omega)]; rfl
      refine go ?_
      refine J_take 0 [(0, .p s), (3, .p (.int .i64 ((q.n + min x.b.length 9000 : Nat) : Int))), (6, .p s), (7, .p (.int .i64 (l.length : Int))), (8, .p (.int .i64 (IntKind.i64.wrap ((q.i : Int) + 1))))] ⟨rfl, rfl, rfl, rfl, rfl, trivial⟩ rfl rfl ?_
      refine J_again ⟨q.i + 1, q.n + min x.b.length 9000, by omega, by omega, by omega, he⟩ (by show l.length - (q.i + 1) < l.length - q.i; omega) ⟨rfl, rfl, rfl, rfl, congrArg (fun z => TV.p (.int .i64 z)) (by rw [IntWalk.i64_in _ (by omega)]; rfl), trivial⟩ rfl rfl
  · refine K_condF rfl (decide_eq_false (by omega)) ?_
    have e : cuF l 0 0 = l.length := by rw [← he, List.drop_eq_nil_of_le (by omega)]; unfold cuF; omega
    rw [if_pos e]
    refine go ?_
    exact J_done hT rfl rfl rfl
theorem fops_cut {l : List FOp} : (l.take (cuF l 0 0)).length ≤ 60 := by
  have := cuF_le l 0 0 (by omega)
  have h2 := List.length_take_le (cuF l 0 0) l
  omega
/-! ### What operations on files keep -/
/-- What holds between a view and the model, behind so many operations on files. -/
structure D19 (s : VS) (m : MF) (i : Nat) : Prop where
  v : VJ s (600 + 150 * i)
  r : ∃ par, Rel s.shown.row m par
  w : m.wk 30
  f : ∀ j, j = 3 ∨ j = 4 → ∃ x, m.file j = some x
  d : m.file 2 = none
theorem bm_ok : (∀ j, j = 3 ∨ j = 4 → ∃ x, bm3.file j = some x) ∧ bm3.file 2 = none := by
  have e3 : bm3.file 3 = some ⟨3, 1, 1, [], []⟩ := by kernel_rfl
  have e4 : bm3.file 4 = some ⟨4, 1, 1, [], []⟩ := by kernel_rfl
  have e2 : bm3.file 2 = none := by kernel_rfl
  refine ⟨fun j hj => ?_, e2⟩
  rcases hj with rfl | rfl
  · exact ⟨_, e3⟩
  · exact ⟨_, e4⟩
theorem D19.begin : D19 s19 bm3 0 := by
  have d := bg_ok.2.2.based.1
  exact ⟨d.v, d.r, d.w.mono (by omega), bm_ok.1, bm_ok.2⟩
theorem D19.u {s : VS} {m : MF} {i : Nat} (h : D19 s m i) : m.length ≤ 100000 ∧ ∀ x ∈ m, x.b.length ≤ 4096 := by
  obtain ⟨par, R⟩ := h.r
  refine ⟨by have := h.w.l; omega, fun x hx => ?_⟩
  have hat := R.fst x hx
  rcases R.kin _ _ hat with q | q
  · rw [q.2]; exact Nat.zero_le _
  · exact (R.bl hat q.1).1
theorem file_with {m : MF} {i : Int} {x : MN} (hx : m.file i = some x) (b : List UInt8) (j : Int) : (m.with { x with b := b }).file j = if j = i then some { x with b := b } else m.file j := by
  obtain ⟨h1, h2⟩ := file_at hx
  have hi := (at_mem h1).2
  unfold MF.file
  rw [at_with]
  dsimp only
  rw [hi]
  by_cases e : j = i
  · rw [if_pos e, if_pos e]; exact if_pos h2
  · rw [if_neg e, if_neg e]
/-- What a change of a file keeps of the model. -/
structure KpF (m m' : MF) : Prop where
  w : ∀ c, m.wk c → m'.wk c
  f : ∀ j, (∃ x, m.file j = some x) → ∃ x, m'.file j = some x
  n : ∀ j, m.file j = none → m'.file j = none
theorem KpF.refl (m : MF) : KpF m m := ⟨fun _ h => h, fun _ h => h, fun _ h => h⟩
theorem KpF.data {m : MF} {i : Int} {x : MN} (hx : m.file i = some x) (b : List UInt8) : KpF m (m.with { x with b := b }) :=
  ⟨fun c h => wk_data h (file_at hx).1 b, fun j ⟨y, hy⟩ => by
    rw [file_with hx]
    split
    · exact ⟨_, rfl⟩
    · exact ⟨y, hy⟩, fun j hj => by
    rw [file_with hx, if_neg]
    · exact hj
    · rintro rfl; rw [hx] at hj; cases hj⟩
theorem fwrite_kp (m : MF) (i o : Int) (b : List UInt8) : KpF m (m.fwrite i o b).2 := by
  unfold MF.fwrite
  cases hx : m.file i with
  | none => exact KpF.refl m
  | some x =>
    dsimp only
    split
    · exact KpF.refl m
    split
    · exact KpF.refl m
    split
    · exact KpF.refl m
    · exact KpF.data hx _
theorem ftrunc_kp (m : MF) (i z : Int) : KpF m (m.ftrunc i z).2 := by
  unfold MF.ftrunc
  cases hx : m.file i with
  | none => exact KpF.refl m
  | some x =>
    dsimp only
    split
    · exact KpF.refl m
    split
    · exact KpF.refl m
    · exact KpF.data hx _
theorem D19.step {s : VS} {m : MF} {i : Nat} (h : D19 s m i) (o : FOp) (ho : o.ok) :
    (doT19 s m o).1.2.2 = true ∨ ((doT19 s m o).1.1 = true ∧ (doT19 s m o).1.2.2 = false ∧ D19 (doT19 s m o).2 (doT19 s m o).1.2.1 (i + 1)) := by
  obtain ⟨par, R⟩ := h.r
  unfold doT19
  by_cases h0 : o.kind = 0
  · rw [if_pos h0]
    obtain ⟨e1, e2⟩ := fread_sim h.v R ho.u o.from_ o.n
    refine .inr ⟨?_, rfl, ?_⟩
    · dsimp only; rw [e1]; simp
    · dsimp only
      rw [e2]
      exact ⟨(h.v.rd _).mono (by omega), ⟨par, R⟩, h.w, h.f, h.d⟩
  rw [if_neg h0]
  have key : ∀ (q : Int × VS) (r : Int × MF), (q.1 = 21 ∨ (q.1 = r.1 ∧ Rel q.2.shown.row r.2 par)) → VJ q.2 (600 + 150 * i + 100) → KpF m r.2 →
      (if q.1 = 21 then ((true, m, true), q.2) else ((decide (q.1 = r.1), r.2, false), q.2)).1.2.2 = true ∨ ((if q.1 = 21 then ((true, m, true), q.2) else ((decide (q.1 = r.1), r.2, false), q.2)).1.1 = true ∧ (if q.1 = 21 then ((true, m, true), q.2) else ((decide (q.1 = r.1), r.2, false), q.2)).1.2.2 = false ∧ D19 (if q.1 = 21 then ((true, m, true), q.2) else ((decide (q.1 = r.1), r.2, false), q.2)).2 (if q.1 = 21 then ((true, m, true), q.2) else ((decide (q.1 = r.1), r.2, false), q.2)).1.2.1 (i + 1)) := by
    intro q r h1 h2 h3
    by_cases e : q.1 = 21
    · rw [if_pos e]; exact .inl rfl
    · rw [if_neg e]
      obtain ⟨h5, h6⟩ := h1.resolve_left e
      exact .inr ⟨decide_eq_true h5, rfl, h2.mono (by omega), ⟨par, h6⟩, h3.w _ h.w, fun j hj => h3.f j (h.f j hj), h3.n _ h.d⟩
  by_cases h1 : o.kind = 1
  · have e : do19 s m o = (s.fwrite o.ino o.from_ o.b, m.fwrite o.ino o.from_ o.b) := by unfold do19; rw [if_pos h1]
    rw [e]
    exact key _ _ (fwrite_sim h.v R ho.u o.from_ o.b) ((fwrite_ok h.v o.ino o.from_ o.b).mono (by omega)) (fwrite_kp m _ _ _)
  by_cases h2 : o.kind = 2
  · have e : do19 s m o = (s.ftrunc o.ino o.n, m.ftrunc o.ino o.n) := by unfold do19; rw [if_neg h1, if_pos h2]
    rw [e]
    exact key _ _ (ftrunc_sim h.v R ho.u o.n) ((ftrunc_ok h.v o.ino o.n).mono (by omega)) (ftrunc_kp m _ _)
  have e : do19 s m o = ((0, s), (0, m)) := by unfold do19; rw [if_neg h1, if_neg h2]
  rw [e]
  exact key (0, s) (0, m) (.inr ⟨rfl, R⟩) (h.v.mono (by omega)) (KpF.refl m)
theorem D19.based {s : VS} {m : MF} {i : Nat} (h : D19 s m i) : D19 (VS.new (basedT s)) m i ∧ (basedT s).row = s.shown.row := by
  obtain ⟨par, R⟩ := h.r
  obtain ⟨e1, e2⟩ := based_row h.v R.ff
  refine ⟨⟨VJ.new (by rw [e2]; exact h.v.rs) (by rw [← row_len, e2, row_len]; exact h.v.zs) (by rw [e2]; exact h.v.val), ⟨par, ?_⟩, h.w, h.f, h.d⟩, e2⟩
  show Rel (basedT s).row m par
  rw [e2]; exact R
end Go.Proofs.YtfnpelogfcnanaaGreatDoor

/- What stands under the keys of blocks. -/
-- @D
namespace Go.Proofs.YtfnpelogfcnanaaGreatDoor
set_option maxRecDepth 20000
open Go.Awp Tr
theorem dropZ : ∀ s : List UInt8, s.dropWhile (· == 0) = [] ∨ ∃ c r, s.dropWhile (· == 0) = c :: r ∧ c ≠ 0
  | [] => .inl rfl
  | x :: r => by
    by_cases h : x = 0
    · subst h
      rw [List.dropWhile_cons_of_pos (by rfl)]
      exact dropZ r
    · rw [List.dropWhile_cons_of_neg (by simpa using h)]
      exact .inr ⟨x, r, rfl, h⟩
theorem trim0_end (s : List UInt8) : trim0 s = [] ∨ ∃ t c, trim0 s = t ++ [c] ∧ c ≠ 0 := by
  unfold trim0
  rcases dropZ s.reverse with h | ⟨c, r, h, hc⟩
  · exact .inl (by rw [h]; rfl)
  · exact .inr ⟨r.reverse, c, by rw [h, List.reverse_cons], hc⟩
theorem key68 {c j : Int} {r : List UInt8} (hc : c = 73 ∧ r = [] ∨ c = 69 ∨ c = 68) (h2 : Op.bytesLess (keyH c j ++ r) [69] = true) : c = 68 := by
  rcases hc with ⟨rfl, _⟩ | rfl | rfl
  · exact absurd (show Op.bytesLess (keyH 73 j ++ r) [69] = false from rfl) (by rw [h2]; simp)
  · have : Op.bytesLess (keyH 69 j ++ r) [69] = Op.bytesLess (beB 4 j ++ r) [] := rfl
    rw [this, bl_nil] at h2; cases h2
  · rfl
theorem blk_key {l : List KV} {m : MF} {par : Int → Int} (R : Rel l m par) {j : Int} {r v : List UInt8} (hj : U32 j) (hy : (keyH 68 j ++ r, v) ∈ l) :
    ∃ (n : Nat) (x : MN), r = beB 2 (n : Int) ∧ n ≤ 64 ∧ m.at j = some x ∧ x.k = 1 ∧ 64 * n < x.b.length ∧ (∃ t c, v = t ++ [c] ∧ c ≠ 0) ∧ 64 * n + v.length ≤ x.b.length ∧ (x.b.drop (64 * n)).take v.length = v := by
  have hm : (r, v) ∈ subL 68 j l := sub_mem.2 hy
  cases hx : m.at j with
  | none => rw [R.bno j hj hx] at hm; cases hm
  | some x =>
    rw [R.blk j x hx] at hm
    obtain ⟨n, hn, hb⟩ := List.mem_filterMap.1 hm
    rw [List.mem_range] at hn
    split at hb
    · cases hb
    rename_i ht
    injection hb with hb
    obtain ⟨rfl, rfl⟩ := Prod.mk.inj hb
    have hk : x.k = 1 := by
      rcases R.kin j x hx with q | q
      · rw [q.2] at hn; simp at hn
      · exact q.1
    have h4 := (R.bl hx hk).1
    have hlen := trim0_len ((x.b.drop (64 * n)).take 64)
    rw [List.length_take, List.length_drop] at hlen
    refine ⟨n, x, rfl, by omega, rfl, hk, by omega, (trim0_end _).resolve_left ht, by omega, ?_⟩
    obtain ⟨k, e⟩ := trim0_eq ((x.b.drop (64 * n)).take 64)
    have e2 := congrArg (List.take (trim0 ((x.b.drop (64 * n)).take 64)).length) e
    rw [List.take_append_of_le_length (Nat.le_refl _), List.take_length, List.take_take, Nat.min_eq_left (by omega)] at e2
    exact e2
theorem blk_keys {l : List KV} {m : MF} {par : Int → Int} (R : Rel l m par) {y : KV} (hy : y ∈ l) (h2 : Op.bytesLess y.1 [69] = true) (h1 : Op.bytesLess y.1 [68] = false) :
    ∃ (j : Int) (n : Nat) (x : MN), y.1 = keyH 68 j ++ beB 2 (n : Int) ∧ U32 j ∧ n ≤ 64 ∧ m.at j = some x ∧ 64 * n < x.b.length ∧ (∃ t c, y.2 = t ++ [c] ∧ c ≠ 0) ∧ 64 * n + y.2.length ≤ x.b.length ∧ (x.b.drop (64 * n)).take y.2.length = y.2 := by
  obtain ⟨c, j, r, hc, hj, hk⟩ := R.key y hy
  rw [hk] at h2
  obtain rfl := key68 hc h2
  have hy2 : (keyH 68 j ++ r, y.2) ∈ l := by rw [← hk]; exact hy
  obtain ⟨n, x, rfl, q2, q3, _, q5, q6, q7, q8⟩ := blk_key R hj hy2
  exact ⟨j, n, x, hk, hj, q2, q3, q5, q6, q7, q8⟩
end Go.Proofs.YtfnpelogfcnanaaGreatDoor

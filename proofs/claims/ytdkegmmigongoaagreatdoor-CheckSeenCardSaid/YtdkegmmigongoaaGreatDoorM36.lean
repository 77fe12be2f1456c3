import Derived.Test.YtdkegmmigongoaaGreatDoorM35
import Derived.Test.YtdkegmmigongoaaGreatDoorM31
import Derived.Test.YtdkegmmigongoaaGreatDoorM29
import Derived.Test.YtdkegmmigongoaaGreatDoorGo
import Derived.Test.YtdkegmmigongoaaGreatDoorM2
import Derived.Test.YtdkegmmigongoaaGreatDoorM3
import Derived.Test.YtdkegmmigongoaaGreatDoorM7
import Derived.Test.YtdkegmmigongoaaGreatDoorM5
import Derived.Test.YtdkegmmigongoaaGreatDoorM26
import Derived.Test.YtdkegmmigongoaaGreatDoorM28
import Derived.Test.YtdkegmmigongoaaGreatDoorM20
namespace Go.Proofs.YtdkegmmigongoaaGreatDoor
set_option maxRecDepth 20000
open Go.Awp Tr
def madeR : List POp → Nat → VS → List Int → Option VS
 | [], _, s, _ => some s
 | x :: r, i, s, k => if 50 ≤ i then some s else if great x.o = true then some s else
  if (sdo s k x.o ((2 + i : Nat) : Int)).1.e = 21 then none else madeR r (i + 1) (sdo s k x.o ((2 + i : Nat) : Int)).2.1 (sdo s k x.o ((2 + i : Nat) : Int)).2.2
def made0 (l : List POp) : Option VS := madeR l 0 (VS.new .nil) noH
def treeL (l : List KV) : Tr := l.foldl putT .nil
theorem treeL_row {l : List KV} (h : Rises l) : (treeL l).row = l := by
 unfold treeL
 rw [(putT_ok l .nil (by simp [row, Rises])).2]
 exact put_all l [] (by simpa using h)
theorem treeL_size {l : List KV} (h : Rises l) : (treeL l).size = l.length := by rw [← row_len, treeL_row h]
def madeT : Option VS → TV
 | some s => .tup [W (treeL s.shown.row), .p (.ps (kvs s.shown.row)), .p (.bool true)]
 | none => .tup [.p .nilp, .p .nils, .p (.bool false)]
namespace made
structure St (l : List POp) where
 i : Nat
 h : i ≤ l.length
 h6 : i ≤ 50
 s : VS
 k : List Int
 m : MF
 f0 : Int
 d : D20 s k m (fun j => j < (2 + i : Nat)) i
 e : madeR (l.drop i) i s k = made0 l
structure En (l : List POp) where
 i : Nat
 h6 : i ≤ 50
 s : VS
 k : List Int
 m : MF
 f0 : Int
 d : D20 s k m (fun j => j < (2 + i : Nat)) i
 e : some s = made0 l
abbrev Lp (s : VS) (k : List Int) (f0 : Int) : List AObj := [vB (.l 1) s.base s.shown s.writes s.reads s.ranges.length, vR s.ranges, deskB (.l 0) k f0]
end made
open made in
set_option maxHeartbeats 32000000 in
theorem made_spec {u0 : AV} {l : List POp} (hs : Sl popV u0 l) (hok : ∀ x ∈ l, x.ok) : Con Tryz.prog 34 [.p u0] [] (madeT (made0 l)) [] [] := by
 have hrd := hs.rd
 have hlen : (l.map popV).length = l.length := by simp
 refine con_of Tryz.func34 rfl (by kernel_rfl) rfl fun F w0 β0 => ?_
 refine K_tell rfl ?_
 refine go ?_
 refine K_op rfl rfl (opr_callP rfl rfl (tnew_spec) rfl rfl rfl rfl) rfl ?_
 refine go ?_
 refine K_op rfl rfl (opr_callP rfl rfl (vnew_spec .nil) rfl rfl rfl rfl) rfl ?_
 refine go ?_
 refine K_op rfl rfl (opr_callS [.l 0, .l 1] rfl rfl (onew_spec (VS.new .nil)) rfl rfl rfl ⟨⟨rfl, rfl⟩, ⟨rfl, rfl⟩, trivial⟩ rfl rfl rfl rfl) rfl ?_
 refine go ?_
 refine K_op rfl rfl (opr_len_rd hT rfl rfl (hrd _ _)) rfl ?_
 rw [hlen]
 refine go ?_
 refine J_midB (α := En l) (fun _ => [(5, .ad (.l 0) 0)]) (fun _ => []) (fun q => Lp q.s q.k q.f0) ?_ ?_
 ·refine J_loop (fun q : St l => [(5, .ad (.l 0) 0), (6, .ad (.l 2) 0), (17, .p u0), (18, .p (.int .i64 (l.length : Int))), (19, .p (.int .i64 (q.i : Int)))]) (fun _ => []) (fun q => Lp q.s q.k q.f0) (fun q => l.length - q.i) ⟨0, Nat.zero_le _, by omega, VS.new .nil, noH, newM, 0, D20.start, rfl⟩ ⟨rfl, rfl, rfl, rfl, rfl, trivial⟩ rfl rfl (fun q => ?_)
  have d := q.d
  have h6 := q.h6
  have qh := q.h
  have he := q.e
  obtain ⟨a0, a1, a2, a3, a4, a5, a6, a7, a8, a9, a10, a11, a12, a13, a14, a15, hk⟩ := len16 d.l.1
  refine go ?_
  by_cases h : q.i < l.length
  ·have hx : l[q.i]? = some l[q.i] := List.getElem?_eq_getElem h
   have hdr : l.drop q.i = l[q.i] :: l.drop (q.i + 1) := List.drop_eq_getElem_cons h
   have hxo := hok _ (List.getElem_mem h)
   rw [hdr] at he
   generalize l[q.i] = x at hx hxo he
   unfold madeR at he
   have hxk : (l.map popV)[((q.i : Nat) : Int).toNat]? = some (popV x) := by rw [Int.toNat_natCast, List.getElem?_map, hx]; rfl
   have cg := great_spec x.o (.ps x.o.b)
   rw [hk]
   refine K_condT rfl (decide_eq_true (by omega)) ?_
   refine go ?_
   refine K_op rfl rfl (opr_index hT rfl rfl rfl rfl rfl (hrd _ _) (by omega) (by rw [hlen]; omega)) rfl ?_
   refine go ?_
   refine K_op rfl rfl (opr_load_el hT rfl rfl (hrd _ _) hxk rfl rfl) rfl ?_
   refine J_rep 23 (opT x.o (.p (.ps (bv x.o.b)))) rfl (agg_rep 6 rfl (bs_ps hxo.bs)) ?_
   refine gx ?_
   by_cases h60 : 50 ≤ q.i
   ·rw [if_pos h60] at he
    refine J_true 26 rfl (decide_eq_true (by omega)) ?_
    refine go ?_
    refine J_take 3 [(5, .ad (.l 0) 0)] ⟨rfl, trivial⟩ rfl rfl ?_
    exact J_end ⟨q.i, h6, q.s, q.k, q.m, q.f0, d, he⟩ ⟨rfl, trivial⟩ rfl (by dsimp only; rw [hk]; rfl)
   rw [if_neg h60] at he
   refine J_false 26 rfl (decide_eq_false (by omega)) ?_
   refine gx ?_
   refine K_yes rfl rfl rfl (opr_callP rfl rfl (cg) rfl rfl rfl rfl) rfl ?_
   cases hg : great x.o with
   | true =>
    rw [hg, if_pos rfl] at he
    refine go ?_
    refine J_take 3 [(5, .ad (.l 0) 0)] ⟨rfl, trivial⟩ rfl rfl ?_
    exact J_end ⟨q.i, h6, q.s, q.k, q.m, q.f0, d, he⟩ ⟨rfl, trivial⟩ rfl (by dsimp only; rw [hk]; rfl)
   | false =>
    rw [hg, if_neg (by decide)] at he
    have hj : IntKind.u32.wrap (IntKind.i64.wrap (2 + (q.i : Int))) = ((2 + q.i : Nat) : Int) := by rw [IntWalk.i64_in _ (by omega), u32_in _ (by omega)]; omega
    obtain ⟨x1, n1, hx1, hn1, c2⟩ := do20_own d.v (by omega) d.l.1 d.l.2 x.o hxo.o (i := (2 + q.i : Nat)) (by unfold U32; omega) q.f0
    have hst := d.step (Q := fun k => k < (2 + (q.i + 1) : Nat)) (by omega) x.o (j := (2 + q.i : Nat)) (by unfold U32; omega) (by omega) (by omega) (fun k h => by omega) (by omega)
    have hl' := (sdo_l d.l q.s x.o ((2 + q.i : Nat) : Int)).1
    generalize (sdo q.s q.k x.o ((2 + q.i : Nat) : Int)).1 = r at c2 hst hx1 hn1 he
    generalize (sdo q.s q.k x.o ((2 + q.i : Nat) : Int)).2.1 = s2 at c2 hst he
    generalize (sdo q.s q.k x.o ((2 + q.i : Nat) : Int)).2.2 = k2 at c2 hst hl' he
    obtain ⟨b0, b1, b2, b3, b4, b5, b6, b7, b8, b9, b10, b11, b12, b13, b14, b15, hk2⟩ := len16 hl'
    rw [hk, hk2] at c2
    refine go ?_
    refine K_op rfl rfl (opr_app_lz (rows := bv x.o.b) hT rfl rfl (.inr rfl) rfl rfl (.rd (.ps _)) hbs_ps (bv_cl _) (bv_size _) (by decide) (by decide) (by rw [bv_length]; have := hxo.l; show _ * 1 ≤ _; omega)) rfl ?_
    rw [bv_length]
    refine go ?_
    rw [hj]
    refine K_op rfl rfl (opr_callS [.l 2, .l 0, .l 1, .l 4] rfl rfl (c2) rfl rfl rfl ⟨⟨rfl, rfl⟩, ⟨rfl, rfl⟩, ⟨rfl, rfl⟩, ⟨rfl, rfl⟩, trivial⟩ rfl rfl rfl rfl) rfl ?_
    refine go ?_
    by_cases h21 : r.e = 21
    ·rw [if_pos h21] at he
     refine K_condT rfl (by simp [h21]) ?_
     refine go ?_
     rw [← he]
     exact J_done hT rfl rfl rfl
    rw [if_neg h21] at he
    obtain ⟨_, _, d2⟩ := hst.resolve_left h21
    refine K_condF rfl (by simpa using h21) ?_
    refine go ?_
    refine J_take 3 [(5, .ad (.l 0) 0), (6, .ad (.l 2) 0), (17, .p u0), (18, .p (.int .i64 (l.length : Int))), (19, .p (.int .i64 (IntKind.i64.wrap ((q.i : Int) + 1))))] ⟨rfl, rfl, rfl, rfl, rfl, trivial⟩ rfl rfl ?_
    refine J_again ⟨q.i + 1, by omega, by omega, s2, k2, _, ((2 + q.i : Nat) : Int), d2, he⟩ (by show l.length - (q.i + 1) < l.length - q.i; omega) ⟨rfl, rfl, rfl, rfl, congrArg (fun z => TV.p (.int .i64 z)) (by rw [IntWalk.i64_in _ (by omega)]; rfl), trivial⟩ rfl (by dsimp only; rw [hk2]; rfl)
  ·refine K_condF rfl (decide_eq_false (by omega)) ?_
   rw [List.drop_eq_nil_of_le (by omega)] at he
   change some q.s = _ at he
   refine go ?_
   exact J_end ⟨q.i, h6, q.s, q.k, q.m, q.f0, d, he⟩ ⟨rfl, trivial⟩ rfl rfl
 intro q
 have d := q.d
 have h6 := q.h6
 rw [← q.e]
 obtain ⟨par, R⟩ := d.r
 have hv := d.v
 have c4 := range_all hv (by omega) R
 have hR := R.ri
 have hrl : q.s.shown.row.length ≤ 12000 := by have := hv.zs; rw [row_len]; omega
 obtain ⟨a0, a1, a2, a3, a4, a5, a6, a7, a8, a9, a10, a11, a12, a13, a14, a15, hk⟩ := len16 d.l.1
 rw [hk]
 generalize q.s.range [] [255] = s0 at c4
 dsimp only [madeT, treeL]
 generalize q.s.shown.row = B at c4 hR hrl
 have hlk : (kvs B).length = B.length := by simp
 refine go ?_
 refine K_op rfl rfl (opr_callP rfl rfl (tnew_spec) rfl rfl rfl rfl) rfl ?_
 refine go ?_
 refine K_op rfl rfl (opr_callS [.l 0, .l 1] rfl rfl (c4) rfl rfl rfl ⟨⟨rfl, rfl⟩, ⟨rfl, rfl⟩, trivial⟩ rfl rfl rfl rfl) rfl ?_
 refine go ?_
 rw [hlk]
 refine go ?_
 refine J_loop (fun p : Ix B.length => [(9, W ((B.take p.i).foldl putT .nil)), (10, .p (.ps (kvs B))), (47, .p (.ps (kvs B))), (48, .p (.int .i64 (B.length : Int))), (49, .p (.int .i64 (p.i : Int)))]) (fun _ => []) (fun _ => [vB (.l 1) s0.base s0.shown s0.writes s0.reads s0.ranges.length, vR s0.ranges, deskB (.l 0) [a0, a1, a2, a3, a4, a5, a6, a7, a8, a9, a10, a11, a12, a13, a14, a15] q.f0]) (fun p => B.length - p.i) ⟨0, by omega⟩ ⟨rfl, rfl, rfl, rfl, rfl, trivial⟩ rfl rfl (fun p => ?_)
 have hi := p.h
 have hsz := foldT_size (B.take p.i) (List.Pairwise.sublist (List.take_sublist _ _) hR)
 refine go ?_
 by_cases h : p.i < B.length
 ·have hx : B[p.i]? = some B[p.i] := List.getElem?_eq_getElem h
  generalize B[p.i] = x at hx
  have hxk : (kvs B)[((p.i : Nat) : Int).toNat]? = some (kvV x) := kvs_get hx
  have e2 := putT_take hx
  have c3 := tset_spec x.1 x.2 ((B.take p.i).foldl putT .nil) (by rw [hsz, List.length_take]; unfold big40; omega)
  change Con Tryz.prog _ _ _ (W (putT ((B.take p.i).foldl putT .nil) x)) _ _ at c3
  rw [e2] at c3
  refine K_condT rfl (decide_eq_true (by omega)) ?_
  refine go ?_
  refine K_op rfl rfl (opr_index hT rfl rfl rfl rfl rfl (.ps _) (by omega) (by rw [hlk]; omega)) rfl ?_
  refine go ?_
  refine K_op rfl rfl (opr_load_el hT rfl rfl (.ps _) hxk rfl rfl) rfl ?_
  refine go ?_
  refine K_op rfl rfl (opr_callP rfl rfl (c3) rfl rfl rfl rfl) rfl ?_
  refine go ?_
  refine J_take 3 [(9, W ((B.take (p.i + 1)).foldl putT .nil)), (10, .p (.ps (kvs B))), (47, .p (.ps (kvs B))), (48, .p (.int .i64 (B.length : Int))), (49, .p (.int .i64 (IntKind.i64.wrap ((p.i : Int) + 1))))] ⟨rfl, rfl, rfl, rfl, rfl, trivial⟩ rfl rfl ?_
  refine J_again ⟨p.i + 1, by omega⟩ (by show B.length - (p.i + 1) < B.length - p.i; omega) ⟨rfl, rfl, rfl, rfl, congrArg (fun z => TV.p (.int .i64 z)) (by rw [IntWalk.i64_in _ (by omega)]; rfl), trivial⟩ rfl rfl
 refine K_condF rfl (decide_eq_false (by omega)) ?_
 rw [List.take_of_length_le (show B.length ≤ p.i by omega)]
 refine go ?_
 exact J_done hT rfl rfl rfl
end Go.Proofs.YtdkegmmigongoaaGreatDoor
namespace Go.Proofs.YtdkegmmigongoaaGreatDoor
set_option maxRecDepth 20000
open Go.Awp Tr
def MF.nd (m : MF) : Prop := (m.map (·.i)).Nodup
theorem MF.nd.with {m : MF} (h : m.nd) (x : MN) : (m.with x).nd := by
 unfold MF.nd MF.with
 rw [List.map_append, List.map_map]
 have e : (m.map ((·.i) ∘ fun y => if y.i = x.i then x else y)) = m.map (·.i) := by
  refine List.map_congr_left fun y _ => ?_
  show (if y.i = x.i then x else y).i = y.i
  split
  ·rename_i q; exact q.symm
  ·rfl
 rw [e]
 cases hx : m.at x.i with
 | some z =>
  show (List.map (fun x : MN => x.i) m ++ []).Nodup
  rw [List.append_nil]
  exact h
 | none =>
  refine List.nodup_append.2 ⟨h, by simp, fun a ha b hb => ?_⟩
  obtain ⟨y, hy, rfl⟩ := List.mem_map.1 ha
  have hb : b = x.i := by simpa using hb
  rw [hb]
  intro q
  have : (m.at x.i).isSome = true := by rw [at_any, List.any_eq_true]; exact ⟨y, hy, by simpa using q⟩
  rw [hx] at this
  cases this
theorem MF.nd.without {m : MF} (h : m.nd) (j : Int) : (m.without j).nd := List.Nodup.sublist (List.Sublist.map _ List.filter_sublist) h
theorem MF.nd.linked {m : MF} (h : m.nd) (j b : Int) : (m.linked j b).nd := by
 unfold MF.linked; split
 ·rename_i x hx; exact h.with _
 ·exact h
theorem MF.nd.named {m : MF} (h : m.nd) (d : Int) (nm : List UInt8) (j : Int) : (m.named d nm j).nd := by
 unfold MF.named; split
 ·rename_i x hx; exact h.with _
 ·exact h
theorem MF.nd.rmv {m : MF} (h : m.nd) (b : MS) : (m.rmv b).2.nd := by
 unfold MF.rmv
 split
 ·exact h
 ·split
  ·exact h
  ·split
   ·exact h
   ·exact ((h.without _).linked _ _).named _ _ _
theorem MF.nd.unl {m : MF} (h : m.nd) (b : MS) : (m.unl b).2.nd := by
 unfold MF.unl
 split
 ·exact h
 ·split
  ·exact h
  ·split
   ·exact (h.without _).named _ _ _
   ·exact (h.linked _ _).named _ _ _
theorem MF.nd.moved {m : MF} (h : m.nd) (s t : MS) (b : Bool) : (m.moved s t b).nd := by
 unfold MF.moved
 split
 ·exact (((h.named _ _ _).named _ _ _).linked _ _).linked _ _
 ·exact (h.named _ _ _).named _ _ _
theorem MF.nd.make {m : MF} (h : m.nd) (p : List UInt8) (k i : Int) : (m.make p k i).2.nd := by
 unfold MF.make
 split
 ·exact h
 split
 ·exact h
 dsimp only
 split
 ·exact (h.with _).named _ _ _
 ·exact ((h.with _).linked _ _).named _ _ _
theorem MF.nd.remove {m : MF} (h : m.nd) (p : List UInt8) : (m.remove p).2.nd := by
 unfold MF.remove
 repeat' split
 ·exact h
 ·exact h
 ·exact h
 ·exact h.rmv _
theorem MF.nd.unlink {m : MF} (h : m.nd) (p : List UInt8) : (m.unlink p).2.nd := by
 unfold MF.unlink
 repeat' split
 ·exact h
 ·exact h
 ·exact h.unl _
theorem MF.nd.link {m : MF} (h : m.nd) (o p : List UInt8) : (m.link o p).2.nd := by
 unfold MF.link
 split
 ·exact h
 split
 ·exact h
 split
 ·exact h
 split
 ·exact h
 split
 ·exact h
 split
 ·exact h
 split
 ·exact h
 exact (h.linked _ _).named _ _ _
theorem MF.nd.rename {m : MF} (h : m.nd) (o p : List UInt8) : (m.rename o p).2.nd := by
 unfold MF.rename
 split
 ·exact h
 split
 ·exact h
 split
 ·exact h
 split
 ·exact h
 split
 ·exact h
 split
 ·exact h
 split
 ·exact h
 split
 ·exact h.moved _ _ _
 have hq : (if m.kind (m.findP o).1.i = 2 then m.rmv (m.findP p).1 else m.unl (m.findP p).1).2.nd := by
  split
  ·exact h.rmv _
  ·exact h.unl _
 generalize (if m.kind (m.findP o).1.i = 2 then m.rmv (m.findP p).1 else m.unl (m.findP p).1) = q at hq ⊢
 dsimp only
 split
 ·exact h
 ·exact MF.nd.moved hq _ _ _
theorem MF.nd.fwrite {m : MF} (h : m.nd) (i o : Int) (b : List UInt8) : (m.fwrite i o b).2.nd := by
 unfold MF.fwrite
 split
 ·exact h
 rename_i x hx
 split
 ·exact h
 split
 ·exact h
 split
 ·exact h
 ·exact h.with _
theorem MF.nd.ftrunc {m : MF} (h : m.nd) (i z : Int) : (m.ftrunc i z).2.nd := by
 unfold MF.ftrunc
 split
 ·exact h
 rename_i x hx
 split
 ·exact h
 split
 ·exact h
 ·exact h.with _
inductive SplR (m : MF) (y : KV) : Prop where
 | ino (j : Int) (x : MN) (hj : U32 j) (hk : y.1 = keyH 73 j) (hs : splitK y.1 = (73, j, [], 0)) (hx : m.at j = some x) : SplR m y
 | ent (j k : Int) (nm : List UInt8) (x z : MN) (hj : U32 j) (hku : U32 k) (hk : y.1 = keyH 69 j ++ nm) (hs : splitK y.1 = (69, j, nm, 0)) (hn : nameB nm = true) (hx : m.at j = some x) (hg : lget nm x.e = some (beB 4 k)) (hv : y.2 = beB 4 k) (hz : m.at k = some z) : SplR m y
 | blk (j i : Int) (hh : y.1.headD 0 = 68) (hs : splitK y.1 = (68, j, [], i)) : SplR m y
theorem drop5 (c j : Int) (r : List UInt8) : (keyH c j ++ r).drop 5 = r := by
 have h := keyH_len c j
 rw [List.drop_append_of_le_length (by omega), List.drop_of_length_le (by omega)]; rfl
theorem split_row {l : List KV} {m : MF} {par : Int → Int} (R : Rel l m par) {y : KV} (hy : y ∈ l) : SplR m y := by
 obtain ⟨c, j, r, hc, hj, hk⟩ := R.key y hy
 have hl5 : ¬ (keyH c j ++ r).length < 5 := by rw [List.length_append, keyH_len]; omega
 have hd := drop5 c j r
 have hg1 := gF_kH (c := c) r hj
 rcases hc with ⟨rfl, rfl⟩ | rfl | rfl
 ·cases hm : m.at j with
  | none =>
   have h1 := R.non j hj hm
   rw [List.append_nil] at hk
   have h2 := (lget_some R.ri).2 (show (y.1, y.2) ∈ l from hy)
   rw [hk, h1] at h2; cases h2
  | some x =>
   refine .ino j x hj (by rw [hk]; simp) ?_ hm
   rw [hk]
   unfold splitK
   rw [if_neg hl5, if_pos ⟨rfl, hd⟩, hg1]
 ·have hmem : (r, y.2) ∈ subL 69 j l := sub_mem.2 (by rw [← hk]; exact hy)
  cases hm : m.at j with
  | none => rw [R.eno j hj hm] at hmem; cases hmem
  | some x =>
   have hg : lget r x.e = some y.2 := by rw [R.ent j x hm]; exact (lget_some (sub_rises R.ri)).2 hmem
   obtain ⟨hn, k, z, g1, g2, _⟩ := R.nam j x hm r _ hg
   refine .ent j k r x z hj (R.u k z g2).1 hk ?_ hn hm (by rw [hg, g1]) g1 g2
   have hlen := nameB_len hn
   have hne : r ≠ [] := fun e => by rw [e] at hn; revert hn; decide
   rw [hk]
   unfold splitK
   rw [if_neg hl5, if_neg (by rw [hd]; exact fun q => hne q.2), if_pos (by rw [hd]; exact ⟨rfl, hne, hlen⟩), hd, hg1]
 ·have hmem : (r, y.2) ∈ subL 68 j l := sub_mem.2 (by rw [← hk]; exact hy)
  cases hm : m.at j with
  | none => rw [R.bno j hj hm] at hmem; cases hmem
  | some x =>
   rw [R.blk j x hm] at hmem
   obtain ⟨i, _, _, g3⟩ := blkOf_mem hmem
   dsimp only at g3
   have hr2 : r.length = 2 := by rw [g3, beB_len]
   refine .blk j (beV r) (by rw [hk]; rfl) ?_
   rw [hk]
   unfold splitK
   have b0e : b0 (keyH 68 j ++ r) = 68 := rfl
   rw [if_neg hl5, b0e, if_neg (by omega), if_neg (by omega), if_pos ⟨rfl, by rw [hd]; exact hr2⟩, hd, hg1]
def sumF {α : Type} (f : α → Int) : List α → Int
 | [] => 0
 | x :: r => f x + sumF f r
end Go.Proofs.YtdkegmmigongoaaGreatDoor

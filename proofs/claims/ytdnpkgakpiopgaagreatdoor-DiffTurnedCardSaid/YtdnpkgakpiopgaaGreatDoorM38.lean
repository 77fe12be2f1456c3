import Derived.Test.YtdnpkgakpiopgaaGreatDoorM37
import Derived.Test.YtdnpkgakpiopgaaGreatDoorM36
import Derived.Test.YtdnpkgakpiopgaaGreatDoorM35
import Derived.Test.YtdnpkgakpiopgaaGreatDoorGo
import Derived.Test.YtdnpkgakpiopgaaGreatDoorM26
import Derived.Test.YtdnpkgakpiopgaaGreatDoorM23
import Derived.Test.YtdnpkgakpiopgaaGreatDoorM19
namespace Go.Proofs.YtdnpkgakpiopgaaGreatDoor
set_option maxRecDepth 20000
open Go.Awp Tr
def madeR : List POp → Nat → VS → List Int → Option VS
 | [], _, s, _ => some s
 | x :: r, i, s, k => if 50 ≤ i then some s else if great x.o = true then some s else
  if (sdo s k x.o ((2 + i : Nat) : Int)).1.e = 21 then none else madeR r (i + 1) (sdo s k x.o ((2 + i : Nat) : Int)).2.1 (sdo s k x.o ((2 + i : Nat) : Int)).2.2
def made0 (l : List POp) : Option VS := madeR l 0 (VS.new .nil) noH
def treeL (l : List KV) : Tr := l.foldl putT .nil
theorem zA9 {l : List KV} (h : Rises l) : (treeL l).row = l := by
 unfold treeL
 rw [(zJm l .nil (by simp [row, Rises])).2]
 exact zKb l [] (by simpa using h)
theorem zR6 {l : List KV} (h : Rises l) : (treeL l).size = l.length := by rw [← yN, zA9 h]
def madeT : Option VS → TV
 | some s => .tup [W (treeL s.shown.row), .p (.ps (kvs s.shown.row)), .p (.bool true)]
 | none => .tup [.p .nilp, .p .nils, .p (.bool false)]
namespace made
structure St (l : List POp) where
 i : Nat
 h : i ≤ l.length
 h6 : i ≤ 50
 s : VS
 k : List Int
 m : MF
 f0 : Int
 d : D20 s k m (fun j => j < (2 + i : Nat)) i
 e : madeR (l.drop i) i s k = made0 l
structure En (l : List POp) where
 i : Nat
 h6 : i ≤ 50
 s : VS
 k : List Int
 m : MF
 f0 : Int
 d : D20 s k m (fun j => j < (2 + i : Nat)) i
 e : some s = made0 l
abbrev Lp (s : VS) (k : List Int) (f0 : Int) : List AObj := [vB (.l 1) s.base s.shown s.writes s.reads s.ranges.length, vR s.ranges, deskB (.l 0) k f0]
end made
open made in
set_option maxHeartbeats 32000000 in
theorem zF7 {u0 : AV} {l : List POp} (hs : Sl popV u0 l) (hok : ∀ x ∈ l, x.ok) : Con Tryz.prog 9 [.p u0] [] (madeT (made0 l)) [] [] := by
 have hrd := hs.rd
 have hlen : (l.map popV).length = l.length := by simp
 refine zD Tryz.func9 rfl (by kernel_rfl) rfl fun F w0 β0 => ?_
 refine zE rfl ?_
 refine go ?_
 refine zH rfl rfl (zB rfl rfl (zFx) rfl rfl rfl rfl) rfl ?_
 refine go ?_
 refine zH rfl rfl (zB rfl rfl (zL2 .nil) rfl rfl rfl rfl) rfl ?_
 refine go ?_
 refine zH rfl rfl (zA [.l 0, .l 1] rfl rfl (zV4 (VS.new .nil)) rfl rfl rfl ⟨⟨rfl, rfl⟩, ⟨rfl, rfl⟩, trivial⟩ rfl rfl rfl rfl) rfl ?_
 refine go ?_
 refine zH rfl rfl (zP hT rfl rfl (hrd _ _)) rfl ?_
 rw [hlen]
 refine go ?_
 refine J_midB (α := En l) (fun _ => [(5, .ad (.l 0) 0)]) (fun _ => []) (fun q => Lp q.s q.k q.f0) ?_ ?_
 ·refine z9 (fun q : St l => [(5, .ad (.l 0) 0), (6, .ad (.l 2) 0), (17, .p u0), (18, .p (.int .i64 (l.length : Int))), (19, .p (.int .i64 (q.i : Int)))]) (fun _ => []) (fun q => Lp q.s q.k q.f0) (fun q => l.length - q.i) ⟨0, Nat.zero_le _, by omega, VS.new .nil, noH, newM, 0, D20.start, rfl⟩ ⟨rfl, rfl, rfl, rfl, rfl, trivial⟩ rfl rfl (fun q => ?_)
  have d := q.d
  have h6 := q.h6
  have qh := q.h
  have he := q.e
  obtain ⟨a0, a1, a2, a3, a4, a5, a6, a7, a8, a9, a10, a11, a12, a13, a14, a15, hk⟩ := len16 d.l.1
  refine go ?_
  by_cases h : q.i < l.length
  ·have hx : l[q.i]? = some l[q.i] := List.getElem?_eq_getElem h
   have hdr : l.drop q.i = l[q.i] :: l.drop (q.i + 1) := List.drop_eq_getElem_cons h
   have hxo := hok _ (List.getElem_mem h)
   rw [hdr] at he
   generalize l[q.i] = x at hx hxo he
   unfold madeR at he
   have hxk : (l.map popV)[((q.i : Nat) : Int).toNat]? = some (popV x) := by rw [Int.toNat_natCast, List.getElem?_map, hx]; rfl
   have cg := zRz x.o (.ps x.o.b)
   rw [hk]
   refine zG rfl (decide_eq_true (by omega)) ?_
   refine go ?_
   refine zH rfl rfl (zJ hT rfl rfl rfl rfl rfl (hrd _ _) (by omega) (by rw [hlen]; omega)) rfl ?_
   refine go ?_
   refine zH rfl rfl (zI hT rfl rfl (hrd _ _) hxk rfl rfl) rfl ?_
   refine J_rep 23 (opT x.o (.p (.ps (bv x.o.b)))) rfl (agg_rep 6 rfl (bs_ps hxo.bs)) ?_
   refine gx ?_
   by_cases h60 : 50 ≤ q.i
   ·rw [if_pos h60] at he
    refine zSw 26 rfl (decide_eq_true (by omega)) ?_
    refine go ?_
    refine zY 3 [(5, .ad (.l 0) 0)] ⟨rfl, trivial⟩ rfl rfl ?_
    exact J_end ⟨q.i, h6, q.s, q.k, q.m, q.f0, d, he⟩ ⟨rfl, trivial⟩ rfl (by dsimp only; rw [hk]; rfl)
   rw [if_neg h60] at he
   refine zN1 26 rfl (decide_eq_false (by omega)) ?_
   refine gx ?_
   refine zZ rfl rfl rfl (zB rfl rfl (cg) rfl rfl rfl rfl) rfl ?_
   cases hg : great x.o with
   | true =>
    rw [hg, if_pos rfl] at he
    refine go ?_
    refine zY 3 [(5, .ad (.l 0) 0)] ⟨rfl, trivial⟩ rfl rfl ?_
    exact J_end ⟨q.i, h6, q.s, q.k, q.m, q.f0, d, he⟩ ⟨rfl, trivial⟩ rfl (by dsimp only; rw [hk]; rfl)
   | false =>
    rw [hg, if_neg (by decide)] at he
    have hj : IntKind.u32.wrap (IntKind.i64.wrap (2 + (q.i : Int))) = ((2 + q.i : Nat) : Int) := by rw [IntWalk.i64_in _ (by omega), zC2 _ (by omega)]; omega
    obtain ⟨x1, n1, hx1, hn1, c2⟩ := do20_own d.v (by omega) d.l.1 d.l.2 x.o hxo.o (i := (2 + q.i : Nat)) (by unfold U32; omega) q.f0
    have hst := d.step (Q := fun k => k < (2 + (q.i + 1) : Nat)) (by omega) x.o (j := (2 + q.i : Nat)) (by unfold U32; omega) (by omega) (by omega) (fun k h => by omega) (by omega)
    have hl' := (sdo_l d.l q.s x.o ((2 + q.i : Nat) : Int)).1
    generalize (sdo q.s q.k x.o ((2 + q.i : Nat) : Int)).1 = r at c2 hst hx1 hn1 he
    generalize (sdo q.s q.k x.o ((2 + q.i : Nat) : Int)).2.1 = s2 at c2 hst he
    generalize (sdo q.s q.k x.o ((2 + q.i : Nat) : Int)).2.2 = k2 at c2 hst hl' he
    obtain ⟨b0, b1, b2, b3, b4, b5, b6, b7, b8, b9, b10, b11, b12, b13, b14, b15, hk2⟩ := len16 hl'
    rw [hk, hk2] at c2
    refine go ?_
    refine zH rfl rfl (zQq (rows := bv x.o.b) hT rfl rfl (.inr rfl) rfl rfl (.rd (.ps _)) jQ (zLz _) (y5 _) (by decide) (by decide) (by rw [bv_length]; have := hxo.l; show _ * 1 ≤ _; omega)) rfl ?_
    rw [bv_length]
    refine go ?_
    rw [hj]
    refine zH rfl rfl (zA [.l 2, .l 0, .l 1, .l 4] rfl rfl (c2) rfl rfl rfl ⟨⟨rfl, rfl⟩, ⟨rfl, rfl⟩, ⟨rfl, rfl⟩, ⟨rfl, rfl⟩, trivial⟩ rfl rfl rfl rfl) rfl ?_
    refine go ?_
    by_cases h21 : r.e = 21
    ·rw [if_pos h21] at he
     refine zG rfl (by simp [h21]) ?_
     refine go ?_
     rw [← he]
     exact zC hT rfl rfl rfl
    rw [if_neg h21] at he
    obtain ⟨_, _, d2⟩ := hst.resolve_left h21
    refine zF rfl (by simpa using h21) ?_
    refine go ?_
    refine zY 3 [(5, .ad (.l 0) 0), (6, .ad (.l 2) 0), (17, .p u0), (18, .p (.int .i64 (l.length : Int))), (19, .p (.int .i64 (IntKind.i64.wrap ((q.i : Int) + 1))))] ⟨rfl, rfl, rfl, rfl, rfl, trivial⟩ rfl rfl ?_
    refine zR ⟨q.i + 1, by omega, by omega, s2, k2, _, ((2 + q.i : Nat) : Int), d2, he⟩ (by show l.length - (q.i + 1) < l.length - q.i; omega) ⟨rfl, rfl, rfl, rfl, congrArg (fun z => TV.p (.int .i64 z)) (by rw [IntWalk.i64_in _ (by omega)]; rfl), trivial⟩ rfl (by dsimp only; rw [hk2]; rfl)
  ·refine zF rfl (decide_eq_false (by omega)) ?_
   rw [List.drop_eq_nil_of_le (by omega)] at he
   change some q.s = _ at he
   refine go ?_
   exact J_end ⟨q.i, h6, q.s, q.k, q.m, q.f0, d, he⟩ ⟨rfl, trivial⟩ rfl rfl
 intro q
 have d := q.d
 have h6 := q.h6
 rw [← q.e]
 obtain ⟨par, R⟩ := d.r
 have hv := d.v
 have c4 := zVc hv (by omega) R
 have hR := R.ri
 have hrl : q.s.shown.row.length ≤ 12000 := by have := hv.zs; rw [yN]; omega
 obtain ⟨a0, a1, a2, a3, a4, a5, a6, a7, a8, a9, a10, a11, a12, a13, a14, a15, hk⟩ := len16 d.l.1
 rw [hk]
 generalize q.s.range [] [255] = s0 at c4
 dsimp only [madeT, treeL]
 generalize q.s.shown.row = B at c4 hR hrl
 have hlk : (kvs B).length = B.length := by simp
 refine go ?_
 refine zH rfl rfl (zB rfl rfl (zFx) rfl rfl rfl rfl) rfl ?_
 refine go ?_
 refine zH rfl rfl (zA [.l 0, .l 1] rfl rfl (c4) rfl rfl rfl ⟨⟨rfl, rfl⟩, ⟨rfl, rfl⟩, trivial⟩ rfl rfl rfl rfl) rfl ?_
 refine go ?_
 rw [hlk]
 refine go ?_
 refine z9 (fun p : Ix B.length => [(9, W ((B.take p.i).foldl putT .nil)), (10, .p (.ps (kvs B))), (47, .p (.ps (kvs B))), (48, .p (.int .i64 (B.length : Int))), (49, .p (.int .i64 (p.i : Int)))]) (fun _ => []) (fun _ => [vB (.l 1) s0.base s0.shown s0.writes s0.reads s0.ranges.length, vR s0.ranges, deskB (.l 0) [a0, a1, a2, a3, a4, a5, a6, a7, a8, a9, a10, a11, a12, a13, a14, a15] q.f0]) (fun p => B.length - p.i) ⟨0, by omega⟩ ⟨rfl, rfl, rfl, rfl, rfl, trivial⟩ rfl rfl (fun p => ?_)
 have hi := p.h
 have hsz := zQu (B.take p.i) (List.Pairwise.sublist (List.take_sublist _ _) hR)
 refine go ?_
 by_cases h : p.i < B.length
 ·have hx : B[p.i]? = some B[p.i] := List.getElem?_eq_getElem h
  generalize B[p.i] = x at hx
  have hxk : (kvs B)[((p.i : Nat) : Int).toNat]? = some (kvV x) := zM0 hx
  have e2 := zTf hx
  have c3 := zAg x.1 x.2 ((B.take p.i).foldl putT .nil) (by rw [hsz, List.length_take]; unfold big40; omega)
  change Con Tryz.prog _ _ _ (W (putT ((B.take p.i).foldl putT .nil) x)) _ _ at c3
  rw [e2] at c3
  refine zG rfl (decide_eq_true (by omega)) ?_
  refine go ?_
  refine zH rfl rfl (zJ hT rfl rfl rfl rfl rfl (.ps _) (by omega) (by rw [hlk]; omega)) rfl ?_
  refine go ?_
  refine zH rfl rfl (zI hT rfl rfl (.ps _) hxk rfl rfl) rfl ?_
  refine go ?_
  refine zH rfl rfl (zB rfl rfl (c3) rfl rfl rfl rfl) rfl ?_
  refine go ?_
  refine zY 3 [(9, W ((B.take (p.i + 1)).foldl putT .nil)), (10, .p (.ps (kvs B))), (47, .p (.ps (kvs B))), (48, .p (.int .i64 (B.length : Int))), (49, .p (.int .i64 (IntKind.i64.wrap ((p.i : Int) + 1))))] ⟨rfl, rfl, rfl, rfl, rfl, trivial⟩ rfl rfl ?_
  refine zR ⟨p.i + 1, by omega⟩ (by show B.length - (p.i + 1) < B.length - p.i; omega) ⟨rfl, rfl, rfl, rfl, congrArg (fun z => TV.p (.int .i64 z)) (by rw [IntWalk.i64_in _ (by omega)]; rfl), trivial⟩ rfl rfl
 refine zF rfl (decide_eq_false (by omega)) ?_
 rw [List.take_of_length_le (show B.length ≤ p.i by omega)]
 refine go ?_
 exact zC hT rfl rfl rfl
end Go.Proofs.YtdnpkgakpiopgaaGreatDoor
namespace Go.Proofs.YtdnpkgakpiopgaaGreatDoor
set_option maxRecDepth 20000
open Go.Awp Tr
theorem zOe : ∀ (l : List POp) (i : Nat) (s : VS) (k : List Int) (m : MF), D20 s k m (fun j => j < (2 + i : Nat)) i → RA m → i ≤ 50 → ∀ s', madeR l i s k = some s' → ∃ k' m' i', i' ≤ 50 ∧ D20 s' k' m' (fun j => j < (2 + i' : Nat)) i' ∧ RA m'
 | [], i, s, k, m, d, ha, hi, s', h => by
  obtain rfl : s = s' := Option.some.inj h
  exact ⟨k, m, i, hi, d, ha⟩
 | x :: r, i, s, k, m, d, ha, hi, s', h => by
  unfold madeR at h
  by_cases h5 : 50 ≤ i
  ·rw [if_pos h5] at h
   obtain rfl : s = s' := Option.some.inj h
   exact ⟨k, m, i, hi, d, ha⟩
  rw [if_neg h5] at h
  by_cases hg : great x.o = true
  ·rw [if_pos hg] at h
   obtain rfl : s = s' := Option.some.inj h
   exact ⟨k, m, i, hi, d, ha⟩
  rw [if_neg hg] at h
  by_cases he : (sdo s k x.o ((2 + i : Nat) : Int)).1.e = 21
  ·rw [if_pos he] at h; cases h
  rw [if_neg he] at h
  have hst := d.step (Q := fun k => k < (2 + (i + 1) : Nat)) (by omega) x.o (j := (2 + i : Nat)) (by unfold U32; omega) (by omega) (by omega) (fun k h => by omega) (by omega)
  obtain ⟨e1, e2, d2⟩ := hst.resolve_left he
  obtain ⟨par, R⟩ := d.r
  have hr := mdo_ra R d.w (by omega) ha k x.o (i := ((2 + i : Nat) : Int)) (by unfold U32; omega) (by omega) (d.p.none (by omega))
  exact zOe r (i + 1) _ _ _ d2 hr (by omega) s' h
theorem zT6 {l : List POp} {s : VS} (h : made0 l = some s) : ∃ m par, Rel s.shown.row m par ∧ RA m ∧ VJ s 10000 := by
 obtain ⟨k, m, i, h1, d, ha⟩ := zOe l 0 _ _ _ D20.start RA.new (by omega) s h
 obtain ⟨par, R⟩ := d.r
 exact ⟨m, par, R, ha, d.v.mono (by omega)⟩
theorem zMj {s : VS} {n : Nat} (h : VJ s n) : VJ (VS.new (treeL s.shown.row)) n :=
 VJ.new (by rw [zA9 h.rs]; exact h.rs) (by rw [zR6 h.rs, yN]; exact h.zs) (by rw [zA9 h.rs]; exact h.val)
structure WR (s : VS) : Prop where
 b : s.base = .nil
 rs : Rises s.shown.row
 rw : Rises s.writes.row
 z : s.writes.size ≤ 48
 sub : ∀ k, (s.shown.get k).isSome = true → (s.writes.get k).isSome = true
theorem WR.new : WR (VS.new .nil) := ⟨rfl, by simp [VS.new, row, Rises], by simp [VS.new, row, Rises], Nat.zero_le _, fun k h => by cases h⟩
theorem WR.rd {s : VS} (h : WR s) (k : List UInt8) : WR (s.rd k) := ⟨h.b, h.rs, h.rw, h.z, h.sub⟩
theorem WR.rds {s : VS} (h : WR s) (ks : List (List UInt8)) : WR (s.rds ks) := ⟨h.b, h.rs, h.rw, h.z, h.sub⟩
theorem WR.range {s : VS} (h : WR s) (a b : List UInt8) : WR (s.range a b) := by
 unfold VS.range; split
 ·exact ⟨h.b, h.rs, h.rw, h.z, h.sub⟩
 ·exact h
theorem zHz {t : Tr} (h : Rises t.row) (k v k' : List UInt8) : ((t.set k v).get k').isSome = (decide (k' = k) || (t.get k').isSome) := by
 rw [yQ _ _ (jS h), qY _ _ _ h, yR h, yQ _ _ h]
 by_cases e : k' = k
 ·rw [if_pos e]; simp [e]
 ·rw [if_neg e]; simp [e]
theorem zHu {t : Tr} (h : Rises t.row) (k k' : List UInt8) : ((t.cut k).get k').isSome = (!decide (k' = k) && (t.get k').isSome) := by
 rw [yQ _ _ (by rw [qT _ _ h]; exact yC h), qT _ _ h, qI, yQ _ _ h]
 by_cases e : k' = k
 ·rw [if_pos e]; simp [e]
 ·rw [if_neg e]; simp [e]
theorem WR.put {s : VS} (h : WR s) (k v : List UInt8) : WR (s.put k v) := by
 unfold VS.put
 split
 ·rename_i hr
  refine ⟨h.b, jS h.rs, jS h.rw, ?_, fun k' hk => ?_⟩
  ·show (s.writes.set k (61 :: v)).size ≤ 48
   rw [zMx h.rw]
   unfold VS.room at hr
   rw [Bool.or_eq_true, decide_eq_true_eq] at hr
   have := h.z
   split
   ·omega
   ·rcases hr with q | q
    ·rename_i q2; exact absurd q q2
    ·omega
  ·change ((s.shown.set k v).get k').isSome = true at hk
   show ((s.writes.set k (61 :: v)).get k').isSome = true
   rw [zHz h.rs] at hk
   rw [zHz h.rw]
   rw [Bool.or_eq_true] at hk ⊢
   exact hk.imp id (h.sub k')
 ·exact h
theorem WR.del {s : VS} (h : WR s) (k : List UInt8) : WR (s.del k) := by
 unfold VS.del
 split
 ·have hb : (s.base.get k).isSome = false := by rw [h.b]; rfl
  have hw : (s.cut k).writes = s.writes.cut k := by
   show (if (s.base.get k).isSome = true then s.writes.set k [] else s.writes.cut k) = _
   rw [hb, if_neg (by decide)]
  refine ⟨h.b, by show Rises (s.shown.cut k).row; rw [qT _ _ h.rs]; exact yC h.rs, by rw [hw, qT _ _ h.rw]; exact yC h.rw, ?_, fun k' hk => ?_⟩
  ·rw [hw, zOc h.rw]
   have := h.z
   split <;> omega
  ·change ((s.shown.cut k).get k').isSome = true at hk
   rw [hw]
   rw [zHu h.rs] at hk
   rw [zHu h.rw]
   rw [Bool.and_eq_true] at hk ⊢
   exact ⟨hk.1, h.sub k' hk.2⟩
 ·exact h
theorem WR.save {s : VS} (h : WR s) (i : Int) (g : Nd) : WR (s.save i g) := h.put _ _
theorem WR.links {s : VS} (h : WR s) (d b : Int) : WR (s.links d b) := WR.save (h.rd _) _ _
theorem WR.cutsL : ∀ (R : List KV) {s : VS} (e : Int), WR s → WR (s.cutsL R e).2
 | [], _, _, h => h
 | x :: R, _, _, h => WR.cutsL R _ (h.del x.1)
theorem WR.removes {s : VS} (h : WR s) (a : Sp) : WR (s.removes a).2 := by
 unfold VS.removes
 split
 ·exact h
 split
 ·exact h.range _ _
 ·have g1 : WR (s.rngE a.i) := h.range _ _
  exact ((g1.del _).del _).links _ _
theorem WR.unlinks {s : VS} (h : WR s) (a : Sp) : WR (s.unlinks a).2 := by
 unfold VS.unlinks
 split
 ·exact h
 have g1 := h.del (entryK a.d a.m)
 dsimp only
 split
 ·exact g1.save _ _
 ·exact (WR.cutsL _ _ (g1.range _ _)).del _
theorem WR.make {s : VS} (h : WR s) (p : List UInt8) (k i : Int) : WR (s.make p k i).2 := by
 unfold VS.make VS.makeAt
 have g1 : WR (s.rds (s.find p).2.2) := h.rds _
 dsimp only
 split
 ·exact g1
 split
 ·exact g1
 have g2 := g1.save i (newN k (s.find p).1.d)
 have g3 := g2.put (entryK (s.find p).1.d (s.find p).1.m) (beB 4 i)
 split
 ·exact g3.links _ _
 ·exact g3
theorem WR.rdp {s : VS} (h : WR s) (p : List UInt8) : WR (s.rdp p) := h.rds _
theorem WR.remove {s : VS} (h : WR s) (p : List UInt8) : WR (s.remove p).2 := by
 unfold VS.remove
 split
 ·exact h.rdp p
 ·exact WR.removes (h.rdp p) _
theorem WR.unlink {s : VS} (h : WR s) (p : List UInt8) : WR (s.unlink p).2 := by
 unfold VS.unlink
 split
 ·exact h.rdp p
 ·exact WR.unlinks (h.rdp p) _
theorem WR.dlist {s : VS} (h : WR s) (p : List UInt8) : WR (s.dlist p).2 := by
 unfold VS.dlist
 split
 ·exact h.rdp p
 split
 ·exact h.rdp p
 ·exact WR.range (s := s.rdp p) (h.rdp p) _ _
theorem WR.link {s : VS} (h : WR s) (o p : List UInt8) : WR (s.link o p).2 := by
 unfold VS.link VS.linkAt
 have g1 : WR (s.rdp o) := h.rdp o
 have g2 : WR ((s.rdp o).rdp p) := g1.rdp p
 dsimp only
 split
 ·exact g1
 split
 ·exact g1
 split
 ·exact g2
 split
 ·exact g2
 split
 ·exact g2
 exact (g2.put _ _).save _ _
theorem WR.movesAt {s : VS} (h : WR s) (a t : Sp) : WR (s.movesAt a t).2 := by
 unfold VS.movesAt
 dsimp only
 have g1 := h.del (entryK a.d a.m)
 have g2 := g1.put (entryK t.d t.m) (beB 4 a.i)
 split
 ·exact g2
 ·exact ((g2.save a.i (parN a.n t.d)).links _ _).links _ _
theorem WR.rename {s : VS} (h : WR s) (o p : List UInt8) : WR (s.rename o p).2 := by
 unfold VS.rename VS.renameAt
 have g1 : WR (s.rdp o) := h.rdp o
 have g2 : WR ((s.rdp o).rdp p) := g1.rdp p
 split
 ·exact g1
 split
 ·exact g2
 split
 ·exact g2
 split
 ·exact g2
 have hc : WR (((s.rdp o).rdp p).clears (s.there o false).1 ((s.rdp o).find p).1 o p).2 := by
  unfold VS.clears
  split
  ·exact g2
  split
  ·exact g2
  split
  ·exact g2.removes _
  ·exact g2.unlinks _
 split
 ·exact hc
 ·exact hc.movesAt _ _
theorem WR.putB {s : VS} (h : WR s) (i : Int) (n : Nat) (b : List UInt8) : WR (s.putB i n b).2 := by
 unfold VS.putB
 split
 ·exact h.put _ _
 split
 ·exact h
 ·exact h.del _
theorem WR.wrL (i : Int) : ∀ (l : List (Nat × Nat × Nat)) {s : VS} (b : List UInt8) (ok : Bool), WR s → WR (wrL i l s b ok).2
 | [], _, _, _, h => h
 | _ :: r, _, _, _, h => WR.wrL i r _ _ (h.putB _ _ _)
theorem WR.shrL (i : Int) (z : Nat) : ∀ (l : List Nat) {s : VS} (ok : Bool), WR s → WR (shrL i z l s ok).2
 | [], _, _, h => h
 | _ :: r, _, _, h => WR.shrL i z r _ (h.putB _ _ _)
theorem WR.fwrite {s : VS} (h : WR s) (i o : Int) (b : List UInt8) : WR (s.fwrite i o b).2 := by
 have h1 := h.rd (keyH 73 i)
 unfold VS.fwrite
 split
 ·exact h1
 split
 ·exact h1
 split
 ·exact h1
 split
 ·exact h1
 ·exact WR.wrL _ _ _ _ (h1.save _ _)
theorem WR.ftrunc {s : VS} (h : WR s) (i z : Int) : WR (s.ftrunc i z).2 := by
 have h1 := h.rd (keyH 73 i)
 unfold VS.ftrunc
 split
 ·exact h1
 split
 ·exact h1
 split
 ·exact h1
 split
 ·exact WR.shrL _ _ _ _ (h1.save _ _)
 ·exact h1.save _ _
theorem WR.len {s : VS} (h : WR s) : s.shown.row.length ≤ 48 := by
 refine Nat.le_trans ?_ h.z
 rw [← yN]
 have hk : ∀ {l m : List KV}, Rises l → Rises m → (∀ k, (lget k l).isSome = true → (lget k m).isSome = true) → l.length ≤ m.length := by
  intro l
  induction l with
  | nil => intro m _ _ _; exact Nat.zero_le _
  | cons x r ih =>
   intro m hl hm hs
   have hp := List.pairwise_cons.1 hl
   have hx : (lget x.1 m).isSome = true := hs x.1 (by simp [lget])
   have hr := ih (m := lcut x.1 m) hp.2 (yC hm) fun k hk => by
    have hne : k ≠ x.1 := fun e => by
     subst e
     rw [qX fun y hy q => jW (hp.1 y hy) q.symm] at hk
     cases hk
    rw [qI, if_neg hne]
    exact hs k (by
     unfold lget
     rw [if_neg (fun q => hne q.symm)]
     exact hk)
   rw [zGs hm, if_pos hx] at hr
   have : 0 < m.length := by
    cases m with
    | nil => cases hx
    | cons _ _ => simp
   rw [List.length_cons]; omega
 exact hk h.rs h.rw fun k hk' => by
  have := h.sub k (by rw [yQ _ _ h.rs]; exact hk')
  rw [yQ _ _ h.rw] at this
  exact this
def basedV (s : VS) : VS := VS.new (treeL s.shown.row)
def bkS : List POp → Nat → VS → List Int → Option VS
 | [], _, s, _ => some s
 | x :: r, i, s, l => if (sdo s l x.o (500 - (i : Int))).1.e ≠ 0 then none else if x.o.kind = 6 ∨ x.o.kind = 9 then bkS r (i + 1) (sdo s l x.o (500 - (i : Int))).2.1 (sdo s l x.o (500 - (i : Int))).2.2
  else bkS r (i + 1) (basedV (sdo s l x.o (500 - (i : Int))).2.1) noH
theorem bkS_base {x : POp} {r : List POp} {i : Nat} {s : VS} {l : List Int} (he : (sdo s l x.o (500 - (i : Int))).1.e = 0) (hk : ¬ (x.o.kind = 6 ∨ x.o.kind = 9)) :
  bkS (x :: r) i s l = bkS r (i + 1) (basedV (sdo s l x.o (500 - (i : Int))).2.1) noH := by
 rw [bkS, if_neg (by rw [he]; decide), if_neg hk]
def PN (i : Nat) (k : Int) : Prop := k = 1 ∨ 500 - (i : Int) < k
theorem stepN {s : VS} {l : List Int} {m : MF} {i : Nat} (d : D20 s l m (PN i) i) (hi : i ≤ 400) (o : Op20) :
  (sdo s l o (500 - (i : Int))).1.e = 21 ∨ ((sdo s l o (500 - (i : Int))).1 = (mdo m l o (500 - (i : Int))).1 ∧ (sdo s l o (500 - (i : Int))).2.2 = (mdo m l o (500 - (i : Int))).2.2 ∧
   D20 (sdo s l o (500 - (i : Int))).2.1 (sdo s l o (500 - (i : Int))).2.2 (mdo m l o (500 - (i : Int))).2.1 (PN (i + 1)) (i + 1)) := by
 obtain ⟨par, R⟩ := d.r
 have hP : ¬ PN i (500 - (i : Int)) := by unfold PN; omega
 have hQ : ∀ k, PN i k → PN (i + 1) k := by unfold PN; omega
 have hj : U32 (500 - (i : Int)) := by unfold U32; omega
 refine (zO8 d.v R d.w (by omega) (by omega) d.l.2 o hj (by omega) (d.p.none hP)).imp_right fun ⟨h1, h2, h3⟩ => ⟨h1, h2, ?_⟩
 exact ⟨(sdo_vj d.v R l o _).mono (by omega), h3, (mdo_wk d.w (by omega) l o _).mono (by omega), zVf (d.p.mono hQ) l o (by unfold PN; omega), sdo_l d.l s o _⟩
theorem D20.based {s : VS} {l : List Int} {m : MF} {P : Int → Prop} {i : Nat} (d : D20 s l m P i) : D20 (basedV s) noH m P i ∧ (basedV s).writes = .nil := by
 obtain ⟨par, R⟩ := d.r
 refine ⟨⟨zMj d.v, ⟨par, ?_⟩, d.w, d.p, by decide, fun x hx => by rw [List.eq_of_mem_replicate hx]; decide⟩, rfl⟩
 show Rel (treeL s.shown.row).row m par
 rw [zA9 d.v.rs]
 exact R
end Go.Proofs.YtdnpkgakpiopgaaGreatDoor

import Derived.Test.YtdnpkgakpiopgaaGreatDoorM5
import Derived.Test.YtdnpkgakpiopgaaGreatDoorGo
namespace Go.Proofs.YtdnpkgakpiopgaaGreatDoor
set_option maxRecDepth 20000
open Go.Awp Tr
def idxR : List Rg → Rg → Nat → Int
 | [], _, _ => -1
 | x :: t, r, i => if x = r then (i : Int) else idxR t r (i + 1)
theorem zOk (r : Rg) : ∀ (l : List Rg) (i : Nat), (0 ≤ idxR l r i ↔ r ∈ l) ∧ -1 ≤ idxR l r i
 | [], i => by simp [idxR]
 | x :: t, i => by
  have := zOk r t (i + 1)
  unfold idxR
  split
  ·rename_i e
   exact ⟨by simp [e], by omega⟩
  ·rename_i e
   refine ⟨?_, this.2⟩
   rw [this.1, List.mem_cons]
   exact ⟨.inr, fun h => h.resolve_left fun h => e h.symm⟩
structure IxR (l : List Rg) (r : Rg) where
 i : Nat
 h : i ≤ l.length
 e : idxR (l.drop i) r i = idxR l r 0
theorem rg_eq (r x : Rg) : (decide (r.1 = x.1) && (decide (r.2 = x.2) && true)) = decide (x = r) := by
 by_cases h : x = r
 ·subst h; simp
 ·rw [decide_eq_false h]
  have : ¬ (r.1 = x.1 ∧ r.2 = x.2) := fun ⟨h1, h2⟩ => h (Prod.ext h1.symm h2.symm)
  simp only [Bool.and_true, Bool.and_eq_false_iff, decide_eq_false_iff_not]
  exact Decidable.not_and_iff_or_not.1 this
set_option maxHeartbeats 4000000 in
theorem zMb (l : List Rg) (r : Rg) (hl : l.length ≤ big40) : Con Tryz.prog 85 [.sl (.o 0) l.length 0 l.length, .p (rgV r)] [vR l] (.p (.int .i64 (idxR l r 0))) [vR l] [] := by
 have hlen : (l.map rgV).length = l.length := by simp
 have hrd : ∀ L, Rd [vR l] L (.sl (.o 0) l.length 0 l.length) (l.map rgV) := fun L => Rd.full rfl hlen
 unfold big40 at hl
 refine zD Tryz.func85 rfl (by kernel_rfl) rfl fun F w0 β0 => ?_
 refine zE rfl ?_
 refine go ?_
 refine zH rfl rfl (zP hT rfl rfl (hrd _)) rfl ?_
 rw [hlen]
 refine go ?_
 refine z9 (fun q : IxR l r => [(0, .sl (.o 0) l.length 0 l.length), (3, .ad (.l 0) 0), (7, .p (.int .i64 (l.length : Int))), (8, .p (.int .i64 (q.i : Int)))]) (fun _ => [vR l]) (fun _ => [.box 105 [.p (.str r.1), .p (.str r.2)]]) (fun q => l.length - q.i) ⟨0, by omega, rfl⟩ ⟨rfl, rfl, rfl, rfl, trivial⟩ rfl rfl (fun q => ?_)
 have hi := q.h
 have he := q.e
 refine go ?_
 by_cases h : q.i < l.length
 ·have hx : l[q.i]? = some l[q.i] := List.getElem?_eq_getElem h
  have hdr : l.drop q.i = l[q.i] :: l.drop (q.i + 1) := List.drop_eq_getElem_cons h
  rw [hdr] at he
  generalize l[q.i] = x at hx he
  have hxk : (l.map rgV)[((q.i : Nat) : Int).toNat]? = some (rgV x) := by rw [Int.toNat_natCast, List.getElem?_map, hx]; rfl
  refine zG rfl (decide_eq_true (by omega)) ?_
  refine go ?_
  refine yE [_] [] (by kernel_rfl) (by kernel_rfl) rfl ?_
  refine gd ?_
  refine zS rfl rfl rfl rfl rfl (zJ hT rfl rfl rfl rfl rfl (hrd _) (by omega) (by rw [hlen]; omega)) rfl ?_
  refine zS rfl rfl rfl rfl rfl (zI hT rfl rfl (hrd _) hxk rfl rfl) rfl ?_
  refine zS rfl rfl rfl rfl rfl (yF hT rfl (by kernel_rfl) rfl rfl rfl rfl rfl) rfl ?_
  refine zH7 [(0, .sl (.o 0) l.length 0 l.length), (3, .ad (.l 0) 0), (5, .p (.int .i64 (q.i : Int))), (7, .p (.int .i64 (l.length : Int))), (8, .p (.int .i64 (q.i : Int))), (16, .p (.bool (decide (x = r))))] ⟨rfl, rfl, rfl, rfl, rfl, (by rw [← rg_eq r x]; rfl), trivial⟩ ?_
  by_cases hk : x = r
  ·rw [← he, idxR, if_pos hk]
   refine zG rfl (by simp [hk]) ?_
   refine go ?_
   exact zC hT rfl rfl rfl
  ·rw [idxR, if_neg hk] at he
   refine zF rfl (by simp [hk]) ?_
   refine go ?_
   refine zR ⟨q.i + 1, by omega, he⟩ (by show l.length - (q.i + 1) < l.length - q.i; omega) ⟨rfl, rfl, rfl, congrArg (fun z => TV.p (.int .i64 z)) (by rw [IntWalk.i64_in _ (by omega)]; rfl), trivial⟩ rfl rfl
 ·rw [List.drop_eq_nil_of_le (by omega), idxR] at he
  rw [← he]
  refine zF rfl (decide_eq_false (by omega)) ?_
  refine go ?_
  exact zC hT rfl rfl rfl
theorem zHd (l : List Rg) (r : Rg) (hl : l.length ≤ big40) : Con Tryz.prog 42 [.sl (.o 0) l.length 0 l.length, .p (rgV r)] [vR l] (.p (.bool (decide (r ∈ l)))) [vR l] [] := by
 have c1 := zMb l r hl
 have e : decide (r ∈ l) = decide (idxR l r 0 ≥ 0) := decide_eq_decide.2 (zOk r l 0).1.symm
 rw [e]
 generalize idxR l r 0 = z at c1
 refine zD Tryz.func42 rfl (by kernel_rfl) rfl fun F w0 β0 => ?_
 refine zE rfl ?_
 refine go ?_
 refine zH rfl rfl (zA [.o 0] rfl rfl (c1) rfl rfl rfl ⟨⟨rfl, rfl⟩, trivial⟩ rfl rfl rfl rfl) rfl ?_
 refine go ?_
 exact zC hT rfl rfl rfl
def VS.range (s : VS) (a b : List UInt8) : VS := if Op.bytesLess a b = true then { s with ranges := if (a, b) ∈ s.ranges then s.ranges else s.ranges ++ [(a, b)] } else s
def VS.rangeR (s : VS) (a b : List UInt8) : List KV := if Op.bytesLess a b = true then s.shown.range a b else []
set_option maxHeartbeats 4000000 in
theorem zDk (s : VS) (a b : List UInt8) (hs : s.shown.size ≤ big40) (hr : s.ranges.length ≤ big40) : Con Tryz.prog 22 [vP, .p (.str a), .p (.str b)] (vH s) (accT 0 .nils (kvs (s.rangeR a b))) (vH (s.range a b)) (accL 58 3 (kvs (s.rangeR a b))) := by
 unfold VS.range VS.rangeR
 by_cases hab : Op.bytesLess a b = true
 ·rw [if_pos hab, if_pos hab]
  have c1 := zHd s.ranges (a, b) hr
  have c2 := zC7 a b s.shown hs
  refine zD Tryz.func22 rfl (by kernel_rfl) rfl fun F w0 β0 => ?_
  refine zE rfl ?_
  refine gx ?_
  rw [hab]
  refine go ?_
  refine yE [_] [] (by kernel_rfl) (by kernel_rfl) rfl ?_
  refine gd ?_
  refine zS rfl rfl rfl rfl rfl (zA [.o 1] rfl rfl c1 rfl rfl rfl ⟨⟨rfl, rfl⟩, trivial⟩ rfl rfl rfl rfl) rfl ?_
  refine gd ?_
  refine zH7 [(0, vP), (1, .p (.str a)), (2, .p (.str b)), (7, .ad (.l 0) 0), (24, .p (.bool (!(decide ((a, b) ∈ s.ranges)))))] ⟨rfl, rfl, rfl, rfl, rfl, trivial⟩ ?_
  by_cases hm : (a, b) ∈ s.ranges
  ·rw [if_pos hm, decide_eq_true hm]
   refine go ?_
   refine zY 0 [(38, W s.shown), (39, .p (.str a)), (40, .p (.str b))] ⟨rfl, rfl, rfl, trivial⟩ rfl rfl ?_
   refine zFh rfl rfl (zDp rfl rfl c2 rfl rfl (zIo 0 0 0 _ _) (zJk ..)) rfl ?_
   refine zFh rfl rfl (zD5 (accT 0 .nils (kvs (s.shown.range a b))) (.inr rfl) rfl) rfl ?_
   refine go ?_
   exact zBr hT rfl rfl
  ·rw [if_neg hm, decide_eq_false hm]
   have e1 : vH { s with ranges := s.ranges ++ [(a, b)] } = [vB (.o 1) s.base s.shown s.writes s.reads (s.ranges.length + 1), .arr 105 true 2 (s.ranges.map rgV ++ [rgV (a, b)])] := by
    simp [vH, vB, vR]
   rw [e1]
   refine go ?_
   refine zG0 [vH s, [vB (.o 1) s.base s.shown s.writes s.reads s.ranges.length, .arr 105 true 2 (s.ranges.map rgV ++ [rgV (a, b)])], [vB (.o 1) s.base s.shown s.writes s.reads (s.ranges.length + 1), .arr 105 true 2 (s.ranges.map rgV ++ [rgV (a, b)])]]
    [[.box 105 [.p (.str a), .p (.str b)]], [.box 105 [.p (.str a), .p (.str b)]], [.box 105 [.p (.str a), .p (.str b)]]] [7, 10] (by kernel_rfl) (by kernel_rfl) rfl rfl ?_
   refine gdH ?_
   refine yI rfl rfl rfl rfl rfl rfl (qA (i := 1) (n := s.ranges.length) (rows0 := s.ranges.map rgV) (rows := [rgV (a, b)]) (Ty := 105) (te := ⟨.array 2 9, 2, 32, [.str [], .str []]⟩) hT rfl rfl rfl rfl (by simp) rfl rfl (.rd (.ps _)) jQ (show clR [rgV (a, b)] from by intro r hr x hx; simp at hr; subst hr; simp [cellsOf, rgV] at hx; rcases hx with rfl | rfl <;> rfl) (show ∀ r ∈ [rgV (a, b)], (cellsOf r).length = 2 from by intro r hr; simp at hr; subst hr; rfl) (by decide) (by show (s.ranges.length + 1) * 32 ≤ _; unfold big40 at hr; omega)) rfl ?_
   refine gdH ?_
   refine zH7 [(0, vP), (1, .p (.str a)), (2, .p (.str b))] ⟨rfl, rfl, rfl, trivial⟩ ?_
   refine go ?_
   refine zY 0 [(38, W s.shown), (39, .p (.str a)), (40, .p (.str b))] ⟨rfl, rfl, rfl, trivial⟩ rfl rfl ?_
   refine zFh rfl rfl (zDp rfl rfl c2 rfl rfl (zIo 0 0 0 _ _) (zJk ..)) rfl ?_
   refine zFh rfl rfl (zD5 (accT 0 .nils (kvs (s.shown.range a b))) (.inr rfl) rfl) rfl ?_
   refine go ?_
   exact zBr hT rfl rfl
 ·rw [if_neg hab, if_neg hab]
  simp only [Bool.not_eq_true] at hab
  refine zD Tryz.func22 rfl (by kernel_rfl) rfl fun F w0 β0 => ?_
  refine zE rfl ?_
  refine gx ?_
  rw [hab]
  refine go ?_
  exact zC hT rfl rfl rfl
end Go.Proofs.YtdnpkgakpiopgaaGreatDoor
namespace Go.Proofs.YtdnpkgakpiopgaaGreatDoor
set_option maxRecDepth 20000
open Go.Awp Go.RowKit
section
variable {P : Program} {Γ : Ctx} {env0 : Env} {H L : List AObj} {Q : Exit → Act → World → Prop} {id : Nat} {ops : List Oper}
theorem yA (n : Nat) (H2 : List AObj) (hm : P.follows .mixedOrders = true) (hreg : regOk Γ.N ops [n] = true)
  (h : Tele P ops env0 (fun k => [H, H2].getD k []) [L, L] [n] (fun xs => J Γ (finE ops xs env0) H2 L (Q .normal)) ops 0 []) : J Γ env0 H L ((Code.region id ops.toArray true).wp P Q) :=
 zG0 [H, H2] [L, L] [n] hm hreg rfl rfl h
theorem jH (n m : Nat) (H2 H3 : List AObj) (hm : P.follows .mixedOrders = true) (hreg : regOk Γ.N ops [n, m] = true)
  (h : Tele P ops env0 (fun k => [H, H2, H3].getD k []) [L, L, L] [n, m] (fun xs => J Γ (finE ops xs env0) H3 L (Q .normal)) ops 0 []) : J Γ env0 H L ((Code.region id ops.toArray true).wp P Q) :=
 zG0 [H, H2, H3] [L, L, L] [n, m] hm hreg rfl rfl h
theorem zPt (n m q r : Nat) (H2 H3 H4 H5 : List AObj) (hm : P.follows .mixedOrders = true) (hreg : regOk Γ.N ops [n, m, q, r] = true)
  (h : Tele P ops env0 (fun k => [H, H2, H3, H4, H5].getD k []) [L, L, L, L, L] [n, m, q, r] (fun xs => J Γ (finE ops xs env0) H5 L (Q .normal)) ops 0 []) : J Γ env0 H L ((Code.region id ops.toArray true).wp P Q) :=
 zG0 [H, H2, H3, H4, H5] [L, L, L, L, L] [n, m, q, r] hm hreg rfl rfl h
end
section
variable {P : Program} {ops : List Oper} {env0 : Env} {Hs Ls : List (List AObj)} {ss : List Nat} {xs : List TV}
theorem zPd {K : List TV → Prop} {o : Oper} {rest : List Oper} {i k : Nat} {x : TV} {H L H2 L2 H3 L3 : List AObj} (hg : o.guard = none) (hp : posn ss 0 i = none) (hk : loK o ss 0 0 = k) (hk2 : Nat.beq (hiK ops i ss 0 - k) 2 = true) (hH : Hs.getD k [] = H) (hL : Ls.getD k [] = L) (hH2 : Hs.getD (k + 1) [] = H2) (hL2 : Ls.getD (k + 1) [] = L2) (hH3 : Hs.getD (k + 2) [] = H3) (hL3 : Ls.getD (k + 2) [] = L3)
  (h : OpR P o (RdE ops env0 xs o) H L x H L) (h2 : OpR P o (RdE ops env0 xs o) H2 L2 x H2 L2) (h3 : OpR P o (RdE ops env0 xs o) H3 L3 x H3 L3) {xs' : List TV} (hxs : snocD xs x = some xs') (kk : Tele P ops env0 (fun k => Hs.getD k []) Ls ss K rest (i + 1) xs') : Tele P ops env0 (fun k => Hs.getD k []) Ls ss K (o :: rest) i xs :=
 ⟨x, .inl ⟨fun g b hgb => (by rw [hg] at hgb; cases hgb), by
  subst hH hL hH2 hL2 hH3 hL3
  unfold Obl
  rw [hp]
  simp only
  rw [hk, Nat.eq_of_beq_eq_true hk2]
  exact ⟨h, h2, h3⟩⟩, by rw [yG (yL hxs)]; exact kk⟩
theorem zVe {K : List TV → Prop} {o : Oper} {rest : List Oper} {i k : Nat} {x : TV} {H L H2 L2 H3 L3 H4 L4 : List AObj} (hg : o.guard = none) (hp : posn ss 0 i = none) (hk : loK o ss 0 0 = k) (hk2 : Nat.beq (hiK ops i ss 0 - k) 3 = true) (hH : Hs.getD k [] = H) (hL : Ls.getD k [] = L) (hH2 : Hs.getD (k + 1) [] = H2) (hL2 : Ls.getD (k + 1) [] = L2) (hH3 : Hs.getD (k + 2) [] = H3) (hL3 : Ls.getD (k + 2) [] = L3) (hH4 : Hs.getD (k + 3) [] = H4) (hL4 : Ls.getD (k + 3) [] = L4)
  (h : OpR P o (RdE ops env0 xs o) H L x H L) (h2 : OpR P o (RdE ops env0 xs o) H2 L2 x H2 L2) (h3 : OpR P o (RdE ops env0 xs o) H3 L3 x H3 L3) (h4 : OpR P o (RdE ops env0 xs o) H4 L4 x H4 L4) {xs' : List TV} (hxs : snocD xs x = some xs') (kk : Tele P ops env0 (fun k => Hs.getD k []) Ls ss K rest (i + 1) xs') : Tele P ops env0 (fun k => Hs.getD k []) Ls ss K (o :: rest) i xs :=
 ⟨x, .inl ⟨fun g b hgb => (by rw [hg] at hgb; cases hgb), by
  subst hH hL hH2 hL2 hH3 hL3 hH4 hL4
  unfold Obl
  rw [hp]
  simp only
  rw [hk, Nat.eq_of_beq_eq_true hk2]
  exact ⟨h, h2, h3, h4⟩⟩, by rw [yG (yL hxs)]; exact kk⟩
theorem zSz {K : List TV → Prop} {o : Oper} {rest : List Oper} {i k : Nat} {x : TV} {H L H2 L2 H3 L3 H4 L4 H5 L5 : List AObj} (hg : o.guard = none) (hp : posn ss 0 i = none) (hk : loK o ss 0 0 = k) (hk2 : Nat.beq (hiK ops i ss 0 - k) 4 = true) (hH : Hs.getD k [] = H) (hL : Ls.getD k [] = L) (hH2 : Hs.getD (k + 1) [] = H2) (hL2 : Ls.getD (k + 1) [] = L2) (hH3 : Hs.getD (k + 2) [] = H3) (hL3 : Ls.getD (k + 2) [] = L3) (hH4 : Hs.getD (k + 3) [] = H4) (hL4 : Ls.getD (k + 3) [] = L4) (hH5 : Hs.getD (k + 4) [] = H5) (hL5 : Ls.getD (k + 4) [] = L5)
  (h : OpR P o (RdE ops env0 xs o) H L x H L) (h2 : OpR P o (RdE ops env0 xs o) H2 L2 x H2 L2) (h3 : OpR P o (RdE ops env0 xs o) H3 L3 x H3 L3) (h4 : OpR P o (RdE ops env0 xs o) H4 L4 x H4 L4) (h5 : OpR P o (RdE ops env0 xs o) H5 L5 x H5 L5) {xs' : List TV} (hxs : snocD xs x = some xs') (kk : Tele P ops env0 (fun k => Hs.getD k []) Ls ss K rest (i + 1) xs') : Tele P ops env0 (fun k => Hs.getD k []) Ls ss K (o :: rest) i xs :=
 ⟨x, .inl ⟨fun g b hgb => (by rw [hg] at hgb; cases hgb), by
  subst hH hL hH2 hL2 hH3 hL3 hH4 hL4 hH5 hL5
  unfold Obl
  rw [hp]
  simp only
  rw [hk, Nat.eq_of_beq_eq_true hk2]
  exact ⟨h, h2, h3, h4, h5⟩⟩, by rw [yG (yL hxs)]; exact kk⟩
end
theorem gdJ {φ ψ : Prop} (k : ψ) (h : ψ → φ := by
 intro k
 repeat (first
  | with_reducible refine zJf ?_
  | ((with_reducible refine zTx ?_); first | refine yJ rfl rfl rfl rfl rfl rfl (zK hT rfl) rfl ?_ | refine yJ rfl rfl rfl rfl rfl rfl (zO hT rfl) rfl ?_ | refine yJ rfl rfl rfl rfl rfl rfl (zN hT rfl) rfl ?_ | refine yJ rfl rfl rfl rfl rfl rfl (yS hT rfl rfl rfl rfl) rfl ?_ | refine zBs rfl rfl rfl rfl rfl rfl rfl rfl (zK hT rfl) (zK hT rfl) rfl ?_ | refine zBs rfl rfl rfl rfl rfl rfl rfl rfl (zO hT rfl) (zO hT rfl) rfl ?_ | refine zBs rfl rfl rfl rfl rfl rfl rfl rfl (zN hT rfl) (zN hT rfl) rfl ?_ | refine zBs rfl rfl rfl rfl rfl rfl rfl rfl (yS hT rfl rfl rfl rfl) (yS hT rfl rfl rfl rfl) rfl ?_ | refine zPd rfl rfl rfl rfl rfl rfl rfl rfl rfl rfl (yS hT rfl rfl rfl rfl) (yS hT rfl rfl rfl rfl) (yS hT rfl rfl rfl rfl) rfl ?_ | refine zPd rfl rfl rfl rfl rfl rfl rfl rfl rfl rfl (zK hT rfl) (zK hT rfl) (zK hT rfl) rfl ?_ | refine zPd rfl rfl rfl rfl rfl rfl rfl rfl rfl rfl (zO hT rfl) (zO hT rfl) (zO hT rfl) rfl ?_ | refine zPd rfl rfl rfl rfl rfl rfl rfl rfl rfl rfl (zN hT rfl) (zN hT rfl) (zN hT rfl) rfl ?_ | refine zVe rfl rfl rfl rfl rfl rfl rfl rfl rfl rfl rfl rfl (zK hT rfl) (zK hT rfl) (zK hT rfl) (zK hT rfl) rfl ?_ | refine zVe rfl rfl rfl rfl rfl rfl rfl rfl rfl rfl rfl rfl (zO hT rfl) (zO hT rfl) (zO hT rfl) (zO hT rfl) rfl ?_ | refine zVe rfl rfl rfl rfl rfl rfl rfl rfl rfl rfl rfl rfl (zN hT rfl) (zN hT rfl) (zN hT rfl) (zN hT rfl) rfl ?_ | refine zSz rfl rfl rfl rfl rfl rfl rfl rfl rfl rfl rfl rfl rfl rfl (zK hT rfl) (zK hT rfl) (zK hT rfl) (zK hT rfl) (zK hT rfl) rfl ?_ | refine zSz rfl rfl rfl rfl rfl rfl rfl rfl rfl rfl rfl rfl rfl rfl (zO hT rfl) (zO hT rfl) (zO hT rfl) (zO hT rfl) (zO hT rfl) rfl ?_ | refine zSz rfl rfl rfl rfl rfl rfl rfl rfl rfl rfl rfl rfl rfl rfl (zN hT rfl) (zN hT rfl) (zN hT rfl) (zN hT rfl) (zN hT rfl) rfl ?_ | refine yI rfl rfl rfl rfl rfl rfl (zO hT rfl) rfl ?_ | refine yI rfl rfl rfl rfl rfl rfl (zK hT rfl) rfl ?_))
 exact k) : φ := h k
end Go.Proofs.YtdnpkgakpiopgaaGreatDoor
namespace Go.Proofs.YtdnpkgakpiopgaaGreatDoor
set_option maxRecDepth 20000
open Go.Awp
theorem y8 {k v : List UInt8} : ∀ {l : List KV}, Rises l → ∀ y : KV, y ∈ lset k v l ↔ y = (k, v) ∨ (y ∈ l ∧ y.1 ≠ k)
 | [], _, y => by simp [lset]
 | x :: r, h, y => by
  have hr := List.pairwise_cons.1 h
  unfold lset
  split
  ·rename_i hlt
   simp only [List.mem_cons]
   constructor
   ·rintro (h1 | h1 | h1)
    ·exact .inl h1
    ·exact .inr ⟨.inl h1, by rw [h1]; exact fun e => jW hlt e.symm⟩
    ·exact .inr ⟨.inr h1, fun e => jW (qK hlt (hr.1 y h1)) e.symm⟩
   ·rintro (h1 | ⟨h1 | h1, _⟩)
    ·exact .inl h1
    ·exact .inr (.inl h1)
    ·exact .inr (.inr h1)
  ·split
   ·rename_i he
    simp only [List.mem_cons]
    constructor
    ·rintro (h1 | h1)
     ·exact .inl h1
     ·exact .inr ⟨.inr h1, fun e => jW (hr.1 y h1) (by rw [e, he])⟩
    ·rintro (h1 | ⟨h1 | h1, h2⟩)
     ·exact .inl h1
     ·exact absurd (by rw [h1, he]) h2
     ·exact .inr h1
   ·rename_i he
    simp only [List.mem_cons, y8 hr.2 y]
    constructor
    ·rintro (h1 | h1 | ⟨h1, h2⟩)
     ·exact .inr ⟨.inl h1, by rw [h1]; exact fun e => he e.symm⟩
     ·exact .inl h1
     ·exact .inr ⟨.inr h1, h2⟩
    ·rintro (h1 | ⟨h1 | h1, h2⟩)
     ·exact .inr (.inl h1)
     ·exact .inl h1
     ·exact .inr (.inr ⟨h1, h2⟩)
theorem zA0 : ∀ {l m : List KV}, Rises l → Rises m → (∀ x, x ∈ l ↔ x ∈ m) → l = m
 | [], [], _, _, _ => rfl
 | [], b :: m, _, _, h => by simpa using (h b).2 (by simp)
 | a :: l, [], _, _, h => by simpa using (h a).1 (by simp)
 | a :: l, b :: m, hl, hm, h => by
  have h1 := List.pairwise_cons.1 hl
  have h2 := List.pairwise_cons.1 hm
  have e : a = b := by
   rcases List.mem_cons.1 ((h a).1 (by simp)) with e | ha
   ·exact e
   ·rcases List.mem_cons.1 ((h b).2 (by simp)) with e | hb
    ·exact e.symm
    ·exact absurd (h2.1 a ha) (zCo (h1.1 b hb))
  subst e
  rw [zA0 h1.2 h2.2 fun x => ?_]
  constructor
  ·intro hx
   rcases List.mem_cons.1 ((h x).1 (by simp [hx])) with e | hx2
   ·subst e; exact absurd (h1.1 x hx) (lt_irrefl _)
   ·exact hx2
  ·intro hx
   rcases List.mem_cons.1 ((h x).2 (by simp [hx])) with e | hx2
   ·subst e; exact absurd (h2.1 x hx) (lt_irrefl _)
   ·exact hx2
namespace Tr
end Tr
end Go.Proofs.YtdnpkgakpiopgaaGreatDoor
namespace Go.Proofs.YtdnpkgakpiopgaaGreatDoor
set_option maxRecDepth 20000
open Go.Awp
theorem z5 {k v : List UInt8} : ∀ {l : List KV}, Rises l → (lget k l = some v ↔ (k, v) ∈ l)
 | [], _ => by simp [lget]
 | x :: r, h => by
  have hp := List.pairwise_cons.1 h
  unfold lget
  split
  ·rename_i e
   subst e
   constructor
   ·intro h1
    obtain rfl := Option.some.inj h1
    simp
   ·intro h1
    rcases List.mem_cons.1 h1 with h1 | h1
    ·rw [← h1]
    ·exact absurd (hp.1 _ h1) (lt_irrefl _)
  ·rename_i e
   rw [z5 hp.2, List.mem_cons]
   exact ⟨.inr, fun h1 => h1.resolve_left fun h2 => e (by rw [← h2])⟩
theorem yR {k v kk : List UInt8} : ∀ {l : List KV}, Rises l → lget kk (lset k v l) = if kk = k then some v else lget kk l
 | [], _ => by
  simp only [lset, lget]
  by_cases e : kk = k
  ·rw [if_pos e.symm, if_pos e]
  ·rw [if_neg (fun h => e h.symm), if_neg e]
 | x :: r, h => by
  have hp := List.pairwise_cons.1 h
  unfold lset
  split
  ·simp only [lget]
   by_cases e : kk = k
   ·rw [if_pos e.symm, if_pos e]
   ·rw [if_neg (fun h => e h.symm), if_neg e]
  ·split
   ·rename_i e0
    simp only [lget]
    by_cases e : kk = k
    ·rw [if_pos e.symm, if_pos e]
    ·rw [if_neg (fun h => e h.symm), if_neg e, if_neg (fun h => e (by rw [← h, e0]))]
   ·rename_i e0
    simp only [lget]
    by_cases e1 : x.1 = kk
    ·rw [if_pos e1, if_pos e1, if_neg (fun e => e0 (by rw [← e, e1]))]
    ·rw [if_neg e1, if_neg e1, yR hp.2]
theorem qI {k kk : List UInt8} : ∀ {l : List KV}, lget kk (lcut k l) = if kk = k then none else lget kk l
 | [] => by simp [lcut, lget]
 | x :: r => by
  have ih := qI (k := k) (kk := kk) (l := r)
  unfold lcut at ih ⊢
  rw [List.filter_cons]
  by_cases e : x.1 = k
  ·rw [if_neg (by simp [e]), ih]
   by_cases e2 : kk = k
   ·rw [if_pos e2, if_pos e2]
   ·rw [if_neg e2, if_neg e2, lget, if_neg (fun h => e2 (by rw [← h, e]))]
  ·rw [if_pos (by simp [e])]
   simp only [lget]
   by_cases e1 : x.1 = kk
   ·rw [if_pos e1, if_pos e1, if_neg (fun h => e (by rw [e1, h]))]
   ·rw [if_neg e1, if_neg e1, ih]
theorem zDi {k v : List UInt8} : ∀ {l : List KV}, Rises l → (lset k v l).length = if (lget k l).isSome = true then l.length else l.length + 1
 | [], _ => by simp [lset, lget]
 | x :: r, h => by
  have hp := List.pairwise_cons.1 h
  unfold lset
  split
  ·rename_i hlt
   have : lget k (x :: r) = none := qX fun y hy => by
    rcases List.mem_cons.1 hy with rfl | hy
    ·exact fun e => jW hlt e.symm
    ·exact fun e => jW (qK hlt (hp.1 y hy)) e.symm
   rw [this]; rfl
  ·split
   ·rename_i e
    simp [lget, e]
   ·rename_i e
    have e' : lget k (x :: r) = lget k r := by rw [lget, if_neg (fun h => e h.symm)]
    rw [e', List.length_cons, zDi hp.2, List.length_cons]
    split <;> rfl
theorem zGs {k : List UInt8} {l : List KV} (h : Rises l) : (lcut k l).length = if (lget k l).isSome = true then l.length - 1 else l.length := by
 induction l with
 | nil => simp [lcut, lget]
 | cons x r ih =>
  have hp := List.pairwise_cons.1 h
  have ih := ih hp.2
  unfold lcut at ih ⊢
  rw [List.filter_cons]
  by_cases e : x.1 = k
  ·have hf : (r.filter fun y => !(y.1 == k)) = r := List.filter_eq_self.2 fun y hy => by
    have := hp.1 y hy
    simp only [Bool.not_eq_true', beq_eq_false_iff_ne, ne_eq]
    exact fun e2 => jW this (by rw [e, e2])
   rw [if_neg (by simp [e]), hf, lget, if_pos e]
   simp
  ·rw [if_pos (by simp [e]), List.length_cons, ih, lget, if_neg e]
   split
   ·rename_i hs
    cases r with
    | nil => simp [lget] at hs
    | cons => simp
   ·rfl
theorem zFm {l m : List KV} (hl : Rises l) (hm : Rises m) (h : ∀ k, lget k l = lget k m) : l = m := by
 have key : ∀ {l m : List KV}, Rises l → Rises m → (∀ k, lget k l = lget k m) → ∀ x, x ∈ l → x ∈ m := fun {l m} hl hm h x hx => by
  have := (z5 hl).2 (show (x.1, x.2) ∈ l from hx)
  rw [h] at this
  exact (z5 hm).1 this
 exact zA0 hl hm fun x => ⟨key hl hm h x, key hm hl (fun k => (h k).symm) x⟩
namespace Tr
theorem set_get {k v kk : List UInt8} {t : Tr} (h : Rises t.row) : (t.set k v).get kk = if kk = k then some v else t.get kk := by
 have h2 : Rises (t.set k v).row := by rw [qY _ _ _ h]; exact z7 h
 rw [yQ _ _ h2, yQ _ _ h, qY _ _ _ h, yR h]
theorem zMx {k v : List UInt8} {t : Tr} (h : Rises t.row) : (t.set k v).size = if (t.get k).isSome = true then t.size else t.size + 1 := by
 rw [← yN, ← yN, qY _ _ _ h, zDi h, yQ _ _ h]
theorem zOc {k : List UInt8} {t : Tr} (h : Rises t.row) : (t.cut k).size = if (t.get k).isSome = true then t.size - 1 else t.size := by
 rw [← yN, ← yN, qT _ _ h, zGs h, yQ _ _ h]
theorem jS {k v : List UInt8} {t : Tr} (h : Rises t.row) : Rises (t.set k v).row := by rw [qY _ _ _ h]; exact z7 h
theorem zKy {k : List UInt8} {t : Tr} (h : Rises t.row) : Rises (t.cut k).row := by rw [qT _ _ h]; exact yC h
end Tr
end Go.Proofs.YtdnpkgakpiopgaaGreatDoor

import Derived.Test.YtdnpkgakpiopgaaGreatDoorGo
import Derived.Test.YtdnpkgakpiopgaaGreatDoorM7
import Derived.Test.YtdnpkgakpiopgaaGreatDoorM5
import Derived.Test.YtdnpkgakpiopgaaGreatDoorM21
import Derived.Test.YtdnpkgakpiopgaaGreatDoorM3
import Derived.Test.YtdnpkgakpiopgaaGreatDoorM17
import Derived.Test.YtdnpkgakpiopgaaGreatDoorM16
namespace Go.Proofs.YtdnpkgakpiopgaaGreatDoor
set_option maxRecDepth 20000
open Go.Awp Tr
def ldT (t : Tr) (j : Int) : Option Nd := ndOf j (t.get (keyH 73 j))
def isDT (t : Tr) (j : Int) : Bool := match ldT t j with
 | some x => x.1 == 2
 | none => false
def cdT (t : Tr) (d : Int) (nm : List UInt8) : Option Int := chOf (t.get (entryK d nm))
def entT (t : Tr) (y : KV) : Option (Int × Int) := if (splitK y.1).1 = 69 then (cdT t (splitK y.1).2.1 (splitK y.1).2.2.1).map fun i => ((splitK y.1).2.1, i) else none
abbrev EL := List (Int × Int)
def entsT (t : Tr) (l : List KV) : EL := l.filterMap (entT t)
def cntE (L : EL) (j : Int) : Nat := L.countP fun p => p.2 == j
def dirE (L : EL) (j : Int) : Int := L.foldl (fun a p => if p.2 = j then p.1 else a) 0
def subE (t : Tr) (L : EL) (d : Int) : Nat := L.countP fun p => (p.1 == d) && isDT t p.2
def blockF (t : Tr) (j n : Int) (s : List UInt8) : Int := match ldT t j with
 | none => 2
 | some x => if x.1 ≠ 1 then 2 else if n * 64 ≥ x.2.2.1 then 2 else if s = [] ∨ (s.length : Int) > 64 ∨ s.getLast? = some 0 ∨ n * 64 + (s.length : Int) > x.2.2.1 then 2 else 0
def entryF (t : Tr) (d : Int) (nm : List UInt8) : Int := if isDT t d = false then 3 else if nameB nm = false then 4 else match cdT t d nm with
 | some i => if (ldT t i).isSome then 0 else 5
 | none => 5
def adF (t : Tr) : Nat → Int → List Int → Bool
 | 0, _, _ => true
 | n + 1, j, q => if j = 1 then false else match ldT t j with
  | none => true
  | some x => if x.1 ≠ 2 then true else if j ∈ q then true else adF t n x.2.2.2 (j :: q)
def inodeF (t : Tr) (L : EL) (j : Int) : Int := match ldT t j with
 | none => 6
 | some x => if x.1 = 1 then (if x.2.1 ≠ (cntE L j : Int) then 7 else 0) else
  if (if j = 1 then 0 < cntE L j else cntE L j ≠ 1) then 8 else if x.2.1 ≠ 2 + (subE t L j : Int) then 7 else if x.2.2.2 ≠ (if j = 1 then 1 else dirE L j) then 9 else if j = 1 then 0 else if adF t (t.size + 2) j [] = true then 10 else 0
def faultF (t : Tr) (L : EL) (y : KV) : Int := if (splitK y.1).1 = 68 then blockF t (splitK y.1).2.1 (splitK y.1).2.2.2 y.2 else if (splitK y.1).1 = 69 then entryF t (splitK y.1).2.1 (splitK y.1).2.2.1 else if (splitK y.1).1 = 73 then inodeF t L (splitK y.1).2.1 else 1
def rootT (t : Tr) : Tr := if (t.get (keyH 73 1)).isSome then t else t.set (keyH 73 1) (nodeB 2 2 0 1)
def fltsF (t : Tr) (L : EL) (l : List KV) : List (Int × List UInt8) := l.filterMap fun y => if faultF t L y = 0 then none else some (faultF t L y, y.1)
def chkF (t : Tr) : List (Int × List UInt8) := fltsF t (entsT t t.row) (rootT t).row
theorem zP3 (L : EL) (p : Int × Int) (j : Int) : cntE (L ++ [p]) j = cntE L j + if p.2 = j then 1 else 0 := by
 unfold cntE
 rw [List.countP_append, List.countP_singleton]
 by_cases e : p.2 = j <;> simp [e]
theorem zOo (L : EL) (p : Int × Int) (j : Int) : dirE (L ++ [p]) j = if p.2 = j then p.1 else dirE L j := by
 unfold dirE
 rw [List.foldl_append]; rfl
theorem zOf (t : Tr) (L : EL) (p : Int × Int) (d : Int) : subE t (L ++ [p]) d = subE t L d + if p.1 = d ∧ isDT t p.2 = true then 1 else 0 := by
 unfold subE
 rw [List.countP_append, List.countP_singleton]
 by_cases e : p.1 = d <;> by_cases e2 : isDT t p.2 = true <;> simp [e, e2]
structure GI (t : Tr) (L : EL) (E B : Mp) : Prop where
 e : ∀ j, (mget j E).getD (.agg [.int .i64 0, .int .u32 0]) = .agg [.int .i64 (cntE L j), .int .u32 (dirE L j)]
 b : ∀ d, (mget d B).getD (.int .i64 0) = .int .i64 (subE t L d)
 eo : ∀ r ∈ E, plOk r.2 = true
 bo : ∀ r ∈ B, plOk r.2 = true
theorem GI.new (t : Tr) : GI t [] [] [] := ⟨fun _ => rfl, fun _ => rfl, by simp, by simp⟩
theorem GI.file {t : Tr} {L : EL} {E B : Mp} (h : GI t L E B) {d i : Int} (hi : isDT t i = false) : GI t (L ++ [(d, i)]) (mput i (.agg [.int .i64 (cntE L i + 1), .int .u32 d]) E) B := by
 refine ⟨fun j => ?_, fun d' => ?_, fun r hr => ?_, h.bo⟩
 ·rw [zAf, zP3, zOo]
  by_cases e : j = i
  ·subst e
   rw [if_pos rfl, if_pos rfl, if_pos rfl]; rfl
  ·rw [if_neg e, if_neg (fun q => e q.symm), if_neg (fun q => e q.symm)]
   exact h.e j
 ·rw [zOf, if_neg (by dsimp only; rw [hi]; simp)]; exact h.b d'
 ·rcases zAo hr with rfl | hr
  ·rfl
  ·exact h.eo r hr
theorem GI.dir {t : Tr} {L : EL} {E B : Mp} (h : GI t L E B) {d i : Int} (hi : isDT t i = true) : GI t (L ++ [(d, i)]) (mput i (.agg [.int .i64 (cntE L i + 1), .int .u32 d]) E) (mput d (.int .i64 (subE t L d + 1)) B) := by
 refine ⟨fun j => ?_, fun d' => ?_, fun r hr => ?_, fun r hr => ?_⟩
 ·rw [zAf, zP3, zOo]
  by_cases e : j = i
  ·subst e
   rw [if_pos rfl, if_pos rfl, if_pos rfl]; rfl
  ·rw [if_neg e, if_neg (fun q => e q.symm), if_neg (fun q => e q.symm)]
   exact h.e j
 ·rw [zAf, zOf]
  dsimp only
  by_cases e : d' = d
  ·subst e
   rw [if_pos rfl, if_pos ⟨rfl, hi⟩]; rfl
  ·rw [if_neg e, if_neg (fun q => e q.1.symm)]
   exact h.b d'
 ·rcases zAo hr with rfl | hr
  ·rfl
  ·exact h.eo r hr
 ·rcases zAo hr with rfl | hr
  ·rfl
  ·exact h.bo r hr
def blkN (b : List UInt8) (n : Nat) : List UInt8 := (b.drop (64 * n)).take 64
theorem zJz (s : List UInt8) : ∃ k, s = trim0 s ++ List.replicate k 0 := by
 refine ⟨(s.reverse.takeWhile (· == 0)).length, ?_⟩
 have h := List.takeWhile_append_dropWhile (p := fun x : UInt8 => x == 0) (l := s.reverse)
 have hz : s.reverse.takeWhile (· == 0) = List.replicate (s.reverse.takeWhile (· == 0)).length 0 := by
  rw [List.eq_replicate_iff]
  refine ⟨rfl, fun b hb => ?_⟩
  have := List.all_takeWhile (p := fun x : UInt8 => x == 0) (l := s.reverse)
  rw [List.all_eq_true] at this
  simpa using this b hb
 have h2 := congrArg List.reverse h
 rw [List.reverse_append, List.reverse_reverse] at h2
 have h3 : (s.reverse.takeWhile (· == 0)).reverse = List.replicate (s.reverse.takeWhile (· == 0)).length 0 := by
  rw [hz, List.reverse_replicate, List.length_replicate]
 rw [h3] at h2
 exact h2.symm
theorem beB2_inj {i j : Nat} (hi : i ≤ 65535) (hj : j ≤ 65535) (h : beB 2 (i : Int) = beB 2 (j : Int)) : i = j := by
 have h1 := zPn (i : Int) j (by omega) (by omega)
 have h2 := zPn (j : Int) i (by omega) (by omega)
 rw [h, zA6] at h1
 rw [h, zA6] at h2
 have h1 : ¬ ((i : Int) < j) := of_decide_eq_false h1.symm
 have h2 : ¬ ((j : Int) < i) := of_decide_eq_false h2.symm
 omega
theorem zSf (b : List UInt8) (n : Nat) (hn : n ≤ 65535) : ∀ K : Nat, K ≤ 65536 → lget (beB 2 (n : Int)) ((List.range K).filterMap fun n => if trim0 (blkN b n) = [] then none else some (beB 2 (n : Int), trim0 (blkN b n))) = if n < K ∧ trim0 (blkN b n) ≠ [] then some (trim0 (blkN b n)) else none
 | 0, _ => by rw [if_neg (by omega)]; rfl
 | K + 1, hK => by
  rw [List.range_succ, List.filterMap_append, zDj, zSf b n hn K (by omega)]
  by_cases e : n = K
  ·subst e
   rw [if_neg (by omega)]
   by_cases h : trim0 (blkN b n) = []
   ·rw [if_neg (fun q => q.2 h)]
    simp [h, lget]
   ·rw [if_pos ⟨by omega, h⟩]
    simp [h, lget]
  ·have hl : lget (beB 2 (n : Int)) ([K].filterMap fun n => if trim0 (blkN b n) = [] then none else some (beB 2 (n : Int), trim0 (blkN b n))) = none := by
    refine qX fun x hx q => ?_
    obtain ⟨a, ha, hb⟩ := List.mem_filterMap.1 hx
    rw [List.mem_singleton] at ha
    subst ha
    split at hb
    ·cases hb
    ·injection hb with hb
     rw [← hb] at q
     exact e (beB2_inj (by omega) hn q).symm
   rw [hl, Option.or_none]
   by_cases h : n < K ∧ trim0 (blkN b n) ≠ []
   ·rw [if_pos h, if_pos ⟨by omega, h.2⟩]
   ·rw [if_neg h, if_neg (fun q => h ⟨by omega, q.2⟩)]
theorem zTv (b : List UInt8) (hb : b.length ≤ 4096) (n : Nat) (hn : n ≤ 65535) : lget (beB 2 (n : Int)) (blkOf b) = if trim0 (blkN b n) = [] then none else some (trim0 (blkN b n)) := by
 have h := zSf b n hn ((b.length + 63) / 64) (by omega)
 have e : blkOf b = (List.range ((b.length + 63) / 64)).filterMap fun n => if trim0 (blkN b n) = [] then none else some (beB 2 (n : Int), trim0 (blkN b n)) := rfl
 rw [e, h]
 by_cases hl : n < (b.length + 63) / 64
 ·by_cases ht : trim0 (blkN b n) = []
  ·rw [if_neg (fun q => q.2 ht), if_pos ht]
  ·rw [if_pos ⟨hl, ht⟩, if_neg ht]
 ·have : blkN b n = [] := by unfold blkN; rw [List.drop_of_length_le (by omega)]; rfl
  have ht : trim0 (blkN b n) = [] := by rw [this]; rfl
  rw [if_neg (fun q => hl q.1), if_pos ht]
def segF (f : Nat → UInt8) (o n : Nat) : List UInt8 := (List.range n).map fun k => f (o + k)
def blkF (f : Nat → UInt8) (n : Nat) : List UInt8 := segF f (64 * n) 64
def bz (b : List UInt8) (k : Nat) : UInt8 := b.getD k 0
theorem zBh (f : Nat → UInt8) (o n : Nat) : (segF f o n).length = n := by simp [segF]
theorem jJ (f : Nat → UInt8) (o n k : Nat) : (segF f o n)[k]? = if k < n then some (f (o + k)) else none := by
 unfold segF
 rw [List.getElem?_map]
 by_cases h : k < n
 ·rw [if_pos h, List.getElem?_range h]; rfl
 ·rw [if_neg h, List.getElem?_eq_none (by simp; omega)]; rfl
theorem segF_cut (f : Nat → UInt8) {o n a c : Nat} (h : a + c ≤ n) : ((segF f o n).drop a).take c = segF f (o + a) c := by
 apply List.ext_getElem?
 intro k
 rw [List.getElem?_take, List.getElem?_drop, jJ, jJ]
 by_cases hk : k < c
 ·rw [if_pos hk, if_pos hk, if_pos (by omega), Nat.add_assoc]
 ·rw [if_neg hk, if_neg hk]
theorem segF_app (f : Nat → UInt8) (o a c : Nat) : segF f o (a + c) = segF f o a ++ segF f (o + a) c := by
 apply List.ext_getElem?
 intro k
 rw [List.getElem?_append, jJ, zBh, jJ, jJ]
 by_cases hk : k < a
 ·rw [if_pos hk, if_pos hk, if_pos (by omega)]
 ·rw [if_neg hk]
  by_cases h2 : k < a + c
  ·rw [if_pos h2, if_pos (by omega)]; congr 2; omega
  ·rw [if_neg h2, if_neg (by omega)]
theorem zR1 {f g : Nat → UInt8} {o n : Nat} (h : ∀ k, k < n → f (o + k) = g (o + k)) : segF f o n = segF g o n := by
 unfold segF
 refine List.map_congr_left fun k hk => h k (List.mem_range.1 hk)
theorem bz_get {b : List UInt8} {k : Nat} {x : UInt8} (h : b[k]? = some x) : bz b k = x := by unfold bz; rw [List.getD_eq_getElem?_getD, h]; rfl
theorem zNf {b : List UInt8} {k : Nat} (h : b.length ≤ k) : bz b k = 0 := by unfold bz; rw [List.getD_eq_getElem?_getD, List.getElem?_eq_none h]; rfl
theorem bz_in {b : List UInt8} {k : Nat} (h : k < b.length) : b[k]? = some (bz b k) := by
 rw [List.getElem?_eq_getElem h, bz_get (List.getElem?_eq_getElem h)]
theorem segF_bz {b : List UInt8} {o n : Nat} (h : o + n ≤ b.length) : segF (bz b) o n = (b.drop o).take n := by
 apply List.ext_getElem?
 intro k
 rw [jJ, List.getElem?_take, List.getElem?_drop]
 by_cases hk : k < n
 ·rw [if_pos hk, if_pos hk, bz_in (by omega)]
 ·rw [if_neg hk, if_neg hk]
theorem zH5 (a : List UInt8) : trim0 (a ++ [0]) = trim0 a := by
 unfold trim0
 rw [List.reverse_append]
 rfl
theorem zL3 (a : List UInt8) : ∀ k : Nat, trim0 (a ++ List.replicate k 0) = trim0 a
 | 0 => by simp
 | k + 1 => by rw [List.replicate_succ', ← List.append_assoc, zH5, zL3 a k]
theorem zLt (a : List UInt8) : (trim0 a).length ≤ a.length := by
 obtain ⟨k, h⟩ := zJz a
 have := congrArg List.length h
 rw [List.length_append] at this
 omega
theorem blkF_bz (b : List UInt8) (n : Nat) : blkF (bz b) n = blkN b n ++ List.replicate (64 - (blkN b n).length) 0 := by
 have hl : (blkN b n).length = min 64 (b.length - 64 * n) := by simp [blkN]
 apply List.ext_getElem?
 intro k
 unfold blkF
 rw [jJ, List.getElem?_append, List.getElem?_replicate, hl]
 by_cases hk : k < 64
 ·rw [if_pos hk]
  by_cases h2 : k < b.length - 64 * n
  ·rw [if_pos (by omega)]
   unfold blkN
   rw [List.getElem?_take, if_pos hk, List.getElem?_drop, bz_in (by omega)]
  ·rw [if_neg (by omega), if_pos (by omega), zNf (by omega)]
 ·rw [if_neg hk, if_neg (by omega), if_neg (by omega)]
theorem zWg (b : List UInt8) (n : Nat) : trim0 (blkF (bz b) n) = trim0 (blkN b n) := by rw [blkF_bz, zL3]
def padB (v : List UInt8) : List UInt8 := (v ++ List.replicate 64 0).take 64
theorem padB_len (v : List UInt8) : (padB v).length = 64 := by simp [padB]
theorem zLe {b : List UInt8} (h : b.length = 64) : padB (trim0 b) = b := by
  obtain ⟨k, e⟩ := zJz b
  have hl : (trim0 b).length + k = 64 := by rw [← h]; conv => rhs; rw [e]
                                            simp
  unfold padB
  rw [List.take_append, List.take_of_length_le (by omega), List.take_replicate, show min (64 - (trim0 b).length) 64 = k by omega]
  exact e.symm
def bfG (f : Nat → UInt8) (r : List UInt8) : Option (List UInt8) := if r.length = 2 ∧ trim0 (blkF f (beV r).toNat) ≠ [] then some (trim0 (blkF f (beV r).toNat)) else none
theorem zVl {r : List UInt8} (h : r.length = 2) : beB 2 (((beV r).toNat : Nat) : Int) = r ∧ (beV r).toNat ≤ 65535 ∧ 0 ≤ beV r := by
 have hb := beV_2 h
 have := beB_beV r
 rw [h] at this
 exact ⟨by rw [Int.toNat_of_nonneg hb.1]; exact this, by omega, hb.1⟩
theorem zLw {b : List UInt8} (hb : b.length ≤ 4096) (r : List UInt8) : lget r (blkOf b) = bfG (bz b) r := by
 unfold bfG
 by_cases h : r.length = 2
 ·obtain ⟨h1, h2, h3⟩ := zVl h
  have := zTv b hb (beV r).toNat h2
  rw [h1] at this
  rw [this, zWg]
  by_cases ht : trim0 (blkN b (beV r).toNat) = []
  ·rw [if_pos ht, if_neg (fun q => q.2 ht)]
  ·rw [if_neg ht, if_pos ⟨h, ht⟩]
 ·rw [if_neg (fun q => h q.1)]
  refine qX fun x hx q => ?_
  obtain ⟨j, _, _, h3⟩ := zK4 hx
  rw [q] at h3
  rw [h3, yD] at h
  exact h rfl
theorem zLl (b : List UInt8) : ∀ K : Nat, K ≤ 65536 → Rises ((List.range K).filterMap fun n => if trim0 (blkN b n) = [] then none else some (beB 2 (n : Int), trim0 (blkN b n)))
 | 0, _ => by simp [Rises]
 | K + 1, hK => by
  rw [List.range_succ, List.filterMap_append]
  have ih := zLl b K (by omega)
  unfold Rises at ih ⊢
  rw [List.pairwise_append]
  refine ⟨ih, ?_, fun x hx y hy => ?_⟩
  ·rw [List.filterMap_cons]
   split <;> simp
  ·obtain ⟨i, hi, hx2⟩ := List.mem_filterMap.1 hx
   obtain ⟨j, hj, hy2⟩ := List.mem_filterMap.1 hy
   rw [List.mem_range] at hi
   rw [List.mem_singleton] at hj
   subst hj
   split at hx2
   ·cases hx2
   ·split at hy2
    ·cases hy2
    ·injection hx2 with hx2
     injection hy2 with hy2
     rw [← hx2, ← hy2]
     show Op.bytesLess _ _ = true
     dsimp only
     rw [zPn _ _ (by omega) (by omega)]
     exact decide_eq_true (by omega)
theorem zMn {b : List UInt8} (hb : b.length ≤ 4096) : Rises (blkOf b) := zLl b ((b.length + 63) / 64) (by omega)
def BF (l : List KV) (i : Int) (f : Nat → UInt8) : Prop := ∀ r, lget (keyH 68 i ++ r) l = bfG f r
theorem BF.blk {l : List KV} {i : Int} {b : List UInt8} (hl : Rises l) (hb : b.length ≤ 4096) (h : BF l i (bz b)) : subL 68 i l = blkOf b :=
 zFm (zU hl) (zMn hb) fun r => by rw [qW hl, h r, zLw hb]
theorem BF.of {l : List KV} {i : Int} {b : List UInt8} (hl : Rises l) (hb : b.length ≤ 4096) (h : subL 68 i l = blkOf b) : BF l i (bz b) := fun r => by
 rw [← qW hl, h, zLw hb]
theorem BF.congr {l : List KV} {i : Int} {f g : Nat → UInt8} (h : BF l i f) (e : ∀ k, f k = g k) : BF l i g := by
 obtain rfl : f = g := funext e
 exact h
def putL (l : List KV) (i : Int) (n : Nat) (b : List UInt8) : List KV := if trim0 b = [] then lcut (keyH 68 i ++ beB 2 (n : Int)) l else lset (keyH 68 i ++ beB 2 (n : Int)) (trim0 b) l
def updF (f : Nat → UInt8) (n : Nat) (b : List UInt8) (k : Nat) : UInt8 := if 64 * n ≤ k ∧ k < 64 * n + 64 then b.getD (k - 64 * n) 0 else f k
theorem blkF_upd (f : Nat → UInt8) (n : Nat) {b : List UInt8} (hb : b.length = 64) (m : Nat) : blkF (updF f n b) m = if m = n then b else blkF f m := by
 by_cases h : m = n
 ·subst h
  rw [if_pos rfl]
  apply List.ext_getElem?
  intro k
  unfold blkF
  rw [jJ]
  by_cases hk : k < 64
  ·rw [if_pos hk]
   unfold updF
   rw [if_pos ⟨by omega, by omega⟩, show 64 * m + k - 64 * m = k by omega, List.getD_eq_getElem?_getD, List.getElem?_eq_getElem (by omega)]; rfl
  ·rw [if_neg hk, List.getElem?_eq_none (by omega)]
 ·rw [if_neg h]
  refine zR1 fun k hk => ?_
  unfold updF
  rw [if_neg (by omega)]
theorem BF.put {l : List KV} {i : Int} {f : Nat → UInt8} (hl : Rises l) (hi : U32 i) (h : BF l i f) {n : Nat} (hn : n ≤ 65535) {b : List UInt8} (hb : b.length = 64) : BF (putL l i n b) i (updF f n b) := fun r => by
 have hr : r = beB 2 (n : Int) ↔ r.length = 2 ∧ (beV r).toNat = n := by
  constructor
  ·rintro rfl
   refine ⟨yD .., ?_⟩
   rw [zVg (n : Int) (by omega)]; rfl
  ·rintro ⟨h1, h2⟩
   rw [← h2]; exact (zVl h1).1.symm
 have hg : lget (keyH 68 i ++ r) (putL l i n b) = if r = beB 2 (n : Int) then (if trim0 b = [] then none else some (trim0 b)) else bfG f r := by
  unfold putL
  by_cases ht : trim0 b = []
  ·rw [if_pos ht, if_pos ht, zC9 L68 L68 hi hi]
   by_cases e : r = beB 2 (n : Int)
   ·rw [if_pos ⟨rfl, rfl, e⟩, if_pos e]
   ·rw [if_neg (fun q => e q.2.2), if_neg e, h r]
  ·rw [if_neg ht, if_neg ht, zB0 L68 L68 hi hi hl]
   by_cases e : r = beB 2 (n : Int)
   ·rw [if_pos ⟨rfl, rfl, e⟩, if_pos e]
   ·rw [if_neg (fun q => e q.2.2), if_neg e, h r]
 rw [hg]
 unfold bfG
 rw [blkF_upd f n hb]
 by_cases e : r = beB 2 (n : Int)
 ·obtain ⟨h1, h2⟩ := hr.1 e
  rw [if_pos e, if_pos h2]
  by_cases ht : trim0 b = []
  ·rw [if_pos ht, if_neg (fun q => q.2 ht)]
  ·rw [if_neg ht, if_pos ⟨h1, ht⟩]
 ·rw [if_neg e]
  by_cases h1 : r.length = 2
  ·rw [if_neg (show ¬ (beV r).toNat = n from fun q => e (hr.2 ⟨h1, q⟩))]
  ·rw [if_neg (fun q => h1 q.1), if_neg (fun q => h1 q.1)]
structure Chg (i : Int) (l l' : List KV) : Prop where
 ri : Rises l'
 oth : ∀ c j r, L8 c → U32 j → ¬ (c = 73 ∧ j = i) → ¬ (c = 68 ∧ j = i) → lget (keyH c j ++ r) l' = lget (keyH c j ++ r) l
 refs : ∀ j, refs j l' = refs j l
 key : (∀ y ∈ l, ∃ c j r, (c = 73 ∧ r = [] ∨ c = 69 ∨ c = 68) ∧ U32 j ∧ y.1 = keyH c j ++ r) → ∀ y ∈ l', ∃ c j r, (c = 73 ∧ r = [] ∨ c = 69 ∨ c = 68) ∧ U32 j ∧ y.1 = keyH c j ++ r
theorem Chg.refl {i : Int} {l : List KV} (h : Rises l) : Chg i l l := ⟨h, fun _ _ _ _ _ _ _ => rfl, fun _ => rfl, fun h => h⟩
theorem Chg.trans {i : Int} {l m r : List KV} (h : Chg i l m) (k : Chg i m r) : Chg i l r :=
 ⟨k.ri, fun c j x h1 h2 h3 h4 => (k.oth c j x h1 h2 h3 h4).trans (h.oth c j x h1 h2 h3 h4), fun j => (k.refs j).trans (h.refs j), fun q => k.key (h.key q)⟩
theorem Chg.set {i c : Int} (hi : U32 i) {l : List KV} (hl : Rises l) (r v : List UInt8) (hc : c = 73 ∧ r = [] ∨ c = 68) : Chg i l (lset (keyH c i ++ r) v l) := by
 have h8 : L8 c := by rcases hc with h | h <;> (have := h; unfold L8; omega)
 refine ⟨z7 hl, fun c' j x h1 h2 h3 h4 => ?_, fun j => ?_, fun hk y hy => ?_⟩
 ·rw [zB0 h1 h8 h2 hi hl, if_neg]
  rintro ⟨rfl, rfl, _⟩
  rcases hc with h | h
  ·exact h3 ⟨h.1, rfl⟩
  ·exact h4 ⟨h, rfl⟩
 ·exact zC6 (hc.imp (·.1) id) hl j r v
 ·rcases zBl hy with rfl | hy
  ·exact ⟨c, i, r, hc.imp id .inr, hi, rfl⟩
  ·exact hk y hy
theorem Chg.cut {i : Int} (hi : U32 i) {l : List KV} (hl : Rises l) (r : List UInt8) : Chg i l (lcut (keyH 68 i ++ r) l) := by
 refine ⟨yC hl, fun c' j x h1 h2 h3 h4 => ?_, fun j => ?_, fun hk y hy => ?_⟩
 ·rw [zC9 h1 L68 h2 hi, if_neg]
  rintro ⟨rfl, rfl, _⟩
  exact h4 ⟨rfl, rfl⟩
 ·exact zBd (.inr rfl) hl j r
 ·exact hk y (List.mem_filter.1 hy).1
theorem Chg.put {i : Int} (hi : U32 i) {l : List KV} (hl : Rises l) (n : Nat) (b : List UInt8) : Chg i l (putL l i n b) := by
 unfold putL
 split
 ·exact Chg.cut hi hl _
 ·exact Chg.set hi hl _ _ (.inr rfl)
theorem zUt {i : Int} (hi : U32 i) {l : List KV} (hl : Rises l) (n : Nat) (b : List UInt8) : lget (keyH 73 i) (putL l i n b) = lget (keyH 73 i) l := by
 rw [get73, get73]
 unfold putL
 split
 ·rw [zC9 L73 L68 hi hi, if_neg (fun q => by have := q.1; omega)]
 ·rw [zB0 L73 L68 hi hi hl, if_neg (fun q => by have := q.1; omega)]
theorem Rel.data {l l' : List KV} {m : MF} {par : Int → Int} (R : Rel l m par) {i : Int} {x : MN} (hx : m.at i = some x) (hk : x.k = 1) {b : List UInt8} (hb : b.length ≤ 4096) (hc : Chg i l l')
  (h73 : lget (keyH 73 i) l' = some (nodeB 1 x.n (b.length : Int) 0)) (hbf : BF l' i (bz b)) : Rel l' (m.with { x with b := b }) par := by
 have hxi : x.i = i := (yY hx).2
 obtain ⟨hiu, hi0⟩ := R.u i x hx
 have hat : ∀ j, (m.with { x with b := b }).at j = if j = i then some { x with b := b } else m.at j := fun j => by rw [yV]; dsimp only; rw [hxi]
 have hold : ∀ {j : Int} {y : MN}, (m.with { x with b := b }).at j = some y → ∃ z, m.at j = some z ∧ y.k = z.k ∧ y.n = z.n ∧ y.e = z.e ∧ (j = i ∧ y.b = b ∨ j ≠ i ∧ y.b = z.b) := fun {j y} h => by
  rw [hat] at h
  by_cases e : j = i
  ·rw [if_pos e] at h
   obtain rfl := Option.some.inj h
   exact ⟨x, by rw [e]; exact hx, rfl, rfl, rfl, .inl ⟨e, rfl⟩⟩
  ·rw [if_neg e] at h
   exact ⟨y, h, rfl, rfl, rfl, .inr ⟨e, rfl⟩⟩
 have hno : ∀ {j : Int}, (m.with { x with b := b }).at j = none → m.at j = none ∧ j ≠ i := fun {j} h => by
  rw [hat] at h
  by_cases e : j = i
  ·rw [if_pos e] at h; cases h
  ·rw [if_neg e] at h; exact ⟨h, e⟩
 have hnew : ∀ {j : Int} {z : MN}, m.at j = some z → ∃ y, (m.with { x with b := b }).at j = some y ∧ y.k = z.k := fun {j z} h => by
  rw [hat]
  by_cases e : j = i
  ·rw [if_pos e]
   rw [e, hx] at h
   exact ⟨_, rfl, by rw [← Option.some.inj h]⟩
  ·rw [if_neg e]; exact ⟨z, h, rfl⟩
 have hkind : ∀ j, (m.with { x with b := b }).kind j = m.kind j := fun j => by
  unfold MF.kind
  rw [hat]
  by_cases e : j = i
  ·rw [if_pos e, e, hx]
  ·rw [if_neg e]
 have hsub : ∀ e, subsN (m.with { x with b := b }) e = subsN m e := fun e => by unfold subsN; simp only [hkind]
 have h69 : ∀ j, U32 j → subL 69 j l' = subL 69 j l := fun j hj => zFm (zU hc.ri) (zU R.ri) fun r => by
  rw [qW hc.ri, qW R.ri]
  exact hc.oth 69 j r L69 hj (fun q => by have := q.1; omega) (fun q => by have := q.1; omega)
 have h68 : ∀ j, U32 j → j ≠ i → subL 68 j l' = subL 68 j l := fun j hj hne => zFm (zU hc.ri) (zU R.ri) fun r => by
  rw [qW hc.ri, qW R.ri]
  exact hc.oth 68 j r L68 hj (fun q => hne q.2) (fun q => hne q.2)
 have hn73 : ∀ j, U32 j → j ≠ i → lget (keyH 73 j) l' = lget (keyH 73 j) l := fun j hj hne => by
  rw [get73, get73]
  exact hc.oth 73 j [] L73 hj (fun q => hne q.2) (fun q => hne q.2)
 have hpar : par i = 0 := by
  rcases R.kin i x hx with q | q
  ·have := q.1; omega
  ·exact q.2.2
 obtain ⟨hmay, hnu, _, _⟩ := R.may hx
 refine ⟨hc.ri, fun y hy => ?_, fun j y h => ?_, ?_, R.rpar, fun j y h => ?_, fun j hj h => ?_, fun j y h => ?_, fun j hj h => ?_, fun j y h => ?_, fun j hj h => ?_, fun j y h nm v hv => ?_, fun j y h => ?_, fun j y h hk => ?_, fun j y h hk => ?_, fun j y h hk => ?_, hc.key R.key⟩
 ·exact (MF.uq.with R.fst { x with b := b }) y hy
 ·obtain ⟨z, h1, _⟩ := hold h
  exact R.u j z h1
 ·obtain ⟨y, h1, h2⟩ := R.root
  obtain ⟨z, h3, h4⟩ := hnew h1
  exact ⟨z, h3, h4.trans h2⟩
 ·obtain ⟨z, h1, h2, h3, h4, h5⟩ := hold h
  rcases h5 with ⟨rfl, h5⟩ | ⟨hne, h5⟩
  ·rw [hx] at h1
   obtain rfl := Option.some.inj h1
   rw [h73, h5, h2, h3, hk, hpar]
   refine zDo ?_ (by decide) hnu (by unfold U32; omega) (by decide)
   rw [hk, hpar] at hmay
   unfold mayB at hmay ⊢
   simp only [if_true, Bool.and_eq_true, decide_eq_true_eq] at hmay ⊢
   exact ⟨⟨hmay.1.1, by omega⟩, trivial⟩
  ·rw [hn73 j (R.u j z h1).1 hne, R.nod j z h1, h2, h3, h5]
 ·obtain ⟨h1, h2⟩ := hno h
  rw [hn73 j hj h2]; exact R.non j hj h1
 ·obtain ⟨z, h1, _, _, h4, _⟩ := hold h
  rw [h4, h69 j (R.u j z h1).1]; exact R.ent j z h1
 ·rw [h69 j hj]; exact R.eno j hj (hno h).1
 ·obtain ⟨z, h1, h2, h3, h4, h5⟩ := hold h
  rcases h5 with ⟨rfl, h5⟩ | ⟨hne, h5⟩
  ·rw [h5]; exact hbf.blk hc.ri hb
  ·rw [h68 j (R.u j z h1).1 hne, h5]; exact R.blk j z h1
 ·obtain ⟨h1, h2⟩ := hno h
  rw [h68 j hj h2]; exact R.bno j hj h1
 ·obtain ⟨z, h1, _, _, h4, _⟩ := hold h
  rw [h4] at hv
  obtain ⟨g1, c, w, g2, g3, g4, g5⟩ := R.nam j z h1 nm v hv
  obtain ⟨w', g6, g7⟩ := hnew g3
  exact ⟨g1, c, w', g2, g6, g4, fun q => g5 (by rw [← g7]; exact q)⟩
 ·obtain ⟨z, h1, h2, h3, h4, h5⟩ := hold h
  rcases h5 with ⟨rfl, h5⟩ | ⟨hne, h5⟩
  ·rw [hx] at h1
   obtain rfl := Option.some.inj h1
   rcases R.kin j x hx with q | q
   ·have := q.1; omega
   ·exact .inr ⟨h2.trans q.1, h4.trans q.2.1, q.2.2⟩
  ·rw [h2, h4, h5]; exact R.kin j z h1
 ·obtain ⟨z, h1, h2, h3, _⟩ := hold h
  rw [h3, hc.refs]; exact R.lkf j z h1 (h2 ▸ hk)
 ·obtain ⟨z, h1, h2, h3, h4, _⟩ := hold h
  rw [h3, h4, hsub]; exact R.lkd j z h1 (h2 ▸ hk)
 ·obtain ⟨z, h1, h2, _⟩ := hold h
  rw [hc.refs]; exact R.one j z h1 (h2 ▸ hk)
def pcsN : Nat → Nat → Nat → List (Nat × Nat × Nat)
 | 0, _, _ => []
 | f + 1, o, n => if n = 0 then [] else (o / 64, o % 64, min n (64 - o % 64)) :: pcsN f (o + min n (64 - o % 64)) (n - min n (64 - o % 64))
theorem zQh (blk : Nat → List UInt8) (f : Nat → UInt8) (K : Nat) (hb : ∀ k, k ≤ K → blk k = blkF f k) : ∀ (g o n : Nat), n ≤ g → (o + n) / 64 ≤ K → (pcsN g o n).flatMap (fun x => ((blk x.1).drop x.2.1).take x.2.2) = segF f o n
  | 0, o, n, h, _ => by obtain rfl : n = 0 := by omega
                        rfl
  | g + 1, o, n, h, hK => by
    unfold pcsN
    by_cases h0 : n = 0
    · subst h0; rfl
    rw [if_neg h0, List.flatMap_cons]
    have hc : 1 ≤ min n (64 - o % 64) ∧ min n (64 - o % 64) ≤ n := by omega
    rw [zQh blk f K hb g _ _ (by omega) (by rw [show o + min n (64 - o % 64) + (n - min n (64 - o % 64)) = o + n by omega]; exact hK)]
    dsimp only
    rw [hb (o / 64) (by omega)]
    unfold blkF
    rw [segF_cut f (by omega), show 64 * (o / 64) + o % 64 = o by omega, ← segF_app, show min n (64 - o % 64) + (n - min n (64 - o % 64)) = n by omega]
def wrF (f : Nat → UInt8) (o : Nat) (b : List UInt8) (k : Nat) : UInt8 := if o ≤ k ∧ k < o + b.length then b.getD (k - o) 0 else f k
theorem zTp (f : Nat → UInt8) (o : Nat) : wrF f o [] = f := by funext k; unfold wrF; rw [if_neg (by simp)]
def inB64 (l : List UInt8) (a : Nat) (b : List UInt8) : List UInt8 := l.take a ++ b ++ l.drop (a + b.length)
theorem zLv {l : List UInt8} (hl : l.length = 64) {a : Nat} {b : List UInt8} (h : a + b.length ≤ 64) : (inB64 l a b).length = 64 := by
 unfold inB64
 simp; omega
theorem zU9 {l : List UInt8} (hl : l.length = 64) {a : Nat} {b : List UInt8} (h : a + b.length ≤ 64) (k : Nat) : (inB64 l a b).getD k 0 = if a ≤ k ∧ k < a + b.length then b.getD (k - a) 0 else l.getD k 0 := by
 unfold inB64
 simp only [List.getD_eq_getElem?_getD]
 rw [List.getElem?_append, List.getElem?_append]
 simp only [List.length_append, List.length_take, List.getElem?_take, List.getElem?_drop]
 by_cases h1 : k < a
 ·rw [if_pos (by omega), if_pos (by omega), if_pos h1, if_neg (by omega)]
 ·by_cases h2 : k < a + b.length
  ·rw [if_pos (by omega), if_neg (by omega), if_pos ⟨by omega, h2⟩, show k - min a l.length = k - a by omega]
  ·rw [if_neg (by omega), if_neg (by omega), show a + b.length + (k - (min a l.length + b.length)) = k by omega]
theorem wr_step (f : Nat → UInt8) (o : Nat) {b : List UInt8} (hb : b ≠ []) :
  wrF (updF f (o / 64) (inB64 (blkF f (o / 64)) (o % 64) (b.take (min b.length (64 - o % 64))))) (o + min b.length (64 - o % 64)) (b.drop (min b.length (64 - o % 64))) = wrF f o b := by
 have hb1 : 1 ≤ b.length := by cases b with
  | nil => exact absurd rfl hb
  | cons => simp
 have hl : (b.take (min b.length (64 - o % 64))).length = min b.length (64 - o % 64) := by simp
 have hbl : (blkF f (o / 64)).length = 64 := zBh ..
 funext k
 unfold wrF
 rw [List.length_drop]
 by_cases h1 : o + min b.length (64 - o % 64) ≤ k ∧ k < o + min b.length (64 - o % 64) + (b.length - min b.length (64 - o % 64))
 ·rw [if_pos h1, if_pos (by omega)]
  simp only [List.getD_eq_getElem?_getD, List.getElem?_drop]
  congr 2; omega
 ·rw [if_neg h1]
  unfold updF
  by_cases h2 : 64 * (o / 64) ≤ k ∧ k < 64 * (o / 64) + 64
  ·rw [if_pos h2, zU9 hbl (by rw [hl]; omega), hl]
   by_cases h3 : o % 64 ≤ k - 64 * (o / 64) ∧ k - 64 * (o / 64) < o % 64 + min b.length (64 - o % 64)
   ·rw [if_pos h3, if_pos (by omega)]
    simp only [List.getD_eq_getElem?_getD, List.getElem?_take]
    rw [if_pos (by omega)]
    congr 2; omega
   ·rw [if_neg h3, if_neg (by omega)]
    unfold blkF
    simp only [List.getD_eq_getElem?_getD]
    rw [jJ, if_pos (by omega)]
    show f _ = f k
    congr 1; omega
  ·rw [if_neg h2, if_neg (by omega)]
end Go.Proofs.YtdnpkgakpiopgaaGreatDoor

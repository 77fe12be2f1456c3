import Derived.Test.YtdnpkgakpiopgaaGreatDoorGo
import Derived.Test.YtdnpkgakpiopgaaGreatDoorM22
import Derived.Test.YtdnpkgakpiopgaaGreatDoorM19
import Derived.Test.YtdnpkgakpiopgaaGreatDoorM21
import Derived.Test.YtdnpkgakpiopgaaGreatDoorM18
namespace Go.Proofs.YtdnpkgakpiopgaaGreatDoor
set_option maxRecDepth 20000
open Go.Awp Tr
def VS.block (s : VS) (i : Int) (n : Nat) : List UInt8 := padB ((s.shown.get (blockK i n)).getD [])
def VS.putB (s : VS) (i : Int) (n : Nat) (b : List UInt8) : Bool × VS :=
 if trim0 b ≠ [] then (s.room (blockK i n), s.put (blockK i n) (trim0 b)) else if s.shown.get (blockK i n) = none then (true, s) else (s.room (blockK i n), s.del (blockK i n))
def VS.bytesF (s : VS) (i o n : Int) : List UInt8 := if cutBad o n then [] else (pcsN n.toNat o.toNat n.toNat).flatMap fun x => ((s.block i x.1).drop x.2.1).take x.2.2
def VS.fload (s : VS) (i : Int) : Option Nd := match s.load i with
 | some x => if x.1 = 1 then some x else none
 | none => none
def VS.fread (s : VS) (i o n : Int) : (List UInt8 × Int) × VS := match s.fload i with
 | none => (([], 16), s.rd (keyH 73 i))
 | some x => if o < 0 ∨ n < 0 ∨ n > 1024 then (([], 15), s.rd (keyH 73 i)) else (((s.rd (keyH 73 i)).bytesF i o (min n (max (x.2.2.1 - o) 0)), 0), s.rd (keyH 73 i))
def VS.fall (s : VS) (i : Int) : (List UInt8 × Int) × VS := match s.fload i with
 | none => (([], 16), s.rd (keyH 73 i))
 | some x => (((s.rd (keyH 73 i)).bytesF i 0 x.2.2.1, 0), s.rd (keyH 73 i))
def wrL (i : Int) : List (Nat × Nat × Nat) → VS → List UInt8 → Bool → Bool × VS
 | [], s, _, ok => (ok, s)
 | x :: r, s, b, ok => wrL i r (s.putB i x.1 (inB64 (s.block i x.1) x.2.1 (b.take x.2.2))).2 (b.drop x.2.2) ((s.putB i x.1 (inB64 (s.block i x.1) x.2.1 (b.take x.2.2))).1 && ok)
def sizeN (g : Nd) (z : Int) : Nd := (g.1, g.2.1, z, g.2.2.2)
def fullB (b : Bool) : Int := if b = true then 0 else 21
def VS.fwrite (s : VS) (i o : Int) (b : List UInt8) : Int × VS := match s.fload i with
 | none => (16, s.rd (keyH 73 i))
 | some x => if o < 0 ∨ (b.length : Int) > 1024 then (15, s.rd (keyH 73 i)) else if o > 4096 ∨ (b.length : Int) > 4096 - o then (19, s.rd (keyH 73 i)) else if b.length = 0 then (0, s.rd (keyH 73 i)) else
  (fullB (wrL i (pcsN b.length o.toNat b.length) ((s.rd (keyH 73 i)).save i (sizeN x (max x.2.2.1 (o + b.length)))) b ((s.rd (keyH 73 i)).room (keyH 73 i))).1, (wrL i (pcsN b.length o.toNat b.length) ((s.rd (keyH 73 i)).save i (sizeN x (max x.2.2.1 (o + b.length)))) b ((s.rd (keyH 73 i)).room (keyH 73 i))).2)
def clrB (l : List UInt8) (a : Nat) : List UInt8 := l.take a ++ List.replicate (l.length - a) 0
def shrL (i : Int) (z : Nat) : List Nat → VS → Bool → Bool × VS
 | [], s, ok => (ok, s)
 | n :: r, s, ok => shrL i z r (s.putB i n (clrB (s.block i n) (z - 64 * n))).2 ((s.putB i n (clrB (s.block i n) (z - 64 * n))).1 && ok)
def VS.ftrunc (s : VS) (i z : Int) : Int × VS := match s.fload i with
 | none => (16, s.rd (keyH 73 i))
 | some x => if z < 0 then (15, s.rd (keyH 73 i)) else if z > 4096 then (19, s.rd (keyH 73 i)) else if z < x.2.2.1 then
   (fullB ((shrL i z.toNat (List.range' (z.toNat / 64) ((blocks x.2.2.1).toNat - z.toNat / 64)) ((s.rd (keyH 73 i)).save i (sizeN x z)) true).1 && (s.rd (keyH 73 i)).room (keyH 73 i)), (shrL i z.toNat (List.range' (z.toNat / 64) ((blocks x.2.2.1).toNat - z.toNat / 64)) ((s.rd (keyH 73 i)).save i (sizeN x z)) true).2)
  else (fullB ((s.rd (keyH 73 i)).room (keyH 73 i)), (s.rd (keyH 73 i)).save i (sizeN x z))
def MF.file (m : MF) (i : Int) : Option MN := match m.at i with
 | some x => if x.k = 1 then some x else none
 | none => none
def MF.fread (m : MF) (i o n : Int) : List UInt8 × Int := match m.file i with
 | none => ([], 16)
 | some x => if o < 0 ∨ n < 0 ∨ n > 1024 then ([], 15) else if o ≥ (x.b.length : Int) then ([], 0) else ((x.b.drop o.toNat).take (min n.toNat (x.b.length - o.toNat)), 0)
def padT (d : List UInt8) (o : Nat) : List UInt8 := d ++ List.replicate (o - d.length) 0
def wrB (d : List UInt8) (o : Nat) (b : List UInt8) : List UInt8 := (padT d o).take o ++ b ++ (padT d o).drop (o + b.length)
def MF.fwrite (m : MF) (i o : Int) (b : List UInt8) : Int × MF := match m.file i with
 | none => (16, m)
 | some x => if o < 0 ∨ (b.length : Int) > 1024 then (15, m) else if o > 4096 ∨ o + (b.length : Int) > 4096 then (19, m) else if b.length = 0 then (0, m) else (0, m.with { x with b := wrB x.b o.toNat b })
def trB (d : List UInt8) (z : Nat) : List UInt8 := if z ≤ d.length then d.take z else d ++ List.replicate (z - d.length) 0
def MF.ftrunc (m : MF) (i z : Int) : Int × MF := match m.file i with
 | none => (16, m)
 | some x => if z < 0 then (15, m) else if z > 4096 then (19, m) else (0, m.with { x with b := trB x.b z.toNat })
theorem zTj (d : List UInt8) (o : Nat) (b : List UInt8) : (wrB d o b).length = max d.length (o + b.length) := by
 unfold wrB padT; simp; omega
theorem wrB_bz (d : List UInt8) (o : Nat) (b : List UInt8) (k : Nat) : bz (wrB d o b) k = wrF (bz d) o b k := by
 unfold wrB padT bz wrF
 simp only [List.getD_eq_getElem?_getD]
 rw [List.getElem?_append, List.getElem?_append]
 simp only [List.length_append, List.length_take, List.getElem?_take, List.getElem?_drop, List.length_replicate]
 have hr : ∀ j : Nat, (d ++ List.replicate (o - d.length) 0)[j]?.getD 0 = d[j]?.getD 0 := fun j => by
  rw [List.getElem?_append, List.getElem?_replicate]
  by_cases h : j < d.length
  ·rw [if_pos h]
  ·rw [if_neg h, List.getElem?_eq_none (by omega)]; split <;> rfl
 by_cases h1 : k < o
 ·rw [if_pos (by omega), if_pos (by omega), if_pos h1, if_neg (by omega), hr]
 ·by_cases h2 : k < o + b.length
  ·rw [if_pos (by omega), if_neg (by omega), if_pos ⟨by omega, h2⟩, show k - min o (d.length + (o - d.length)) = k - o by omega]
  ·rw [if_neg (by omega), if_neg (by omega), show o + b.length + (k - (min o (d.length + (o - d.length)) + b.length)) = k by omega, hr]
theorem zJ3 (d : List UInt8) (z : Nat) : (trB d z).length = z := by
 unfold trB; split <;> simp <;> omega
theorem trB_bz (d : List UInt8) (z k : Nat) : bz (trB d z) k = if k < z then bz d k else 0 := by
 unfold trB bz
 simp only [List.getD_eq_getElem?_getD]
 by_cases h : z ≤ d.length
 ·rw [if_pos h, List.getElem?_take]
  split <;> rfl
 ·rw [if_neg h, List.getElem?_append, List.getElem?_replicate]
  by_cases h1 : k < d.length
  ·rw [if_pos h1, if_pos (by omega)]
  ·rw [if_neg h1, List.getElem?_eq_none (l := d) (by omega)]; split <;> split <;> rfl
theorem zDm (i : Int) {n : Nat} (h : n ≤ 65535) : blockK i n = keyH 68 i ++ beB 2 (n : Int) := by unfold blockK; rw [if_neg (by omega)]
theorem zQz (i : Int) (n : Int) : (blockK i n).length ≤ 100000 := by
 unfold blockK; split
 ·simp
 ·rw [List.length_append, qC, yD]; omega
theorem VJ.putB {s : VS} {n : Nat} (h : VJ s n) (i : Int) (k : Nat) {b : List UInt8} (hb : b.length ≤ 100000) : VJ (s.putB i k b).2 (n + 1) := by
 unfold VS.putB
 split
 ·exact h.put _ _ (zQz _ _) (Nat.le_trans (zLt b) hb)
 split
 ·exact h.mono (by omega)
 ·exact h.del _
theorem zPf {s : VS} {n : Nat} (h : VJ s n) (i : Int) {k : Nat} (hk : k ≤ 65535) (b : List UInt8) (ho : (s.putB i k b).1 = true) : (s.putB i k b).2.shown.row = putL s.shown.row i k b := by
 unfold VS.putB at ho ⊢
 unfold putL
 by_cases ht : trim0 b = []
 ·rw [if_neg (fun q => q ht)] at ho ⊢
  rw [if_pos ht]
  by_cases hg : s.shown.get (blockK i k) = none
  ·rw [if_pos hg]
   dsimp only
   rw [zDm i hk, yQ _ _ h.rs] at hg
   exact (jN fun x hx q => by
    have := (z5 h.rs).2 (show (x.1, x.2) ∈ s.shown.row from hx)
    rw [q, hg] at this; cases this).symm
  ·rw [if_neg hg] at ho ⊢
   dsimp only at ho ⊢
   rw [zCe h ho, zDm i hk]
 ·rw [if_pos ht] at ho ⊢
  rw [if_neg ht]
  dsimp only at ho ⊢
  rw [zAr h ho, zDm i hk]
theorem zIn {s : VS} {n : Nat} (h : VJ s n) {i : Int} {f : Nat → UInt8} (hf : BF s.shown.row i f) {k : Nat} (hk : k ≤ 65535) : s.block i k = blkF f k := by
 unfold VS.block
 rw [yQ _ _ h.rs, zDm i hk, hf]
 unfold bfG
 rw [zVg (k : Int) (by omega), Int.toNat_natCast]
 by_cases ht : trim0 (blkF f k) = []
 ·rw [if_neg (fun q => q.2 ht)]
  have := zLe (b := blkF f k) (zBh ..)
  rw [ht] at this
  exact this
 ·rw [if_pos ⟨yD .., ht⟩]
  exact zLe (zBh ..)
theorem zA2 (s : VS) (i : Int) (k : Nat) : (s.block i k).length = 64 := padB_len _
theorem zNa : ∀ g o n : Nat, (pcsN g o n).length ≤ if n = 0 then 0 else (o % 64 + n + 63) / 64
 | 0, _, _ => Nat.zero_le _
 | g + 1, o, n => by
  unfold pcsN
  by_cases h0 : n = 0
  ·rw [if_pos h0, if_pos h0]; exact Nat.zero_le _
  rw [if_neg h0, if_neg h0, List.length_cons]
  have ih := zNa g (o + min n (64 - o % 64)) (n - min n (64 - o % 64))
  split at ih <;> omega
theorem wrL_vj (i : Int) : ∀ (l : List (Nat × Nat × Nat)) {s : VS} {n : Nat} (b : List UInt8) (ok : Bool), VJ s n → b.length ≤ 2000 → VJ (wrL i l s b ok).2 (n + l.length)
 | [], s, n, b, ok, h, _ => h
 | x :: r, s, n, b, ok, h, hb => by
  have h2 := h.putB i x.1 (b := inB64 (s.block i x.1) x.2.1 (b.take x.2.2)) (by unfold inB64; have := zA2 s i x.1; simp; omega)
  have := wrL_vj i r (b.drop x.2.2) ((s.putB i x.1 (inB64 (s.block i x.1) x.2.1 (b.take x.2.2))).1 && ok) h2 (by simp; omega)
  rw [List.length_cons]
  exact this.mono (by omega)
theorem zSl {i : Int} (hi : U32 i) : ∀ (g o : Nat) (b : List UInt8) {s : VS} {n : Nat} {f : Nat → UInt8} (ok : Bool), b.length ≤ g → b.length ≤ 2000 → o + b.length ≤ 4096 → VJ s n → BF s.shown.row i f → (wrL i (pcsN g o b.length) s b ok).1 = true →
  ok = true ∧ Chg i s.shown.row (wrL i (pcsN g o b.length) s b ok).2.shown.row ∧ BF (wrL i (pcsN g o b.length) s b ok).2.shown.row i (wrF f o b) ∧ lget (keyH 73 i) (wrL i (pcsN g o b.length) s b ok).2.shown.row = lget (keyH 73 i) s.shown.row
 | 0, o, b, s, n, f, ok, hg, _, _, h, hf, hok => by
  have : b = [] := List.eq_nil_of_length_eq_zero (by omega)
  subst this
  rw [zTp]
  exact ⟨hok, Chg.refl h.rs, hf, rfl⟩
 | g + 1, o, b, s, n, f, ok, hg, hb2, ho, h, hf, hok => by
  by_cases h0 : b = []
  ·subst h0
   rw [zTp]
   exact ⟨hok, Chg.refl h.rs, hf, rfl⟩
  have hb1 : b.length ≠ 0 := fun q => h0 (List.eq_nil_of_length_eq_zero q)
  have e : pcsN (g + 1) o b.length = (o / 64, o % 64, min b.length (64 - o % 64)) :: pcsN g (o + min b.length (64 - o % 64)) (b.drop (min b.length (64 - o % 64))).length := by
   rw [pcsN, if_neg hb1, List.length_drop]
  rw [e] at hok ⊢
  unfold wrL at hok ⊢
  dsimp only at hok ⊢
  have hbl := zIn h hf (k := o / 64) (by omega)
  rw [hbl] at hok ⊢
  have hil : (inB64 (blkF f (o / 64)) (o % 64) (b.take (min b.length (64 - o % 64)))).length = 64 := zLv (zBh ..) (by simp; omega)
  have hv := h.putB i (o / 64) (b := inB64 (blkF f (o / 64)) (o % 64) (b.take (min b.length (64 - o % 64)))) (by omega)
  have hrow := zPf h i (k := o / 64) (by omega) (inB64 (blkF f (o / 64)) (o % 64) (b.take (min b.length (64 - o % 64))))
  generalize s.putB i (o / 64) (inB64 (blkF f (o / 64)) (o % 64) (b.take (min b.length (64 - o % 64)))) = q at hv hrow hok ⊢
  by_cases hq : q.1 = true
  ·have hrow := hrow hq
   have hf2 : BF q.2.shown.row i (updF f (o / 64) (inB64 (blkF f (o / 64)) (o % 64) (b.take (min b.length (64 - o % 64))))) := by
    rw [hrow]; exact hf.put h.rs hi (by omega) hil
   obtain ⟨h1, h2, h3, h4⟩ := zSl hi g (o + min b.length (64 - o % 64)) (b.drop (min b.length (64 - o % 64))) (q.1 && ok) (by simp; omega) (by simp; omega) (by simp; omega) hv hf2 hok
   rw [wr_step f o h0] at h3
   rw [hq, Bool.true_and] at h1
   refine ⟨h1, ?_, h3, ?_⟩
   ·refine Chg.trans ?_ h2
    rw [hrow]; exact Chg.put hi h.rs _ _
   ·rw [h4, hrow, zUt hi h.rs]
  ·exfalso
   have hq : q.1 = false := by simpa using hq
   rw [hq, Bool.false_and] at hok
   have hF : ∀ (l : List (Nat × Nat × Nat)) (s : VS) (b : List UInt8), (wrL i l s b false).1 = false := fun l => by
    induction l with
    | nil => intros; rfl
    | cons x r ih => intro s b; unfold wrL; rw [Bool.and_false]; exact ih _ _
   rw [hF] at hok; cases hok
theorem zJh (l : List UInt8) (a : Nat) : (clrB l a).length = l.length := by unfold clrB; simp; omega
theorem zV0 (i : Int) (z : Nat) : ∀ (l : List Nat) {s : VS} {n : Nat} (ok : Bool), VJ s n → VJ (shrL i z l s ok).2 (n + l.length)
 | [], _, _, _, h => h
 | x :: r, s, n, ok, h => by
  have h2 := h.putB i x (b := clrB (s.block i x) (z - 64 * x)) (by rw [zJh, zA2]; omega)
  rw [List.length_cons]
  exact (zV0 i z r ((s.putB i x (clrB (s.block i x) (z - 64 * x))).1 && ok) h2).mono (by omega)
def shF (f : Nat → UInt8) (z hi : Nat) (k : Nat) : UInt8 := if z ≤ k ∧ k < hi then 0 else f k
theorem shr_step (f : Nat → UInt8) {z n : Nat} (hz : z / 64 ≤ n) : updF (shF f z (64 * n)) n (clrB (blkF (shF f z (64 * n)) n) (z - 64 * n)) = shF f z (64 * (n + 1)) := by
 funext k
 unfold updF
 by_cases h : 64 * n ≤ k ∧ k < 64 * n + 64
 ·rw [if_pos h]
  unfold clrB
  have hl : (blkF (shF f z (64 * n)) n).length = 64 := zBh ..
  rw [hl]
  simp only [List.getD_eq_getElem?_getD]
  rw [List.getElem?_append, List.length_take, hl, List.getElem?_replicate, List.getElem?_take]
  by_cases h2 : k - 64 * n < z - 64 * n
  ·rw [if_pos (by omega), if_pos h2]
   unfold blkF
   rw [jJ, if_pos (by omega)]
   unfold shF
   dsimp only [Option.getD]
   rw [if_neg (by omega), if_neg (by omega)]
   congr 1; omega
  ·rw [if_neg (by omega), if_pos (by omega)]
   unfold shF
   rw [if_pos (by omega)]; rfl
 ·rw [if_neg h]
  unfold shF
  by_cases h2 : z ≤ k ∧ k < 64 * n
  ·rw [if_pos h2, if_pos (by omega)]
  ·rw [if_neg h2, if_neg (by omega)]
theorem zQc {i : Int} (hi : U32 i) {z : Nat} {f : Nat → UInt8} : ∀ (c n : Nat) {s : VS} {v : Nat} (ok : Bool), z / 64 ≤ n → n + c ≤ 65536 → VJ s v → BF s.shown.row i (shF f z (64 * n)) → (shrL i z (List.range' n c) s ok).1 = true →
  ok = true ∧ Chg i s.shown.row (shrL i z (List.range' n c) s ok).2.shown.row ∧ BF (shrL i z (List.range' n c) s ok).2.shown.row i (shF f z (64 * (n + c))) ∧ lget (keyH 73 i) (shrL i z (List.range' n c) s ok).2.shown.row = lget (keyH 73 i) s.shown.row
 | 0, n, s, v, ok, _, _, h, hf, hok => ⟨hok, Chg.refl h.rs, hf, rfl⟩
 | c + 1, n, s, v, ok, hz, hc, h, hf, hok => by
  rw [List.range'_succ] at hok ⊢
  unfold shrL at hok ⊢
  have hbl := zIn h hf (k := n) (by omega)
  rw [hbl] at hok ⊢
  have hil : (clrB (blkF (shF f z (64 * n)) n) (z - 64 * n)).length = 64 := by rw [zJh]; exact zBh ..
  have hv := h.putB i n (b := clrB (blkF (shF f z (64 * n)) n) (z - 64 * n)) (by omega)
  have hrow := zPf h i (k := n) (by omega) (clrB (blkF (shF f z (64 * n)) n) (z - 64 * n))
  generalize s.putB i n (clrB (blkF (shF f z (64 * n)) n) (z - 64 * n)) = q at hv hrow hok ⊢
  by_cases hq : q.1 = true
  ·have hrow := hrow hq
   have hf2 : BF q.2.shown.row i (shF f z (64 * (n + 1))) := by
    rw [hrow, ← shr_step f hz]; exact hf.put h.rs hi (by omega) hil
   obtain ⟨h1, h2, h3, h4⟩ := zQc hi c (n + 1) (q.1 && ok) (by omega) (by omega) hv hf2 hok
   rw [hq, Bool.true_and] at h1
   refine ⟨h1, ?_, ?_, ?_⟩
   ·refine Chg.trans ?_ h2
    rw [hrow]; exact Chg.put hi h.rs _ _
   ·rw [show n + (c + 1) = n + 1 + c by omega]; exact h3
   ·rw [h4, hrow, zUt hi h.rs]
  ·exfalso
   have hq : q.1 = false := by simpa using hq
   rw [hq, Bool.false_and] at hok
   have hF : ∀ (l : List Nat) (s : VS), (shrL i z l s false).1 = false := fun l => by
    induction l with
    | nil => intros; rfl
    | cons x r ih => intro s; unfold shrL; rw [Bool.and_false]; exact ih _
   rw [hF] at hok; cases hok
theorem Rel.fload {s : VS} {n : Nat} (h : VJ s n) {m : MF} {par : Int → Int} (R : Rel s.shown.row m par) {i : Int} (hi : U32 i) : s.fload i = (m.file i).map fun x => (x.k, x.n, (x.b.length : Int), par i) := by
 unfold VS.fload MF.file
 cases hx : m.at i with
 | some x =>
  rw [R.load h hx]
  dsimp only
  by_cases hk : x.k = 1
  ·rw [if_pos hk, if_pos hk]; rfl
  ·rw [if_neg hk, if_neg hk]; rfl
 | none =>
  rw [zIw h, R.non i hi hx]
  obtain ⟨x, h1, h2⟩ := R.root
  have hne : i ≠ 1 := fun q => by rw [q, h1] at hx; cases hx
  unfold ndOf
  rw [if_neg hne]; rfl
theorem jX {m : MF} {i : Int} {x : MN} (h : m.file i = some x) : m.at i = some x ∧ x.k = 1 := by
 unfold MF.file at h
 split at h
 ·rename_i y hy
  split at h
  ·rename_i hk
   obtain rfl := Option.some.inj h
   exact ⟨hy, hk⟩
  ·cases h
 ·cases h
theorem Rel.bl {l : List KV} {m : MF} {par : Int → Int} (R : Rel l m par) {i : Int} {x : MN} (h : m.at i = some x) (hk : x.k = 1) : x.b.length ≤ 4096 ∧ BF l i (bz x.b) ∧ par i = 0 ∧ U32 i ∧ U32 x.n := by
 have hm := R.may h
 have hs := zFj hm.1
 have hb : x.b.length ≤ 4096 := by omega
 refine ⟨hb, BF.of R.ri hb (R.blk i x h), ?_, (R.u i x h).1, hm.2.1⟩
 rcases R.kin i x h with q | q
 ·have := q.1; omega
 ·exact q.2.2
theorem zL5 {s : VS} {n : Nat} (h : VJ s n) {i : Int} {b : List UInt8} (hb : b.length ≤ 4096) (hf : BF s.shown.row i (bz b)) {o c : Int} (ho : 0 ≤ o) (hc : 0 ≤ c) (hl : o + c ≤ b.length ∨ c = 0) : s.bytesF i o c = (b.drop o.toNat).take c.toNat := by
 unfold VS.bytesF
 by_cases hbad : cutBad o c
 ·rw [if_pos hbad]
  unfold cutBad at hbad
  have : c = 0 := by omega
  subst this
  simp
 ·rw [if_neg hbad]
  unfold cutBad at hbad
  rw [zQh (s.block i) (bz b) 65535 (fun k hk => zIn h hf hk) c.toNat o.toNat c.toNat (Nat.le_refl _) (by omega), segF_bz (by omega)]
theorem zL6 {s : VS} {n : Nat} (h : VJ s n) {m : MF} {par : Int → Int} (R : Rel s.shown.row m par) {i : Int} (hi : U32 i) (o c : Int) : (s.fread i o c).1 = m.fread i o c ∧ (s.fread i o c).2 = s.rd (keyH 73 i) := by
 unfold VS.fread MF.fread
 rw [R.fload h hi]
 cases hx : m.file i with
 | none => exact ⟨rfl, rfl⟩
 | some x =>
  obtain ⟨h1, h2⟩ := jX hx
  obtain ⟨hb, hf, _⟩ := R.bl h1 h2
  dsimp only [Option.map]
  by_cases hbad : o < 0 ∨ c < 0 ∨ c > 1024
  ·rw [if_pos hbad, if_pos hbad]; exact ⟨rfl, rfl⟩
  rw [if_neg hbad, if_neg hbad]
  refine ⟨?_, rfl⟩
  have := zL5 (h.rd (keyH 73 i)) hb (show BF (s.rd (keyH 73 i)).shown.row i (bz x.b) from hf) (o := o) (c := min c (max ((x.b.length : Int) - o) 0)) (by omega) (by omega) (by omega)
  dsimp only
  rw [this]
  by_cases ho : o ≥ (x.b.length : Int)
  ·rw [if_pos ho, show (min c (max ((x.b.length : Int) - o) 0)).toNat = 0 by omega]; rfl
  ·rw [if_neg ho, show (min c (max ((x.b.length : Int) - o) 0)).toNat = min c.toNat (x.b.length - o.toNat) by omega]
theorem zQk {s : VS} {n : Nat} (h : VJ s n) {m : MF} {par : Int → Int} (R : Rel s.shown.row m par) {i : Int} (hi : U32 i) : s.fall i = ((match m.file i with | none => ([], 16) | some x => (x.b, 0)), s.rd (keyH 73 i)) := by
 unfold VS.fall
 rw [R.fload h hi]
 cases hx : m.file i with
 | none => rfl
 | some x =>
  obtain ⟨h1, h2⟩ := jX hx
  obtain ⟨hb, hf, _⟩ := R.bl h1 h2
  have := zL5 (h.rd (keyH 73 i)) hb (show BF (s.rd (keyH 73 i)).shown.row i (bz x.b) from hf) (o := 0) (c := (x.b.length : Int)) (by omega) (by omega) (by omega)
  dsimp only [Option.map]
  rw [this]; simp
theorem zM8 {b : Bool} (h : fullB b ≠ 21) : b = true ∧ fullB b = 0 := by cases b <;> simp_all [fullB]
theorem zG5 {s : VS} {n : Nat} (h : VJ s n) {i : Int} (hi : U32 i) (g : Nd) (hr : s.room (keyH 73 i) = true) {f : Nat → UInt8} (hf : BF s.shown.row i f) :
  Chg i s.shown.row (s.save i g).shown.row ∧ BF (s.save i g).shown.row i f ∧ lget (keyH 73 i) (s.save i g).shown.row = some (nodeB g.1 g.2.1 g.2.2.1 g.2.2.2) := by
 have hrow : (s.save i g).shown.row = lset (keyH 73 i ++ []) (nodeB g.1 g.2.1 g.2.2.1 g.2.2.2) s.shown.row := by
  rw [List.append_nil]; exact zAr h hr
 rw [hrow]
 refine ⟨Chg.set hi h.rs _ _ (.inl ⟨rfl, rfl⟩), fun r => ?_, ?_⟩
 ·rw [zB0 L68 L73 hi hi h.rs, if_neg (fun q => by have := q.1; omega)]; exact hf r
 ·rw [get73, zB0 L73 L73 hi hi h.rs, if_pos ⟨rfl, rfl, rfl⟩]
theorem VJ.fsave {s : VS} {n : Nat} (h : VJ s n) (i : Int) (g : Nd) : VJ (s.save i g) (n + 1) := h.put _ _ (by rw [qC]; omega) (by rw [zD6]; omega)
theorem zGg {s : VS} {n : Nat} (h : VJ s n) (i o : Int) (b : List UInt8) : VJ (s.fwrite i o b).2 (n + 40) := by
 have h1 := h.rd (keyH 73 i)
 unfold VS.fwrite
 split
 ·exact h1.mono (by omega)
 split
 ·exact h1.mono (by omega)
 split
 ·exact h1.mono (by omega)
 split
 ·exact h1.mono (by omega)
 rename_i x hx a1 a2 a3
 have h2 := h1.fsave i (sizeN x (max x.2.2.1 (o + b.length)))
 have := zNa b.length o.toNat b.length
 rw [if_neg a3] at this
 exact (wrL_vj i (pcsN b.length o.toNat b.length) b ((s.rd (keyH 73 i)).room (keyH 73 i)) h2 (by omega)).mono (by omega)
theorem zIa {s : VS} {n : Nat} (h : VJ s n) {m : MF} {par : Int → Int} (R : Rel s.shown.row m par) {i : Int} (hi : U32 i) (o : Int) (b : List UInt8) : (s.fwrite i o b).1 = 21 ∨ ((s.fwrite i o b).1 = (m.fwrite i o b).1 ∧ Rel (s.fwrite i o b).2.shown.row (m.fwrite i o b).2 par) := by
 unfold VS.fwrite MF.fwrite
 rw [R.fload h hi]
 cases hx : m.file i with
 | none => exact .inr ⟨rfl, R⟩
 | some x =>
  obtain ⟨hx1, hk⟩ := jX hx
  obtain ⟨hb, hf, hp, _, _⟩ := R.bl hx1 hk
  simp only [Option.map]
  by_cases h1 : o < 0 ∨ (b.length : Int) > 1024
  ·rw [if_pos h1, if_pos h1]; exact .inr ⟨rfl, R⟩
  rw [if_neg h1, if_neg h1]
  by_cases h2 : o > 4096 ∨ (b.length : Int) > 4096 - o
  ·rw [if_pos h2, if_pos (show o > 4096 ∨ o + (b.length : Int) > 4096 by omega)]; exact .inr ⟨rfl, R⟩
  rw [if_neg h2, if_neg (show ¬ (o > 4096 ∨ o + (b.length : Int) > 4096) by omega)]
  by_cases h3 : b.length = 0
  ·rw [if_pos h3, if_pos h3]; exact .inr ⟨rfl, R⟩
  rw [if_neg h3, if_neg h3]
  dsimp only
  have hv1 := h.rd (keyH 73 i)
  by_cases hfull : fullB (wrL i (pcsN b.length o.toNat b.length) ((s.rd (keyH 73 i)).save i (sizeN (x.k, x.n, (x.b.length : Int), par i) (max (x.b.length : Int) (o + b.length)))) b ((s.rd (keyH 73 i)).room (keyH 73 i))).1 = 21
  ·exact .inl hfull
  obtain ⟨h4, h5⟩ := zM8 hfull
  right
  have hv2 := hv1.fsave i (sizeN (x.k, x.n, (x.b.length : Int), par i) (max (x.b.length : Int) (o + b.length)))
  have hroom : (s.rd (keyH 73 i)).room (keyH 73 i) = true := by
   cases hr : (s.rd (keyH 73 i)).room (keyH 73 i) with
   | true => rfl
   | false =>
    rw [hr] at h4
    have hF : ∀ (l : List (Nat × Nat × Nat)) (s : VS) (b : List UInt8), (wrL i l s b false).1 = false := fun l => by
     induction l with
     | nil => intros; rfl
     | cons x r ih => intro s b; unfold wrL; rw [Bool.and_false]; exact ih _ _
    rw [hF] at h4; cases h4
  obtain ⟨c1, c2, c3⟩ := zG5 hv1 hi (sizeN (x.k, x.n, (x.b.length : Int), par i) (max (x.b.length : Int) (o + b.length))) hroom (show BF (s.rd (keyH 73 i)).shown.row i (bz x.b) from hf)
  obtain ⟨_, d1, d2, d3⟩ := zSl hi b.length o.toNat b _ (Nat.le_refl _) (by omega) (by omega) hv2 c2 h4
  refine ⟨h5, R.data hx1 hk (b := wrB x.b o.toNat b) (by rw [zTj]; omega) (Chg.trans c1 d1) ?_ (d2.congr fun k => (wrB_bz x.b o.toNat b k).symm)⟩
  rw [d3, c3, zTj, hp]
  unfold sizeN
  dsimp only
  rw [hk, show (max (x.b.length : Int) (o + b.length)) = ((max x.b.length (o.toNat + b.length) : Nat) : Int) by omega]
theorem zIg {s : VS} {i : Int} {x : Nd} (hx : s.fload i = some x) : x.2.2.1 ≤ 4096 := by
 unfold VS.fload VS.load at hx
 split at hx
 ·rename_i y hy
  split at hx
  ·obtain rfl := Option.some.inj hx
   cases hg : s.shown.get (keyH 73 i) with
   | none =>
    rw [hg] at hy
    unfold ndOf at hy
    dsimp only at hy
    split at hy
    ·obtain rfl := Option.some.inj hy; decide
    ·cases hy
   | some v =>
    rw [hg] at hy
    obtain ⟨a, b, c, d⟩ := y
    exact zFj (zGt hy)
  ·cases hx
 ·cases hx
theorem zL0 {s : VS} {n : Nat} (h : VJ s n) (i z : Int) : VJ (s.ftrunc i z).2 (n + 100) := by
 have h1 := h.rd (keyH 73 i)
 unfold VS.ftrunc
 split
 ·exact h1.mono (by omega)
 rename_i x hx
 have hs : x.2.2.1 ≤ 4096 := zIg hx
 split
 ·exact h1.mono (by omega)
 split
 ·exact h1.mono (by omega)
 have h2 := h1.fsave i (sizeN x z)
 split
 ·refine (zV0 i z.toNat _ true h2).mono ?_
  rw [List.length_range']
  have : (blocks x.2.2.1).toNat ≤ 64 := by unfold blocks; split <;> omega
  omega
 ·exact h2.mono (by omega)
theorem zIe {s : VS} {n : Nat} (h : VJ s n) {m : MF} {par : Int → Int} (R : Rel s.shown.row m par) {i : Int} (hi : U32 i) (z : Int) : (s.ftrunc i z).1 = 21 ∨ ((s.ftrunc i z).1 = (m.ftrunc i z).1 ∧ Rel (s.ftrunc i z).2.shown.row (m.ftrunc i z).2 par) := by
 unfold VS.ftrunc MF.ftrunc
 rw [R.fload h hi]
 cases hx : m.file i with
 | none => exact .inr ⟨rfl, R⟩
 | some x =>
  obtain ⟨hx1, hk⟩ := jX hx
  obtain ⟨hb, hf, hp, _, _⟩ := R.bl hx1 hk
  simp only [Option.map]
  by_cases h1 : z < 0
  ·rw [if_pos h1, if_pos h1]; exact .inr ⟨rfl, R⟩
  rw [if_neg h1, if_neg h1]
  by_cases h2 : z > 4096
  ·rw [if_pos h2, if_pos h2]; exact .inr ⟨rfl, R⟩
  rw [if_neg h2, if_neg h2]
  have hv1 := h.rd (keyH 73 i)
  have hv2 := hv1.fsave i (sizeN (x.k, x.n, (x.b.length : Int), par i) z)
  by_cases h3 : z < (x.b.length : Int)
  ·rw [if_pos h3]
   dsimp only
   by_cases hfull : fullB ((shrL i z.toNat (List.range' (z.toNat / 64) ((blocks (x.b.length : Int)).toNat - z.toNat / 64)) ((s.rd (keyH 73 i)).save i (sizeN (x.k, x.n, (x.b.length : Int), par i) z)) true).1 && (s.rd (keyH 73 i)).room (keyH 73 i)) = 21
   ·exact .inl hfull
   obtain ⟨h4, h5⟩ := zM8 hfull
   right
   rw [Bool.and_eq_true] at h4
   obtain ⟨c1, c2, c3⟩ := zG5 hv1 hi (sizeN (x.k, x.n, (x.b.length : Int), par i) z) h4.2 (show BF (s.rd (keyH 73 i)).shown.row i (bz x.b) from hf)
   have hB : (blocks (x.b.length : Int)).toNat = (x.b.length + 63) / 64 := by unfold blocks; rw [if_neg (by omega)]; omega
   have c2' : BF ((s.rd (keyH 73 i)).save i (sizeN (x.k, x.n, (x.b.length : Int), par i) z)).shown.row i (shF (bz x.b) z.toNat (64 * (z.toNat / 64))) := c2.congr fun k => by unfold shF; rw [if_neg (by omega)]
   obtain ⟨_, d1, d2, d3⟩ := zQc hi _ (z.toNat / 64) true (Nat.le_refl _) (by omega) hv2 c2' h4.1
   refine ⟨h5, R.data hx1 hk (b := trB x.b z.toNat) (by rw [zJ3]; omega) (Chg.trans c1 d1) ?_ (d2.congr fun k => ?_)⟩
   ·rw [d3, c3, zJ3, hp]
    unfold sizeN
    dsimp only
    rw [hk, Int.toNat_of_nonneg (by omega)]
   ·rw [trB_bz]
    unfold shF
    by_cases hz : k < z.toNat
    ·rw [if_neg (by omega), if_pos hz]
    ·rw [if_neg hz]
     split
     ·rfl
     ·exact zNf (by omega)
  ·rw [if_neg h3]
   dsimp only
   by_cases hfull : fullB ((s.rd (keyH 73 i)).room (keyH 73 i)) = 21
   ·exact .inl hfull
   obtain ⟨h4, h5⟩ := zM8 hfull
   right
   obtain ⟨c1, c2, c3⟩ := zG5 hv1 hi (sizeN (x.k, x.n, (x.b.length : Int), par i) z) h4 (show BF (s.rd (keyH 73 i)).shown.row i (bz x.b) from hf)
   refine ⟨h5, R.data hx1 hk (b := trB x.b z.toNat) (by rw [zJ3]; omega) c1 ?_ (c2.congr fun k => ?_)⟩
   ·rw [c3, zJ3, hp]
    unfold sizeN
    dsimp only
    rw [hk, Int.toNat_of_nonneg (by omega)]
   ·rw [trB_bz]
    by_cases hz : k < z.toNat
    ·rw [if_pos hz]
    ·rw [if_neg hz]; exact zNf (by omega)
theorem zMl {m : MF} {c : Nat} (h : m.wk c) {i : Int} {x : MN} (hx : m.at i = some x) (b : List UInt8) : (m.with { x with b := b }).wk c := by
 have hm := yY hx
 have hall : ∀ y ∈ m.with { x with b := b }, y = { x with b := b } ∨ y ∈ m := fun y hy => zCw hy
 refine ⟨?_, fun y hy => ?_, fun y hy => ?_, fun y hy => ?_⟩
 ·unfold MF.with
  rw [List.length_append, List.length_map, if_pos (by dsimp only; rw [hm.2, hx]; rfl)]
  exact h.l
 ·rcases hall y hy with rfl | hy
  ·exact h.e x hm.1
  ·exact h.e y hy
 ·rcases hall y hy with rfl | hy
  ·exact h.n x hm.1
  ·exact h.n y hy
 ·rcases hall y hy with rfl | hy
  ·exact h.r x hm.1
  ·exact h.r y hy
structure Op20 where
 kind : Int
 path : List UInt8
 other : List UInt8
 h : Int
 from_ : Int
 n : Int
 b : List UInt8
structure RS where
 e : Int
 n : Int
 data : List UInt8
 names : List (List UInt8)
 st : Nd
def rs0 (e : Int) : RS := ⟨e, 0, [], [], (0, 0, 0, 0)⟩
def heldI (l : List Int) (h : Int) : Int := if h < 0 ∨ h ≥ 16 then 0 else l.getD h.toNat 0
def freeH : List Int → Nat → Int
 | [], _ => -1
 | x :: r, i => if x = 0 then (i : Int) else freeH r (i + 1)
def VS.lead (s : VS) (p : List UInt8) : (Int × Nd) × Int :=
 if (s.find p).2.1 ≠ 0 then ((0, (0, 0, 0, 0)), (s.find p).2.1) else if (s.find p).1.i = 0 then ((0, (0, 0, 0, 0)), 10) else (((s.find p).1.i, (s.find p).1.n), 0)
def sdo (s : VS) (l : List Int) (o : Op20) (i : Int) : RS × VS × List Int :=
 if o.kind = 4 then (rs0 (s.make o.path 1 i).1, (s.make o.path 1 i).2, l)
 else if o.kind = 5 then (rs0 (s.make o.path 2 i).1, (s.make o.path 2 i).2, l)
 else if o.kind = 6 then
  if (s.lead o.path).2 ≠ 0 then (rs0 (s.lead o.path).2, s.rdp o.path, l) else if (s.lead o.path).1.2.1 ≠ 1 then (rs0 13, s.rdp o.path, l) else if freeH l 0 < 0 then (rs0 20, s.rdp o.path, l)
  else ({ rs0 0 with n := freeH l 0 }, s.rdp o.path, l.set (freeH l 0).toNat (s.lead o.path).1.1)
 else if o.kind = 7 then (if heldI l o.h = 0 then (rs0 16, s, l) else (rs0 0, s, l.set o.h.toNat 0))
 else if o.kind = 8 then (if heldI l o.h = 0 then (rs0 16, s, l) else (⟨(s.fread (heldI l o.h) o.from_ o.n).1.2, ((s.fread (heldI l o.h) o.from_ o.n).1.1.length : Int), (s.fread (heldI l o.h) o.from_ o.n).1.1, [], (0, 0, 0, 0)⟩, (s.fread (heldI l o.h) o.from_ o.n).2, l))
 else if o.kind = 9 then (if heldI l o.h = 0 then (rs0 16, s, l) else if (s.fwrite (heldI l o.h) o.from_ o.b).1 ≠ 0 then (rs0 (s.fwrite (heldI l o.h) o.from_ o.b).1, (s.fwrite (heldI l o.h) o.from_ o.b).2, l) else ({ rs0 0 with n := (o.b.length : Int) }, (s.fwrite (heldI l o.h) o.from_ o.b).2, l))
 else if o.kind = 10 then (if heldI l o.h = 0 then (rs0 16, s, l) else (rs0 (s.ftrunc (heldI l o.h) o.n).1, (s.ftrunc (heldI l o.h) o.n).2, l))
 else if o.kind = 11 then (rs0 (s.rename o.path o.other).1, (s.rename o.path o.other).2, l)
 else if o.kind = 12 then (rs0 (s.link o.path o.other).1, (s.link o.path o.other).2, l)
 else if o.kind = 13 then (rs0 (s.unlink o.path).1, (s.unlink o.path).2, l)
 else if o.kind = 14 then (rs0 (s.remove o.path).1, (s.remove o.path).2, l)
 else if o.kind = 15 then ({ rs0 (s.dlist o.path).1.2 with names := (s.dlist o.path).1.1 }, (s.dlist o.path).2, l)
 else if o.kind = 16 then ({ rs0 (s.lead o.path).2 with st := ((s.lead o.path).1.2.1, (s.lead o.path).1.2.2.1, (s.lead o.path).1.2.2.2.1, 0) }, s.rdp o.path, l)
 else (rs0 28, s, l)
def MF.stat (f : MF) (p : List UInt8) : Nd × Int :=
 if (f.findP p).2 ≠ 0 then ((0, 0, 0, 0), (f.findP p).2) else if (f.findP p).1.i = 0 then ((0, 0, 0, 0), 10) else match f.at (f.findP p).1.i with
  | some x => ((x.k, x.n, (x.b.length : Int), 0), 0)
  | none => ((0, 0, 0, 0), 0)
def mdo (f : MF) (l : List Int) (o : Op20) (i : Int) : RS × MF × List Int :=
 if o.kind = 4 then (rs0 (f.make o.path 1 i).1, (f.make o.path 1 i).2, l)
 else if o.kind = 5 then (rs0 (f.make o.path 2 i).1, (f.make o.path 2 i).2, l)
 else if o.kind = 6 then
  if (f.findP o.path).2 ≠ 0 then (rs0 (f.findP o.path).2, f, l) else if (f.findP o.path).1.i = 0 then (rs0 10, f, l) else if f.kind (f.findP o.path).1.i ≠ 1 then (rs0 13, f, l) else if freeH l 0 < 0 then (rs0 20, f, l)
  else ({ rs0 0 with n := freeH l 0 }, f, l.set (freeH l 0).toNat (f.findP o.path).1.i)
 else if o.kind = 7 then (if heldI l o.h = 0 then (rs0 16, f, l) else (rs0 0, f, l.set o.h.toNat 0))
 else if o.kind = 8 then (if heldI l o.h = 0 then (rs0 16, f, l) else (⟨(f.fread (heldI l o.h) o.from_ o.n).2, ((f.fread (heldI l o.h) o.from_ o.n).1.length : Int), (f.fread (heldI l o.h) o.from_ o.n).1, [], (0, 0, 0, 0)⟩, f, l))
 else if o.kind = 9 then (if heldI l o.h = 0 then (rs0 16, f, l) else if (f.fwrite (heldI l o.h) o.from_ o.b).1 ≠ 0 then (rs0 (f.fwrite (heldI l o.h) o.from_ o.b).1, (f.fwrite (heldI l o.h) o.from_ o.b).2, l) else ({ rs0 0 with n := (o.b.length : Int) }, (f.fwrite (heldI l o.h) o.from_ o.b).2, l))
 else if o.kind = 10 then (if heldI l o.h = 0 then (rs0 16, f, l) else (rs0 (f.ftrunc (heldI l o.h) o.n).1, (f.ftrunc (heldI l o.h) o.n).2, l))
 else if o.kind = 11 then (rs0 (f.rename o.path o.other).1, (f.rename o.path o.other).2, l)
 else if o.kind = 12 then (rs0 (f.link o.path o.other).1, (f.link o.path o.other).2, l)
 else if o.kind = 13 then (rs0 (f.unlink o.path).1, (f.unlink o.path).2, l)
 else if o.kind = 14 then (rs0 (f.remove o.path).1, (f.remove o.path).2, l)
 else if o.kind = 15 then ({ rs0 (f.list o.path).2 with names := (f.list o.path).1 }, f, l)
 else if o.kind = 16 then ({ rs0 (f.stat o.path).2 with st := (f.stat o.path).1 }, f, l)
 else (rs0 28, f, l)
theorem lead_sim {s : VS} {n : Nat} (h : VJ s n) {m : MF} {par : Int → Int} (R : Rel s.shown.row m par) (p : List UInt8) :
  (s.lead p).2 = (m.stat p).2 ∧ ((s.lead p).1.2.1, (s.lead p).1.2.2.1, (s.lead p).1.2.2.2.1, (0 : Int)) = (m.stat p).1 ∧ (s.lead p).1.1 = (if (m.stat p).2 = 0 then (m.findP p).1.i else 0) ∧ ((s.lead p).2 = 0 → (m.findP p).2 = 0 ∧ (m.findP p).1.i ≠ 0 ∧ (s.lead p).1.2.1 = m.kind (m.findP p).1.i) ∧ ((s.lead p).2 ≠ 0 → (m.findP p).2 ≠ 0 ∧ (s.lead p).2 = (m.findP p).2 ∨ (m.findP p).2 = 0 ∧ (m.findP p).1.i = 0 ∧ (s.lead p).2 = 10) := by
 obtain ⟨he, hs⟩ := zBj h R p
 unfold VS.lead MF.stat
 rw [he]
 by_cases h0 : (m.findP p).2 ≠ 0
 ·rw [if_pos h0, if_pos h0]
  refine ⟨rfl, rfl, ?_, fun q => absurd q h0, fun _ => .inl ⟨h0, rfl⟩⟩
  rw [if_neg h0]
 rw [if_neg h0, if_neg h0]
 have h0 : (m.findP p).2 = 0 := by simpa using h0
 have hs := hs h0
 rw [hs.hi]
 by_cases h1 : (m.findP p).1.i = 0
 ·rw [if_pos h1, if_pos h1]
  exact ⟨rfl, rfl, by simp, fun q => absurd q (by decide), fun _ => .inr ⟨h0, h1, rfl⟩⟩
 rw [if_neg h1, if_neg h1]
 obtain ⟨x, g1, g2⟩ := hs.hn (by rw [hs.hi]; exact h1)
 rw [hs.hi] at g1
 rw [g1]
 dsimp only
 rw [g2]
 refine ⟨rfl, rfl, by simp, fun _ => ⟨h0, h1, ?_⟩, fun q => absurd rfl q⟩
 unfold MF.kind
 rw [g1]
theorem zGh {l : List Int} (hl : ∀ x ∈ l, U32 x) (h : Int) : U32 (heldI l h) := by
 unfold heldI
 split
 ·decide
 ·rw [List.getD_eq_getElem?_getD]
  cases hx : l[h.toNat]? with
  | none => decide
  | some x => exact hl x (List.mem_of_getElem? hx)
theorem zO8 {s : VS} {n c : Nat} (h : VJ s n) {m : MF} {par : Int → Int} (R : Rel s.shown.row m par) (hw : m.wk c) (hc2 : 2 ≤ c) (hc : c ≤ 90000) {l : List Int} (hl : ∀ x ∈ l, U32 x) (o : Op20) {i : Int} (hiu : U32 i) (hi0 : i ≠ 0) (hi : m.at i = none) :
  (sdo s l o i).1.e = 21 ∨ ((sdo s l o i).1 = (mdo m l o i).1 ∧ (sdo s l o i).2.2 = (mdo m l o i).2.2 ∧ ∃ par', Rel (sdo s l o i).2.1.shown.row (mdo m l o i).2.1 par') := by
 have key : ∀ (q : Int × VS) (r : Int × MF), (q.1 = 21 ∨ (q.1 = r.1 ∧ ∃ par', Rel q.2.shown.row r.2 par')) → ((rs0 q.1, q.2, l) : RS × VS × List Int).1.e = 21 ∨ (((rs0 q.1, q.2, l) : RS × VS × List Int).1 = ((rs0 r.1, r.2, l) : RS × MF × List Int).1 ∧ ((rs0 q.1, q.2, l) : RS × VS × List Int).2.2 = ((rs0 r.1, r.2, l) : RS × MF × List Int).2.2 ∧ ∃ par', Rel ((rs0 q.1, q.2, l) : RS × VS × List Int).2.1.shown.row ((rs0 r.1, r.2, l) : RS × MF × List Int).2.1 par') := fun q r hq => by
  rcases hq with hq | ⟨h1, h2⟩
  ·exact .inl hq
  ·exact .inr ⟨by rw [h1], rfl, h2⟩
 have hR : ∃ par', Rel s.shown.row m par' := ⟨par, R⟩
 obtain ⟨l1, l2, l3, l4, l5⟩ := lead_sim h R o.path
 have hu := zGh hl o.h
 unfold sdo mdo
 by_cases k4 : o.kind = 4
 ·rw [if_pos k4, if_pos k4]
  exact key _ _ (zFl h R hw (by omega) o.path (.inl rfl) hiu hi0 hi)
 rw [if_neg k4, if_neg k4]
 by_cases k5 : o.kind = 5
 ·rw [if_pos k5, if_pos k5]
  exact key _ _ (zFl h R hw (by omega) o.path (.inr rfl) hiu hi0 hi)
 rw [if_neg k5, if_neg k5]
 by_cases k6 : o.kind = 6
 ·rw [if_pos k6, if_pos k6]
  right
  by_cases e : (s.lead o.path).2 ≠ 0
  ·rw [if_pos e]
   rcases l5 e with ⟨q1, q2⟩ | ⟨q1, q2, q3⟩
   ·rw [if_pos q1, q2]; exact ⟨rfl, rfl, hR⟩
   ·rw [if_neg (by simpa using q1), if_pos q2, q3]; exact ⟨rfl, rfl, hR⟩
  rw [if_neg e]
  obtain ⟨q1, q2, q3⟩ := l4 (by simpa using e)
  have q0 : ¬ (m.findP o.path).2 ≠ 0 := by simpa using q1
  rw [if_neg q0, if_neg q2, q3]
  have q4 : (s.lead o.path).1.1 = (m.findP o.path).1.i := by rw [l3, if_pos (by rw [← l1]; simpa using e)]
  rw [q4]
  split
  ·exact ⟨rfl, rfl, hR⟩
  split
  ·exact ⟨rfl, rfl, hR⟩
  ·exact ⟨rfl, rfl, hR⟩
 rw [if_neg k6, if_neg k6]
 by_cases k7 : o.kind = 7
 ·rw [if_pos k7, if_pos k7]
  right
  split
  ·exact ⟨rfl, rfl, hR⟩
  ·exact ⟨rfl, rfl, hR⟩
 rw [if_neg k7, if_neg k7]
 by_cases k8 : o.kind = 8
 ·rw [if_pos k8, if_pos k8]
  right
  obtain ⟨f1, f2⟩ := zL6 h R hu o.from_ o.n
  rw [f1, f2]
  split
  ·exact ⟨rfl, rfl, hR⟩
  ·exact ⟨rfl, rfl, hR⟩
 rw [if_neg k8, if_neg k8]
 by_cases k9 : o.kind = 9
 ·rw [if_pos k9, if_pos k9]
  by_cases hz : heldI l o.h = 0
  ·rw [if_pos hz, if_pos hz]; exact .inr ⟨rfl, rfl, hR⟩
  rw [if_neg hz, if_neg hz]
  rcases zIa h R hu o.from_ o.b with f1 | ⟨f1, f2⟩
  ·left
   rw [if_pos (by rw [f1]; decide)]; exact f1
  ·right
   rw [f1]
   split
   ·exact ⟨rfl, rfl, par, f2⟩
   ·exact ⟨rfl, rfl, par, f2⟩
 rw [if_neg k9, if_neg k9]
 by_cases k10 : o.kind = 10
 ·rw [if_pos k10, if_pos k10]
  by_cases hz : heldI l o.h = 0
  ·rw [if_pos hz, if_pos hz]; exact .inr ⟨rfl, rfl, hR⟩
  rw [if_neg hz, if_neg hz]
  exact key _ _ ((zIe h R hu o.n).imp_right fun q => ⟨q.1, par, q.2⟩)
 rw [if_neg k10, if_neg k10]
 by_cases k11 : o.kind = 11
 ·rw [if_pos k11, if_pos k11]
  exact key _ _ (zH1 h R hw (by omega) o.path o.other)
 rw [if_neg k11, if_neg k11]
 by_cases k12 : o.kind = 12
 ·rw [if_pos k12, if_pos k12]
  exact key _ _ ((zQn h R o.path o.other).imp_right fun q => ⟨q.1, par, q.2⟩)
 rw [if_neg k12, if_neg k12]
 by_cases k13 : o.kind = 13
 ·rw [if_pos k13, if_pos k13]
  exact key _ _ ((zH6 h R o.path).imp_right fun q => ⟨q.1, par, q.2⟩)
 rw [if_neg k13, if_neg k13]
 by_cases k14 : o.kind = 14
 ·rw [if_pos k14, if_pos k14]
  exact key _ _ ((zHp h R hw (by omega) o.path).imp_right fun q => ⟨q.1, par, q.2⟩)
 rw [if_neg k14, if_neg k14]
 by_cases k15 : o.kind = 15
 ·rw [if_pos k15, if_pos k15]
  right
  obtain ⟨e1, e2⟩ := zP4 h R o.path
  rw [e1, e2]
  exact ⟨rfl, rfl, hR⟩
 rw [if_neg k15, if_neg k15]
 by_cases k16 : o.kind = 16
 ·rw [if_pos k16, if_pos k16]
  right
  rw [l2, l1]
  exact ⟨rfl, rfl, hR⟩
 rw [if_neg k16, if_neg k16]
 exact .inr ⟨rfl, rfl, hR⟩
end Go.Proofs.YtdnpkgakpiopgaaGreatDoor

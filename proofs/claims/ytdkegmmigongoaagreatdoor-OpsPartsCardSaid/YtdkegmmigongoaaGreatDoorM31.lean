import Derived.Test.YtdkegmmigongoaaGreatDoorGo
import Derived.Test.YtdkegmmigongoaaGreatDoorM30
import Derived.Test.YtdkegmmigongoaaGreatDoorM19
import Derived.Test.YtdkegmmigongoaaGreatDoorM14
import Derived.Test.YtdkegmmigongoaaGreatDoorM27
import Derived.Test.YtdkegmmigongoaaGreatDoorM20
namespace Go.Proofs.YtdkegmmigongoaaGreatDoor
set_option maxRecDepth 20000
open Go.Awp Tr
def mfr (f : MF) (l : List Int) (o : Op20) (fr : Int) : Int := if (o.kind = 4 ∨ o.kind = 5) ∧ (mdo f l o fr).1.e = 0 then fr + 1 else fr
structure R20 (f : MF) (l : List Int) (fr : Int) (c : Nat) : Prop where
 ok : f.ok c
 hc : c ≤ 30000
 u : ∀ x ∈ f, U32 x.i
 k1 : f.kind 1 = 2
 b : ∀ x ∈ f, x.b.length ≤ 100000
 st : ∀ p, Nd.ok (f.stat p).1
 l : l.length = 16
 fr : 0 ≤ fr ∧ fr ≤ 1000000
def openL : List Int → Nat → List Int
 | [], _ => []
 | x :: r, i => if x = 0 then openL r (i + 1) else (i : Int) :: openL r (i + 1)
structure OpI (l : List Int) where
 i : Nat
 h : i ≤ l.length
 acc : List Int
 hl : acc.length ≤ i
 e : acc ++ openL (l.drop i) i = openL l 0
theorem make_al {m : MF} {P : Int → Prop} (h : m.al P) (p : List UInt8) (k i : Int) (he : (m.make p k i).1 ≠ 0) : (m.make p k i).2.al P := by
 unfold MF.make at he ⊢
 split
 ·exact h
 split
 ·exact h
 rename_i h1 h2
 rw [if_neg h1, if_neg h2] at he
 exact absurd rfl he
theorem mdo_al2 {m : MF} {P : Int → Prop} (h : m.al P) (h1 : P 1) (l : List Int) (o : Op20) (i : Int) (hn : ¬ ((o.kind = 4 ∨ o.kind = 5) ∧ (mdo m l o i).1.e = 0)) : (mdo m l o i).2.1.al P := by
 by_cases k4 : o.kind = 4
 ·have he : (mdo m l o i).1.e ≠ 0 := fun e => hn ⟨.inl k4, e⟩
  unfold mdo at he ⊢
  rw [if_pos k4] at he ⊢
  exact make_al h _ _ _ he
 by_cases k5 : o.kind = 5
 ·have he : (mdo m l o i).1.e ≠ 0 := fun e => hn ⟨.inr k5, e⟩
  unfold mdo at he ⊢
  rw [if_neg k4, if_pos k5] at he ⊢
  exact make_al h _ _ _ he
 have e : mdo m l o i = mdo m l o 1 := by
  unfold mdo
  rw [if_neg k4, if_neg k5, if_neg k4, if_neg k5]
 rw [e]
 exact mdo_al h l o h1
theorem D20.stepF {s : VS} {l : List Int} {m : MF} {fr : Int} {i : Nat} (d : D20 s l m (· < fr) i) (hi : i ≤ 200) (o : Op20) (h2 : 2 ≤ fr) (hf : fr ≤ 4294967290) :
  (sdo s l o fr).1.e = 21 ∨ ((sdo s l o fr).1 = (mdo m l o fr).1 ∧ (sdo s l o fr).2.2 = (mdo m l o fr).2.2 ∧ D20 (sdo s l o fr).2.1 (sdo s l o fr).2.2 (mdo m l o fr).2.1 (· < mfr m l o fr) (i + 1)) := by
 refine (d.step (Q := (· < fr + 1)) hi o (j := fr) (by unfold U32; omega) (by omega) (by omega) (fun k h => by omega) (by omega)).imp_right fun ⟨q1, q2, q3⟩ => ⟨q1, q2, ?_⟩
 refine ⟨q3.v, q3.r, q3.w, ?_, q3.l⟩
 unfold mfr
 by_cases hc : (o.kind = 4 ∨ o.kind = 5) ∧ (mdo m l o fr).1.e = 0
 ·rw [if_pos hc]; exact q3.p
 ·rw [if_neg hc]; exact mdo_al2 d.p (by show (1 : Int) < fr; omega) l o fr hc
theorem TVLe.trans {x y z : TV} (h : TVLe x y) (k : TVLe y z) : TVLe x z := fun w β G v q => k _ _ _ _ (h _ _ _ _ q)
theorem sl_ps {α : Type} {mk : α → AV} {x : AV} {l : List α} (h : Sl mk x l) : AVLe x (.ps (l.map mk)) := by
 cases h with
 | nils => exact nils_ps
 | ps => exact AVLe.refl _
theorem res_le {r : RS} {x n : AV} (hx : Bs x r.data) (hn : Sl AV.str n r.names) : TVLe (resT r x n) (resT r (.ps (bv r.data)) (.ps (r.names.map .str))) :=
 TVLe.trans (agg_rep (xs := [.p (.int .i64 r.e), .p (.int .i64 r.n), .p x, .p n, .p (.int .u8 r.st.1), .p (.int .u32 r.st.2.1), .p (.int .u32 r.st.2.2.1), .p (.int .u32 r.st.2.2.2)]) 2 rfl (bs_ps hx)) (agg_rep 3 rfl (sl_ps hn))
theorem bz_ext {a b : List UInt8} (hl : a.length = b.length) (h : ∀ k, bz a k = bz b k) : a = b :=
 List.ext_getElem hl fun k h1 h2 => by
  have := h k
  unfold bz at this
  simpa [List.getD_eq_getElem?_getD, List.getElem?_eq_getElem h1, List.getElem?_eq_getElem h2] using this
theorem wrB_two (d : List UInt8) (o k : Nat) (b : List UInt8) (hk : k ≤ b.length) : wrB (wrB d o (b.take k)) (o + k) (b.drop k) = wrB d o b := by
 have hk2 : (b.take k).length = k := by rw [List.length_take]; omega
 refine bz_ext (by rw [wrB_len, wrB_len, wrB_len, hk2, List.length_drop]; omega) fun j => ?_
 rw [wrB_bz, wrB_bz]
 unfold wrF
 rw [wrB_bz, List.length_drop]
 unfold wrF
 rw [hk2]
 by_cases h1 : o + k ≤ j ∧ j < o + k + (b.length - k)
 ·rw [if_pos h1, if_pos (by omega)]
  rw [List.getD_eq_getElem?_getD, List.getD_eq_getElem?_getD, List.getElem?_drop, show k + (j - (o + k)) = j - o by omega]
 ·rw [if_neg h1]
  by_cases h2 : o ≤ j ∧ j < o + k
  ·rw [if_pos h2, if_pos (by omega)]
   rw [List.getD_eq_getElem?_getD, List.getD_eq_getElem?_getD, List.getElem?_take_of_lt (by omega)]
  ·rw [if_neg h2, if_neg (by omega)]
theorem fwrite_chg {s : VS} {n : Nat} (h : VJ s n) {m : MF} {par : Int → Int} (R : Rel s.shown.row m par) {i : Int} (hi : U32 i) (o : Int) (b : List UInt8) : (s.fwrite i o b).1 = 21 ∨ (m.file i = none ∧ (s.fwrite i o b).2.shown.row = s.shown.row) ∨ ((m.file i).isSome = true ∧ Chg i s.shown.row (s.fwrite i o b).2.shown.row) := by
 unfold VS.fwrite
 rw [R.fload h hi]
 cases hx : m.file i with
 | none => exact .inr (.inl ⟨rfl, rfl⟩)
 | some x =>
  obtain ⟨hx1, hk⟩ := file_at hx
  obtain ⟨hb, hf, hp, _, _⟩ := R.bl hx1 hk
  simp only [Option.map]
  by_cases h1 : o < 0 ∨ (b.length : Int) > 1024
  ·rw [if_pos h1]; exact .inr (.inr ⟨rfl, Chg.refl h.rs⟩)
  rw [if_neg h1]
  by_cases h2 : o > 4096 ∨ (b.length : Int) > 4096 - o
  ·rw [if_pos h2]; exact .inr (.inr ⟨rfl, Chg.refl h.rs⟩)
  rw [if_neg h2]
  by_cases h3 : b.length = 0
  ·rw [if_pos h3]; exact .inr (.inr ⟨rfl, Chg.refl h.rs⟩)
  rw [if_neg h3]
  dsimp only
  have hv1 := h.rd (keyH 73 i)
  by_cases hfull : fullB (wrL i (pcsN b.length o.toNat b.length) ((s.rd (keyH 73 i)).save i (sizeN (x.k, x.n, (x.b.length : Int), par i) (max (x.b.length : Int) (o + b.length)))) b ((s.rd (keyH 73 i)).room (keyH 73 i))).1 = 21
  ·exact .inl hfull
  obtain ⟨h4, h5⟩ := fullB_0 hfull
  right
  right
  have hv2 := hv1.fsave i (sizeN (x.k, x.n, (x.b.length : Int), par i) (max (x.b.length : Int) (o + b.length)))
  have hroom : (s.rd (keyH 73 i)).room (keyH 73 i) = true := by
   cases hr : (s.rd (keyH 73 i)).room (keyH 73 i) with
   | true => rfl
   | false =>
    rw [hr] at h4
    have hF : ∀ (l : List (Nat × Nat × Nat)) (s : VS) (b : List UInt8), (wrL i l s b false).1 = false := fun l => by
     induction l with
     | nil => intros; rfl
     | cons x r ih => intro s b; unfold wrL; rw [Bool.and_false]; exact ih _ _
    rw [hF] at h4; cases h4
  obtain ⟨c1, c2, c3⟩ := fsave_sim hv1 hi (sizeN (x.k, x.n, (x.b.length : Int), par i) (max (x.b.length : Int) (o + b.length))) hroom (show BF (s.rd (keyH 73 i)).shown.row i (bz x.b) from hf)
  obtain ⟨_, d1, d2, d3⟩ := wrL_sim hi b.length o.toNat b _ (Nat.le_refl _) (by omega) (by omega) hv2 c2 h4
  exact ⟨rfl, Chg.trans c1 d1⟩
theorem fwrite_root {s : VS} {n : Nat} (h : VJ s n) {m : MF} {par : Int → Int} (R : Rel s.shown.row m par) {i : Int} (hi : U32 i) (o : Int) (b : List UInt8) (he : (s.fwrite i o b).1 ≠ 21) : lget (keyH 73 1) (s.fwrite i o b).2.shown.row = lget (keyH 73 1) s.shown.row := by
 rcases fwrite_chg h R hi o b with q | ⟨_, q⟩ | ⟨q1, q⟩
 ·exact absurd q he
 ·rw [q]
 ·have h1 : i ≠ 1 := by
   rintro rfl
   obtain ⟨x, hx⟩ := Option.isSome_iff_exists.1 q1
   obtain ⟨hx1, hk⟩ := file_at hx
   obtain ⟨y, hy, hk2⟩ := R.root
   rw [hx1] at hy
   obtain rfl := Option.some.inj hy
   rw [hk] at hk2
   cases hk2
  have := q.oth 73 1 [] (by unfold L8; decide) (by decide) (fun z => h1 z.2.symm) (fun z => absurd z.1 (by decide))
  rwa [List.append_nil] at this
theorem file_with1 {m : MF} {i : Int} {x : MN} (hx : m.file i = some x) (b : List UInt8) : (m.with { x with b := b }).file i = some { x with b := b } := by
 obtain ⟨h1, h2⟩ := file_at hx
 have hi := (at_mem h1).2
 unfold MF.file
 rw [at_with, if_pos hi.symm]
 dsimp only
 rw [if_pos h2]
theorem fwrite_two (m : MF) (i : Int) (o k : Nat) (b : List UInt8) (hk : k ≤ b.length) (hb : b.length ≤ 1024) (ho : o + b.length ≤ 4096) :
  (m.fwrite i o (b.take k)).1 = (m.fwrite i o b).1 ∧ ((m.fwrite i o (b.take k)).2.fwrite i (o + k : Nat) (b.drop k)).1 = (m.fwrite i o b).1 ∧ ((m.fwrite i o b).1 = 0 ∨ (m.fwrite i o b).1 = 16) ∧ ((m.fwrite i o (b.take k)).2.fwrite i (o + k : Nat) (b.drop k)).2.at = (m.fwrite i o b).2.at := by
 have hk2 : (b.take k).length = k := by rw [List.length_take]; omega
 have hk3 : (b.drop k).length = b.length - k := List.length_drop
 cases hx : m.file i with
 | none =>
  have e : ∀ o b, m.fwrite i o b = (16, m) := fun o b => by unfold MF.fwrite; rw [hx]
  rw [e, e]
  dsimp only
  rw [e]
  exact ⟨rfl, rfl, .inr rfl, rfl⟩
 | some x =>
  have e : ∀ {m' : MF} {x' : MN} (_ : m'.file i = some x') (o : Nat) (b : List UInt8), b.length ≤ 1024 → o + b.length ≤ 4096 → m'.fwrite i (o : Int) b = if b.length = 0 then (0, m') else (0, m'.with { x' with b := wrB x'.b o b }) := fun {m'} {x'} h o b h1 h2 => by
   unfold MF.fwrite
   rw [h]
   dsimp only
   rw [if_neg (by omega), if_neg (by omega), Int.toNat_natCast]
  rw [e hx o b hb ho, e hx o (b.take k) (by omega) (by omega)]
  by_cases k0 : k = 0
  ·subst k0
   rw [if_pos (by rw [hk2]), List.drop_zero]
   dsimp only
   rw [Nat.add_zero, e hx o b hb ho]
   split
   ·exact ⟨rfl, rfl, .inl rfl, rfl⟩
   ·exact ⟨rfl, rfl, .inl rfl, rfl⟩
  rw [if_neg (show ¬ (b.take k).length = 0 by omega), if_neg (show ¬ b.length = 0 by omega)]
  dsimp only
  rw [e (file_with1 hx _) (o + k) (b.drop k) (by omega) (by omega)]
  by_cases k1 : k = b.length
  ·rw [if_pos (by omega), k1, List.take_length]
   exact ⟨rfl, rfl, .inl rfl, rfl⟩
  ·rw [if_neg (by omega)]
   dsimp only
   rw [wrB_two _ _ _ _ hk]
   refine ⟨rfl, rfl, .inl rfl, ?_⟩
   funext j
   rw [at_with, at_with, at_with]
   by_cases hj : j = x.i
   ·rw [if_pos hj, if_pos hj]
   ·rw [if_neg hj, if_neg hj, if_neg hj]
theorem parts_row {s : VS} {n : Nat} (h : VJ s n) {m : MF} {par : Int → Int} (R : Rel s.shown.row m par) {i : Int} (hi : U32 i) (o k : Nat) (b : List UInt8) (hk : k ≤ b.length) (hb : b.length ≤ 1024) (ho : o + b.length ≤ 4096)
  (h0 : (s.fwrite i o b).1 ≠ 21) (h1 : (s.fwrite i o (b.take k)).1 ≠ 21) (h2 : ((s.fwrite i o (b.take k)).2.fwrite i (o + k : Nat) (b.drop k)).1 ≠ 21) :
  (s.fwrite i o (b.take k)).1 = (s.fwrite i o b).1 ∧ ((s.fwrite i o (b.take k)).2.fwrite i (o + k : Nat) (b.drop k)).1 = (s.fwrite i o b).1 ∧ ((s.fwrite i o b).1 = 0 ∨ (s.fwrite i o b).1 = 16) ∧ ((s.fwrite i o (b.take k)).2.fwrite i (o + k : Nat) (b.drop k)).2.shown.row = (s.fwrite i o b).2.shown.row := by
 obtain ⟨a1, a2⟩ := (fwrite_sim h R hi o b).resolve_left h0
 obtain ⟨b1, b2⟩ := (fwrite_sim h R hi o (b.take k)).resolve_left h1
 have hv1 := fwrite_ok h i o (b.take k)
 obtain ⟨c1, c2⟩ := (fwrite_sim hv1 b2 hi (o + k : Nat) (b.drop k)).resolve_left h2
 obtain ⟨f1, f2, f3, f4⟩ := fwrite_two m i o k b hk hb ho
 have g0 := fwrite_root h R hi o b h0
 have g1 := fwrite_root h R hi o (b.take k) h1
 have g2 := fwrite_root hv1 b2 hi (o + k : Nat) (b.drop k) h2
 refine ⟨by rw [b1, a1, f1], by rw [c1, a1, f2], by rw [a1]; exact f3, row_eq a2 c2 f4 ?_⟩
 rw [g2, g1, g0]
end Go.Proofs.YtdkegmmigongoaaGreatDoor

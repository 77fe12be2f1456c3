import Derived.Test.YtdkegmmigongoaaGreatDoorGo
import Derived.Test.YtdkegmmigongoaaGreatDoorM30
import Derived.Test.YtdkegmmigongoaaGreatDoorM22
import Derived.Test.YtdkegmmigongoaaGreatDoorM13
import Derived.Test.YtdkegmmigongoaaGreatDoorM15
import Derived.Test.YtdkegmmigongoaaGreatDoorM23
import Derived.Test.YtdkegmmigongoaaGreatDoorM14
import Derived.Test.YtdkegmmigongoaaGreatDoorM24
import Derived.Test.YtdkegmmigongoaaGreatDoorM20
import Derived.Test.YtdkegmmigongoaaGreatDoorM7
namespace Go.Proofs.YtdkegmmigongoaaGreatDoor
set_option maxRecDepth 20000
open Go.Awp Tr
theorem range_all {s : VS} {n : Nat} (h : VJ s n) (hn : n ≤ 900000) {m : MF} {par : Int → Int} (R : Rel s.shown.row m par) : Con Tryz.prog 20 [vP, .p (.str []), .p (.str [255])] (vH s) (.p (.ps (kvs s.shown.row))) (vH (s.range [] [255])) [] := by
 have c := (vrange_spec s [] [255] (by have := h.zs; unfold big40; omega) (by have := h.zg; unfold big40; omega)).toPs (.inl rfl)
 rw [(based_row h R.ff).1] at c
 exact c
structure ZrI (n : Nat) where
 k : Nat
 h : k ≤ n
structure FOp where
 kind : Int
 ino : Int
 from_ : Int
 n : Int
 a : AV
 b : List UInt8
structure FOp.ok (o : FOp) : Prop where
 bs : Bs o.a o.b
 u : U32 o.ino
 f : -9223372036854775808 ≤ o.from_ ∧ o.from_ ≤ 9223372036854775807
 n : -9223372036854775808 ≤ o.n ∧ o.n ≤ 9223372036854775807
 l : o.b.length ≤ 140737488351232
def do19 (s : VS) (m : MF) (o : FOp) : (Int × VS) × (Int × MF) :=
 if o.kind = 1 then (s.fwrite o.ino o.from_ o.b, m.fwrite o.ino o.from_ o.b) else if o.kind = 2 then (s.ftrunc o.ino o.n, m.ftrunc o.ino o.n) else ((0, s), (0, m))
def doT19 (s : VS) (m : MF) (o : FOp) : (Bool × MF × Bool) × VS :=
 if o.kind = 0 then ((decide ((s.fread o.ino o.from_ o.n).1.1 = (m.fread o.ino o.from_ o.n).1) && decide ((s.fread o.ino o.from_ o.n).1.2 = (m.fread o.ino o.from_ o.n).2), m, false), (s.fread o.ino o.from_ o.n).2)
 else if (do19 s m o).1.1 = 21 then ((true, m, true), (do19 s m o).1.2) else ((decide ((do19 s m o).1.1 = (do19 s m o).2.1), (do19 s m o).2.2, false), (do19 s m o).1.2)
theorem D18.of {s s' : VS} {m m' : MF} {i : Nat} (h : D18 s m i) (hi : i ≤ 100) (k : Int) (p : List UInt8) (j : Int) (hj : j = 2 + i) (hf : (doT s m k p [] j).1.2.2 = false) (hs : (doT s m k p [] j).2 = s') (hm : (doT s m k p [] j).1.2.1 = m') : D18 s' m' (i + 1) := by
 rcases h.step hi k p [] j hj with q | ⟨_, _, q⟩
 ·rw [hf] at q; cases q
 ·rwa [hs, hm] at q
theorem bs_ps {a : AV} {l : List UInt8} (h : Bs a l) : AVLe a (.ps (bv l)) := by
 cases h with
 | ps => exact AVLe.refl _
 | nils => exact nils_ps
 | cz => exact cz_ps
def cuF : List FOp → Nat → Nat → Nat
 | [], i, _ => i
 | o :: r, i, n => if 60 ≤ i ∨ 20000 < n + min o.b.length 9000 then i else cuF r (i + 1) (n + min o.b.length 9000)
structure CuI (l : List FOp) where
 i : Nat
 n : Nat
 h : i ≤ l.length
 hn : n ≤ 9000 * i
 h6 : i ≤ 60
 e : cuF (l.drop i) i n = cuF l 0 0
structure D19 (s : VS) (m : MF) (i : Nat) : Prop where
 v : VJ s (600 + 150 * i)
 r : ∃ par, Rel s.shown.row m par
 w : m.wk 30
 f : ∀ j, j = 3 ∨ j = 4 → ∃ x, m.file j = some x
 d : m.file 2 = none
theorem D19.u {s : VS} {m : MF} {i : Nat} (h : D19 s m i) : m.length ≤ 100000 ∧ ∀ x ∈ m, x.b.length ≤ 4096 := by
 obtain ⟨par, R⟩ := h.r
 refine ⟨by have := h.w.l; omega, fun x hx => ?_⟩
 have hat := R.fst x hx
 rcases R.kin _ _ hat with q | q
 ·rw [q.2]; exact Nat.zero_le _
 ·exact (R.bl hat q.1).1
theorem file_with {m : MF} {i : Int} {x : MN} (hx : m.file i = some x) (b : List UInt8) (j : Int) : (m.with { x with b := b }).file j = if j = i then some { x with b := b } else m.file j := by
 obtain ⟨h1, h2⟩ := file_at hx
 have hi := (at_mem h1).2
 unfold MF.file
 rw [at_with]
 dsimp only
 rw [hi]
 by_cases e : j = i
 ·rw [if_pos e, if_pos e]; exact if_pos h2
 ·rw [if_neg e, if_neg e]
structure KpF (m m' : MF) : Prop where
 w : ∀ c, m.wk c → m'.wk c
 f : ∀ j, (∃ x, m.file j = some x) → ∃ x, m'.file j = some x
 n : ∀ j, m.file j = none → m'.file j = none
theorem KpF.refl (m : MF) : KpF m m := ⟨fun _ h => h, fun _ h => h, fun _ h => h⟩
theorem KpF.data {m : MF} {i : Int} {x : MN} (hx : m.file i = some x) (b : List UInt8) : KpF m (m.with { x with b := b }) :=
 ⟨fun c h => wk_data h (file_at hx).1 b, fun j ⟨y, hy⟩ => by
  rw [file_with hx]
  split
  ·exact ⟨_, rfl⟩
  ·exact ⟨y, hy⟩, fun j hj => by
  rw [file_with hx, if_neg]
  ·exact hj
  ·rintro rfl; rw [hx] at hj; cases hj⟩
theorem fwrite_kp (m : MF) (i o : Int) (b : List UInt8) : KpF m (m.fwrite i o b).2 := by
 unfold MF.fwrite
 cases hx : m.file i with
 | none => exact KpF.refl m
 | some x =>
  dsimp only
  split
  ·exact KpF.refl m
  split
  ·exact KpF.refl m
  split
  ·exact KpF.refl m
  ·exact KpF.data hx _
theorem ftrunc_kp (m : MF) (i z : Int) : KpF m (m.ftrunc i z).2 := by
 unfold MF.ftrunc
 cases hx : m.file i with
 | none => exact KpF.refl m
 | some x =>
  dsimp only
  split
  ·exact KpF.refl m
  split
  ·exact KpF.refl m
  ·exact KpF.data hx _
theorem D19.step {s : VS} {m : MF} {i : Nat} (h : D19 s m i) (o : FOp) (ho : o.ok) :
  (doT19 s m o).1.2.2 = true ∨ ((doT19 s m o).1.1 = true ∧ (doT19 s m o).1.2.2 = false ∧ D19 (doT19 s m o).2 (doT19 s m o).1.2.1 (i + 1)) := by
 obtain ⟨par, R⟩ := h.r
 unfold doT19
 by_cases h0 : o.kind = 0
 ·rw [if_pos h0]
  obtain ⟨e1, e2⟩ := fread_sim h.v R ho.u o.from_ o.n
  refine .inr ⟨?_, rfl, ?_⟩
  ·dsimp only; rw [e1]; simp
  ·dsimp only
   rw [e2]
   exact ⟨(h.v.rd _).mono (by omega), ⟨par, R⟩, h.w, h.f, h.d⟩
 rw [if_neg h0]
 have key : ∀ (q : Int × VS) (r : Int × MF), (q.1 = 21 ∨ (q.1 = r.1 ∧ Rel q.2.shown.row r.2 par)) → VJ q.2 (600 + 150 * i + 100) → KpF m r.2 →
   (if q.1 = 21 then ((true, m, true), q.2) else ((decide (q.1 = r.1), r.2, false), q.2)).1.2.2 = true ∨ ((if q.1 = 21 then ((true, m, true), q.2) else ((decide (q.1 = r.1), r.2, false), q.2)).1.1 = true ∧ (if q.1 = 21 then ((true, m, true), q.2) else ((decide (q.1 = r.1), r.2, false), q.2)).1.2.2 = false ∧ D19 (if q.1 = 21 then ((true, m, true), q.2) else ((decide (q.1 = r.1), r.2, false), q.2)).2 (if q.1 = 21 then ((true, m, true), q.2) else ((decide (q.1 = r.1), r.2, false), q.2)).1.2.1 (i + 1)) := by
  intro q r h1 h2 h3
  by_cases e : q.1 = 21
  ·rw [if_pos e]; exact .inl rfl
  ·rw [if_neg e]
   obtain ⟨h5, h6⟩ := h1.resolve_left e
   exact .inr ⟨decide_eq_true h5, rfl, h2.mono (by omega), ⟨par, h6⟩, h3.w _ h.w, fun j hj => h3.f j (h.f j hj), h3.n _ h.d⟩
 by_cases h1 : o.kind = 1
 ·have e : do19 s m o = (s.fwrite o.ino o.from_ o.b, m.fwrite o.ino o.from_ o.b) := by unfold do19; rw [if_pos h1]
  rw [e]
  exact key _ _ (fwrite_sim h.v R ho.u o.from_ o.b) ((fwrite_ok h.v o.ino o.from_ o.b).mono (by omega)) (fwrite_kp m _ _ _)
 by_cases h2 : o.kind = 2
 ·have e : do19 s m o = (s.ftrunc o.ino o.n, m.ftrunc o.ino o.n) := by unfold do19; rw [if_neg h1, if_pos h2]
  rw [e]
  exact key _ _ (ftrunc_sim h.v R ho.u o.n) ((ftrunc_ok h.v o.ino o.n).mono (by omega)) (ftrunc_kp m _ _)
 have e : do19 s m o = ((0, s), (0, m)) := by unfold do19; rw [if_neg h1, if_neg h2]
 rw [e]
 exact key (0, s) (0, m) (.inr ⟨rfl, R⟩) (h.v.mono (by omega)) (KpF.refl m)
end Go.Proofs.YtdkegmmigongoaaGreatDoor

import Derived.Test.YtdkegmmigongoaaGreatDoorGo
import Derived.Test.YtdkegmmigongoaaGreatDoorM30
import Derived.Test.YtdkegmmigongoaaGreatDoorM29
import Derived.Test.YtdkegmmigongoaaGreatDoorM27
namespace Go.Proofs.YtdkegmmigongoaaGreatDoor
set_option maxRecDepth 20000
open Go.Awp Tr
def openL : List Int → Nat → List Int
 | [], _ => []
 | x :: r, i => if x = 0 then openL r (i + 1) else (i : Int) :: openL r (i + 1)
structure OpI (l : List Int) where
 i : Nat
 h : i ≤ l.length
 acc : List Int
 hl : acc.length ≤ i
 e : acc ++ openL (l.drop i) i = openL l 0
theorem make_al {m : MF} {P : Int → Prop} (h : m.al P) (p : List UInt8) (k i : Int) (he : (m.make p k i).1 ≠ 0) : (m.make p k i).2.al P := by
 unfold MF.make at he ⊢
 split
 ·exact h
 split
 ·exact h
 rename_i h1 h2
 rw [if_neg h1, if_neg h2] at he
 exact absurd rfl he
theorem mdo_al2 {m : MF} {P : Int → Prop} (h : m.al P) (h1 : P 1) (l : List Int) (o : Op20) (i : Int) (hn : ¬ ((o.kind = 4 ∨ o.kind = 5) ∧ (mdo m l o i).1.e = 0)) : (mdo m l o i).2.1.al P := by
 by_cases k4 : o.kind = 4
 ·have he : (mdo m l o i).1.e ≠ 0 := fun e => hn ⟨.inl k4, e⟩
  unfold mdo at he ⊢
  rw [if_pos k4] at he ⊢
  exact make_al h _ _ _ he
 by_cases k5 : o.kind = 5
 ·have he : (mdo m l o i).1.e ≠ 0 := fun e => hn ⟨.inr k5, e⟩
  unfold mdo at he ⊢
  rw [if_neg k4, if_pos k5] at he ⊢
  exact make_al h _ _ _ he
 have e : mdo m l o i = mdo m l o 1 := by
  unfold mdo
  rw [if_neg k4, if_neg k5, if_neg k4, if_neg k5]
 rw [e]
 exact mdo_al h l o h1
theorem D20.stepF {s : VS} {l : List Int} {m : MF} {fr : Int} {i : Nat} (d : D20 s l m (· < fr) i) (hi : i ≤ 200) (o : Op20) (h2 : 2 ≤ fr) (hf : fr ≤ 4294967290) :
  (sdo s l o fr).1.e = 21 ∨ ((sdo s l o fr).1 = (mdo m l o fr).1 ∧ (sdo s l o fr).2.2 = (mdo m l o fr).2.2 ∧ D20 (sdo s l o fr).2.1 (sdo s l o fr).2.2 (mdo m l o fr).2.1 (· < mfr m l o fr) (i + 1)) := by
 refine (d.step (Q := (· < fr + 1)) hi o (j := fr) (by unfold U32; omega) (by omega) (by omega) (fun k h => by omega) (by omega)).imp_right fun ⟨q1, q2, q3⟩ => ⟨q1, q2, ?_⟩
 refine ⟨q3.v, q3.r, q3.w, ?_, q3.l⟩
 unfold mfr
 by_cases hc : (o.kind = 4 ∨ o.kind = 5) ∧ (mdo m l o fr).1.e = 0
 ·rw [if_pos hc]; exact q3.p
 ·rw [if_neg hc]; exact mdo_al2 d.p (by show (1 : Int) < fr; omega) l o fr hc
theorem mdo_names {m : MF} {c : Nat} (h : m.wk c) (l : List Int) (o : Op20) (i : Int) : (mdo m l o i).1.names.length ≤ c := by
 by_cases k15 : o.kind = 15
 ·unfold mdo
  rw [if_neg (show ¬ o.kind = 4 by omega), if_neg (show ¬ o.kind = 5 by omega), if_neg (show ¬ o.kind = 6 by omega), if_neg (show ¬ o.kind = 7 by omega), if_neg (show ¬ o.kind = 8 by omega), if_neg (show ¬ o.kind = 9 by omega), if_neg (show ¬ o.kind = 10 by omega), if_neg (show ¬ o.kind = 11 by omega), if_neg (show ¬ o.kind = 12 by omega), if_neg (show ¬ o.kind = 13 by omega), if_neg (show ¬ o.kind = 14 by omega), if_pos k15]
  show (m.list o.path).1.length ≤ c
  unfold MF.list
  split
  ·exact Nat.zero_le _
  split
  ·exact Nat.zero_le _
  split
  ·exact Nat.zero_le _
  ·rename_i n hn
   split
   ·exact Nat.zero_le _
   ·rw [List.length_map]; exact h.e n (at_mem hn).1
 ·have : (mdo m l o i).1.names = [] := by
   unfold mdo
   by_cases k4 : o.kind = 4
   ·rw [if_pos k4]
    repeat' split
    all_goals rfl
   rw [if_neg k4]
   by_cases k5 : o.kind = 5
   ·rw [if_pos k5]
    repeat' split
    all_goals rfl
   rw [if_neg k5]
   by_cases k6 : o.kind = 6
   ·rw [if_pos k6]
    repeat' split
    all_goals rfl
   rw [if_neg k6]
   by_cases k7 : o.kind = 7
   ·rw [if_pos k7]
    repeat' split
    all_goals rfl
   rw [if_neg k7]
   by_cases k8 : o.kind = 8
   ·rw [if_pos k8]
    repeat' split
    all_goals rfl
   rw [if_neg k8]
   by_cases k9 : o.kind = 9
   ·rw [if_pos k9]
    repeat' split
    all_goals rfl
   rw [if_neg k9]
   by_cases k10 : o.kind = 10
   ·rw [if_pos k10]
    repeat' split
    all_goals rfl
   rw [if_neg k10]
   by_cases k11 : o.kind = 11
   ·rw [if_pos k11]
    repeat' split
    all_goals rfl
   rw [if_neg k11]
   by_cases k12 : o.kind = 12
   ·rw [if_pos k12]
    repeat' split
    all_goals rfl
   rw [if_neg k12]
   by_cases k13 : o.kind = 13
   ·rw [if_pos k13]
    repeat' split
    all_goals rfl
   rw [if_neg k13]
   by_cases k14 : o.kind = 14
   ·rw [if_pos k14]
    repeat' split
    all_goals rfl
   rw [if_neg k14]
   rw [if_neg k15]
   by_cases k16 : o.kind = 16
   ·rw [if_pos k16]
    repeat' split
    all_goals rfl
   rw [if_neg k16]
   rfl
  rw [this]
  exact Nat.zero_le _
theorem D20.asked {s : VS} {l : List Int} {m : MF} {P : Int → Prop} {i : Nat} (d : D20 s l m P i) (hi : i ≤ 200) (fr : Int) (hf : 0 ≤ fr ∧ fr ≤ 1000000) : R20 m l fr (6 * i + 2) := by
 obtain ⟨par, R⟩ := d.r
 refine ⟨R.spot d.w, by omega, fun x hx => (R.u _ _ (R.fst x hx)).1, ?_, fun x hx => ?_, fun p => ?_, d.l.1, hf⟩
 ·obtain ⟨x, h1, h2⟩ := R.root
  unfold MF.kind; rw [h1]; exact h2
 ·have hat := R.fst x hx
  rcases R.kin _ _ hat with q | q
  ·rw [q.2]; exact Nat.zero_le _
  ·exact Nat.le_trans (R.bl hat q.1).1 (by decide)
 ·obtain ⟨_, h2, _⟩ := lead_sim d.v R p
  obtain ⟨_, h4⟩ := lead_u s p
  rw [← h2]
  exact ⟨h4.1, h4.2.1, h4.2.2.1, by dsimp only; decide⟩
theorem TVLe.trans {x y z : TV} (h : TVLe x y) (k : TVLe y z) : TVLe x z := fun w β G v q => k _ _ _ _ (h _ _ _ _ q)
theorem sl_ps {α : Type} {mk : α → AV} {x : AV} {l : List α} (h : Sl mk x l) : AVLe x (.ps (l.map mk)) := by
 cases h with
 | nils => exact nils_ps
 | ps => exact AVLe.refl _
theorem res_le {r : RS} {x n : AV} (hx : Bs x r.data) (hn : Sl AV.str n r.names) : TVLe (resT r x n) (resT r (.ps (bv r.data)) (.ps (r.names.map .str))) :=
 TVLe.trans (agg_rep (xs := [.p (.int .i64 r.e), .p (.int .i64 r.n), .p x, .p n, .p (.int .u8 r.st.1), .p (.int .u32 r.st.2.1), .p (.int .u32 r.st.2.2.1), .p (.int .u32 r.st.2.2.2)]) 2 rfl (bs_ps hx)) (agg_rep 3 rfl (sl_ps hn))
section
variable (g : Int → Int)
def renE (e : List KV) : List KV := e.map fun y => (y.1, beB 4 (g (beV y.2)))
def renN (x : MN) : MN := ⟨g x.i, x.k, x.n, x.b, renE g x.e⟩
def renM (m : MF) : MF := m.map (renN g)
def renS (a : MS) : MS := ⟨g a.d, a.m, g a.i⟩
structure Ren : Prop where
 inj : ∀ a b, g a = g b → a = b
 u : ∀ a, U32 a → U32 (g a)
 h0 : g 0 = 0
 h1 : g 1 = 1
end
section
variable {g : Int → Int}
theorem Ren.iff (hg : Ren g) (a b : Int) : g a = g b ↔ a = b := ⟨hg.inj a b, fun h => by rw [h]⟩
theorem Ren.z (hg : Ren g) (a : Int) : g a = 0 ↔ a = 0 := by rw [← hg.iff a 0, hg.h0]
theorem Ren.o (hg : Ren g) (a : Int) : g a = 1 ↔ a = 1 := by rw [← hg.iff a 1, hg.h1]
theorem at_ren (hg : Ren g) (m : MF) (i : Int) : (renM g m).at (g i) = (m.at i).map (renN g) := by
 unfold MF.at renM
 induction m with
 | nil => rfl
 | cons x r ih =>
  rw [List.map_cons, List.find?_cons, List.find?_cons]
  by_cases h : x.i = i
  ·have e1 : ((renN g x).i == g i) = true := by show (g x.i == g i) = true; simp [h]
   have e2 : (x.i == i) = true := by simp [h]
   rw [e1, e2]; rfl
  ·have e1 : ((renN g x).i == g i) = false := by show (g x.i == g i) = false; simp [hg.iff, h]
   have e2 : (x.i == i) = false := by simp [h]
   rw [e1, e2]; exact ih
theorem with_ren (hg : Ren g) (m : MF) (x : MN) : (renM g m).with (renN g x) = renM g (m.with x) := by
 unfold MF.with
 have e : (renM g m).at (renN g x).i = (m.at x.i).map (renN g) := at_ren hg m x.i
 rw [e, Option.isSome_map]
 unfold renM
 rw [List.map_append, List.map_map, List.map_map]
 congr 1
 ·refine List.map_congr_left fun y _ => ?_
  show (if (renN g y).i = (renN g x).i then renN g x else renN g y) = renN g (if y.i = x.i then x else y)
  by_cases h : y.i = x.i
  ·rw [if_pos h]; exact if_pos (show g y.i = g x.i by rw [h])
  ·rw [if_neg h]; exact if_neg (fun q : g y.i = g x.i => h (hg.inj _ _ q))
 ·split <;> rfl
theorem without_ren (hg : Ren g) (m : MF) (i : Int) : (renM g m).without (g i) = renM g (m.without i) := by
 unfold MF.without renM
 rw [List.filter_map]
 congr 1
 refine List.filter_congr fun x _ => ?_
 show (!(g x.i == g i)) = (!(x.i == i))
 by_cases h : x.i = i
 ·simp [h]
 ·rw [show (g x.i == g i) = false by simpa using fun q => h (hg.inj _ _ q), show (x.i == i) = false by simpa using h]
theorem linked_ren (hg : Ren g) (m : MF) (i b : Int) : (renM g m).linked (g i) b = renM g (m.linked i b) := by
 unfold MF.linked
 rw [at_ren hg]
 cases m.at i with
 | none => rfl
 | some x => exact with_ren hg m { x with n := x.n + b }
theorem lget_ren (e : List KV) (nm : List UInt8) : lget nm (renE g e) = (lget nm e).map fun v => beB 4 (g (beV v)) := by
 unfold renE
 induction e with
 | nil => rfl
 | cons x r ih =>
  rw [List.map_cons]
  unfold lget
  by_cases h : x.1 = nm
  ·rw [if_pos h, if_pos h]; rfl
  ·rw [if_neg h, if_neg h]; exact ih
theorem lset_ren (e : List KV) (nm v : List UInt8) : lset nm (beB 4 (g (beV v))) (renE g e) = renE g (lset nm v e) := by
 unfold renE
 induction e with
 | nil => rfl
 | cons x r ih =>
  rw [List.map_cons]
  unfold lset
  by_cases h : lt nm x.1
  ·rw [if_pos h, if_pos h]; rfl
  ·rw [if_neg h, if_neg h]
   by_cases h2 : nm = x.1
   ·rw [if_pos h2, if_pos h2]; rfl
   ·rw [if_neg h2, if_neg h2, ih]; rfl
theorem lcut_ren (e : List KV) (nm : List UInt8) : lcut nm (renE g e) = renE g (lcut nm e) := by
 unfold lcut renE
 rw [List.filter_map]
 rfl
theorem nmE_ren (hg : Ren g) (e : List KV) (nm : List UInt8) {i : Int} (hi : U32 i) : nmE (renE g e) nm (g i) = renE g (nmE e nm i) := by
 unfold nmE
 by_cases h : i = 0
 ·rw [if_pos h, if_pos ((hg.z i).2 h)]; exact lcut_ren e nm
 ·rw [if_neg h, if_neg (fun q => h ((hg.z i).1 q)), ← lset_ren, beV_be4 i hi]
theorem named_ren (hg : Ren g) (m : MF) (d : Int) (nm : List UInt8) {i : Int} (hi : U32 i) : (renM g m).named (g d) nm (g i) = renM g (m.named d nm i) := by
 unfold MF.named
 rw [at_ren hg]
 cases m.at d with
 | none => rfl
 | some x =>
  show (renM g m).with { renN g x with e := nmE (renE g x.e) nm (g i) } = _
  rw [nmE_ren hg _ _ hi]
  exact with_ren hg m { x with e := nmE x.e nm i }
def MF.eu (m : MF) : Prop := ∀ x ∈ m, ∀ y ∈ x.e, U32 (beV y.2)
theorem entry_ren (hg : Ren g) {x : MN} (hx : ∀ y ∈ x.e, U32 (beV y.2)) (nm : List UInt8) : (renN g x).entry nm = g (x.entry nm) ∧ U32 (x.entry nm) := by
 unfold MN.entry
 rw [show (renN g x).e = renE g x.e from rfl, lget_ren]
 cases h : lget nm x.e with
 | none => exact ⟨hg.h0.symm, by show U32 0; decide⟩
 | some v =>
  have hv := hx _ (lget_mem h)
  exact ⟨beV_be4 _ (hg.u _ hv), hv⟩
theorem go_ren (hg : Ren g) {m : MF} (he : m.eu) : ∀ (l : List (List UInt8)) (a : MS), U32 a.d → U32 a.i → (renM g m).go l (renS g a) = (renS g (m.go l a).1, (m.go l a).2) ∧ U32 (m.go l a).1.d ∧ U32 (m.go l a).1.i
 | [], a, h1, h2 => ⟨rfl, h1, h2⟩
 | x :: r, a, h1, h2 => by
  have hm0 : renS g ms0 = ms0 := by unfold renS ms0; rw [hg.h0]
  have hu0 : U32 ms0.d ∧ U32 ms0.i := by unfold ms0; decide
  unfold MF.go
  rw [show (renS g a).i = g a.i from rfl, at_ren hg]
  by_cases h : a.i = 0
  ·rw [if_pos h, if_pos ((hg.z _).2 h)]
   exact ⟨by rw [hm0], hu0⟩
  rw [if_neg h, if_neg (fun q => h ((hg.z _).1 q))]
  cases hx : m.at a.i with
  | none => exact ⟨by dsimp only [Option.map]; rw [hm0], hu0⟩
  | some n =>
   dsimp only [Option.map]
   rw [show (renN g n).k = n.k from rfl]
   by_cases hk : n.k ≠ 2
   ·rw [if_pos hk, if_pos hk]
    exact ⟨by rw [hm0], hu0⟩
   rw [if_neg hk, if_neg hk]
   obtain ⟨e1, e2⟩ := entry_ren hg (he n (at_mem hx).1) x
   rw [e1]
   exact go_ren hg he r ⟨a.i, x, n.entry x⟩ h2 e2
theorem findP_ren (hg : Ren g) {m : MF} (he : m.eu) (p : List UInt8) : (renM g m).findP p = (renS g (m.findP p).1, (m.findP p).2) ∧ U32 (m.findP p).1.d ∧ U32 (m.findP p).1.i := by
 unfold MF.findP
 by_cases h : (splitN p).2 ≠ 0
 ·rw [if_pos h, if_pos h]
  exact ⟨by unfold renS ms0; rw [hg.h0], (by show U32 0; decide), (by show U32 0; decide)⟩
 ·rw [if_neg h, if_neg h]
  have := go_ren hg he (namesP p) ⟨0, [], 1⟩ (by decide) (by decide)
  unfold renS at this
  rw [hg.h0, hg.h1] at this
  exact this
theorem kind_ren (hg : Ren g) (m : MF) (i : Int) : (renM g m).kind (g i) = m.kind i := by
 unfold MF.kind
 rw [at_ren hg]
 cases m.at i <;> rfl
theorem moved_ren (hg : Ren g) (m : MF) (s t : MS) (hs : U32 s.i) (b : Bool) : (renM g m).moved (renS g s) (renS g t) b = renM g (m.moved s t b) := by
 unfold MF.moved renS
 dsimp only
 have e0 := named_ren hg m s.d s.m (i := 0) (by decide)
 rw [hg.h0] at e0
 rw [e0, named_ren hg _ _ _ hs, linked_ren hg, linked_ren hg]
 split <;> rfl
theorem rmv_ren (hg : Ren g) (m : MF) (s : MS) : (renM g m).rmv (renS g s) = ((m.rmv s).1, renM g (m.rmv s).2) := by
 unfold MF.rmv
 rw [show (renS g s).i = g s.i from rfl, show (renS g s).d = g s.d from rfl, show (renS g s).m = s.m from rfl, at_ren hg]
 cases m.at s.i with
 | none => rfl
 | some n =>
  dsimp only [Option.map]
  rw [show (renN g n).k = n.k from rfl, show (renN g n).e.length = n.e.length from List.length_map _]
  split
  ·rfl
  split
  ·rfl
  have e0 := named_ren hg ((m.without s.i).linked s.d (-1)) s.d s.m (i := 0) (by decide)
  rw [hg.h0] at e0
  rw [without_ren hg, linked_ren hg, e0]
theorem unl_ren (hg : Ren g) (m : MF) (s : MS) : (renM g m).unl (renS g s) = ((m.unl s).1, renM g (m.unl s).2) := by
 unfold MF.unl
 rw [show (renS g s).i = g s.i from rfl, show (renS g s).d = g s.d from rfl, show (renS g s).m = s.m from rfl, at_ren hg]
 cases m.at s.i with
 | none => rfl
 | some n =>
  dsimp only [Option.map]
  rw [show (renN g n).k = n.k from rfl, show (renN g n).n = n.n from rfl]
  have e0 := fun m => named_ren hg m s.d s.m (i := 0) (by decide)
  simp only [hg.h0] at e0
  split
  ·rfl
  ·by_cases h1 : n.n = 1
   ·rw [if_pos h1, if_pos h1, without_ren hg, e0]
   ·rw [if_neg h1, if_neg h1, linked_ren hg, e0]
theorem remove_ren (hg : Ren g) {m : MF} (he : m.eu) (p : List UInt8) : (renM g m).remove p = ((m.remove p).1, renM g (m.remove p).2) := by
 unfold MF.remove
 obtain ⟨e, _, _⟩ := findP_ren hg he p
 rw [e]
 dsimp only
 rw [show (renS g (m.findP p).1).i = g (m.findP p).1.i from rfl]
 simp only [hg.z, hg.o]
 repeat' split
 ·rfl
 ·rfl
 ·rfl
 ·exact rmv_ren hg m _
theorem unlink_ren (hg : Ren g) {m : MF} (he : m.eu) (p : List UInt8) : (renM g m).unlink p = ((m.unlink p).1, renM g (m.unlink p).2) := by
 unfold MF.unlink
 obtain ⟨e, _, _⟩ := findP_ren hg he p
 rw [e]
 dsimp only
 rw [show (renS g (m.findP p).1).i = g (m.findP p).1.i from rfl]
 simp only [hg.z]
 repeat' split
 ·rfl
 ·rfl
 ·exact unl_ren hg m _
theorem link_ren (hg : Ren g) {m : MF} (he : m.eu) (o p : List UInt8) : (renM g m).link o p = ((m.link o p).1, renM g (m.link o p).2) := by
 unfold MF.link
 obtain ⟨e1, _, u1⟩ := findP_ren hg he o
 obtain ⟨e2, _, _⟩ := findP_ren hg he p
 rw [e1, e2]
 dsimp only
 rw [show (renS g (m.findP o).1).i = g (m.findP o).1.i from rfl, show (renS g (m.findP p).1).i = g (m.findP p).1.i from rfl, show (renS g (m.findP p).1).d = g (m.findP p).1.d from rfl, show (renS g (m.findP p).1).m = (m.findP p).1.m from rfl, at_ren hg]
 simp only [hg.z, ne_eq]
 by_cases h1 : ¬ (m.findP o).2 = 0
 ·rw [if_pos h1, if_pos h1]
 rw [if_neg h1, if_neg h1]
 by_cases h2 : (m.findP o).1.i = 0
 ·rw [if_pos h2, if_pos h2]
 rw [if_neg h2, if_neg h2]
 cases m.at (m.findP o).1.i with
 | none => rfl
 | some n =>
  dsimp only [Option.map]
  rw [show (renN g n).k = n.k from rfl, show (renN g n).n = n.n from rfl]
  repeat' split
  ·rfl
  ·rfl
  ·rfl
  ·rfl
  ·rw [linked_ren hg, named_ren hg _ _ _ u1]
theorem rename_ren (hg : Ren g) {m : MF} (he : m.eu) (o p : List UInt8) : (renM g m).rename o p = ((m.rename o p).1, renM g (m.rename o p).2) := by
 unfold MF.rename
 obtain ⟨e1, _, u1⟩ := findP_ren hg he o
 obtain ⟨e2, _, _⟩ := findP_ren hg he p
 rw [e1, e2]
 dsimp only
 rw [show (renS g (m.findP o).1).i = g (m.findP o).1.i from rfl, show (renS g (m.findP p).1).i = g (m.findP p).1.i from rfl]
 simp only [hg.z, hg.o, hg.iff, kind_ren hg, rmv_ren hg, unl_ren hg, moved_ren hg _ _ _ u1]
 by_cases h1 : (m.findP o).2 ≠ 0
 ·rw [if_pos h1, if_pos h1]
 rw [if_neg h1, if_neg h1]
 by_cases h2 : (m.findP o).1.i = 1
 ·rw [if_pos h2, if_pos h2]
 rw [if_neg h2, if_neg h2]
 by_cases h3 : (m.findP o).1.i = 0
 ·rw [if_pos h3, if_pos h3]
 rw [if_neg h3, if_neg h3]
 by_cases h4 : (m.findP p).2 ≠ 0
 ·rw [if_pos h4, if_pos h4]
 rw [if_neg h4, if_neg h4]
 by_cases h5 : (m.findP p).1.i = 1
 ·rw [if_pos h5, if_pos h5]
 rw [if_neg h5, if_neg h5]
 by_cases h6 : (m.findP p).1.i = (m.findP o).1.i
 ·rw [if_pos h6, if_pos h6]
 rw [if_neg h6, if_neg h6]
 by_cases h7 : (m.kind (m.findP o).1.i = 2 && underB (namesP o) (namesP p)) = true
 ·rw [if_pos h7, if_pos h7]
 rw [if_neg h7, if_neg h7]
 by_cases h8 : (m.findP p).1.i = 0
 ·rw [if_pos h8, if_pos h8]
 rw [if_neg h8, if_neg h8]
 by_cases h9 : m.kind (m.findP o).1.i = 2
 ·simp only [if_pos h9]
  split
  ·rfl
  ·rw [moved_ren hg _ _ _ u1]
 ·simp only [if_neg h9]
  split
  ·rfl
  ·rw [moved_ren hg _ _ _ u1]
theorem make_ren (hg : Ren g) {m : MF} (he : m.eu) (p : List UInt8) (k : Int) {i : Int} (hi : U32 i) : (renM g m).make p k (g i) = ((m.make p k i).1, renM g (m.make p k i).2) := by
 unfold MF.make
 obtain ⟨e, _, _⟩ := findP_ren hg he p
 rw [e]
 dsimp only
 rw [show (renS g (m.findP p).1).i = g (m.findP p).1.i from rfl, show (renS g (m.findP p).1).d = g (m.findP p).1.d from rfl, show (renS g (m.findP p).1).m = (m.findP p).1.m from rfl]
 simp only [hg.z, ne_eq]
 have w1 : (renM g m).with ⟨g i, 1, 1, [], []⟩ = renM g (m.with ⟨i, 1, 1, [], []⟩) := with_ren hg m ⟨i, 1, 1, [], []⟩
 have w2 : (renM g m).with ⟨g i, 2, 2, [], []⟩ = renM g (m.with ⟨i, 2, 2, [], []⟩) := with_ren hg m ⟨i, 2, 2, [], []⟩
 rw [w1, w2, linked_ren hg]
 split
 ·rfl
 split
 ·rfl
 split
 ·rw [named_ren hg _ _ _ hi]
 ·rw [named_ren hg _ _ _ hi]
theorem list_ren (hg : Ren g) {m : MF} (he : m.eu) (p : List UInt8) : (renM g m).list p = m.list p := by
 unfold MF.list
 obtain ⟨e, _, _⟩ := findP_ren hg he p
 rw [e]
 dsimp only
 rw [show (renS g (m.findP p).1).i = g (m.findP p).1.i from rfl, at_ren hg]
 simp only [hg.z]
 split
 ·rfl
 split
 ·rfl
 cases m.at (m.findP p).1.i with
 | none => rfl
 | some n =>
  dsimp only [Option.map]
  rw [show (renN g n).k = n.k from rfl, show (renN g n).e.map (·.1) = n.e.map (·.1) by show (renE g n.e).map _ = _; unfold renE; rw [List.map_map]; rfl]
theorem stat_ren (hg : Ren g) {m : MF} (he : m.eu) (p : List UInt8) : (renM g m).stat p = m.stat p := by
 unfold MF.stat
 obtain ⟨e, _, _⟩ := findP_ren hg he p
 rw [e]
 dsimp only
 rw [show (renS g (m.findP p).1).i = g (m.findP p).1.i from rfl, at_ren hg]
 simp only [hg.z]
 split
 ·rfl
 split
 ·rfl
 cases m.at (m.findP p).1.i <;> rfl
theorem file_ren (hg : Ren g) (m : MF) (i : Int) : (renM g m).file (g i) = (m.file i).map (renN g) := by
 unfold MF.file
 rw [at_ren hg]
 cases m.at i with
 | none => rfl
 | some x =>
  dsimp only [Option.map]
  rw [show (renN g x).k = x.k from rfl]
  split <;> rfl
theorem fread_ren (hg : Ren g) (m : MF) (i o n : Int) : (renM g m).fread (g i) o n = m.fread i o n := by
 unfold MF.fread
 rw [file_ren hg]
 cases m.file i <;> rfl
theorem fwrite_ren (hg : Ren g) (m : MF) (i o : Int) (b : List UInt8) : (renM g m).fwrite (g i) o b = ((m.fwrite i o b).1, renM g (m.fwrite i o b).2) := by
 unfold MF.fwrite
 rw [file_ren hg]
 cases m.file i with
 | none => rfl
 | some x =>
  dsimp only [Option.map]
  repeat' split
  ·rfl
  ·rfl
  ·rfl
  ·rw [show (renM g m).with { renN g x with b := wrB (renN g x).b o.toNat b } = renM g (m.with { x with b := wrB x.b o.toNat b }) from with_ren hg m { x with b := wrB x.b o.toNat b }]
theorem ftrunc_ren (hg : Ren g) (m : MF) (i z : Int) : (renM g m).ftrunc (g i) z = ((m.ftrunc i z).1, renM g (m.ftrunc i z).2) := by
 unfold MF.ftrunc
 rw [file_ren hg]
 cases m.file i with
 | none => rfl
 | some x =>
  dsimp only [Option.map]
  repeat' split
  ·rfl
  ·rfl
  ·rw [show (renM g m).with { renN g x with b := trB (renN g x).b z.toNat } = renM g (m.with { x with b := trB x.b z.toNat }) from with_ren hg m { x with b := trB x.b z.toNat }]
end
section
variable {g : Int → Int}
theorem held_ren (hg : Ren g) (l : List Int) (h : Int) : heldI (l.map g) h = g (heldI l h) := by
 unfold heldI
 split
 ·exact hg.h0.symm
 ·rw [List.getD_eq_getElem?_getD, List.getD_eq_getElem?_getD, List.getElem?_map]
  cases l[h.toNat]? with
  | none => exact hg.h0.symm
  | some x => rfl
theorem free_ren (hg : Ren g) : ∀ (l : List Int) (i : Nat), freeH (l.map g) i = freeH l i
 | [], _ => rfl
 | x :: r, i => by
  show (if g x = 0 then (i : Int) else freeH (r.map g) (i + 1)) = if x = 0 then (i : Int) else freeH r (i + 1)
  rw [free_ren hg r]
  simp only [hg.z]
theorem mdo_ren (hg : Ren g) {m : MF} (he : m.eu) (l : List Int) (o : Op20) {i : Int} (hi : U32 i) : mdo (renM g m) (l.map g) o (g i) = ((mdo m l o i).1, renM g (mdo m l o i).2.1, (mdo m l o i).2.2.map g) := by
 obtain ⟨e, _, _⟩ := findP_ren hg he o.path
 unfold mdo
 rw [held_ren hg, free_ren hg, make_ren hg he _ _ hi, make_ren hg he _ _ hi, e, fread_ren hg, fwrite_ren hg, ftrunc_ren hg, rename_ren hg he, link_ren hg he, unlink_ren hg he, remove_ren hg he, list_ren hg he, stat_ren hg he]
 dsimp only
 rw [show (renS g (m.findP o.path).1).i = g (m.findP o.path).1.i from rfl, kind_ren hg]
 simp only [hg.z]
 by_cases k4 : o.kind = 4
 ·simp only [if_pos k4]
  repeat' split
  all_goals first | rfl | (simp only [List.map_set]; done) | (simp only [List.map_set, hg.h0])
 rw [if_neg k4, if_neg k4]
 by_cases k5 : o.kind = 5
 ·simp only [if_pos k5]
  repeat' split
  all_goals first | rfl | (simp only [List.map_set]; done) | (simp only [List.map_set, hg.h0])
 rw [if_neg k5, if_neg k5]
 by_cases k6 : o.kind = 6
 ·simp only [if_pos k6]
  repeat' split
  all_goals first | rfl | (simp only [List.map_set]; done) | (simp only [List.map_set, hg.h0])
 rw [if_neg k6, if_neg k6]
 by_cases k7 : o.kind = 7
 ·simp only [if_pos k7]
  repeat' split
  all_goals first | rfl | (simp only [List.map_set]; done) | (simp only [List.map_set, hg.h0])
 rw [if_neg k7, if_neg k7]
 by_cases k8 : o.kind = 8
 ·simp only [if_pos k8]
  repeat' split
  all_goals first | rfl | (simp only [List.map_set]; done) | (simp only [List.map_set, hg.h0])
 rw [if_neg k8, if_neg k8]
 by_cases k9 : o.kind = 9
 ·simp only [if_pos k9]
  repeat' split
  all_goals first | rfl | (simp only [List.map_set]; done) | (simp only [List.map_set, hg.h0])
 rw [if_neg k9, if_neg k9]
 by_cases k10 : o.kind = 10
 ·simp only [if_pos k10]
  repeat' split
  all_goals first | rfl | (simp only [List.map_set]; done) | (simp only [List.map_set, hg.h0])
 rw [if_neg k10, if_neg k10]
 by_cases k11 : o.kind = 11
 ·simp only [if_pos k11]
  repeat' split
  all_goals first | rfl | (simp only [List.map_set]; done) | (simp only [List.map_set, hg.h0])
 rw [if_neg k11, if_neg k11]
 by_cases k12 : o.kind = 12
 ·simp only [if_pos k12]
  repeat' split
  all_goals first | rfl | (simp only [List.map_set]; done) | (simp only [List.map_set, hg.h0])
 rw [if_neg k12, if_neg k12]
 by_cases k13 : o.kind = 13
 ·simp only [if_pos k13]
  repeat' split
  all_goals first | rfl | (simp only [List.map_set]; done) | (simp only [List.map_set, hg.h0])
 rw [if_neg k13, if_neg k13]
 by_cases k14 : o.kind = 14
 ·simp only [if_pos k14]
  repeat' split
  all_goals first | rfl | (simp only [List.map_set]; done) | (simp only [List.map_set, hg.h0])
 rw [if_neg k14, if_neg k14]
 by_cases k15 : o.kind = 15
 ·simp only [if_pos k15]
  repeat' split
  all_goals first | rfl | (simp only [List.map_set]; done) | (simp only [List.map_set, hg.h0])
 rw [if_neg k15, if_neg k15]
 by_cases k16 : o.kind = 16
 ·simp only [if_pos k16]
  repeat' split
  all_goals first | rfl | (simp only [List.map_set]; done) | (simp only [List.map_set, hg.h0])
 rw [if_neg k16, if_neg k16]
def swp (a b x : Int) : Int := if x = a then b else if x = b then a else x
theorem swp_inj (a b x y : Int) (h : swp a b x = swp a b y) : x = y := by
 unfold swp at h
 split at h <;> split at h <;> (try split at h) <;> (try split at h) <;> omega
theorem ren_ex (t : Nat → Int) {N : Nat} (hN : N ≤ 1000) (ht : ∀ a b, a < N → b < N → t a = t b → a = b) (hu : ∀ a, a < N → U32 (t a) ∧ 2 ≤ t a) : ∀ n : Nat, n ≤ N → ∃ g, Ren g ∧ ∀ j : Nat, j < n → g (2 + j) = t j
 | 0, _ => ⟨id, ⟨fun _ _ h => h, fun _ h => h, rfl, rfl⟩, fun j hj => by omega⟩
 | n + 1, hn => by
  obtain ⟨g, hg, hj⟩ := ren_ex t hN ht hu n (by omega)
  have hun : U32 (2 + (n : Int)) := by unfold U32; omega
  refine ⟨fun x => swp (g (2 + n)) (t n) (g x), ⟨fun a b h => hg.inj _ _ (swp_inj _ _ _ _ h), fun a ha => ?_, ?_, ?_⟩, fun j hj' => ?_⟩
  ·unfold swp
   split
   ·exact (hu n (by omega)).1
   split
   ·exact hg.u _ hun
   ·exact hg.u _ ha
  ·show swp (g (2 + n)) (t n) (g 0) = 0
   unfold swp
   rw [if_neg (fun q => by have := hg.inj _ _ q; omega), if_neg (fun q => by rw [hg.h0] at q; have := (hu n (by omega)).2; omega), hg.h0]
  ·show swp (g (2 + n)) (t n) (g 1) = 1
   unfold swp
   rw [if_neg (fun q => by have := hg.inj _ _ q; omega), if_neg (fun q => by rw [hg.h1] at q; have := (hu n (by omega)).2; omega), hg.h1]
  ·show swp (g (2 + n)) (t n) (g (2 + j)) = t j
   unfold swp
   by_cases e : j = n
   ·subst e; rw [if_pos rfl]
   ·rw [if_neg (fun q => by have := hg.inj _ _ q; omega), hj j (by omega), if_neg (fun q => e (ht _ _ (by omega) (by omega) q))]
end
theorem newM_ren {g : Int → Int} (hg : Ren g) : renM g newM = newM := by
 unfold renM newM renN renE
 simp [hg.h1]
theorem D20.eu {s : VS} {l : List Int} {m : MF} {P : Int → Prop} {i : Nat} (d : D20 s l m P i) (hi : i ≤ 200) : m.eu := fun x hx y hy => by
 have a := d.asked hi 0 (by omega)
 obtain ⟨z, hz⟩ := a.ok.ent x hx y hy
 have h := at_mem hz
 rw [← h.2]
 exact a.u z h.1
namespace opsNumbers
def tn (b : Nat) (j : Nat) : Int := 2 + (b : Int) + 7 * (100 - (j : Int))
theorem tn_ex (b : Nat) (hb : b ≤ 65535) : ∃ g, Ren g ∧ ∀ j : Nat, j < 60 → g (2 + j) = tn b j :=
 ren_ex (tn b) (N := 60) (by decide) (fun x y _ _ h => by unfold tn at h; omega) (fun x hx => by unfold tn U32; omega) 60 (Nat.le_refl _)
abbrev P1 (i : Nat) (k : Int) : Prop := k < (2 + i : Nat)
abbrev P2 (b i : Nat) (k : Int) : Prop := k < 2 ∨ k > 2 + (b : Int) + 7 * (100 - (i : Int))
structure St (g : Int → Int) (b : Nat) (l : List POp) where
 i : Nat
 h : i ≤ l.length
 s : VS
 k : List Int
 m : MF
 f : Int
 t : VS
 f2 : Int
 d : D20 s k m (P1 i) i
 e : D20 t (k.map g) (renM g m) (P2 b i) i
theorem both {g : Int → Int} (hg : Ren g) {b i : Nat} (hb : b ≤ 65535) (hj : g (2 + i) = tn b i) (hi : i < 60) {s t : VS} {k : List Int} {m : MF} (d : D20 s k m (P1 i) i) (e : D20 t (k.map g) (renM g m) (P2 b i) i) (o : Op20) :
  (sdo s k o (2 + i : Nat)).1.e = 21 ∨ (sdo t (k.map g) o (tn b i)).1.e = 21 ∨ ((sdo t (k.map g) o (tn b i)).1 = (sdo s k o (2 + i : Nat)).1 ∧ (sdo s k o (2 + i : Nat)).1.names.length ≤ 6 * i + 2 ∧ ∃ m', D20 (sdo s k o (2 + i : Nat)).2.1 (sdo s k o (2 + i : Nat)).2.2 m' (P1 (i + 1)) (i + 1) ∧ D20 (sdo t (k.map g) o (tn b i)).2.1 (sdo t (k.map g) o (tn b i)).2.2 (renM g m') (P2 b (i + 1)) (i + 1) ∧ (sdo t (k.map g) o (tn b i)).2.2 = (sdo s k o (2 + i : Nat)).2.2.map g) := by
 have hu : U32 ((2 + i : Nat) : Int) := by unfold U32; omega
 have hR := mdo_ren hg (d.eu (by omega)) k o hu
 rw [show (((2 + i : Nat) : Int)) = 2 + (i : Int) by omega, hj] at hR
 rcases d.step (Q := P1 (i + 1)) (by omega) o (j := (2 + i : Nat)) hu (by omega) (by omega) (fun k h => by omega) (by omega) with h | ⟨a1, a2, a3⟩
 ·exact .inl h
 rcases e.step (Q := P2 b (i + 1)) (by omega) o (j := tn b i) (by unfold tn U32; omega) (by unfold tn; omega) (by unfold tn; omega) (fun k h => by omega) (by unfold tn; omega) with h | ⟨b1, b2, b3⟩
 ·exact .inr (.inl h)
 rw [show (((2 + i : Nat) : Int)) = 2 + (i : Int) by omega] at a1 a2 a3 ⊢
 rw [hR] at b1 b2 b3
 refine .inr (.inr ⟨by rw [b1, a1], by rw [a1]; exact mdo_names d.w k o _, _, a3, b3, by rw [b2, a2]⟩)
end opsNumbers
end Go.Proofs.YtdkegmmigongoaaGreatDoor

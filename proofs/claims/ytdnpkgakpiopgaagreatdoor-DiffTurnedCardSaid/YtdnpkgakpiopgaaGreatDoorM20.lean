import Derived.Test.YtdnpkgakpiopgaaGreatDoorGo
import Derived.Test.YtdnpkgakpiopgaaGreatDoorM19
import Derived.Test.YtdnpkgakpiopgaaGreatDoorM2
namespace Go.Proofs.YtdnpkgakpiopgaaGreatDoor
set_option maxRecDepth 20000
open Go.Awp Tr
theorem zVh {m : MF} {N : List (List UInt8)} {i : Int} (h : Reach m N i) : ∀ {j : Int}, Reach m N j → i = j := by
 induction h with
 | nil =>
  intro j h2
  generalize hN : ([] : List (List UInt8)) = M at h2
  cases h2 with
  | nil => rfl
  | snoc h hd hk hg hi => simp at hN
 | @snoc N d i xd x h hd hk hg hi ih =>
  intro j h2
  generalize hN : N ++ [x] = M at h2
  cases h2 with
  | nil => simp at hN
  | @snoc N2 d2 _ xd2 x2 h' hd' hk' hg' hi' =>
   obtain ⟨e1, e2⟩ := List.append_inj' hN rfl
   injection e2 with e2
   subst e1 e2
   obtain rfl := ih h'
   obtain rfl : xd = xd2 := Option.some.inj (hd.symm.trans hd')
   exact (qF hi hi').1 (Option.some.inj (hg.symm.trans hg'))
def Keep (m m' : MF) (P : Int → List UInt8 → Prop) : Prop := ∀ d x, m.at d = some x → x.k = 2 → ∃ x', m'.at d = some x' ∧ x'.k = 2 ∧ ∀ nm, ¬ P d nm → lget nm x'.e = lget nm x.e
theorem Keep.refl (m : MF) : Keep m m (fun _ _ => False) := fun _d x h k => ⟨x, h, k, fun _ _ => rfl⟩
theorem Keep.trans {m m' m'' : MF} {P Q : Int → List UInt8 → Prop} (h : Keep m m' P) (h2 : Keep m' m'' Q) : Keep m m'' (fun d nm => P d nm ∨ Q d nm) := fun d x hx hk => by
 obtain ⟨x', a1, a2, a3⟩ := h d x hx hk
 obtain ⟨x'', b1, b2, b3⟩ := h2 d x' a1 a2
 exact ⟨x'', b1, b2, fun nm q => (b3 nm fun e => q (.inr e)).trans (a3 nm fun e => q (.inl e))⟩
theorem Keep.linked (m : MF) (j b : Int) : Keep m (m.linked j b) (fun _ _ => False) := fun d x h k => by
 rw [jK]
 split
 ·rename_i e; subst e; rw [h]; exact ⟨_, rfl, k, fun _ _ => rfl⟩
 ·exact ⟨x, h, k, fun _ _ => rfl⟩
theorem nmE_ne {e : List KV} (h : Rises e) {nm m : List UInt8} (j : Int) (hne : nm ≠ m) : lget nm (nmE e m j) = lget nm e := by
 unfold nmE
 split
 ·rw [qI, if_neg hne]
 ·rw [yR h, if_neg hne]
theorem Keep.named {m : MF} {c : Nat} (hw : m.wk c) (d0 : Int) (n0 : List UInt8) (j : Int) : Keep m (m.named d0 n0 j) (fun d nm => d = d0 ∧ nm = n0) := fun d x h k => by
 rw [y6]
 split
 ·rename_i e; subst e; rw [h]
  exact ⟨_, rfl, k, fun nm q => nmE_ne (hw.r x (yY h).1) j fun e => q ⟨rfl, e⟩⟩
 ·exact ⟨x, h, k, fun _ _ => rfl⟩
theorem Keep.without {m : MF} {j : Int} (hj : m.kind j ≠ 2) : Keep m (m.without j) (fun _ _ => False) := fun d x h k => by
 rw [qD, if_neg]
 ·exact ⟨x, h, k, fun _ _ => rfl⟩
 ·intro e; subst e; unfold MF.kind at hj; rw [h] at hj; exact hj k
def Lacks (m : MF) (d : Int) (nm : List UInt8) : Prop := ∀ x, m.at d = some x → lget nm x.e = none
theorem Lacks.named {m : MF} {c : Nat} (hw : m.wk c) {d : Int} {nm : List UInt8} (h : Lacks m d nm) {d' : Int} {nm' : List UInt8} (hne : ¬ (d = d' ∧ nm = nm')) (j : Int) : Lacks (m.named d' nm' j) d nm := fun x hx => by
 rw [y6] at hx
 split at hx
 ·rename_i e
  subst e
  cases hm : m.at d with
  | none => rw [hm] at hx; cases hx
  | some y =>
   rw [hm] at hx
   obtain rfl := Option.some.inj hx
   dsimp only
   rw [nmE_ne (hw.r y (yY hm).1) j (fun e => hne ⟨rfl, e⟩)]
   exact h y hm
 ·exact h x hx
theorem Lacks.linked {m : MF} {d : Int} {nm : List UInt8} (h : Lacks m d nm) (j b : Int) : Lacks (m.linked j b) d nm := fun x hx => by
 rw [jK] at hx
 split at hx
 ·rename_i e
  subst e
  cases hm : m.at d with
  | none => rw [hm] at hx; cases hx
  | some y =>
   rw [hm] at hx
   obtain rfl := Option.some.inj hx
   exact h y hm
 ·exact h x hx
theorem reach_go {l : List KV} {m : MF} {par : Int → Int} (R : Rel l m par) {N : List (List UInt8)} {d : Int} (h : Reach m N d) : ∃ b, b.i = d ∧ ∀ r, m.go (N ++ r) ⟨0, [], 1⟩ = m.go r b := by
 induction h with
 | nil => exact ⟨⟨0, [], 1⟩, rfl, fun r => rfl⟩
 | @snoc N d i xd x h hd hk hg hi ih =>
  obtain ⟨b, b1, b2⟩ := ih
  refine ⟨⟨d, x, i⟩, rfl, fun r => ?_⟩
  rw [List.append_assoc, b2]
  have hdu := R.u _ _ hd
  show m.go (x :: r) b = _
  have e : m.go (x :: r) b = if b.i = 0 then (ms0, 10) else match m.at b.i with
   | none => (ms0, 0)
   | some n => if n.k ≠ 2 then (ms0, 12) else m.go r ⟨b.i, x, n.entry x⟩ := rfl
  rw [e, b1, if_neg hdu.2, hd]
  dsimp only
  rw [if_neg (by omega)]
  have : xd.entry x = i := by unfold MN.entry; rw [hg]; exact yM i hi
  rw [this]
theorem zQ3 {l : List KV} {m : MF} {par : Int → Int} (R : Rel l m par) {p : List UInt8} {N : List (List UInt8)} {x : List UInt8} {d : Int} {xd : MN} (hs : (splitN p).2 = 0) (hp : namesP p = N ++ [x]) (h : Reach m N d) (hd : m.at d = some xd) (hk : xd.k = 2) : m.findP p = (⟨d, x, xd.entry x⟩, 0) := by
 obtain ⟨b, b1, b2⟩ := reach_go R h
 unfold MF.findP
 rw [if_neg (by simpa using hs), hp, b2]
 have hdu := R.u _ _ hd
 have e : m.go [x] b = if b.i = 0 then (ms0, 10) else match m.at b.i with
  | none => (ms0, 0)
  | some n => if n.k ≠ 2 then (ms0, 12) else m.go [] ⟨b.i, x, n.entry x⟩ := rfl
 rw [e, b1, if_neg hdu.2, hd]
 dsimp only
 rw [if_neg (by omega)]
 rfl
end Go.Proofs.YtdnpkgakpiopgaaGreatDoor

import Derived.Test.YtdnpkgakpiopgaaGreatDoorGo
import Derived.Test.YtdnpkgakpiopgaaGreatDoorM12
import Derived.Test.YtdnpkgakpiopgaaGreatDoorM8
import Derived.Test.YtdnpkgakpiopgaaGreatDoorM2
import Derived.Test.YtdnpkgakpiopgaaGreatDoorM9
import Derived.Test.YtdnpkgakpiopgaaGreatDoorM6
namespace Go.Proofs.YtdnpkgakpiopgaaGreatDoor
set_option maxRecDepth 20000
open Go.Awp Tr
structure MF.sz (f : MF) : Prop where
 l : f.length ≤ 100000
 e : ∀ x ∈ f, x.e.length ≤ 100000
 n : ∀ x ∈ f, -1000000 ≤ x.n ∧ x.n ≤ 1000000
structure AtI (f : MF) (i : Int) where
 q : Nat
 h : q ≤ f.length
 e : ixF (f.drop q) i q = f.ix i
structure EnI (e : List KV) (m : List UInt8) where
 q : Nat
 h : q ≤ e.length
 e : lget m (e.drop q) = lget m e
def MF.has (f : MF) (i : Int) : Prop := ∃ z, f.at i = some z
theorem zDh (y : MN) (r : MF) (i : Int) : MF.at (y :: r) i = if y.i = i then some y else MF.at r i := by
 unfold MF.at
 rw [List.find?_cons]
 by_cases e : y.i = i
 ·simp [e]
 ·have e2 : (y.i == i) = false := by simpa using e
  rw [e2, if_neg e]
theorem at_app (f g : MF) (i : Int) : MF.at (f ++ g) i = (f.at i).or (g.at i) := by
 unfold MF.at
 rw [List.find?_append]
theorem at_map {x : MN} (i : Int) : ∀ f : MF, MF.at (f.map fun y => if y.i = x.i then x else y) i = if i = x.i then (f.at i).map (fun _ => x) else f.at i
 | [] => by simp [MF.at]
 | y :: r => by
  rw [List.map_cons, zDh, zDh, at_map i r]
  by_cases e1 : y.i = x.i
  ·rw [if_pos e1]
   by_cases e2 : i = x.i
   ·simp [e2, e1]
   ·rw [if_neg (Ne.symm e2), if_neg e2, if_neg e2, if_neg (by rw [e1]; exact Ne.symm e2)]
  ·rw [if_neg e1]
   by_cases e2 : y.i = i
   ·rw [if_pos e2, if_pos e2, if_neg (by rw [← e2]; exact e1)]
   ·rw [if_neg e2, if_neg e2]
theorem yV (f : MF) (x : MN) (i : Int) : (f.with x).at i = if i = x.i then some x else f.at i := by
 unfold MF.with
 rw [at_app, at_map]
 by_cases e : i = x.i
 ·subst e
  simp only [if_true]
  cases h : f.at x.i with
  | none => simp [zDh]
  | some z => simp
 ·rw [if_neg e, if_neg e]
  split
  ·simp [MF.at]
  ·rw [zDh, if_neg (Ne.symm e)]; simp [MF.at]
theorem qD (j i : Int) : ∀ f : MF, (f.without j).at i = if i = j then none else f.at i
 | [] => by simp [MF.at, MF.without]
 | y :: r => by
  have ih := qD j i r
  by_cases e : y.i = j
  ·have : MF.without (y :: r) j = MF.without r j := by unfold MF.without; rw [List.filter_cons_of_neg (by simp [e])]
   rw [this, ih, zDh]
   by_cases e2 : i = j
   ·rw [if_pos e2, if_pos e2]
   ·rw [if_neg e2, if_neg e2, if_neg (by rw [e]; exact Ne.symm e2)]
  ·have : MF.without (y :: r) j = y :: MF.without r j := by unfold MF.without; rw [List.filter_cons_of_pos (by simp [e])]
   rw [this, zDh, ih, zDh]
   by_cases e2 : y.i = i
   ·rw [if_pos e2, if_pos e2, if_neg (by rw [← e2]; exact e)]
   ·rw [if_neg e2, if_neg e2]
theorem jK (f : MF) (j b i : Int) : (f.linked j b).at i = if i = j then (f.at j).map (fun x => { x with n := x.n + b }) else f.at i := by
  unfold MF.linked
  cases h : f.at j with
  | none => by_cases e : i = j
            · rw [if_pos e, e, h]; rfl
            · rw [if_neg e]
  | some x =>
    obtain rfl := (yY h).2
    dsimp only
    rw [yV]
    rfl
theorem y6 (f : MF) (d : Int) (m : List UInt8) (j i : Int) : (f.named d m j).at i = if i = d then (f.at d).map (fun x => { x with e := nmE x.e m j }) else f.at i := by
  unfold MF.named
  cases h : f.at d with
  | none => by_cases e : i = d
            · rw [if_pos e, e, h]; rfl
            · rw [if_neg e]
  | some x =>
    obtain rfl := (yY h).2
    dsimp only
    rw [yV]
    rfl
structure MF.wk (f : MF) (c : Nat) : Prop where
 l : f.length ≤ c
 e : ∀ x ∈ f, x.e.length ≤ c
 n : ∀ x ∈ f, -(c : Int) ≤ x.n ∧ x.n ≤ c
 r : ∀ x ∈ f, Rises x.e
theorem MF.wk.mono {f : MF} {c d : Nat} (h : f.wk c) (hd : c ≤ d) : f.wk d :=
 ⟨Nat.le_trans h.l hd, fun x hx => Nat.le_trans (h.e x hx) hd, fun x hx => by have := h.n x hx; omega, h.r⟩
theorem zCw {f : MF} {x y : MN} (h : y ∈ f.with x) : y = x ∨ y ∈ f := by
 unfold MF.with at h
 rcases List.mem_append.1 h with h | h
 ·obtain ⟨z, hz, rfl⟩ := List.mem_map.1 h
  split
  ·exact .inl rfl
  ·exact .inr hz
 ·split at h
  ·simp at h
  ·exact .inl (by simpa using h)
theorem with_len (f : MF) (x : MN) : (f.with x).length ≤ f.length + 1 := by
 unfold MF.with
 rw [List.length_append, List.length_map]
 split <;> simp
theorem MF.wk.with {f : MF} {c : Nat} (h : f.wk c) (x : MN) (he : x.e.length ≤ c + 1) (hn : -(c : Int) - 1 ≤ x.n ∧ x.n ≤ c + 1) (hr : Rises x.e) : (f.with x).wk (c + 1) :=
 ⟨by have := with_len f x; have := h.l; omega, fun y hy => by
  rcases zCw hy with rfl | hy
  ·exact he
  ·have := h.e y hy; omega, fun y hy => by
  rcases zCw hy with rfl | hy
  ·omega
  ·have := h.n y hy; omega, fun y hy => by
  rcases zCw hy with rfl | hy
  ·exact hr
  ·exact h.r y hy⟩
theorem MF.wk.without {f : MF} {c : Nat} (h : f.wk c) (j : Int) : (f.without j).wk c := by
 have hm : ∀ y ∈ f.without j, y ∈ f := fun y hy => (List.mem_filter.1 hy).1
 exact ⟨Nat.le_trans (List.length_filter_le _ _) h.l, fun y hy => h.e y (hm y hy), fun y hy => h.n y (hm y hy), fun y hy => h.r y (hm y hy)⟩
theorem nmE_ok {e : List KV} (h : Rises e) (m : List UInt8) (j : Int) : Rises (nmE e m j) ∧ (nmE e m j).length ≤ e.length + 1 := by
 unfold nmE
 split
 ·exact ⟨yC h, Nat.le_trans (List.length_filter_le _ _) (by omega)⟩
 ·refine ⟨z7 h, ?_⟩
  rw [zDi h]; split <;> omega
theorem MF.wk.linked {f : MF} {c : Nat} (h : f.wk c) (j b : Int) (hb : -1 ≤ b ∧ b ≤ 1) : (f.linked j b).wk (c + 1) := by
 unfold MF.linked
 cases hx : f.at j with
 | none => exact h.mono (by omega)
 | some x =>
  have hm := (yY hx).1
  exact h.with _ (by have := h.e x hm; dsimp only; omega) (by have := h.n x hm; dsimp only; omega) (h.r x hm)
theorem MF.wk.named {f : MF} {c : Nat} (h : f.wk c) (d : Int) (m : List UInt8) (j : Int) : (f.named d m j).wk (c + 1) := by
 unfold MF.named
 cases hx : f.at d with
 | none => exact h.mono (by omega)
 | some x =>
  have hm := (yY hx).1
  obtain ⟨h1, h2⟩ := nmE_ok (h.r x hm) m j
  exact h.with _ (by have := h.e x hm; dsimp only; omega) (by have := h.n x hm; dsimp only; omega) h1
def MF.spot (f : MF) (a : MS) : Prop := a = ⟨0, [], 1⟩ ∨ ∃ z, f.at a.d = some z ∧ z.k = 2 ∧ a.i = z.entry a.m
structure MF.ok (f : MF) (c : Nat) : Prop where
 wk : f.wk c
 root : f.has 1
 ent : ∀ x ∈ f, ∀ y ∈ x.e, f.has (beV y.2)
theorem MF.wk.sz {f : MF} {c : Nat} (h : f.wk c) (hc : c ≤ 100000) : f.sz := ⟨Nat.le_trans h.l hc, fun x hx => Nat.le_trans (h.e x hx) hc, fun x hx => by have := h.n x hx; omega⟩
structure GoI (f : MF) (N : List (List UInt8)) where
 i : Nat
 a : MS
 h : i ≤ N.length
 e : f.go (N.drop i) a = f.go N ⟨0, [], 1⟩
 s : f.spot a
end Go.Proofs.YtdnpkgakpiopgaaGreatDoor

import Derived.Test.YtdnpkgakpiopgaaGreatDoorGo
import Derived.Test.YtdnpkgakpiopgaaGreatDoorM3
namespace Go.Proofs.YtdnpkgakpiopgaaGreatDoor
set_option maxRecDepth 20000
open Go.Awp Tr
set_option maxHeartbeats 4000000 in
theorem zBb (k v : List UInt8) (l0 r0 l r : Tr) (h : 1 + l.size + r.size ≤ big40) : Con Tryz.prog 44 [W (node k v l0 r0), W l, W r] [] (W (Tr.join k v l r)) [] [] := by
 have c1 := jD k v l0 r0 l r (by omega) (by omega)
 have c2 := zEt k v l r (by omega) (by omega)
 by_cases h1 : (node k v l r).lean > 1
 ·match l, h1 with
  | nil, h1 => simp [Tr.lean, Tr.high] at h1; omega
  | node k2 v2 a b, h1 =>
  simp only [Tr.size] at h
  have c3 := zEt k2 v2 a b (by omega) (by omega)
  by_cases h2 : (node k2 v2 a b).lean < 0
  ·match b, h2 with
   | nil, h2 => simp [Tr.lean, Tr.high] at h2; omega
   | node k3 v3 b1 b2, h2 =>
   have e : Tr.join k v (node k2 v2 a (node k3 v3 b1 b2)) r = node k3 v3 (node k2 v2 a b1) (node k v b2 r) := by
    unfold Tr.join; rw [if_pos h1, if_pos h2]; rfl
   simp only [Tr.size] at h
   have c4 := zE4 k2 v2 a k3 v3 b1 b2 (by simp only [Tr.size]; omega)
   have c5 := jD k v l0 r0 (node k3 v3 (node k2 v2 a b1) b2) r (by simp only [Tr.size]; omega) (by omega)
   have c6 := zE6 k v k3 v3 (node k2 v2 a b1) b2 r (by simp only [Tr.size]; omega)
   rw [e]
   refine zD Tryz.func44 rfl (by kernel_rfl) rfl fun F w0 β0 => ?_
   refine zE rfl ?_
   refine go ?_
   refine zH rfl rfl (zB rfl rfl (c1) rfl rfl rfl rfl) rfl ?_
   refine go ?_
   refine zH rfl rfl (zB rfl rfl (c2) rfl rfl rfl rfl) rfl ?_
   refine go ?_
   refine zG rfl (decide_eq_true h1) ?_
   refine go ?_
   refine zH rfl rfl (zB rfl rfl (c3) rfl rfl rfl rfl) rfl ?_
   refine go ?_
   refine zG rfl (decide_eq_true h2) ?_
   refine go ?_
   refine zH rfl rfl (zB rfl rfl (c4) rfl rfl rfl rfl) rfl ?_
   refine go ?_
   refine zH rfl rfl (zB rfl rfl (c5) rfl rfl rfl rfl) rfl ?_
   refine go ?_
   refine zH rfl rfl (zB rfl rfl (c6) rfl rfl rfl rfl) rfl ?_
   refine go ?_
   exact zC hT rfl rfl rfl
  ·have e : Tr.join k v (node k2 v2 a b) r = node k2 v2 a (node k v b r) := by
    unfold Tr.join; rw [if_pos h1, if_neg h2]; rfl
   have c6 := zE6 k v k2 v2 a b r (by simp only [Tr.size]; omega)
   rw [e]
   refine zD Tryz.func44 rfl (by kernel_rfl) rfl fun F w0 β0 => ?_
   refine zE rfl ?_
   refine go ?_
   refine zH rfl rfl (zB rfl rfl (c1) rfl rfl rfl rfl) rfl ?_
   refine go ?_
   refine zH rfl rfl (zB rfl rfl (c2) rfl rfl rfl rfl) rfl ?_
   refine go ?_
   refine zG rfl (decide_eq_true h1) ?_
   refine go ?_
   refine zH rfl rfl (zB rfl rfl (c3) rfl rfl rfl rfl) rfl ?_
   refine go ?_
   refine zF rfl (decide_eq_false h2) ?_
   refine go ?_
   refine zH rfl rfl (zB rfl rfl (c6) rfl rfl rfl rfl) rfl ?_
   refine go ?_
   exact zC hT rfl rfl rfl
 by_cases h3 : (node k v l r).lean < -1
 ·match r, h1, h3 with
  | nil, h1, h3 => simp [Tr.lean, Tr.high] at h3; omega
  | node k2 v2 a b, h1, h3 =>
  simp only [Tr.size] at h
  have c3 := zEt k2 v2 a b (by omega) (by omega)
  by_cases h2 : (node k2 v2 a b).lean > 0
  ·match a, h2 with
   | nil, h2 => simp [Tr.lean, Tr.high] at h2; omega
   | node k3 v3 b1 b2, h2 =>
   have e : Tr.join k v l (node k2 v2 (node k3 v3 b1 b2) b) = node k3 v3 (node k v l b1) (node k2 v2 b2 b) := by
    unfold Tr.join; rw [if_neg h1, if_pos h3, if_pos h2]; rfl
   simp only [Tr.size] at h
   have c4 := zE6 k2 v2 k3 v3 b1 b2 b (by simp only [Tr.size]; omega)
   have c5 := jD k v l0 r0 l (node k3 v3 b1 (node k2 v2 b2 b)) (by omega) (by simp only [Tr.size]; omega)
   have c6 := zE4 k v l k3 v3 b1 (node k2 v2 b2 b) (by simp only [Tr.size]; omega)
   rw [e]
   refine zD Tryz.func44 rfl (by kernel_rfl) rfl fun F w0 β0 => ?_
   refine zE rfl ?_
   refine go ?_
   refine zH rfl rfl (zB rfl rfl (c1) rfl rfl rfl rfl) rfl ?_
   refine go ?_
   refine zH rfl rfl (zB rfl rfl (c2) rfl rfl rfl rfl) rfl ?_
   refine go ?_
   refine zF rfl (decide_eq_false h1) ?_
   refine go ?_
   refine zG rfl (decide_eq_true h3) ?_
   refine go ?_
   refine zH rfl rfl (zB rfl rfl (c3) rfl rfl rfl rfl) rfl ?_
   refine go ?_
   refine zG rfl (decide_eq_true h2) ?_
   refine go ?_
   refine zH rfl rfl (zB rfl rfl (c4) rfl rfl rfl rfl) rfl ?_
   refine go ?_
   refine zH rfl rfl (zB rfl rfl (c5) rfl rfl rfl rfl) rfl ?_
   refine go ?_
   refine zH rfl rfl (zB rfl rfl (c6) rfl rfl rfl rfl) rfl ?_
   refine go ?_
   exact zC hT rfl rfl rfl
  ·have e : Tr.join k v l (node k2 v2 a b) = node k2 v2 (node k v l a) b := by
    unfold Tr.join; rw [if_neg h1, if_pos h3, if_neg h2]; rfl
   have c6 := zE4 k v l k2 v2 a b (by simp only [Tr.size]; omega)
   rw [e]
   refine zD Tryz.func44 rfl (by kernel_rfl) rfl fun F w0 β0 => ?_
   refine zE rfl ?_
   refine go ?_
   refine zH rfl rfl (zB rfl rfl (c1) rfl rfl rfl rfl) rfl ?_
   refine go ?_
   refine zH rfl rfl (zB rfl rfl (c2) rfl rfl rfl rfl) rfl ?_
   refine go ?_
   refine zF rfl (decide_eq_false h1) ?_
   refine go ?_
   refine zG rfl (decide_eq_true h3) ?_
   refine go ?_
   refine zH rfl rfl (zB rfl rfl (c3) rfl rfl rfl rfl) rfl ?_
   refine go ?_
   refine zF rfl (decide_eq_false h2) ?_
   refine go ?_
   refine zH rfl rfl (zB rfl rfl (c6) rfl rfl rfl rfl) rfl ?_
   refine go ?_
   exact zC hT rfl rfl rfl
 ·have e : Tr.join k v l r = node k v l r := by
   unfold Tr.join; rw [if_neg h1, if_neg h3]
  rw [e]
  refine zD Tryz.func44 rfl (by kernel_rfl) rfl fun F w0 β0 => ?_
  refine zE rfl ?_
  refine go ?_
  refine zH rfl rfl (zB rfl rfl (c1) rfl rfl rfl rfl) rfl ?_
  refine go ?_
  refine zH rfl rfl (zB rfl rfl (c2) rfl rfl rfl rfl) rfl ?_
  refine go ?_
  refine zF rfl (decide_eq_false h1) ?_
  refine go ?_
  refine zF rfl (decide_eq_false h3) ?_
  refine go ?_
  exact zC hT rfl rfl rfl
end Go.Proofs.YtdnpkgakpiopgaaGreatDoor
namespace Go.Proofs.YtdnpkgakpiopgaaGreatDoor
set_option maxRecDepth 20000
open Go.Awp
namespace Tr
def set (k v : List UInt8) : Tr → Tr
 | nil => node k v nil nil
 | node k0 v0 l r => if Op.bytesLess k k0 = true then join k0 v0 (l.set k v) r else if k = k0 then node k v l r else join k0 v0 l (r.set k v)
def get (k : List UInt8) : Tr → Option (List UInt8)
 | nil => none
 | node k0 v0 l r => if k0 = k then some v0 else if Op.bytesLess k k0 = true then l.get k else r.get k
theorem jZ (k v : List UInt8) : ∀ (t : Tr), (t.set k v).size ≤ t.size + 1
 | nil => by simp [set, size]
 | node k0 v0 l r => by
  have h1 := jZ k v l
  have h2 := jZ k v r
  simp only [set]
  split
  ·rw [zCd]; simp only [size]; omega
  ·split
   ·simp only [size]; omega
   ·rw [zCd]; simp only [size]; omega
def min : Tr → List UInt8 × List UInt8
 | nil => ([], [])
 | node k v nil _ => (k, v)
 | node _ _ (node k v l r) _ => (node k v l r).min
def cut : Tr → List UInt8 → Tr
 | nil, _ => nil
 | node k0 v0 l r, k => if (node k0 v0 l r).get k = none then node k0 v0 l r
  else if Op.bytesLess k k0 = true then join k0 v0 (l.cut k) r
  else if k = k0 then (match l, r with
   | nil, r => r
   | node a b c d, nil => node a b c d
   | node a b c d, node e f g h => join (node e f g h).min.1 (node e f g h).min.2 (node a b c d) (cut (node e f g h) (node e f g h).min.1))
  else join k0 v0 l (r.cut k)
theorem zBn (k0 v0 : List UInt8) (l r : Tr) (k : List UInt8) : (node k0 v0 l r).cut k = if (node k0 v0 l r).get k = none then node k0 v0 l r
  else if Op.bytesLess k k0 = true then join k0 v0 (l.cut k) r
  else if k = k0 then (match l, r with
   | nil, r => r
   | node a b c d, nil => node a b c d
   | node a b c d, node e f g h => join (node e f g h).min.1 (node e f g h).min.2 (node a b c d) (cut (node e f g h) (node e f g h).min.1))
  else join k0 v0 l (r.cut k) := by
 conv => lhs; unfold cut
theorem zAm : ∀ (t : Tr) (k : List UInt8), (t.cut k).size ≤ t.size
 | nil, k => by simp [cut]
 | node k0 v0 l r, k => by
  have h1 := zAm l k
  have h2 := zAm r k
  have h3 := fun k' => zAm r k'
  unfold cut
  split
  ·exact Nat.le_refl _
  ·split
   ·rw [zCd]; simp only [size]; omega
   ·split
    ·split
     ·simp only [size]; omega
     ·simp only [size]; omega
     ·rename_i a b c d e f g h _
      rw [zCd]
      have := h3 (node e f g h).min.1
      simp only [size] at this ⊢
      omega
    ·rw [zCd]; simp only [size]; omega
end Tr
end Go.Proofs.YtdnpkgakpiopgaaGreatDoor
namespace Go.Proofs.YtdnpkgakpiopgaaGreatDoor
set_option maxRecDepth 20000
open Go.Awp Tr
set_option maxHeartbeats 8000000 in
theorem zAg (k v : List UInt8) : ∀ (t : Tr), t.size + 2 ≤ big40 → Con Tryz.prog 23 [W t, .p (.str k), .p (.str v)] [] (W (t.set k v)) [] []
 | .nil, h => by
  refine zD Tryz.func23 rfl (by kernel_rfl) rfl fun F w0 β0 => ?_
  refine zE rfl ?_
  refine go ?_
  refine zLf 6 0 rfl rfl rfl ?_
  refine J_le 6 ((Tr.node k v .nil .nil).av) rfl (pp_le (.cons (.refl _) (.cons (.refl _) (.cons (zUd rfl) (.cons (zUd rfl) (.cons (.refl _) (.cons (.refl _) .nil))))))) ?_
  refine zPo 6 rfl rfl ?_
  exact zC hT rfl rfl rfl
 | .node k0 v0 l r, h => by
  simp only [Tr.size] at h
  have hl := jZ k v l
  have hr := jZ k v r
  have c1 := zAg k v l (by omega)
  have c2 := zAg k v r (by omega)
  have c3 := zBb k0 v0 l r (l.set k v) r (by omega)
  have c4 := zBb k0 v0 l r l (r.set k v) (by omega)
  by_cases h1 : Op.bytesLess k k0 = true
  ·have e : (node k0 v0 l r).set k v = Tr.join k0 v0 (l.set k v) r := by simp only [Tr.set]; rw [if_pos h1]
   rw [e]
   refine zD Tryz.func23 rfl (by kernel_rfl) rfl fun F w0 β0 => ?_
   refine zE rfl ?_
   refine go ?_
   refine zG rfl h1 ?_
   refine zHm ?_
   refine yE [[]] [] (by kernel_rfl) (by kernel_rfl) rfl ?_
   refine gd ?_
   refine zS rfl rfl rfl rfl rfl (zM rfl rfl (c1) rfl rfl rfl) rfl ?_
   refine gd ?_
   refine zS rfl rfl rfl rfl rfl (zM rfl rfl (c3) rfl rfl rfl) rfl ?_
   refine gd ?_
   refine jT ?_
   refine zE rfl ?_
   refine go ?_
   exact zC hT rfl rfl rfl
  ·have h1' : Op.bytesLess k k0 = false := by simpa using h1
   by_cases h2 : k = k0
   ·have e : (node k0 v0 l r).set k v = node k v l r := by simp only [Tr.set]; rw [if_neg h1, if_pos h2]
    rw [e]
    refine zD Tryz.func23 rfl (by kernel_rfl) rfl fun F w0 β0 => ?_
    refine zE rfl ?_
    refine go ?_
    refine zF rfl h1' ?_
    refine go ?_
    refine zF rfl (by simp [h2]) ?_
    refine go ?_
    refine yE [[]] [] (by kernel_rfl) (by kernel_rfl) rfl ?_
    refine gd ?_
    refine jT ?_
    refine zE rfl ?_
    refine go ?_
    refine zPo 6 rfl rfl ?_
    exact zC hT rfl rfl rfl
   ·have e : (node k0 v0 l r).set k v = Tr.join k0 v0 l (r.set k v) := by simp only [Tr.set]; rw [if_neg h1, if_neg h2]
    rw [e]
    refine zD Tryz.func23 rfl (by kernel_rfl) rfl fun F w0 β0 => ?_
    refine zE rfl ?_
    refine go ?_
    refine zF rfl h1' ?_
    refine go ?_
    refine zG rfl (by simp [h1', h2]) ?_
    refine zHm ?_
    refine yE [[]] [] (by kernel_rfl) (by kernel_rfl) rfl ?_
    refine gd ?_
    refine zS rfl rfl rfl rfl rfl (zM rfl rfl (c2) rfl rfl rfl) rfl ?_
    refine gd ?_
    refine zS rfl rfl rfl rfl rfl (zM rfl rfl (c4) rfl rfl rfl) rfl ?_
    refine gd ?_
    refine jT ?_
    refine zE rfl ?_
    refine go ?_
    exact zC hT rfl rfl rfl
def getT : Option (List UInt8) → TV
 | some v => .tup [.p (.str v), .p (.bool true)]
 | none => .tup [.p (.str []), .p (.bool false)]
structure GetJ (k : List UInt8) (g : Option (List UInt8)) where
 t : Tr
 h : t.get k = g
set_option maxHeartbeats 4000000 in
theorem zA7 (k : List UInt8) (t : Tr) : Con Tryz.prog 148 [W t, .p (.str k)] [] (getT (t.get k)) [] [] := by
 generalize hg : t.get k = g
 refine zD Tryz.func148 rfl (by kernel_rfl) rfl fun F w0 β0 => ?_
 refine zE rfl ?_
 refine go ?_
 refine z9 (fun s : GetJ k g => [(0, W s.t), (1, .p (.str k))]) (fun _ => []) (fun _ => []) (fun s => s.t.size) ⟨t, hg⟩ ⟨rfl, rfl, trivial⟩ rfl rfl (fun s => ?_)
 obtain ⟨t', ht⟩ := s
 clear hg t
 cases t' with
 | nil =>
  obtain rfl := ht
  refine go ?_
  exact zC hT rfl rfl rfl
 | node k0 v0 l r =>
  by_cases h1 : k0 = k
  ·have e : g = some v0 := by rw [← ht]; simp only [Tr.get]; rw [if_pos h1]
   subst e
   refine go ?_
   refine zF rfl (by simp [h1]) ?_
   refine go ?_
   exact zC hT rfl rfl rfl
  ·have e : g = if Op.bytesLess k k0 = true then l.get k else r.get k := by rw [← ht]; simp only [Tr.get]; rw [if_neg h1]
   refine go ?_
   refine zG rfl (by simp [h1]) ?_
   refine go ?_
   refine yU rfl (fun h2 => ?_) (fun h2 => ?_)
   ·rw [if_pos h2] at e
    refine go ?_
    refine zR ⟨l, e.symm⟩ (by simp only [Tr.size]; omega) ⟨rfl, rfl, trivial⟩ rfl rfl
   ·rw [h2, if_neg (by simp)] at e
    refine go ?_
    refine zR ⟨r, e.symm⟩ (by simp only [Tr.size]; omega) ⟨rfl, rfl, trivial⟩ rfl rfl
structure MinJ (m : List UInt8 × List UInt8) where
 k : List UInt8
 v : List UInt8
 l : Tr
 r : Tr
 h : (node k v l r).min = m
set_option maxHeartbeats 8000000 in
theorem zA4 : ∀ (t : Tr) (k : List UInt8), t.size + 2 ≤ big40 → Con Tryz.prog 201 [W t, .p (.str k)] [] (W (t.cut k)) [] []
 | .nil, k, h => by
  have c1 := zA7 k .nil
  refine zD Tryz.func201 rfl (by kernel_rfl) rfl fun F w0 β0 => ?_
  refine zE rfl ?_
  refine go ?_
  refine zH rfl rfl (zB rfl rfl (c1) rfl rfl rfl rfl) rfl ?_
  refine go ?_
  exact zC hT rfl rfl rfl
 | .node k0 v0 l r, k, h => by
  have c1 := zA7 k (.node k0 v0 l r)
  simp only [Tr.size] at h
  cases hg : (node k0 v0 l r).get k with
  | none =>
   rw [hg] at c1
   have e : (node k0 v0 l r).cut k = node k0 v0 l r := by rw [zBn, if_pos hg]
   rw [e]
   refine zD Tryz.func201 rfl (by kernel_rfl) rfl fun F w0 β0 => ?_
   refine zE rfl ?_
   refine go ?_
   refine zH rfl rfl (zB rfl rfl (c1) rfl rfl rfl rfl) rfl ?_
   refine go ?_
   exact zC hT rfl rfl rfl
  | some w =>
   rw [hg] at c1
   have hne : ¬ (node k0 v0 l r).get k = none := by rw [hg]; simp
   have hl := zAm l k
   have hr := zAm r k
   by_cases h1 : Op.bytesLess k k0 = true
   ·have e : (node k0 v0 l r).cut k = Tr.join k0 v0 (l.cut k) r := by rw [zBn, if_neg hne, if_pos h1]
    have c2 := zA4 l k (by omega)
    have c3 := zBb k0 v0 l r (l.cut k) r (by omega)
    rw [e]
    refine zD Tryz.func201 rfl (by kernel_rfl) rfl fun F w0 β0 => ?_
    refine zE rfl ?_
    refine go ?_
    refine zH rfl rfl (zB rfl rfl (c1) rfl rfl rfl rfl) rfl ?_
    refine go ?_
    refine zG rfl h1 ?_
    refine zHm ?_
    refine yE [[]] [] (by kernel_rfl) (by kernel_rfl) rfl ?_
    refine gd ?_
    refine zS rfl rfl rfl rfl rfl (zM rfl rfl (c2) rfl rfl rfl) rfl ?_
    refine gd ?_
    refine zS rfl rfl rfl rfl rfl (zM rfl rfl (c3) rfl rfl rfl) rfl ?_
    refine gd ?_
    refine jT ?_
    refine zE rfl ?_
    refine go ?_
    exact zC hT rfl rfl rfl
   have h1' : Op.bytesLess k k0 = false := by simpa using h1
   by_cases h2 : k = k0
   ·match l, r, h with
    | .nil, r, h =>
     have e : (node k0 v0 .nil r).cut k = r := by rw [zBn, if_neg hne, if_neg h1, if_pos h2]
     rw [e]
     refine zD Tryz.func201 rfl (by kernel_rfl) rfl fun F w0 β0 => ?_
     refine zE rfl ?_
     refine go ?_
     refine zH rfl rfl (zB rfl rfl (c1) rfl rfl rfl rfl) rfl ?_
     refine go ?_
     refine zF rfl h1' ?_
     refine go ?_
     refine zF rfl (by simp [h2]) ?_
     refine go ?_
     exact zC hT rfl rfl rfl
    | .node a b c d, .nil, h =>
     have e : (node k0 v0 (.node a b c d) .nil).cut k = .node a b c d := by rw [zBn, if_neg hne, if_neg h1, if_pos h2]
     rw [e]
     refine zD Tryz.func201 rfl (by kernel_rfl) rfl fun F w0 β0 => ?_
     refine zE rfl ?_
     refine go ?_
     refine zH rfl rfl (zB rfl rfl (c1) rfl rfl rfl rfl) rfl ?_
     refine go ?_
     refine zF rfl h1' ?_
     refine go ?_
     refine zF rfl (by simp [h2]) ?_
     refine go ?_
     exact zC hT rfl rfl rfl
    | .node a b c d, .node e f g i, h =>
     have e0 : (node k0 v0 (.node a b c d) (.node e f g i)).cut k = Tr.join (node e f g i).min.1 (node e f g i).min.2 (node a b c d) ((node e f g i).cut (node e f g i).min.1) := by
      rw [zBn, if_neg hne, if_neg h1, if_pos h2]
     rw [e0]
     have c2 := zA4 (node e f g i) (node e f g i).min.1 (by simp only [Tr.size] at h ⊢; omega)
     have hs := zAm (node e f g i) (node e f g i).min.1
     have c3 := fun l0 r0 => zBb (node e f g i).min.1 (node e f g i).min.2 l0 r0 (node a b c d) ((node e f g i).cut (node e f g i).min.1) (by simp only [Tr.size] at h hs ⊢; omega)
     generalize hm : (node e f g i).min = m at c2 c3
     generalize hB : (node e f g i).cut m.1 = B at c2 c3
     refine zD Tryz.func201 rfl (by kernel_rfl) rfl fun F w0 β0 => ?_
     refine zE rfl ?_
     refine go ?_
     refine zH rfl rfl (zB rfl rfl (c1) rfl rfl rfl rfl) rfl ?_
     refine go ?_
     refine zF rfl h1' ?_
     refine go ?_
     refine zF rfl (by simp [h2]) ?_
     refine go ?_
     refine z9 (fun s : MinJ m => [(0, W (node k0 v0 (.node a b c d) (.node e f g i))), (7, W (node s.k s.v s.l s.r))]) (fun _ => []) (fun _ => []) (fun s => (node s.k s.v s.l s.r).size) ⟨e, f, g, i, hm⟩ ⟨rfl, rfl, trivial⟩ rfl rfl (fun s => ?_)
     obtain ⟨k', v', l', r', hmin⟩ := s
     cases l' with
     | nil =>
      have hm2 : m = (k', v') := hmin.symm
      subst hm2
      refine go ?_
      refine yE [[]] [] (by kernel_rfl) (by kernel_rfl) rfl ?_
      refine gd ?_
      refine zS rfl rfl rfl rfl rfl (zM rfl rfl (c2) rfl rfl rfl) rfl ?_
      refine gd ?_
      refine zS rfl rfl rfl rfl rfl (zM rfl rfl (c3 .nil r') rfl rfl rfl) rfl ?_
      refine gd ?_
      refine jT ?_
      refine zE rfl ?_
      refine go ?_
      exact zC hT rfl rfl rfl
     | node k2 v2 l2 r2 =>
      refine go ?_
      refine zR ⟨k2, v2, l2, r2, hmin⟩ (by show (node k2 v2 l2 r2).size < (node k' v' (node k2 v2 l2 r2) r').size; simp only [Tr.size]; omega) ⟨rfl, rfl, trivial⟩ rfl rfl
   ·have e : (node k0 v0 l r).cut k = Tr.join k0 v0 l (r.cut k) := by rw [zBn, if_neg hne, if_neg h1, if_neg h2]
    have c2 := zA4 r k (by omega)
    have c3 := zBb k0 v0 l r l (r.cut k) (by omega)
    rw [e]
    refine zD Tryz.func201 rfl (by kernel_rfl) rfl fun F w0 β0 => ?_
    refine zE rfl ?_
    refine go ?_
    refine zH rfl rfl (zB rfl rfl (c1) rfl rfl rfl rfl) rfl ?_
    refine go ?_
    refine zF rfl h1' ?_
    refine go ?_
    refine zG rfl (by simp [h1', h2]) ?_
    refine zHm ?_
    refine yE [[]] [] (by kernel_rfl) (by kernel_rfl) rfl ?_
    refine gd ?_
    refine zS rfl rfl rfl rfl rfl (zM rfl rfl (c2) rfl rfl rfl) rfl ?_
    refine gd ?_
    refine zS rfl rfl rfl rfl rfl (zM rfl rfl (c3) rfl rfl rfl) rfl ?_
    refine gd ?_
    refine jT ?_
    refine zE rfl ?_
    refine go ?_
    exact zC hT rfl rfl rfl
end Go.Proofs.YtdnpkgakpiopgaaGreatDoor
namespace Go.Proofs.YtdnpkgakpiopgaaGreatDoor
set_option maxRecDepth 20000
open Go.Awp
abbrev KV := List UInt8 × List UInt8
def lt (a b : List UInt8) : Prop := Op.bytesLess a b = true
theorem qK {a b c : List UInt8} (h : lt a b) (k : lt b c) : lt a c := zFu h k
theorem lt_irrefl (a : List UInt8) : ¬ lt a a := fun h => by unfold lt at h; rw [zA6] at h; cases h
theorem zCo {a b : List UInt8} (h : lt a b) : ¬ lt b a := fun k => lt_irrefl a (qK h k)
theorem jW {a b : List UInt8} (h : lt a b) : a ≠ b := fun e => by rw [e] at h; exact lt_irrefl b h
theorem zBq (a b : List UInt8) : lt a b ∨ a = b ∨ lt b a := by
 unfold lt
 cases h1 : Op.bytesLess a b with
 | true => exact .inl rfl
 | false =>
  cases h2 : Op.bytesLess b a with
  | true => exact .inr (.inr rfl)
  | false => exact .inr (.inl (zFw h1 h2))
instance (a b : List UInt8) : Decidable (lt a b) := by unfold lt; infer_instance
def Rises (l : List KV) : Prop := l.Pairwise fun a b => lt a.1 b.1
def lset (k v : List UInt8) : List KV → List KV
 | [] => [(k, v)]
 | x :: r => if lt k x.1 then (k, v) :: x :: r else if k = x.1 then (k, v) :: r else x :: lset k v r
def lget (k : List UInt8) : List KV → Option (List UInt8)
 | [] => none
 | x :: r => if x.1 = k then some x.2 else lget k r
def lcut (k : List UInt8) (l : List KV) : List KV := l.filter fun x => !(x.1 == k)
def lrange (a b : List UInt8) (l : List KV) : List KV := l.filter fun x => inR x.1 a b
theorem zCg {A B : List KV} {x : KV} : Rises (A ++ x :: B) ↔ Rises A ∧ Rises B ∧ (∀ a ∈ A, lt a.1 x.1) ∧ (∀ b ∈ B, lt x.1 b.1) ∧ ∀ a ∈ A, ∀ b ∈ B, lt a.1 b.1 := by
 unfold Rises
 rw [List.pairwise_append, List.pairwise_cons]
 constructor
 ·rintro ⟨h1, ⟨h2, h3⟩, h4⟩
  exact ⟨h1, h3, fun a ha => h4 a ha x (by simp), h2, fun a ha b hb => h4 a ha b (by simp [hb])⟩
 ·rintro ⟨h1, h2, h3, h4, h5⟩
  refine ⟨h1, ⟨h4, h2⟩, fun a ha b hb => ?_⟩
  rcases List.mem_cons.1 hb with rfl | hb
  ·exact h3 a ha
  ·exact h5 a ha b hb
theorem zF6 (k v : List UInt8) (x : KV) (B : List KV) (hk : lt k x.1) : ∀ A : List KV, (∀ a ∈ A, lt a.1 x.1) → lset k v (A ++ x :: B) = lset k v A ++ x :: B
 | [], _ => by simp [lset, hk]
 | a :: A, h => by
  simp only [List.cons_append, lset]
  split
  ·rfl
  ·split
   ·rfl
   ·rw [zF6 k v x B hk A fun b hb => h b (by simp [hb])]; rfl
theorem zMi (k v : List UInt8) (x : KV) (B : List KV) (hk : k = x.1) : ∀ A : List KV, (∀ a ∈ A, lt a.1 x.1) → lset k v (A ++ x :: B) = A ++ (k, v) :: B
 | [], _ => by subst hk; simp [lset, lt_irrefl]
 | a :: A, h => by
  have h1 := h a (by simp)
  simp only [List.cons_append, lset]
  rw [if_neg (by rw [hk]; exact zCo h1), if_neg (by rw [hk]; exact fun e => jW h1 e.symm), zMi k v x B hk A fun b hb => h b (by simp [hb])]
theorem zC0 (k v : List UInt8) (x : KV) (B : List KV) (hk : lt x.1 k) : ∀ A : List KV, (∀ a ∈ A, lt a.1 x.1) → lset k v (A ++ x :: B) = A ++ x :: lset k v B
 | [], _ => by simp only [List.nil_append, lset]; rw [if_neg (zCo hk), if_neg fun e => jW hk e.symm]
 | a :: A, h => by
  have h1 := qK (h a (by simp)) hk
  simp only [List.cons_append, lset]
  rw [if_neg (zCo h1), if_neg fun e => jW h1 e.symm, zC0 k v x B hk A fun b hb => h b (by simp [hb])]
theorem qX {k : List UInt8} : ∀ {l : List KV}, (∀ x ∈ l, x.1 ≠ k) → lget k l = none
 | [], _ => rfl
 | x :: r, h => by simp only [lget]; rw [if_neg (h x (by simp)), qX fun y hy => h y (by simp [hy])]
theorem zDj (k : List UInt8) : ∀ (A B : List KV), lget k (A ++ B) = (lget k A).or (lget k B)
 | [], B => by simp [lget]
 | a :: A, B => by
  simp only [List.cons_append, lget]
  split
  ·rfl
  ·exact zDj k A B
theorem zBl {k v : List UInt8} : ∀ {l : List KV} {y : KV}, y ∈ lset k v l → y = (k, v) ∨ y ∈ l
 | [], y, h => by simp [lset] at h; exact .inl h
 | x :: r, y, h => by
  simp only [lset] at h
  split at h
  ·rcases List.mem_cons.1 h with h | h
   ·exact .inl h
   ·exact .inr h
  ·split at h
   ·rcases List.mem_cons.1 h with h | h
    ·exact .inl h
    ·exact .inr (by simp [h])
   ·rcases List.mem_cons.1 h with h | h
    ·exact .inr (by simp [h])
    ·rcases zBl h with h | h
     ·exact .inl h
     ·exact .inr (by simp [h])
theorem z7 {k v : List UInt8} : ∀ {l : List KV}, Rises l → Rises (lset k v l)
 | [], _ => by simp [lset, Rises]
 | x :: r, h => by
  have h' := List.pairwise_cons.1 h
  simp only [lset]
  split
  ·rename_i hk
   refine List.pairwise_cons.2 ⟨fun y hy => ?_, h⟩
   rcases List.mem_cons.1 hy with rfl | hy
   ·exact hk
   ·exact qK hk (h'.1 y hy)
  ·split
   ·rename_i hk
    exact List.pairwise_cons.2 ⟨fun y hy => by rw [hk]; exact h'.1 y hy, h'.2⟩
   ·rename_i h1 h2
    have hk : lt x.1 k := (zBq k x.1).elim (fun h => absurd h h1) fun h => h.elim (fun h => absurd h h2) id
    refine List.pairwise_cons.2 ⟨fun y hy => ?_, z7 h'.2⟩
    rcases zBl hy with rfl | hy
    ·exact hk
    ·exact h'.1 y hy
theorem yC {k : List UInt8} {l : List KV} (h : Rises l) : Rises (lcut k l) := List.Pairwise.sublist List.filter_sublist h
theorem jN {k : List UInt8} {l : List KV} (h : ∀ x ∈ l, x.1 ≠ k) : lcut k l = l := List.filter_eq_self.2 fun x hx => by simpa using h x hx
namespace Tr
def row : Tr → List KV
 | nil => []
 | node k v l r => l.row ++ (k, v) :: r.row
theorem yN : ∀ (t : Tr), t.row.length = t.size
 | nil => rfl
 | node k v l r => by simp only [row, size, List.length_append, List.length_cons, yN l, yN r]; omega
theorem zPs (t : Tr) : t.rotR.row = t.row := by
 unfold rotR; split
 ·simp [row]
 ·rfl
theorem zPg (t : Tr) : t.rotL.row = t.row := by
 unfold rotL; split
 ·simp [row]
 ·rfl
theorem zD8 (k v : List UInt8) (l r : Tr) : (join k v l r).row = l.row ++ (k, v) :: r.row := by
 unfold join
 split
 ·rw [zPs]; split <;> simp only [row, zPg]
 ·split
  ·rw [zPg]; split <;> simp only [row, zPs]
  ·rfl
theorem qY (k v : List UInt8) : ∀ (t : Tr), Rises t.row → (t.set k v).row = lset k v t.row
 | nil, _ => rfl
 | node k0 v0 l r, h => by
  obtain ⟨h1, h2, h3, h4, _⟩ := zCg.1 h
  simp only [set, row]
  by_cases hk : Op.bytesLess k k0 = true
  ·rw [if_pos hk, zD8, qY k v l h1, zF6 k v (k0, v0) r.row hk l.row h3]
  ·rw [if_neg hk]
   by_cases he : k = k0
   ·rw [if_pos he, zMi k v (k0, v0) r.row he l.row h3]; rfl
   ·rw [if_neg he, zD8, qY k v r h2]
    have hk2 : lt k0 k := (zBq k k0).elim (fun h => absurd h hk) fun h => h.elim (fun h => absurd h he) id
    rw [zC0 k v (k0, v0) r.row hk2 l.row h3]
theorem yQ (k : List UInt8) : ∀ (t : Tr), Rises t.row → t.get k = lget k t.row
 | nil, _ => rfl
 | node k0 v0 l r, h => by
  obtain ⟨h1, h2, h3, h4, _⟩ := zCg.1 h
  simp only [get, row]
  rw [zDj]
  by_cases he : k0 = k
  ·rw [if_pos he, qX (l := l.row) fun x hx => by rw [← he]; exact jW (h3 x hx)]
   simp [lget, he]
  ·rw [if_neg he]
   by_cases hk : Op.bytesLess k k0 = true
   ·rw [if_pos hk, yQ k l h1]
    have : lget k ((k0, v0) :: r.row) = none := qX fun x hx => by
     rcases List.mem_cons.1 hx with rfl | hx
     ·exact he
     ·exact fun e => jW (qK hk (h4 x hx)) e.symm
    rw [this]; cases lget k l.row <;> rfl
   ·rw [if_neg hk, yQ k r h2]
    have hk2 : lt k0 k := (zBq k k0).elim (fun h => absurd h hk) fun h => h.elim (fun h => absurd h.symm he) id
    rw [qX (l := l.row) fun x hx => jW (qK (h3 x hx) hk2)]
    simp [lget, he]
theorem zVo : ∀ (t : Tr), t ≠ nil → ∃ B, t.row = t.min :: B
 | nil, h => absurd rfl h
 | node k v nil r, _ => ⟨r.row, by simp [row, min]⟩
 | node k v (node k2 v2 a b) r, _ => by
  obtain ⟨B, hB⟩ := zVo (node k2 v2 a b) (by simp)
  refine ⟨B ++ (k, v) :: r.row, ?_⟩
  rw [row, hB]
  rfl
theorem qT : ∀ (t : Tr) (k : List UInt8), Rises t.row → (t.cut k).row = lcut k t.row
 | nil, k, _ => rfl
 | node k0 v0 l r, k, h => by
  obtain ⟨h1, h2, h3, h4, h5⟩ := zCg.1 h
  have happ : lcut k (node k0 v0 l r).row = lcut k l.row ++ lcut k ((k0, v0) :: r.row) := by simp [row, lcut]
  rw [zBn]
  split
  ·rename_i hn
   rw [yQ k _ h] at hn
   refine (jN fun x hx e => ?_).symm
   have : ∀ l : List KV, lget k l = none → ∀ x ∈ l, x.1 ≠ k := by
    intro l
    induction l with
    | nil => intro _ x hx; simp at hx
    | cons y r ih =>
     intro hg x hx
     simp only [lget] at hg
     split at hg
     ·cases hg
     ·rename_i hy
      rcases List.mem_cons.1 hx with rfl | hx
      ·exact hy
      ·exact ih hg x hx
   exact this _ hn x hx e
  ·by_cases hk : Op.bytesLess k k0 = true
   ·rw [if_pos hk, zD8, qT l k h1, happ]
    congr 1
    refine (jN fun x hx => ?_).symm
    rcases List.mem_cons.1 hx with rfl | hx
    ·exact fun e => jW hk e.symm
    ·exact fun e => jW (qK hk (h4 x hx)) e.symm
   ·rw [if_neg hk]
    by_cases he : k = k0
    ·rw [if_pos he, happ]
     have e1 : lcut k l.row = l.row := jN fun x hx => by rw [he]; exact jW (h3 x hx)
     have e2 : lcut k ((k0, v0) :: r.row) = r.row := by
      have : lcut k r.row = r.row := jN fun x hx => by rw [he]; exact fun e => jW (h4 x hx) e.symm
      simp only [lcut, List.filter_cons, he, beq_self_eq_true, Bool.not_true, Bool.false_eq_true, if_false] at this ⊢
      exact this
     rw [e1, e2]
     match l, r with
     | nil, r => simp [row]
     | node a b c d, nil => simp [row]
     | node a b c d, node e f g i =>
      obtain ⟨B, hB⟩ := zVo (node e f g i) (by simp)
      have ih := qT (node e f g i) (node e f g i).min.1 h2
      simp only []
      rw [zD8, ih]
      have hr2 := h2
      rw [hB] at hr2
      have hr3 := List.pairwise_cons.1 hr2
      have : lcut (node e f g i).min.1 (node e f g i).row = B := by
       rw [hB]
       have : lcut (node e f g i).min.1 B = B := jN fun x hx => fun e => jW (hr3.1 x hx) e.symm
       simp only [lcut, List.filter_cons, beq_self_eq_true, Bool.not_true, Bool.false_eq_true, if_false] at this ⊢
       exact this
      rw [this, hB]
    ·rw [if_neg he, zD8, qT r k h2, happ]
     have hk2 : lt k0 k := (zBq k k0).elim (fun h => absurd h hk) fun h => h.elim (fun h => absurd h he) id
     have e1 : lcut k l.row = l.row := jN fun x hx => jW (qK (h3 x hx) hk2)
     have e2 : lcut k ((k0, v0) :: r.row) = (k0, v0) :: lcut k r.row := by
      have : (k0 == k) = false := beq_eq_false_iff_ne.2 fun e => he e.symm
      simp [lcut, this]
     rw [e1, e2]
end Tr
end Go.Proofs.YtdnpkgakpiopgaaGreatDoor
namespace Go.Proofs.YtdnpkgakpiopgaaGreatDoor
set_option maxRecDepth 20000
open Go.Awp
namespace Tr
def range (a b : List UInt8) : Tr → List KV
 | nil => []
 | node k v l r => ((if lt a k then l.range a b else []) ++ (if inR k a b = true then [(k, v)] else [])) ++ (if lt k b then r.range a b else [])
theorem zCf (a b : List UInt8) : ∀ (t : Tr), Rises t.row → t.range a b = lrange a b t.row
 | nil, _ => rfl
 | node k v l r, h => by
  obtain ⟨h1, h2, h3, h4, _⟩ := zCg.1 h
  have e1 : (if lt a k then l.range a b else []) = lrange a b l.row := by
   split
   ·exact zCf a b l h1
   ·rename_i hk
    refine (List.filter_eq_nil_iff.2 fun x hx => ?_).symm
    have : lt x.1 a := by
     rcases zBq a k with h | h | h
     ·exact absurd h hk
     ·rw [h]; exact h3 x hx
     ·exact qK (h3 x hx) h
    unfold lt at this
    simp [inR, this]
  have e2 : (if lt k b then r.range a b else []) = lrange a b r.row := by
   split
   ·exact zCf a b r h2
   ·rename_i hk
    refine (List.filter_eq_nil_iff.2 fun x hx => ?_).symm
    have : ¬ lt x.1 b := by
     intro hx2
     exact hk (qK (h4 x hx) hx2)
    unfold lt at this
    simp [inR, this]
  have e3 : lrange a b (node k v l r).row = lrange a b l.row ++ ((if inR k a b = true then [(k, v)] else []) ++ lrange a b r.row) := by
   simp only [row, lrange, List.filter_append, List.filter_cons]
   split <;> simp
  rw [e3, ← e1, ← e2, range, List.append_assoc]
theorem zB6 (a b : List UInt8) : ∀ (t : Tr), (t.range a b).length ≤ t.size
 | nil => Nat.le_refl _
 | node k v l r => by
  have h1 := zB6 a b l
  have h2 := zB6 a b r
  simp only [range, size, List.length_append]
  have e1 : (if lt a k then l.range a b else []).length ≤ l.size := by split <;> first | exact h1 | simp
  have e2 : (if lt k b then r.range a b else []).length ≤ r.size := by split <;> first | exact h2 | simp
  have e3 : (if inR k a b = true then [(k, v)] else [] : List KV).length ≤ 1 := by split <;> simp
  omega
def rank (k : List UInt8) : Tr → Nat
 | nil => 0
 | node k0 _ l r => if lt k0 k then l.size + 1 + r.rank k else l.rank k
end Tr
end Go.Proofs.YtdnpkgakpiopgaaGreatDoor
namespace Go.Proofs.YtdnpkgakpiopgaaGreatDoor
set_option maxRecDepth 20000
open Go.Awp Tr
def kvV (x : KV) : AV := .agg [.str x.1, .str x.2, .bool false]
abbrev kvs (l : List KV) : List AV := l.map kvV
theorem kvs_cl (l : List KV) : clR (kvs l) := by
 intro r hr x hx
 obtain ⟨y, _, rfl⟩ := List.mem_map.1 hr
 simp [kvV, cellsOf] at hx
 rcases hx with rfl | rfl | rfl <;> rfl
theorem zQe (l : List KV) : ∀ r ∈ kvs l, (cellsOf r).length = 3 := by
 intro r hr
 obtain ⟨y, _, rfl⟩ := List.mem_map.1 hr
 rfl
theorem leB (a k : List UInt8) : (Op.bytesLess a k || a == k) = !Op.bytesLess k a := by
 cases h1 : Op.bytesLess a k with
 | true => rw [bl_asymm h1]; rfl
 | false =>
  cases h2 : Op.bytesLess k a with
  | true =>
   have : (a == k) = false := beq_eq_false_iff_ne.2 fun e => by rw [e, zA6] at h2; cases h2
   rw [this]; rfl
  | false => rw [zFw h1 h2]; simp
abbrev pairI : TyI := ⟨.struct [(0, 9), (1, 9), (2, 4)], 3, 40, [.str [], .str [], .bool false]⟩
set_option maxHeartbeats 8000000 in
theorem zC7 (a b : List UInt8) : ∀ (t : Tr), t.size ≤ big40 → Con Tryz.prog 43 [W t, .p (.str a), .p (.str b)] [] (accT 0 .nils (kvs (t.range a b))) [] (accL 58 3 (kvs (t.range a b)))
 | .nil, h => by
  refine zD Tryz.func43 rfl (by kernel_rfl) rfl fun F w0 β0 => ?_
  refine zE rfl ?_
  refine go ?_
  exact zBr hT rfl rfl
 | .node k v l r, h => by
  simp only [Tr.size] at h
  have c1 := zC7 a b l (by omega)
  have c2 := (zC7 a b r (by omega)).frzAcc
  have l1 := zB6 a b l
  have l2 := zB6 a b r
  have er : (node k v l r).range a b = ((if lt a k then l.range a b else []) ++ (if inR k a b = true then [(k, v)] else [])) ++ (if lt k b then r.range a b else []) := rfl
  rw [er]
  refine zD Tryz.func43 rfl (by kernel_rfl) rfl fun F w0 β0 => ?_
  refine zE rfl ?_
  refine go ?_
  refine zFg [(0, W (node k v l r)), (1, .p (.str a)), (2, .p (.str b)), (7, accT 0 .nils (kvs (if lt a k then l.range a b else [])))] [] (accL 58 3 (kvs (if lt a k then l.range a b else []))) ?_ ?_
  ·refine yU rfl (fun hc => ?_) (fun hc => ?_)
   ·rw [if_pos (show lt a k from hc)]
    refine go ?_
    refine zFh rfl rfl (zDp rfl rfl c1 rfl rfl (zIo _ _ _ _ _) (by rw [zJk])) rfl ?_
    refine zFh rfl rfl (zD5 (accT 0 .nils (kvs (l.range a b))) (.inr rfl) rfl) rfl ?_
    refine zLy ?_
    exact zMh ⟨rfl, rfl, rfl, rfl, trivial⟩ rfl rfl
   ·rw [if_neg (show ¬ lt a k from by unfold lt; rw [hc]; simp)]
    refine go ?_
    exact zMh ⟨rfl, rfl, rfl, rfl, trivial⟩ rfl rfl
  have hA : (if lt a k then l.range a b else []).length ≤ l.size := by split <;> first | exact l1 | simp
  generalize hAA : (if lt a k then l.range a b else []) = A at hA
  refine go ?_
  have hin : ((Op.bytesLess a k || a == k) && Op.bytesLess k b) = inR k a b := by rw [leB]; rfl
  refine zFg [(0, W (node k v l r)), (1, .p (.str a)), (2, .p (.str b)), (7, accT 0 .nils (kvs (A ++ (if inR k a b = true then [(k, v)] else []))))] [] (accL 58 3 (kvs (A ++ (if inR k a b = true then [(k, v)] else [])))) ?_ ?_
  ·refine yU rfl (fun hc => ?_) (fun hc => ?_)
   ·rw [hin] at hc
    rw [if_pos hc]
    have emap : kvs (A ++ [(k, v)]) = kvs A ++ [kvV (k, v)] := by simp
    refine zH7 [(0, W (node k v l r)), (1, .p (.str a)), (2, .p (.str b)), (7, accT 0 .nils (kvs A))] ⟨rfl, rfl, rfl, rfl, trivial⟩ ?_
    refine yE [accL 58 3 (kvs A), accL 58 3 (kvs (A ++ [(k, v)]))] [11] (by kernel_rfl) (by kernel_rfl) rfl ?_
    refine T_op rfl rfl rfl rfl rfl (zD5 (accT 0 .nils (kvs A)) (.inl rfl) rfl) rfl ?_
    refine gd2 ?_
    refine T_op rfl rfl rfl rfl rfl (yS hT rfl rfl rfl rfl) rfl ?_
    rw [emap]
    refine T_st rfl rfl rfl rfl (zGp (te := pairI) (L0 := []) (acc := kvs A) (rows := [kvV (k, v)]) hT rfl rfl rfl (.inl rfl) rfl rfl (.rd (.ps _)) jQ (kvs_cl [(k, v)]) (zQe [(k, v)]) (by decide) (by decide) (by unfold big40 at h; simp; omega)) rfl ?_
    refine T_op rfl rfl rfl rfl rfl (zD5 (accT 0 .nils (kvs A ++ [kvV (k, v)])) (.inr rfl) rfl) rfl ?_
    refine zJf ?_
    exact zMh ⟨rfl, rfl, rfl, rfl, trivial⟩ rfl rfl
   ·rw [hin] at hc
    rw [if_neg (by rw [hc]; simp), List.append_nil]
    refine go ?_
    exact zMh ⟨rfl, rfl, rfl, rfl, trivial⟩ rfl rfl
  have hB : (A ++ (if inR k a b = true then [(k, v)] else [])).length ≤ l.size + 1 := by
   rw [List.length_append]
   have : (if inR k a b = true then [(k, v)] else [] : List KV).length ≤ 1 := by split <;> simp
   omega
  generalize hBB : (A ++ (if inR k a b = true then [(k, v)] else [])) = B at hB
  clear hAA hA hin hBB
  refine go ?_
  refine zFg [(7, accT 0 .nils (kvs (B ++ (if lt k b then r.range a b else []))))] [] (accL 58 3 (kvs (B ++ (if lt k b then r.range a b else [])))) ?_ ?_
  ·refine yU rfl (fun hc => ?_) (fun hc => ?_)
   ·rw [if_pos (show lt k b from hc)]
    have emap : kvs (B ++ r.range a b) = kvs B ++ kvs (r.range a b) := by simp
    refine go ?_
    refine zFh rfl rfl (zD5 (accT 0 .nils (kvs B)) (.inl rfl) rfl) rfl ?_
    refine go ?_
    refine zFh rfl rfl (zDp rfl rfl c2 rfl rfl rfl (List.append_nil _)) rfl ?_
    rw [emap]
    refine zFh rfl rfl (zGp (te := pairI) (L0 := []) (acc := kvs B) (rows := kvs (r.range a b)) hT rfl rfl rfl (.inl rfl) rfl rfl (.rd (accV_rd (.inl rfl))) (accV_str (.inl rfl)) (kvs_cl _) (zQe _) (by decide) (by decide) (by unfold big40 at h; simp; omega)) rfl ?_
    refine zFh rfl rfl (zD5 (accT 0 .nils (kvs B ++ kvs (r.range a b))) (.inr rfl) rfl) rfl ?_
    refine zLy ?_
    exact zMh ⟨rfl, trivial⟩ rfl rfl
   ·rw [if_neg (show ¬ lt k b from by unfold lt; rw [hc]; simp), List.append_nil]
    refine go ?_
    exact zMh ⟨rfl, trivial⟩ rfl rfl
  generalize B ++ (if lt k b then r.range a b else []) = C
  refine go ?_
  refine zFh rfl rfl (zD5 (accT 0 .nils (kvs C)) (.inl rfl) rfl) rfl ?_
  refine zFh rfl rfl (zD5 (accT 0 .nils (kvs C)) (.inr rfl) rfl) rfl ?_
  refine go ?_
  exact zBr hT rfl rfl
end Go.Proofs.YtdnpkgakpiopgaaGreatDoor

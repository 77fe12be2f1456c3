import Derived.Test.YtdnpkgakpiopgaaGreatDoorGo
import Derived.Test.YtdnpkgakpiopgaaGreatDoorM14
import Derived.Test.YtdnpkgakpiopgaaGreatDoorM12
import Derived.Test.YtdnpkgakpiopgaaGreatDoorM9
import Derived.Test.YtdnpkgakpiopgaaGreatDoorM10
import Derived.Test.YtdnpkgakpiopgaaGreatDoorM2
import Derived.Test.YtdnpkgakpiopgaaGreatDoorM11
import Derived.Test.YtdnpkgakpiopgaaGreatDoorM13
namespace Go.Proofs.YtdnpkgakpiopgaaGreatDoor
set_option maxRecDepth 20000
open Go.Awp Tr
structure MF.mvOk (f : MF) (c : Nat) (s t : MS) : Prop where
 wk : f.wk c
 s : f.has s.d
 t : f.has t.d
def do18 (s : VS) (m : MF) (k : Int) (p o : List UInt8) (i : Int) : (Int × VS) × (Int × MF) :=
 if k = 0 then (s.make p 1 i, m.make p 1 i) else if k = 1 then (s.make p 2 i, m.make p 2 i) else if k = 2 then (s.remove p, m.remove p) else if k = 4 then (s.link p o, m.link p o) else if k = 5 then (s.unlink p, m.unlink p) else if k = 6 then (s.rename p o, m.rename p o) else ((0, s), (0, m))
def doT (s : VS) (m : MF) (k : Int) (p o : List UInt8) (i : Int) : (Bool × MF × Bool) × VS :=
 if k = 3 then ((decide ((s.dlist p).1.2 = (m.list p).2) && decide ((s.dlist p).1.1 = (m.list p).1), m, false), (s.dlist p).2)
 else if (do18 s m k p o i).1.1 = 21 then ((true, m, true), (do18 s m k p o i).1.2) else ((decide ((do18 s m k p o i).1.1 = (do18 s m k p o i).2.1), (do18 s m k p o i).2.2, false), (do18 s m k p o i).1.2)
theorem zBt {P : Program} {o : Oper} {env : Env} {H L H' L' : List AObj} {x y : TV} (h : OpR P o env H L x H' L') (e : x = y) : OpR P o env H L y H' L' := e ▸ h
def subL (c d : Int) (l : List KV) : List KV := (l.filter fun x => decide (keyH c d <+: x.1)).map fun x => (x.1.drop 5, x.2)
abbrev L8 (c : Int) : Prop := 0 ≤ c ∧ c ≤ 255
theorem zBp {c d c' d' : Int} {x y : List UInt8} (hc : L8 c) (hc' : L8 c') (hd : U32 d) (hd' : U32 d') : keyH c d ++ x = keyH c' d' ++ y ↔ c = c' ∧ d = d' ∧ x = y :=
 ⟨fun e => zSi hc hc' hd hd' e, fun ⟨e1, e2, e3⟩ => by rw [e1, e2, e3]⟩
theorem qE {c d : Int} {l : List KV} {x v : List UInt8} : (x, v) ∈ subL c d l ↔ (keyH c d ++ x, v) ∈ l := by
 unfold subL
 rw [List.mem_map]
 constructor
 ·rintro ⟨y, hy, e⟩
  rw [List.mem_filter, decide_eq_true_eq] at hy
  obtain ⟨h1, r, h2⟩ := hy
  obtain ⟨e1, e2⟩ := Prod.mk.inj e
  rw [← h2, zEi] at e1
  subst e1 e2
  rw [h2]
  exact h1
 ·intro h
  exact ⟨_, List.mem_filter.2 ⟨h, decide_eq_true (List.prefix_append _ _)⟩, by dsimp only; rw [zEi]⟩
theorem zU {c d : Int} {l : List KV} (h : Rises l) : Rises (subL c d l) := by
 unfold subL Rises
 rw [List.pairwise_map]
 have h2 : (l.filter fun x => decide (keyH c d <+: x.1)).Pairwise fun a b => lt a.1 b.1 := List.Pairwise.sublist List.filter_sublist h
 refine List.Pairwise.imp_of_mem (fun {a b} ha hb hab => ?_) h2
 rw [List.mem_filter, decide_eq_true_eq] at ha hb
 obtain ⟨_, r, hr⟩ := ha
 obtain ⟨_, t, ht⟩ := hb
 dsimp only
 unfold lt at hab ⊢
 rw [← hr, ← ht] at hab ⊢
 rw [zGf] at hab
 rw [zEi, zEi]
 exact hab
theorem qW {c d : Int} {l : List KV} (h : Rises l) (x : List UInt8) : lget x (subL c d l) = lget (keyH c d ++ x) l := by
 cases hg : lget (keyH c d ++ x) l with
 | some v => exact (z5 (zU h)).2 (qE.2 ((z5 h).1 hg))
 | none =>
  cases hq : lget x (subL c d l) with
  | none => rfl
  | some v =>
   have := (z5 h).2 (qE.1 ((z5 (zU h)).1 hq))
   rw [hg] at this
   cases this
theorem zAu {c d c' d' : Int} (hc : L8 c) (hc' : L8 c') (hd : U32 d) (hd' : U32 d') {l : List KV} (h : Rises l) (x v : List UInt8) : subL c d (lset (keyH c' d' ++ x) v l) = if c = c' ∧ d = d' then lset x v (subL c d l) else subL c d l := by
 split
 ·rename_i e
  obtain ⟨rfl, rfl⟩ := e
  refine zA0 (zU (z7 h)) (z7 (zU h)) fun ⟨y, w⟩ => ?_
  rw [qE, y8 h, y8 (zU h), qE]
  simp only [Prod.mk.injEq, zBp hc hc' hd hd', true_and, ne_eq]
 ·rename_i e
  refine zA0 (zU (z7 h)) (zU h) fun ⟨y, w⟩ => ?_
  rw [qE, y8 h, qE]
  have key : ¬ (keyH c d ++ y = keyH c' d' ++ x) := fun q => by
   have := (zBp hc hc' hd hd').1 q
   exact e ⟨this.1, this.2.1⟩
  simp only [Prod.mk.injEq, key, false_and, false_or, ne_eq, not_false_eq_true, and_true]
theorem zAc {c d c' d' : Int} (hc : L8 c) (hc' : L8 c') (hd : U32 d) (hd' : U32 d') {l : List KV} (h : Rises l) (x : List UInt8) : subL c d (lcut (keyH c' d' ++ x) l) = if c = c' ∧ d = d' then lcut x (subL c d l) else subL c d l := by
 split
 ·rename_i e
  obtain ⟨rfl, rfl⟩ := e
  refine zA0 (zU (yC h)) (yC (zU h)) fun ⟨y, w⟩ => ?_
  rw [qE, zBm, zBm, qE]
  simp only [zBp hc hc' hd hd', true_and, ne_eq]
 ·rename_i e
  refine zA0 (zU (yC h)) (zU h) fun ⟨y, w⟩ => ?_
  rw [qE, zBm, qE]
  have key : ¬ (keyH c d ++ y = keyH c' d' ++ x) := fun q => by
   have := (zBp hc hc' hd hd').1 q
   exact e ⟨this.1, this.2.1⟩
  simp only [key, ne_eq, not_false_eq_true, and_true]
theorem zB0 {c d c' d' : Int} (hc : L8 c) (hc' : L8 c') (hd : U32 d) (hd' : U32 d') {l : List KV} (h : Rises l) (x y v : List UInt8) : lget (keyH c d ++ x) (lset (keyH c' d' ++ y) v l) = if c = c' ∧ d = d' ∧ x = y then some v else lget (keyH c d ++ x) l := by
 rw [yR h]
 by_cases e : c = c' ∧ d = d' ∧ x = y
 ·rw [if_pos e, if_pos ((zBp hc hc' hd hd').2 e)]
 ·rw [if_neg e, if_neg fun q => e ((zBp hc hc' hd hd').1 q)]
theorem zC9 {c d c' d' : Int} (hc : L8 c) (hc' : L8 c') (hd : U32 d) (hd' : U32 d') {l : List KV} (x y : List UInt8) : lget (keyH c d ++ x) (lcut (keyH c' d' ++ y) l) = if c = c' ∧ d = d' ∧ x = y then none else lget (keyH c d ++ x) l := by
 rw [qI]
 by_cases e : c = c' ∧ d = d' ∧ x = y
 ·rw [if_pos e, if_pos ((zBp hc hc' hd hd').2 e)]
 ·rw [if_neg e, if_neg fun q => e ((zBp hc hc' hd hd').1 q)]
def refB (j : Int) (y : KV) : Bool := (y.1.headD 0 == 69) && (y.2 == beB 4 j)
def refs (j : Int) (l : List KV) : Nat := l.countP (refB j)
def n1 (b : Bool) : Nat := if b = true then 1 else 0
theorem zFp (c d : Int) (x : List UInt8) : (keyH c d ++ x).headD 0 = UInt8.ofNat c.toNat := rfl
theorem qF {i j : Int} (hi : U32 i) (hj : U32 j) : beB 4 i = beB 4 j ↔ i = j :=
 ⟨fun e => by rw [← yM i hi, ← yM j hj, e], fun e => by rw [e]⟩
theorem zEo {c d : Int} (hc : c = 73 ∨ c = 68) (j : Int) (x v : List UInt8) : refB j (keyH c d ++ x, v) = false := by
 unfold refB
 rw [zFp]
 rcases hc with rfl | rfl <;> rfl
theorem zC6 {c d : Int} (hc : c = 73 ∨ c = 68) {l : List KV} (h : Rises l) (j : Int) (x v : List UInt8) : refs j (lset (keyH c d ++ x) v l) = refs j l := by
 have := zD2 (refB j) (k := keyH c d ++ x) (v := v) h
 unfold refs
 rw [zEo hc] at this
 cases hg : lget (keyH c d ++ x) l with
 | none => rw [hg] at this; simpa using this
 | some u => rw [hg] at this; dsimp only at this; rw [zEo hc] at this; simpa using this
theorem zBd {c d : Int} (hc : c = 73 ∨ c = 68) {l : List KV} (h : Rises l) (j : Int) (x : List UInt8) : refs j (lcut (keyH c d ++ x) l) = refs j l := by
 have := zDl (refB j) (k := keyH c d ++ x) h
 unfold refs
 cases hg : lget (keyH c d ++ x) l with
 | none => rw [hg] at this; simpa using this
 | some u => rw [hg] at this; dsimp only at this; rw [zEo hc] at this; simpa using this
theorem j4 {d : Int} (j : Int) (x v : List UInt8) : refB j (keyH 69 d ++ x, v) = (v == beB 4 j) := by
 unfold refB
 rw [zFp]
 rfl
theorem zJv {d i : Int} (hi : U32 i) {l : List KV} (h : Rises l) {j : Int} (hj : U32 j) (x : List UInt8) (hn : lget (keyH 69 d ++ x) l = none) : refs j (lset (keyH 69 d ++ x) (beB 4 i) l) = refs j l + (if i = j then 1 else 0) := by
 have := zD2 (refB j) (k := keyH 69 d ++ x) (v := beB 4 i) h
 rw [hn, j4] at this
 unfold refs
 by_cases e : i = j
 ·subst e; simpa using this
 ·have e2 : (beB 4 i == beB 4 j) = false := by simpa using fun q => e ((qF hi hj).1 q)
  rw [e2] at this
  rw [if_neg e]
  simpa using this
theorem zI9 {d i : Int} (hi : U32 i) {l : List KV} (h : Rises l) {j : Int} (hj : U32 j) (x : List UInt8) (hn : lget (keyH 69 d ++ x) l = some (beB 4 i)) : refs j (lcut (keyH 69 d ++ x) l) + (if i = j then 1 else 0) = refs j l := by
 have := zDl (refB j) (k := keyH 69 d ++ x) h
 rw [hn] at this
 dsimp only at this
 rw [j4] at this
 unfold refs
 by_cases e : i = j
 ·subst e; simpa using this
 ·have e2 : (beB 4 i == beB 4 j) = false := by simpa using fun q => e ((qF hi hj).1 q)
  rw [e2] at this
  rw [if_neg e]
  simpa using this
def trim0 (s : List UInt8) : List UInt8 := (s.reverse.dropWhile (· == 0)).reverse
def blkOf (b : List UInt8) : List KV := (List.range ((b.length + 63) / 64)).filterMap fun n => if trim0 ((b.drop (64 * n)).take 64) = [] then none else some (beB 2 (n : Int), trim0 ((b.drop (64 * n)).take 64))
theorem zKx : blkOf [] = [] := rfl
def subsN (m : MF) (e : List KV) : Nat := e.countP fun y => m.kind (beV y.2) == 2
structure Rel (l : List KV) (m : MF) (par : Int → Int) : Prop where
 ri : Rises l
 fst : ∀ x ∈ m, m.at x.i = some x
 u : ∀ j x, m.at j = some x → U32 j ∧ j ≠ 0
 root : ∃ x, m.at 1 = some x ∧ x.k = 2
 rpar : par 1 = 1
 nod : ∀ j x, m.at j = some x → ndOf j (lget (keyH 73 j) l) = some (x.k, x.n, (x.b.length : Int), par j)
 non : ∀ j, U32 j → m.at j = none → lget (keyH 73 j) l = none
 ent : ∀ j x, m.at j = some x → x.e = subL 69 j l
 eno : ∀ j, U32 j → m.at j = none → subL 69 j l = []
 blk : ∀ j x, m.at j = some x → subL 68 j l = blkOf x.b
 bno : ∀ j, U32 j → m.at j = none → subL 68 j l = []
 nam : ∀ j x, m.at j = some x → ∀ nm v, lget nm x.e = some v → nameB nm = true ∧ ∃ c z, v = beB 4 c ∧ m.at c = some z ∧ c ≠ 1 ∧ (z.k = 2 → par c = j)
 kin : ∀ j x, m.at j = some x → (x.k = 2 ∧ x.b = []) ∨ (x.k = 1 ∧ x.e = [] ∧ par j = 0)
 lkf : ∀ j x, m.at j = some x → x.k = 1 → x.n = (refs j l : Int)
 lkd : ∀ j x, m.at j = some x → x.k = 2 → x.n = 2 + (subsN m x.e : Int)
 one : ∀ j x, m.at j = some x → x.k = 2 → refs j l = if j = 1 then 0 else 1
 key : ∀ y ∈ l, ∃ c j r, (c = 73 ∧ r = [] ∨ c = 69 ∨ c = 68) ∧ U32 j ∧ y.1 = keyH c j ++ r
def par0 (j : Int) : Int := if j = 1 then 1 else 0
theorem Rel.new : Rel [] newM par0 := by
 have hat : ∀ j x, MF.at newM j = some x → j = 1 ∧ x = ⟨1, 2, 2, [], []⟩ := fun j x h => by
  have h1 := yY h
  have : x = ⟨1, 2, 2, [], []⟩ := by simpa [newM] using h1.1
  subst this
  exact ⟨h1.2.symm, rfl⟩
 have hsub : ∀ c j, subL c j [] = [] := fun _ _ => rfl
 refine ⟨by simp [Rises], fun x hx => ?_, fun j x h => ?_, ⟨_, rfl, rfl⟩, rfl, fun j x h => ?_, fun _ _ _ => rfl, fun j x h => ?_, fun _ _ _ => rfl, fun j x h => ?_, fun _ _ _ => rfl, fun j x h nm v hv => ?_, fun j x h => ?_, fun j x h hk => ?_, fun j x h hk => ?_, fun j x h hk => ?_, by simp⟩
 ·have : x = ⟨1, 2, 2, [], []⟩ := by simpa [newM] using hx
  subst this; rfl
 all_goals obtain ⟨rfl, rfl⟩ := hat j x h
 ·exact ⟨by decide, by decide⟩
 ·rfl
 ·rfl
 ·rfl
 ·cases hv
 ·exact .inl ⟨rfl, rfl⟩
 ·cases hk
 ·rfl
 ·rfl
structure SpSim (m : MF) (par : Int → Int) (a : Sp) (b : MS) : Prop where
 hd : a.d = b.d
 hm : a.m = b.m
 hi : a.i = b.i
 hn : a.i ≠ 0 → ∃ x, m.at a.i = some x ∧ a.n = (x.k, x.n, (x.b.length : Int), par a.i)
theorem jL {x : List UInt8} (h : nameB x = true) : x.length ≤ 32 := by
 unfold nameB at h
 simp only [Bool.and_eq_true, decide_eq_true_eq] at h
 omega
theorem zCc {d : Int} {m : List UInt8} (h : m.length ≤ 32) : entryK d m = keyH 69 d ++ m := by unfold entryK; rw [if_neg (by omega)]
theorem zIw {s : VS} {n : Nat} (h : VJ s n) (j : Int) : s.load j = ndOf j (lget (keyH 73 j) s.shown.row) := by
 unfold VS.load
 rw [yQ _ _ h.rs]
theorem zUr {s : VS} {n : Nat} (h : VJ s n) (j : Int) {x : List UInt8} (hx : x.length ≤ 32) : s.child j x = chOf (lget (keyH 69 j ++ x) s.shown.row) := by
 unfold VS.child
 rw [yQ _ _ h.rs, zCc hx]
theorem gF_be4' {i : Int} (h : U32 i) : gF (beB 4 i) 0 = i := by
 unfold gF
 rw [List.drop_zero, List.take_of_length_le (by rw [yD]; omega), yM i h]
theorem zLg {i : Int} (h : U32 i) : chOf (some (beB 4 i)) = some i := by
 unfold chOf
 rw [if_pos (by simp [yD])]
 simp only [Option.getD_some, gF_be4' h]
theorem Rel.load {s : VS} {n : Nat} (h : VJ s n) {m : MF} {par : Int → Int} (R : Rel s.shown.row m par) {j : Int} {x : MN} (hx : m.at j = some x) : s.load j = some (x.k, x.n, (x.b.length : Int), par j) := by
 rw [zIw h]; exact R.nod j x hx
theorem zV5 {s : VS} {n : Nat} (h : VJ s n) {m : MF} {par : Int → Int} (R : Rel s.shown.row m par) {a : Sp} {x : MN} (hx : m.at a.i = some x) {nm : List UInt8} (hn : nameB nm = true) : SpSim m par (stepF s a nm).1 ⟨a.i, nm, x.entry nm⟩ := by
 have hc := zUr h a.i (jL hn)
 rw [← qW R.ri, ← R.ent _ _ hx] at hc
 unfold stepF MN.entry
 cases hg : lget nm x.e with
 | none =>
  rw [hg] at hc
  have hc : s.child a.i nm = none := hc
  rw [hc]
  exact ⟨rfl, rfl, rfl, fun q => absurd rfl q⟩
 | some v =>
  obtain ⟨_, c, z, rfl, hz, hc1, _⟩ := R.nam _ _ hx nm v hg
  obtain ⟨hcu, hc0⟩ := R.u c z hz
  rw [hg, zLg hcu] at hc
  rw [hc]
  dsimp only
  have hl := R.load h hz
  rw [hl, yM c hcu, if_pos ⟨rfl, hc0⟩]
  exact ⟨rfl, rfl, rfl, fun _ => ⟨z, hz, rfl⟩⟩
theorem zWi {s : VS} {n : Nat} (h : VJ s n) {m : MF} {par : Int → Int} (R : Rel s.shown.row m par) : ∀ (N : List (List UInt8)) (a : Sp) (b : MS) (ks : List (List UInt8)), (∀ x ∈ N, nameB x = true) → SpSim m par a b → (goF s N a ks).2.1 = (m.go N b).2 ∧ ((m.go N b).2 = 0 → SpSim m par (goF s N a ks).1 (m.go N b).1)
 | [], a, b, ks, _, hs => ⟨rfl, fun _ => hs⟩
 | nm :: r, a, b, ks, hN, hs => by
  rw [zPe]
  unfold MF.go
  rw [← hs.hi]
  by_cases h0 : a.i = 0
  ·rw [if_pos h0, if_pos h0]; exact ⟨rfl, fun e => by cases e⟩
  rw [if_neg h0, if_neg h0]
  obtain ⟨x, hx, hax⟩ := hs.hn h0
  rw [hx]
  dsimp only
  have hk : a.n.1 = x.k := by rw [hax]
  rw [hk]
  by_cases hk2 : x.k ≠ 2
  ·rw [if_pos hk2, if_pos hk2]; exact ⟨rfl, fun e => by cases e⟩
  rw [if_neg hk2, if_neg hk2]
  exact zWi h R r _ _ _ (fun y hy => hN y (by simp [hy])) (zV5 h R hx (hN nm (by simp)))
theorem zBj {s : VS} {n : Nat} (h : VJ s n) {m : MF} {par : Int → Int} (R : Rel s.shown.row m par) (p : List UInt8) : (s.find p).2.1 = (m.findP p).2 ∧ ((m.findP p).2 = 0 → SpSim m par (s.find p).1 (m.findP p).1) := by
 unfold VS.find MF.findP
 by_cases he : (splitN p).2 ≠ 0
 ·rw [if_pos he, if_pos he]; exact ⟨rfl, fun e => absurd e he⟩
 rw [if_neg he, if_neg he]
 have hN := (zA8 (l := p) (by simpa using he)).2.2
 refine zWi h R (namesP p) (spR s) ⟨0, [], 1⟩ _ hN ⟨rfl, rfl, rfl, fun _ => ?_⟩
 obtain ⟨x, hx, _⟩ := R.root
 refine ⟨x, hx, ?_⟩
 have := R.load h hx
 unfold spR
 dsimp only
 rw [this]; rfl
theorem Rel.spot {l : List KV} {m : MF} {par : Int → Int} (R : Rel l m par) {c : Nat} (hw : m.wk c) : m.ok c :=
 ⟨hw, R.root.elim fun x h => ⟨x, h.1⟩, fun x hx y hy => by
  have hr := hw.r x hx
  have hg := (z5 hr).2 (show (y.1, y.2) ∈ x.e from hy)
  obtain ⟨_, c, z, h1, h2, _⟩ := R.nam _ _ (R.fst x hx) _ _ hg
  rw [h1, yM c (R.u c z h2).1]
  exact ⟨z, h2⟩⟩
end Go.Proofs.YtdnpkgakpiopgaaGreatDoor

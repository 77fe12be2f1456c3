import Derived.Test.YtdkegmmigongoaaGreatDoorGo
import Derived.Test.YtdkegmmigongoaaGreatDoorM10
import Derived.Test.YtdkegmmigongoaaGreatDoorM2
import Derived.Test.YtdkegmmigongoaaGreatDoorM11
import Derived.Test.YtdkegmmigongoaaGreatDoorM13
namespace Go.Proofs.YtdkegmmigongoaaGreatDoor
set_option maxRecDepth 20000
open Go.Awp Tr
def subL (c d : Int) (l : List KV) : List KV := (l.filter fun x => decide (keyH c d <+: x.1)).map fun x => (x.1.drop 5, x.2)
abbrev L8 (c : Int) : Prop := 0 ≤ c ∧ c ≤ 255
theorem key_iff {c d c' d' : Int} {x y : List UInt8} (hc : L8 c) (hc' : L8 c') (hd : U32 d) (hd' : U32 d') : keyH c d ++ x = keyH c' d' ++ y ↔ c = c' ∧ d = d' ∧ x = y :=
 ⟨fun e => key_inj hc hc' hd hd' e, fun ⟨e1, e2, e3⟩ => by rw [e1, e2, e3]⟩
theorem sub_mem {c d : Int} {l : List KV} {x v : List UInt8} : (x, v) ∈ subL c d l ↔ (keyH c d ++ x, v) ∈ l := by
 unfold subL
 rw [List.mem_map]
 constructor
 ·rintro ⟨y, hy, e⟩
  rw [List.mem_filter, decide_eq_true_eq] at hy
  obtain ⟨h1, r, h2⟩ := hy
  obtain ⟨e1, e2⟩ := Prod.mk.inj e
  rw [← h2, drop_app5] at e1
  subst e1 e2
  rw [h2]
  exact h1
 ·intro h
  exact ⟨_, List.mem_filter.2 ⟨h, decide_eq_true (List.prefix_append _ _)⟩, by dsimp only; rw [drop_app5]⟩
theorem sub_rises {c d : Int} {l : List KV} (h : Rises l) : Rises (subL c d l) := by
 unfold subL Rises
 rw [List.pairwise_map]
 have h2 : (l.filter fun x => decide (keyH c d <+: x.1)).Pairwise fun a b => lt a.1 b.1 := List.Pairwise.sublist List.filter_sublist h
 refine List.Pairwise.imp_of_mem (fun {a b} ha hb hab => ?_) h2
 rw [List.mem_filter, decide_eq_true_eq] at ha hb
 obtain ⟨_, r, hr⟩ := ha
 obtain ⟨_, t, ht⟩ := hb
 dsimp only
 unfold lt at hab ⊢
 rw [← hr, ← ht] at hab ⊢
 rw [bl_append] at hab
 rw [drop_app5, drop_app5]
 exact hab
theorem sub_get {c d : Int} {l : List KV} (h : Rises l) (x : List UInt8) : lget x (subL c d l) = lget (keyH c d ++ x) l := by
 cases hg : lget (keyH c d ++ x) l with
 | some v => exact (lget_some (sub_rises h)).2 (sub_mem.2 ((lget_some h).1 hg))
 | none =>
  cases hq : lget x (subL c d l) with
  | none => rfl
  | some v =>
   have := (lget_some h).2 (sub_mem.1 ((lget_some (sub_rises h)).1 hq))
   rw [hg] at this
   cases this
theorem sub_set {c d c' d' : Int} (hc : L8 c) (hc' : L8 c') (hd : U32 d) (hd' : U32 d') {l : List KV} (h : Rises l) (x v : List UInt8) : subL c d (lset (keyH c' d' ++ x) v l) = if c = c' ∧ d = d' then lset x v (subL c d l) else subL c d l := by
 split
 ·rename_i e
  obtain ⟨rfl, rfl⟩ := e
  refine rises_ext (sub_rises (lset_rises h)) (lset_rises (sub_rises h)) fun ⟨y, w⟩ => ?_
  rw [sub_mem, lset_mem_iff h, lset_mem_iff (sub_rises h), sub_mem]
  simp only [Prod.mk.injEq, key_iff hc hc' hd hd', true_and, ne_eq]
 ·rename_i e
  refine rises_ext (sub_rises (lset_rises h)) (sub_rises h) fun ⟨y, w⟩ => ?_
  rw [sub_mem, lset_mem_iff h, sub_mem]
  have key : ¬ (keyH c d ++ y = keyH c' d' ++ x) := fun q => by
   have := (key_iff hc hc' hd hd').1 q
   exact e ⟨this.1, this.2.1⟩
  simp only [Prod.mk.injEq, key, false_and, false_or, ne_eq, not_false_eq_true, and_true]
theorem sub_cut {c d c' d' : Int} (hc : L8 c) (hc' : L8 c') (hd : U32 d) (hd' : U32 d') {l : List KV} (h : Rises l) (x : List UInt8) : subL c d (lcut (keyH c' d' ++ x) l) = if c = c' ∧ d = d' then lcut x (subL c d l) else subL c d l := by
 split
 ·rename_i e
  obtain ⟨rfl, rfl⟩ := e
  refine rises_ext (sub_rises (lcut_rises h)) (lcut_rises (sub_rises h)) fun ⟨y, w⟩ => ?_
  rw [sub_mem, lcut_mem, lcut_mem, sub_mem]
  simp only [key_iff hc hc' hd hd', true_and, ne_eq]
 ·rename_i e
  refine rises_ext (sub_rises (lcut_rises h)) (sub_rises h) fun ⟨y, w⟩ => ?_
  rw [sub_mem, lcut_mem, sub_mem]
  have key : ¬ (keyH c d ++ y = keyH c' d' ++ x) := fun q => by
   have := (key_iff hc hc' hd hd').1 q
   exact e ⟨this.1, this.2.1⟩
  simp only [key, ne_eq, not_false_eq_true, and_true]
theorem get_set {c d c' d' : Int} (hc : L8 c) (hc' : L8 c') (hd : U32 d) (hd' : U32 d') {l : List KV} (h : Rises l) (x y v : List UInt8) : lget (keyH c d ++ x) (lset (keyH c' d' ++ y) v l) = if c = c' ∧ d = d' ∧ x = y then some v else lget (keyH c d ++ x) l := by
 rw [lget_lset h]
 by_cases e : c = c' ∧ d = d' ∧ x = y
 ·rw [if_pos e, if_pos ((key_iff hc hc' hd hd').2 e)]
 ·rw [if_neg e, if_neg fun q => e ((key_iff hc hc' hd hd').1 q)]
theorem get_cut {c d c' d' : Int} (hc : L8 c) (hc' : L8 c') (hd : U32 d) (hd' : U32 d') {l : List KV} (x y : List UInt8) : lget (keyH c d ++ x) (lcut (keyH c' d' ++ y) l) = if c = c' ∧ d = d' ∧ x = y then none else lget (keyH c d ++ x) l := by
 rw [lget_lcut]
 by_cases e : c = c' ∧ d = d' ∧ x = y
 ·rw [if_pos e, if_pos ((key_iff hc hc' hd hd').2 e)]
 ·rw [if_neg e, if_neg fun q => e ((key_iff hc hc' hd hd').1 q)]
def refB (j : Int) (y : KV) : Bool := (y.1.headD 0 == 69) && (y.2 == beB 4 j)
def refs (j : Int) (l : List KV) : Nat := l.countP (refB j)
def n1 (b : Bool) : Nat := if b = true then 1 else 0
theorem head_key (c d : Int) (x : List UInt8) : (keyH c d ++ x).headD 0 = UInt8.ofNat c.toNat := rfl
theorem be4_inj {i j : Int} (hi : U32 i) (hj : U32 j) : beB 4 i = beB 4 j ↔ i = j :=
 ⟨fun e => by rw [← beV_be4 i hi, ← beV_be4 j hj, e], fun e => by rw [e]⟩
theorem refs_other {c d : Int} (hc : c = 73 ∨ c = 68) (j : Int) (x v : List UInt8) : refB j (keyH c d ++ x, v) = false := by
 unfold refB
 rw [head_key]
 rcases hc with rfl | rfl <;> rfl
theorem refs_set_no {c d : Int} (hc : c = 73 ∨ c = 68) {l : List KV} (h : Rises l) (j : Int) (x v : List UInt8) : refs j (lset (keyH c d ++ x) v l) = refs j l := by
 have := count_set (refB j) (k := keyH c d ++ x) (v := v) h
 unfold refs
 rw [refs_other hc] at this
 cases hg : lget (keyH c d ++ x) l with
 | none => rw [hg] at this; simpa using this
 | some u => rw [hg] at this; dsimp only at this; rw [refs_other hc] at this; simpa using this
theorem refs_cut_no {c d : Int} (hc : c = 73 ∨ c = 68) {l : List KV} (h : Rises l) (j : Int) (x : List UInt8) : refs j (lcut (keyH c d ++ x) l) = refs j l := by
 have := count_cut (refB j) (k := keyH c d ++ x) h
 unfold refs
 cases hg : lget (keyH c d ++ x) l with
 | none => rw [hg] at this; simpa using this
 | some u => rw [hg] at this; dsimp only at this; rw [refs_other hc] at this; simpa using this
theorem refB_ent {d : Int} (j : Int) (x v : List UInt8) : refB j (keyH 69 d ++ x, v) = (v == beB 4 j) := by
 unfold refB
 rw [head_key]
 rfl
theorem refs_set {d i : Int} (hi : U32 i) {l : List KV} (h : Rises l) {j : Int} (hj : U32 j) (x : List UInt8) (hn : lget (keyH 69 d ++ x) l = none) : refs j (lset (keyH 69 d ++ x) (beB 4 i) l) = refs j l + (if i = j then 1 else 0) := by
 have := count_set (refB j) (k := keyH 69 d ++ x) (v := beB 4 i) h
 rw [hn, refB_ent] at this
 unfold refs
 by_cases e : i = j
 ·subst e; simpa using this
 ·have e2 : (beB 4 i == beB 4 j) = false := by simpa using fun q => e ((be4_inj hi hj).1 q)
  rw [e2] at this
  rw [if_neg e]
  simpa using this
theorem refs_cut {d i : Int} (hi : U32 i) {l : List KV} (h : Rises l) {j : Int} (hj : U32 j) (x : List UInt8) (hn : lget (keyH 69 d ++ x) l = some (beB 4 i)) : refs j (lcut (keyH 69 d ++ x) l) + (if i = j then 1 else 0) = refs j l := by
 have := count_cut (refB j) (k := keyH 69 d ++ x) h
 rw [hn] at this
 dsimp only at this
 rw [refB_ent] at this
 unfold refs
 by_cases e : i = j
 ·subst e; simpa using this
 ·have e2 : (beB 4 i == beB 4 j) = false := by simpa using fun q => e ((be4_inj hi hj).1 q)
  rw [e2] at this
  rw [if_neg e]
  simpa using this
def trim0 (s : List UInt8) : List UInt8 := (s.reverse.dropWhile (· == 0)).reverse
def blkOf (b : List UInt8) : List KV := (List.range ((b.length + 63) / 64)).filterMap fun n => if trim0 ((b.drop (64 * n)).take 64) = [] then none else some (beB 2 (n : Int), trim0 ((b.drop (64 * n)).take 64))
theorem blkOf_nil : blkOf [] = [] := rfl
def subsN (m : MF) (e : List KV) : Nat := e.countP fun y => m.kind (beV y.2) == 2
structure Rel (l : List KV) (m : MF) (par : Int → Int) : Prop where
 ri : Rises l
 fst : ∀ x ∈ m, m.at x.i = some x
 u : ∀ j x, m.at j = some x → U32 j ∧ j ≠ 0
 root : ∃ x, m.at 1 = some x ∧ x.k = 2
 rpar : par 1 = 1
 nod : ∀ j x, m.at j = some x → ndOf j (lget (keyH 73 j) l) = some (x.k, x.n, (x.b.length : Int), par j)
 non : ∀ j, U32 j → m.at j = none → lget (keyH 73 j) l = none
 ent : ∀ j x, m.at j = some x → x.e = subL 69 j l
 eno : ∀ j, U32 j → m.at j = none → subL 69 j l = []
 blk : ∀ j x, m.at j = some x → subL 68 j l = blkOf x.b
 bno : ∀ j, U32 j → m.at j = none → subL 68 j l = []
 nam : ∀ j x, m.at j = some x → ∀ nm v, lget nm x.e = some v → nameB nm = true ∧ ∃ c z, v = beB 4 c ∧ m.at c = some z ∧ c ≠ 1 ∧ (z.k = 2 → par c = j)
 kin : ∀ j x, m.at j = some x → (x.k = 2 ∧ x.b = []) ∨ (x.k = 1 ∧ x.e = [] ∧ par j = 0)
 lkf : ∀ j x, m.at j = some x → x.k = 1 → x.n = (refs j l : Int)
 lkd : ∀ j x, m.at j = some x → x.k = 2 → x.n = 2 + (subsN m x.e : Int)
 one : ∀ j x, m.at j = some x → x.k = 2 → refs j l = if j = 1 then 0 else 1
 key : ∀ y ∈ l, ∃ c j r, (c = 73 ∧ r = [] ∨ c = 69 ∨ c = 68) ∧ U32 j ∧ y.1 = keyH c j ++ r
def par0 (j : Int) : Int := if j = 1 then 1 else 0
theorem Rel.new : Rel [] newM par0 := by
 have hat : ∀ j x, MF.at newM j = some x → j = 1 ∧ x = ⟨1, 2, 2, [], []⟩ := fun j x h => by
  have h1 := at_mem h
  have : x = ⟨1, 2, 2, [], []⟩ := by simpa [newM] using h1.1
  subst this
  exact ⟨h1.2.symm, rfl⟩
 have hsub : ∀ c j, subL c j [] = [] := fun _ _ => rfl
 refine ⟨by simp [Rises], fun x hx => ?_, fun j x h => ?_, ⟨_, rfl, rfl⟩, rfl, fun j x h => ?_, fun _ _ _ => rfl, fun j x h => ?_, fun _ _ _ => rfl, fun j x h => ?_, fun _ _ _ => rfl, fun j x h nm v hv => ?_, fun j x h => ?_, fun j x h hk => ?_, fun j x h hk => ?_, fun j x h hk => ?_, by simp⟩
 ·have : x = ⟨1, 2, 2, [], []⟩ := by simpa [newM] using hx
  subst this; rfl
 all_goals obtain ⟨rfl, rfl⟩ := hat j x h
 ·exact ⟨by decide, by decide⟩
 ·rfl
 ·rfl
 ·rfl
 ·cases hv
 ·exact .inl ⟨rfl, rfl⟩
 ·cases hk
 ·rfl
 ·rfl
structure SpSim (m : MF) (par : Int → Int) (a : Sp) (b : MS) : Prop where
 hd : a.d = b.d
 hm : a.m = b.m
 hi : a.i = b.i
 hn : a.i ≠ 0 → ∃ x, m.at a.i = some x ∧ a.n = (x.k, x.n, (x.b.length : Int), par a.i)
theorem nameB_len {x : List UInt8} (h : nameB x = true) : x.length ≤ 32 := by
 unfold nameB at h
 simp only [Bool.and_eq_true, decide_eq_true_eq] at h
 omega
theorem entK_is {d : Int} {m : List UInt8} (h : m.length ≤ 32) : entryK d m = keyH 69 d ++ m := by unfold entryK; rw [if_neg (by omega)]
theorem load_row {s : VS} {n : Nat} (h : VJ s n) (j : Int) : s.load j = ndOf j (lget (keyH 73 j) s.shown.row) := by
 unfold VS.load
 rw [get_row _ _ h.rs]
theorem child_row {s : VS} {n : Nat} (h : VJ s n) (j : Int) {x : List UInt8} (hx : x.length ≤ 32) : s.child j x = chOf (lget (keyH 69 j ++ x) s.shown.row) := by
 unfold VS.child
 rw [get_row _ _ h.rs, entK_is hx]
theorem gF_be4' {i : Int} (h : U32 i) : gF (beB 4 i) 0 = i := by
 unfold gF
 rw [List.drop_zero, List.take_of_length_le (by rw [beB_len]; omega), beV_be4 i h]
theorem chOf_be4' {i : Int} (h : U32 i) : chOf (some (beB 4 i)) = some i := by
 unfold chOf
 rw [if_pos (by simp [beB_len])]
 simp only [Option.getD_some, gF_be4' h]
theorem Rel.load {s : VS} {n : Nat} (h : VJ s n) {m : MF} {par : Int → Int} (R : Rel s.shown.row m par) {j : Int} {x : MN} (hx : m.at j = some x) : s.load j = some (x.k, x.n, (x.b.length : Int), par j) := by
 rw [load_row h]; exact R.nod j x hx
theorem stepF_sim {s : VS} {n : Nat} (h : VJ s n) {m : MF} {par : Int → Int} (R : Rel s.shown.row m par) {a : Sp} {x : MN} (hx : m.at a.i = some x) {nm : List UInt8} (hn : nameB nm = true) : SpSim m par (stepF s a nm).1 ⟨a.i, nm, x.entry nm⟩ := by
 have hc := child_row h a.i (nameB_len hn)
 rw [← sub_get R.ri, ← R.ent _ _ hx] at hc
 unfold stepF MN.entry
 cases hg : lget nm x.e with
 | none =>
  rw [hg] at hc
  have hc : s.child a.i nm = none := hc
  rw [hc]
  exact ⟨rfl, rfl, rfl, fun q => absurd rfl q⟩
 | some v =>
  obtain ⟨_, c, z, rfl, hz, hc1, _⟩ := R.nam _ _ hx nm v hg
  obtain ⟨hcu, hc0⟩ := R.u c z hz
  rw [hg, chOf_be4' hcu] at hc
  rw [hc]
  dsimp only
  have hl := R.load h hz
  rw [hl, beV_be4 c hcu, if_pos ⟨rfl, hc0⟩]
  exact ⟨rfl, rfl, rfl, fun _ => ⟨z, hz, rfl⟩⟩
theorem goF_sim {s : VS} {n : Nat} (h : VJ s n) {m : MF} {par : Int → Int} (R : Rel s.shown.row m par) : ∀ (N : List (List UInt8)) (a : Sp) (b : MS) (ks : List (List UInt8)), (∀ x ∈ N, nameB x = true) → SpSim m par a b → (goF s N a ks).2.1 = (m.go N b).2 ∧ ((m.go N b).2 = 0 → SpSim m par (goF s N a ks).1 (m.go N b).1)
 | [], a, b, ks, _, hs => ⟨rfl, fun _ => hs⟩
 | nm :: r, a, b, ks, hN, hs => by
  rw [goF_cons]
  unfold MF.go
  rw [← hs.hi]
  by_cases h0 : a.i = 0
  ·rw [if_pos h0, if_pos h0]; exact ⟨rfl, fun e => by cases e⟩
  rw [if_neg h0, if_neg h0]
  obtain ⟨x, hx, hax⟩ := hs.hn h0
  rw [hx]
  dsimp only
  have hk : a.n.1 = x.k := by rw [hax]
  rw [hk]
  by_cases hk2 : x.k ≠ 2
  ·rw [if_pos hk2, if_pos hk2]; exact ⟨rfl, fun e => by cases e⟩
  rw [if_neg hk2, if_neg hk2]
  exact goF_sim h R r _ _ _ (fun y hy => hN y (by simp [hy])) (stepF_sim h R hx (hN nm (by simp)))
theorem find_sim {s : VS} {n : Nat} (h : VJ s n) {m : MF} {par : Int → Int} (R : Rel s.shown.row m par) (p : List UInt8) : (s.find p).2.1 = (m.findP p).2 ∧ ((m.findP p).2 = 0 → SpSim m par (s.find p).1 (m.findP p).1) := by
 unfold VS.find MF.findP
 by_cases he : (splitN p).2 ≠ 0
 ·rw [if_pos he, if_pos he]; exact ⟨rfl, fun e => absurd e he⟩
 rw [if_neg he, if_neg he]
 have hN := (splitN_eq (l := p) (by simpa using he)).2.2
 refine goF_sim h R (namesP p) (spR s) ⟨0, [], 1⟩ _ hN ⟨rfl, rfl, rfl, fun _ => ?_⟩
 obtain ⟨x, hx, _⟩ := R.root
 refine ⟨x, hx, ?_⟩
 have := R.load h hx
 unfold spR
 dsimp only
 rw [this]; rfl
theorem Rel.spot {l : List KV} {m : MF} {par : Int → Int} (R : Rel l m par) {c : Nat} (hw : m.wk c) : m.ok c :=
 ⟨hw, R.root.elim fun x h => ⟨x, h.1⟩, fun x hx y hy => by
  have hr := hw.r x hx
  have hg := (lget_some hr).2 (show (y.1, y.2) ∈ x.e from hy)
  obtain ⟨_, c, z, h1, h2, _⟩ := R.nam _ _ (R.fst x hx) _ _ hg
  rw [h1, beV_be4 c (R.u c z h2).1]
  exact ⟨z, h2⟩⟩
abbrev Nods := Int → Option MN
def kindA (A : Nods) (j : Int) : Int := match A j with
 | some x => x.k
 | none => 0
def subsA (A : Nods) (e : List KV) : Nat := e.countP fun y => kindA A (beV y.2) == 2
def updA (A : Nods) (j : Int) (x : Option MN) : Nods := fun i => if i = j then x else A i
structure RelA (l : List KV) (A : Nods) (par df ds : Int → Int) : Prop where
 ri : Rises l
 id : ∀ j x, A j = some x → x.i = j
 u : ∀ j x, A j = some x → U32 j ∧ j ≠ 0
 root : ∃ x, A 1 = some x ∧ x.k = 2
 rpar : par 1 = 1
 nod : ∀ j x, A j = some x → ndOf j (lget (keyH 73 j) l) = some (x.k, x.n, (x.b.length : Int), par j)
 non : ∀ j, U32 j → A j = none → lget (keyH 73 j) l = none
 ent : ∀ j x, A j = some x → x.e = subL 69 j l
 eno : ∀ j, U32 j → A j = none → subL 69 j l = []
 blk : ∀ j x, A j = some x → subL 68 j l = blkOf x.b
 bno : ∀ j, U32 j → A j = none → subL 68 j l = []
 nam : ∀ j x, A j = some x → ∀ nm v, lget nm x.e = some v → nameB nm = true ∧ ∃ c z, v = beB 4 c ∧ A c = some z ∧ c ≠ 1 ∧ (z.k = 2 → par c = j)
 kin : ∀ j x, A j = some x → (x.k = 2 ∧ x.b = []) ∨ (x.k = 1 ∧ x.e = [] ∧ par j = 0)
 lkf : ∀ j x, A j = some x → x.k = 1 → x.n + df j = (refs j l : Int)
 lkd : ∀ j x, A j = some x → x.k = 2 → x.n + ds j = 2 + (subsA A x.e : Int)
 one : ∀ j x, A j = some x → x.k = 2 → (refs j l : Int) = (if j = 1 then 0 else 1) + df j
 key : ∀ y ∈ l, ∃ c j r, (c = 73 ∧ r = [] ∨ c = 69 ∨ c = 68) ∧ U32 j ∧ y.1 = keyH c j ++ r
def z0 : Int → Int := fun _ => 0
theorem Rel.toA {l : List KV} {m : MF} {par : Int → Int} (R : Rel l m par) : RelA l m.at par z0 z0 :=
 ⟨R.ri, fun j x h => (at_mem h).2, R.u, R.root, R.rpar, R.nod, R.non, R.ent, R.eno, R.blk, R.bno, R.nam, R.kin, fun j x h hk => by rw [R.lkf j x h hk]; unfold z0; omega, fun j x h hk => by
  have := R.lkd j x h hk
  have e : subsN m x.e = subsA m.at x.e := rfl
  rw [← e, this]; unfold z0; omega, fun j x h hk => by rw [R.one j x h hk]; unfold z0; split <;> rfl, R.key⟩
theorem RelA.toM {l : List KV} {m : MF} {A : Nods} {par df ds : Int → Int} (R : RelA l A par df ds) (hA : m.at = A) (hf : ∀ x ∈ m, m.at x.i = some x) (h1 : ∀ j, df j = 0) (h2 : ∀ j, ds j = 0) : Rel l m par := by
 subst hA
 exact ⟨R.ri, hf, R.u, R.root, R.rpar, R.nod, R.non, R.ent, R.eno, R.blk, R.bno, R.nam, R.kin, fun j x h hk => by have := R.lkf j x h hk; rw [h1] at this; omega, fun j x h hk => by
  have := R.lkd j x h hk
  rw [h2] at this
  have e : subsN m x.e = subsA m.at x.e := rfl
  rw [e]; omega, fun j x h hk => by
  have := R.one j x h hk
  rw [h1] at this
  split at this <;> rename_i e
  ·rw [if_pos e]; omega
  ·rw [if_neg e]; omega, R.key⟩
theorem updA_same (A : Nods) (j : Int) (x : Option MN) : updA A j x j = x := if_pos rfl
theorem updA_ne (A : Nods) {i j : Int} (x : Option MN) (h : i ≠ j) : updA A j x i = A i := if_neg h
theorem RelA.val {l : List KV} {A : Nods} {par df ds : Int → Int} (R : RelA l A par df ds) {j : Int} {x : MN} (hx : A j = some x) {y : KV} (hy : y ∈ x.e) : ∃ c z, y.2 = beB 4 c ∧ A c = some z ∧ c ≠ 1 ∧ U32 c := by
 have hr : Rises x.e := by rw [R.ent j x hx]; exact sub_rises R.ri
 obtain ⟨_, c, z, h1, h2, h3, _⟩ := R.nam j x hx y.1 y.2 ((lget_some hr).2 hy)
 exact ⟨c, z, h1, h2, h3, (R.u c z h2).1⟩
theorem subsA_congr {A B : Nods} {e : List KV} (h : ∀ y ∈ e, kindA A (beV y.2) = kindA B (beV y.2)) : subsA A e = subsA B e := by
 unfold subsA
 exact List.countP_congr fun y hy => by rw [h y hy]
theorem kindA_upd {A : Nods} {j : Int} {x y : MN} (hx : A j = some x) (hk : y.k = x.k) (i : Int) : kindA (updA A j (some y)) i = kindA A i := by
 unfold kindA
 by_cases e : i = j
 ·subst e; rw [updA_same, hx]; exact hk
 ·rw [updA_ne _ _ e]
theorem L69 : L8 69 := by decide
theorem L73 : L8 73 := by decide
theorem L68 : L8 68 := by decide
theorem get73 (j : Int) (l : List KV) : lget (keyH 73 j) l = lget (keyH 73 j ++ []) l := by rw [List.append_nil]
theorem RelA.hang {l : List KV} {A : Nods} {par df ds : Int → Int} (R : RelA l A par df ds) {d i : Int} {xd z : MN} (hd : A d = some xd) (hdk : xd.k = 2) {nm : List UInt8} (hnm : nameB nm = true) (hno : lget nm xd.e = none) (hi : A i = some z) (hi1 : i ≠ 1) (hpar : z.k = 2 → par i = d) :
  RelA (lset (keyH 69 d ++ nm) (beB 4 i) l) (updA A d (some { xd with e := lset nm (beB 4 i) xd.e })) par (fun j => df j + if i = j then 1 else 0) (fun j => ds j + if d = j ∧ z.k = 2 then 1 else 0) := by
 have hdu := (R.u d xd hd).1
 have hiu := (R.u i z hi).1
 have hri : Rises (lset (keyH 69 d ++ nm) (beB 4 i) l) := lset_rises R.ri
 have hre : Rises xd.e := by rw [R.ent d xd hd]; exact sub_rises R.ri
 have hnl : lget (keyH 69 d ++ nm) l = none := by rw [← sub_get R.ri, ← R.ent d xd hd]; exact hno
 have hkA : ∀ c, kindA (updA A d (some { xd with e := lset nm (beB 4 i) xd.e })) c = kindA A c := kindA_upd hd rfl
 have hsu : ∀ e, subsA (updA A d (some { xd with e := lset nm (beB 4 i) xd.e })) e = subsA A e := fun e => subsA_congr fun y _ => hkA _
 have hlive : ∀ {c : Int} {w : MN}, A c = some w → ∃ w', updA A d (some { xd with e := lset nm (beB 4 i) xd.e }) c = some w' ∧ w'.k = w.k := fun {c w} hw => by
  by_cases e : c = d
  ·subst e
   rw [hd] at hw
   obtain rfl := Option.some.inj hw
   exact ⟨_, updA_same .., rfl⟩
  ·exact ⟨w, by rw [updA_ne _ _ e]; exact hw, rfl⟩
 have hnone : ∀ {c : Int}, updA A d (some { xd with e := lset nm (beB 4 i) xd.e }) c = none → A c = none ∧ c ≠ d := fun {c} h => by
  by_cases e : c = d
  ·subst e; rw [updA_same] at h; cases h
  ·rw [updA_ne _ _ e] at h; exact ⟨h, e⟩
 have hold : ∀ {j : Int} {x : MN}, updA A d (some { xd with e := lset nm (beB 4 i) xd.e }) j = some x → (j = d ∧ x = { xd with e := lset nm (beB 4 i) xd.e }) ∨ (j ≠ d ∧ A j = some x) := fun {j x} h => by
  by_cases e : j = d
  ·subst e; rw [updA_same] at h; exact .inl ⟨rfl, (Option.some.inj h).symm⟩
  ·rw [updA_ne _ _ e] at h; exact .inr ⟨e, h⟩
 have h73 : ∀ j, U32 j → lget (keyH 73 j) (lset (keyH 69 d ++ nm) (beB 4 i) l) = lget (keyH 73 j) l := fun j hj => by
  rw [get73, get_set L73 L69 hj hdu R.ri, if_neg (fun q => by have := q.1; omega), ← get73]
 refine ⟨hri, fun j x h => ?_, fun j x h => ?_, ?_, R.rpar, fun j x h => ?_, fun j hj h => ?_, fun j x h => ?_, fun j hj h => ?_, fun j x h => ?_, fun j hj h => ?_, fun j x h nm' v hv => ?_, fun j x h => ?_, fun j x h hk => ?_, fun j x h hk => ?_, fun j x h hk => ?_, fun y hy => ?_⟩
 ·rcases hold h with ⟨rfl, rfl⟩ | ⟨_, h⟩
  ·exact R.id j xd hd
  ·exact R.id j x h
 ·rcases hold h with ⟨rfl, rfl⟩ | ⟨_, h⟩
  ·exact R.u j xd hd
  ·exact R.u j x h
 ·obtain ⟨x, h1, h2⟩ := R.root
  obtain ⟨w, h3, h4⟩ := hlive h1
  exact ⟨w, h3, h4.trans h2⟩
 ·rcases hold h with ⟨rfl, rfl⟩ | ⟨_, h⟩
  ·rw [h73 j hdu]; exact R.nod j xd hd
  ·rw [h73 j (R.u j x h).1]; exact R.nod j x h
 ·rw [h73 j hj]; exact R.non j hj (hnone h).1
 ·rcases hold h with ⟨rfl, rfl⟩ | ⟨hne, h⟩
  ·rw [sub_set L69 L69 hdu hdu R.ri, if_pos ⟨rfl, rfl⟩, ← R.ent j xd hd]
  ·rw [sub_set L69 L69 (R.u j x h).1 hdu R.ri, if_neg (fun q => hne q.2)]; exact R.ent j x h
 ·rw [sub_set L69 L69 hj hdu R.ri, if_neg (fun q => (hnone h).2 q.2)]; exact R.eno j hj (hnone h).1
 ·rcases hold h with ⟨rfl, rfl⟩ | ⟨_, h⟩
  ·rw [sub_set L68 L69 hdu hdu R.ri, if_neg (fun q => by have := q.1; omega)]; exact R.blk j xd hd
  ·rw [sub_set L68 L69 (R.u j x h).1 hdu R.ri, if_neg (fun q => by have := q.1; omega)]; exact R.blk j x h
 ·rw [sub_set L68 L69 hj hdu R.ri, if_neg (fun q => by have := q.1; omega)]; exact R.bno j hj (hnone h).1
 ·rcases hold h with ⟨rfl, rfl⟩ | ⟨_, h⟩
  ·dsimp only at hv
   rw [lget_lset hre] at hv
   by_cases e : nm' = nm
   ·rw [if_pos e] at hv
    obtain rfl := Option.some.inj hv
    obtain ⟨w, h3, h4⟩ := hlive hi
    exact ⟨by rw [e]; exact hnm, i, w, rfl, h3, hi1, fun q => hpar (by rw [← h4]; exact q)⟩
   ·rw [if_neg e] at hv
    obtain ⟨g1, c, w, g2, g3, g4, g5⟩ := R.nam j xd hd nm' v hv
    obtain ⟨w', h3, h4⟩ := hlive g3
    exact ⟨g1, c, w', g2, h3, g4, fun q => g5 (by rw [← h4]; exact q)⟩
  ·obtain ⟨g1, c, w, g2, g3, g4, g5⟩ := R.nam j x h nm' v hv
   obtain ⟨w', h3, h4⟩ := hlive g3
   exact ⟨g1, c, w', g2, h3, g4, fun q => g5 (by rw [← h4]; exact q)⟩
 ·rcases hold h with ⟨rfl, rfl⟩ | ⟨_, h⟩
  ·rcases R.kin j xd hd with q | q
   ·exact .inl q
   ·have := q.1; omega
  ·exact R.kin j x h
 ·rcases hold h with ⟨rfl, rfl⟩ | ⟨_, h⟩
  ·have : xd.k = 1 := hk; omega
  ·rw [refs_set hiu R.ri (R.u j x h).1 nm hnl]
   have := R.lkf j x h hk
   split <;> omega
 ·rw [hsu]
  rcases hold h with ⟨rfl, rfl⟩ | ⟨hne, h⟩
  ·have g := R.lkd j xd hd hdk
   dsimp only
   have hc := count_set (fun y : KV => kindA A (beV y.2) == 2) (k := nm) (v := beB 4 i) hre
   rw [hno] at hc
   have hki : kindA A (beV (beB 4 i)) = z.k := by rw [beV_be4 i hiu]; unfold kindA; rw [hi]
   dsimp only at hc
   rw [hki] at hc
   unfold subsA at g ⊢
   by_cases hz : z.k = 2
   ·rw [if_pos ⟨rfl, hz⟩]
    rw [hz] at hc
    simp at hc
    omega
   ·rw [if_neg (fun q => hz q.2)]
    have e2 : (z.k == 2) = false := by simpa using hz
    rw [e2] at hc
    simp at hc
    omega
  ·rw [if_neg (fun q => hne q.1.symm)]
   have := R.lkd j x h hk
   omega
 ·rcases hold h with ⟨rfl, rfl⟩ | ⟨_, h⟩
  ·rw [refs_set hiu R.ri hdu nm hnl]
   have := R.one j xd hd hdk
   split at this <;> rename_i e1
   ·rw [if_pos e1]; split <;> omega
   ·rw [if_neg e1]; split <;> omega
  ·rw [refs_set hiu R.ri (R.u j x h).1 nm hnl]
   have := R.one j x h hk
   split at this <;> rename_i e1
   ·rw [if_pos e1]; split <;> omega
   ·rw [if_neg e1]; split <;> omega
 ·rcases lset_mem hy with rfl | hy
  ·exact ⟨69, d, nm, .inr (.inl rfl), hdu, rfl⟩
  ·exact R.key y hy
theorem RelA.unhang {l : List KV} {A : Nods} {par df ds : Int → Int} (R : RelA l A par df ds) {d i : Int} {xd z : MN} (hd : A d = some xd) (hdk : xd.k = 2) {nm : List UInt8} (hno : lget nm xd.e = some (beB 4 i)) (hi : A i = some z) :
  RelA (lcut (keyH 69 d ++ nm) l) (updA A d (some { xd with e := lcut nm xd.e })) par (fun j => df j - if i = j then 1 else 0) (fun j => ds j - if d = j ∧ z.k = 2 then 1 else 0) := by
 have hdu := (R.u d xd hd).1
 have hiu := (R.u i z hi).1
 have hri : Rises (lcut (keyH 69 d ++ nm) l) := lcut_rises R.ri
 have hre : Rises xd.e := by rw [R.ent d xd hd]; exact sub_rises R.ri
 have hnl : lget (keyH 69 d ++ nm) l = some (beB 4 i) := by rw [← sub_get R.ri, ← R.ent d xd hd]; exact hno
 have hkA : ∀ c, kindA (updA A d (some { xd with e := lcut nm xd.e })) c = kindA A c := kindA_upd hd rfl
 have hsu : ∀ e, subsA (updA A d (some { xd with e := lcut nm xd.e })) e = subsA A e := fun e => subsA_congr fun y _ => hkA _
 have hlive : ∀ {c : Int} {w : MN}, A c = some w → ∃ w', updA A d (some { xd with e := lcut nm xd.e }) c = some w' ∧ w'.k = w.k := fun {c w} hw => by
  by_cases e : c = d
  ·subst e
   rw [hd] at hw
   obtain rfl := Option.some.inj hw
   exact ⟨_, updA_same .., rfl⟩
  ·exact ⟨w, by rw [updA_ne _ _ e]; exact hw, rfl⟩
 have hnone : ∀ {c : Int}, updA A d (some { xd with e := lcut nm xd.e }) c = none → A c = none ∧ c ≠ d := fun {c} h => by
  by_cases e : c = d
  ·subst e; rw [updA_same] at h; cases h
  ·rw [updA_ne _ _ e] at h; exact ⟨h, e⟩
 have hold : ∀ {j : Int} {x : MN}, updA A d (some { xd with e := lcut nm xd.e }) j = some x → (j = d ∧ x = { xd with e := lcut nm xd.e }) ∨ (j ≠ d ∧ A j = some x) := fun {j x} h => by
  by_cases e : j = d
  ·subst e; rw [updA_same] at h; exact .inl ⟨rfl, (Option.some.inj h).symm⟩
  ·rw [updA_ne _ _ e] at h; exact .inr ⟨e, h⟩
 have h73 : ∀ j, U32 j → lget (keyH 73 j) (lcut (keyH 69 d ++ nm) l) = lget (keyH 73 j) l := fun j hj => by
  rw [get73, get_cut L73 L69 hj hdu, if_neg (fun q => by have := q.1; omega), ← get73]
 refine ⟨hri, fun j x h => ?_, fun j x h => ?_, ?_, R.rpar, fun j x h => ?_, fun j hj h => ?_, fun j x h => ?_, fun j hj h => ?_, fun j x h => ?_, fun j hj h => ?_, fun j x h nm' v hv => ?_, fun j x h => ?_, fun j x h hk => ?_, fun j x h hk => ?_, fun j x h hk => ?_, fun y hy => R.key y (List.mem_filter.1 hy).1⟩
 ·rcases hold h with ⟨rfl, rfl⟩ | ⟨_, h⟩
  ·exact R.id j xd hd
  ·exact R.id j x h
 ·rcases hold h with ⟨rfl, rfl⟩ | ⟨_, h⟩
  ·exact R.u j xd hd
  ·exact R.u j x h
 ·obtain ⟨x, h1, h2⟩ := R.root
  obtain ⟨w, h3, h4⟩ := hlive h1
  exact ⟨w, h3, h4.trans h2⟩
 ·rcases hold h with ⟨rfl, rfl⟩ | ⟨_, h⟩
  ·rw [h73 j hdu]; exact R.nod j xd hd
  ·rw [h73 j (R.u j x h).1]; exact R.nod j x h
 ·rw [h73 j hj]; exact R.non j hj (hnone h).1
 ·rcases hold h with ⟨rfl, rfl⟩ | ⟨hne, h⟩
  ·rw [sub_cut L69 L69 hdu hdu R.ri, if_pos ⟨rfl, rfl⟩, ← R.ent j xd hd]
  ·rw [sub_cut L69 L69 (R.u j x h).1 hdu R.ri, if_neg (fun q => hne q.2)]; exact R.ent j x h
 ·rw [sub_cut L69 L69 hj hdu R.ri, if_neg (fun q => (hnone h).2 q.2)]; exact R.eno j hj (hnone h).1
 ·rcases hold h with ⟨rfl, rfl⟩ | ⟨_, h⟩
  ·rw [sub_cut L68 L69 hdu hdu R.ri, if_neg (fun q => by have := q.1; omega)]; exact R.blk j xd hd
  ·rw [sub_cut L68 L69 (R.u j x h).1 hdu R.ri, if_neg (fun q => by have := q.1; omega)]; exact R.blk j x h
 ·rw [sub_cut L68 L69 hj hdu R.ri, if_neg (fun q => by have := q.1; omega)]; exact R.bno j hj (hnone h).1
 ·rcases hold h with ⟨rfl, rfl⟩ | ⟨_, h⟩
  ·dsimp only at hv
   rw [lget_lcut] at hv
   by_cases e : nm' = nm
   ·rw [if_pos e] at hv; cases hv
   ·rw [if_neg e] at hv
    obtain ⟨g1, c, w, g2, g3, g4, g5⟩ := R.nam j xd hd nm' v hv
    obtain ⟨w', h3, h4⟩ := hlive g3
    exact ⟨g1, c, w', g2, h3, g4, fun q => g5 (by rw [← h4]; exact q)⟩
  ·obtain ⟨g1, c, w, g2, g3, g4, g5⟩ := R.nam j x h nm' v hv
   obtain ⟨w', h3, h4⟩ := hlive g3
   exact ⟨g1, c, w', g2, h3, g4, fun q => g5 (by rw [← h4]; exact q)⟩
 ·rcases hold h with ⟨rfl, rfl⟩ | ⟨_, h⟩
  ·rcases R.kin j xd hd with q | q
   ·exact .inl q
   ·have := q.1; omega
  ·exact R.kin j x h
 ·rcases hold h with ⟨rfl, rfl⟩ | ⟨_, h⟩
  ·have : xd.k = 1 := hk; omega
  ·have := refs_cut hiu R.ri (R.u j x h).1 nm hnl
   have := R.lkf j x h hk
   split at * <;> omega
 ·rw [hsu]
  rcases hold h with ⟨rfl, rfl⟩ | ⟨hne, h⟩
  ·have g := R.lkd j xd hd hdk
   dsimp only
   have hc := count_cut (fun y : KV => kindA A (beV y.2) == 2) (k := nm) hre
   rw [hno] at hc
   have hki : kindA A (beV (beB 4 i)) = z.k := by rw [beV_be4 i hiu]; unfold kindA; rw [hi]
   dsimp only at hc
   rw [hki] at hc
   unfold subsA at g ⊢
   by_cases hz : z.k = 2
   ·rw [if_pos ⟨rfl, hz⟩]
    rw [hz] at hc
    simp at hc
    omega
   ·rw [if_neg (fun q => hz q.2)]
    have e2 : (z.k == 2) = false := by simpa using hz
    rw [e2] at hc
    simp at hc
    omega
  ·rw [if_neg (fun q => hne q.1.symm)]
   have := R.lkd j x h hk
   omega
 ·rcases hold h with ⟨rfl, rfl⟩ | ⟨_, h⟩
  ·have := refs_cut hiu R.ri hdu nm hnl
   have := R.one j xd hd hdk
   split at * <;> split at * <;> omega
  ·have := refs_cut hiu R.ri (R.u j x h).1 nm hnl
   have := R.one j x h hk
   split at * <;> split at * <;> omega
theorem ndOf_node {j k n s p : Int} (hm : mayB k n s p = true) (hk : 0 ≤ k ∧ k ≤ 255) (hn : U32 n) (hs : U32 s) (hp : U32 p) : ndOf j (some (nodeB k n s p)) = some (k, n, s, p) := by
 show getNode (nodeB k n s p) = _
 obtain ⟨h2, h3, h4⟩ := gF_node k n s p hn hs hp
 unfold getNode
 rw [b0_node k n s p hk, h2, h3, h4, if_pos ⟨nodeB_l13 _ _ _ _, hm⟩]
theorem RelA.save {l : List KV} {A : Nods} {par df ds : Int → Int} (R : RelA l A par df ds) {i : Int} {x : MN} (hx : A i = some x) (n' p' : Int) (hm : mayB x.k n' (x.b.length : Int) p' = true) (hn : U32 n') (hb : U32 (x.b.length : Int)) (hp : U32 p') (h1 : i = 1 → p' = 1) (hk1 : x.k = 1 → p' = 0) (hpar : x.k = 2 → p' = par i ∨ (refs i l = 0)) :
  RelA (lset (keyH 73 i) (nodeB x.k n' (x.b.length : Int) p') l) (updA A i (some { x with n := n' })) (fun j => if j = i then p' else par j) (fun j => df j + if j = i ∧ x.k = 1 then x.n - n' else 0) (fun j => ds j + if j = i ∧ x.k = 2 then x.n - n' else 0) := by
 have hiu := (R.u i x hx).1
 have hri : Rises (lset (keyH 73 i) (nodeB x.k n' (x.b.length : Int) p') l) := lset_rises R.ri
 have hkx : x.k = 2 ∨ x.k = 1 := (R.kin i x hx).imp (·.1) (·.1)
 have hkb : 0 ≤ x.k ∧ x.k ≤ 255 := by omega
 have hkA : ∀ c, kindA (updA A i (some { x with n := n' })) c = kindA A c := kindA_upd hx rfl
 have hsu : ∀ e, subsA (updA A i (some { x with n := n' })) e = subsA A e := fun e => subsA_congr fun y _ => hkA _
 have hlive : ∀ {c : Int} {w : MN}, A c = some w → ∃ w', updA A i (some { x with n := n' }) c = some w' ∧ w'.k = w.k := fun {c w} hw => by
  by_cases e : c = i
  ·subst e
   rw [hx] at hw
   obtain rfl := Option.some.inj hw
   exact ⟨_, updA_same .., rfl⟩
  ·exact ⟨w, by rw [updA_ne _ _ e]; exact hw, rfl⟩
 have hnone : ∀ {c : Int}, updA A i (some { x with n := n' }) c = none → A c = none ∧ c ≠ i := fun {c} h => by
  by_cases e : c = i
  ·subst e; rw [updA_same] at h; cases h
  ·rw [updA_ne _ _ e] at h; exact ⟨h, e⟩
 have hold : ∀ {j : Int} {y : MN}, updA A i (some { x with n := n' }) j = some y → (j = i ∧ y = { x with n := n' }) ∨ (j ≠ i ∧ A j = some y) := fun {j y} h => by
  by_cases e : j = i
  ·subst e; rw [updA_same] at h; exact .inl ⟨rfl, (Option.some.inj h).symm⟩
  ·rw [updA_ne _ _ e] at h; exact .inr ⟨e, h⟩
 have e73 : keyH 73 i = keyH 73 i ++ [] := (List.append_nil _).symm
 have h73 : ∀ j, U32 j → lget (keyH 73 j) (lset (keyH 73 i) (nodeB x.k n' (x.b.length : Int) p') l) = if j = i then some (nodeB x.k n' (x.b.length : Int) p') else lget (keyH 73 j) l := fun j hj => by
  rw [get73, e73, get_set L73 L73 hj hiu R.ri]
  by_cases e : j = i
  ·rw [if_pos ⟨rfl, e, rfl⟩, if_pos e]
  ·rw [if_neg (fun q => e q.2.1), if_neg e, ← get73]
 have h69 : ∀ j, U32 j → subL 69 j (lset (keyH 73 i) (nodeB x.k n' (x.b.length : Int) p') l) = subL 69 j l := fun j hj => by
  rw [e73, sub_set L69 L73 hj hiu R.ri, if_neg (fun q => by have := q.1; omega)]
 have h68 : ∀ j, U32 j → subL 68 j (lset (keyH 73 i) (nodeB x.k n' (x.b.length : Int) p') l) = subL 68 j l := fun j hj => by
  rw [e73, sub_set L68 L73 hj hiu R.ri, if_neg (fun q => by have := q.1; omega)]
 have hrf : ∀ j, refs j (lset (keyH 73 i) (nodeB x.k n' (x.b.length : Int) p') l) = refs j l := fun j => by
  rw [e73]; exact refs_set_no (.inl rfl) R.ri j [] _
 have hparn : ∀ {j : Int} {y : MN}, A j = some y → ∀ nm v, lget nm y.e = some v → ∀ c w, v = beB 4 c → A c = some w → (w.k = 2 → par c = j) → w.k = 2 → (if c = i then p' else par c) = j := fun {j y} hy nm v hv c w hvc hw g hk => by
  by_cases e : c = i
  ·subst e
   rw [if_pos rfl]
   rw [hx] at hw
   obtain rfl := Option.some.inj hw
   rcases hpar hk with q | q
   ·rw [q]; exact g hk
   ·exfalso
    have hl : lget (keyH 69 j ++ nm) l = some v := by rw [← sub_get R.ri, ← R.ent j y hy]; exact hv
    have hmem := (lget_some R.ri).1 hl
    have : 0 < refs c l := List.countP_pos_iff.2 ⟨_, hmem, by rw [refB_ent, hvc]; simp⟩
    omega
  ·rw [if_neg e]; exact g hk
 refine ⟨hri, fun j y h => ?_, fun j y h => ?_, ?_, ?_, fun j y h => ?_, fun j hj h => ?_, fun j y h => ?_, fun j hj h => ?_, fun j y h => ?_, fun j hj h => ?_, fun j y h nm' v hv => ?_, fun j y h => ?_, fun j y h hk => ?_, fun j y h hk => ?_, fun j y h hk => ?_, fun y hy => ?_⟩
 ·rcases hold h with ⟨rfl, rfl⟩ | ⟨_, h⟩
  ·exact R.id j x hx
  ·exact R.id j y h
 ·rcases hold h with ⟨rfl, rfl⟩ | ⟨_, h⟩
  ·exact R.u j x hx
  ·exact R.u j y h
 ·obtain ⟨y, g1, g2⟩ := R.root
  obtain ⟨w, h3, h4⟩ := hlive g1
  exact ⟨w, h3, h4.trans g2⟩
 ·by_cases e : (1 : Int) = i
  ·rw [if_pos e]; exact h1 e.symm
  ·rw [if_neg e]; exact R.rpar
 ·rcases hold h with ⟨rfl, rfl⟩ | ⟨hne, h⟩
  ·rw [h73 j hiu, if_pos rfl, if_pos rfl]
   exact ndOf_node hm hkb hn hb hp
  ·rw [h73 j (R.u j y h).1, if_neg hne, if_neg hne]; exact R.nod j y h
 ·rw [h73 j hj, if_neg (hnone h).2]; exact R.non j hj (hnone h).1
 ·rcases hold h with ⟨rfl, rfl⟩ | ⟨_, h⟩
  ·rw [h69 j hiu]; exact R.ent j x hx
  ·rw [h69 j (R.u j y h).1]; exact R.ent j y h
 ·rw [h69 j hj]; exact R.eno j hj (hnone h).1
 ·rcases hold h with ⟨rfl, rfl⟩ | ⟨_, h⟩
  ·rw [h68 j hiu]; exact R.blk j x hx
  ·rw [h68 j (R.u j y h).1]; exact R.blk j y h
 ·rw [h68 j hj]; exact R.bno j hj (hnone h).1
 ·have key : ∀ {y0 : MN}, A j = some y0 → lget nm' y0.e = some v → nameB nm' = true ∧ ∃ c z, v = beB 4 c ∧ updA A i (some { x with n := n' }) c = some z ∧ c ≠ 1 ∧ (z.k = 2 → (if c = i then p' else par c) = j) := fun {y0} h0 hv0 => by
   obtain ⟨g1, c, w, g2, g3, g4, g5⟩ := R.nam j y0 h0 nm' v hv0
   obtain ⟨w', h3, h4⟩ := hlive g3
   exact ⟨g1, c, w', g2, h3, g4, fun q => hparn h0 nm' v hv0 c w g2 g3 g5 (by rw [← h4]; exact q)⟩
  rcases hold h with ⟨rfl, rfl⟩ | ⟨_, h⟩
  ·exact key hx hv
  ·exact key h hv
 ·rcases hold h with ⟨rfl, rfl⟩ | ⟨hne, h⟩
  ·rcases R.kin j x hx with q | q
   ·exact .inl q
   ·exact .inr ⟨q.1, q.2.1, by rw [if_pos rfl]; exact hk1 q.1⟩
  ·rw [if_neg hne]; exact R.kin j y h
 ·rw [hrf]
  rcases hold h with ⟨rfl, rfl⟩ | ⟨hne, h⟩
  ·have := R.lkf j x hx hk
   have hk' : x.k = 1 := hk
   rw [if_pos ⟨rfl, hk'⟩]
   dsimp only; omega
  ·rw [if_neg (fun q => hne q.1)]
   have := R.lkf j y h hk
   omega
 ·rw [hsu]
  rcases hold h with ⟨rfl, rfl⟩ | ⟨hne, h⟩
  ·have := R.lkd j x hx hk
   have hk' : x.k = 2 := hk
   rw [if_pos ⟨rfl, hk'⟩]
   dsimp only; omega
  ·rw [if_neg (fun q => hne q.1)]
   have := R.lkd j y h hk
   omega
 ·rw [hrf]
  rcases hold h with ⟨rfl, rfl⟩ | ⟨hne, h⟩
  ·have hk' : x.k = 2 := hk
   rw [if_neg (fun q : j = j ∧ x.k = 1 => by have := q.2; omega)]
   have := R.one j x hx hk'
   omega
  ·rw [if_neg (fun q : j = i ∧ x.k = 1 => hne q.1)]
   have := R.one j y h hk
   omega
 ·rcases lset_mem hy with rfl | hy
  ·exact ⟨73, i, [], .inl ⟨rfl, rfl⟩, hiu, e73⟩
  ·exact R.key y hy
end Go.Proofs.YtdkegmmigongoaaGreatDoor

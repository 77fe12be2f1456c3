import Derived.Test.YtdnpkgakpiopgaaGreatDoorGo
import Derived.Test.YtdnpkgakpiopgaaGreatDoorM26
import Derived.Test.YtdnpkgakpiopgaaGreatDoorM40
import Derived.Test.YtdnpkgakpiopgaaGreatDoorM39
namespace Go.Proofs.YtdnpkgakpiopgaaGreatDoor
set_option maxRecDepth 20000
open Go.Awp Tr
abbrev Thg := List UInt8 × Bool × List UInt8
structure GV where
 s : VS
 o : List Thg
def gvN (rec : List UInt8 → Int → GV → GV) (p : List UInt8) (i : Int) (a : GV) (nm : List UInt8) : GV := match a.s.child i nm with
 | none => { a with s := a.s.rd (entryK i nm) }
 | some c => rec (p ++ 47 :: nm) c { a with s := a.s.rd (entryK i nm) }
def dirP (p : List UInt8) : List UInt8 := if p = [] then [47] else p
def gvD : Nat → List UInt8 → Int → GV → GV
 | 0, p, i, a => match a.s.load i with
  | none => { a with s := a.s.rd (keyH 73 i) }
  | some x => if x.1 = 1 then ⟨((a.s.rd (keyH 73 i)).fall i).2, a.o ++ [(p, false, ((a.s.rd (keyH 73 i)).fall i).1.1)]⟩
   else ⟨a.s.rd (keyH 73 i), a.o ++ [(dirP p, true, [])]⟩
 | n + 1, p, i, a => match a.s.load i with
  | none => { a with s := a.s.rd (keyH 73 i) }
  | some x => if x.1 = 1 then ⟨((a.s.rd (keyH 73 i)).fall i).2, a.o ++ [(p, false, ((a.s.rd (keyH 73 i)).fall i).1.1)]⟩
   else (namesL i a.s.shown.row).foldl (gvN (gvD n) p i) ⟨(a.s.rd (keyH 73 i)).rngE i, a.o ++ [(dirP p, true, [])]⟩
theorem zTo {t : Tr} (ht : Rises t.row) {rec : List UInt8 → Int → GV → GV} {p : List UInt8} {i : Int} {nm : List UInt8} (hn : nm ∈ namesL i t.row) (hr : ∀ c a, c ∈ inoK t → VK t a.s → VK t (rec (p ++ 47 :: nm) c a).s) {a : GV} (h : VK t a.s) : VK t (gvN rec p i a nm).s := by
 unfold gvN
 rw [h.child]
 have hv := h.rd (zPr hn)
 cases hc : cdT t i nm with
 | none => exact hv
 | some c => exact hr c _ (zFk ht hc).1 hv
theorem zU7 {t : Tr} (ht : Rises t.row) : ∀ (n : Nat) (p : List UInt8) (i : Int) (a : GV), i ∈ inoK t → VK t a.s → VK t (gvD n p i a).s
 | 0, p, i, a, hi, h => by
  unfold gvD
  have hv := h.rd (zBg (.inr hi))
  cases a.s.load i with
  | none => exact hv
  | some x =>
   dsimp only
   split
   ·exact hv.fall hi
   ·exact hv
 | n + 1, p, i, a, hi, h => by
  unfold gvD
  have hv := h.rd (zBg (.inr hi))
  cases a.s.load i with
  | none => exact hv
  | some x =>
   dsimp only
   split
   ·exact hv.fall hi
   ·refine zG2 (P := fun a : GV => VK t a.s) _ _ (hv.rngE hi) fun a' nm hnm h' => ?_
    rw [h.sh] at hnm
    exact zTo ht hnm (fun c a'' hc ha => zU7 ht n _ c a'' hc ha) h'
def undD (m : MF) : Nat → List UInt8 → Int → List Thg
 | 0, p, i => match m.at i with
  | none => []
  | some x => if x.k = 1 then [(p, false, x.b)] else [(dirP p, true, [])]
 | n + 1, p, i => match m.at i with
  | none => []
  | some x => if x.k = 1 then [(p, false, x.b)] else (dirP p, true, []) :: x.e.flatMap fun y => undD m n (p ++ 47 :: y.1) (beV y.2)
theorem zJi {α : Type} {f : GV → α → GV} {g : α → List Thg} {t : Tr} : ∀ (l : List α) (a : GV), VK t a.s → (∀ a, ∀ y ∈ l, VK t a.s → VK t (f a y).s ∧ (f a y).o = a.o ++ g y) → (l.foldl f a).o = a.o ++ l.flatMap g
 | [], a, _, _ => by simp
 | y :: r, a, h, hf => by
  obtain ⟨h1, h2⟩ := hf a y (by simp) h
  show (r.foldl f (f a y)).o = _
  rw [zJi r (f a y) h1 fun a z hz => hf a z (by simp [hz]), h2, List.flatMap_cons, List.append_assoc]
theorem gv_und {l : List KV} {m : MF} {par : Int → Int} (R : Rel l m par) {t : Tr} (ht : t.row = l) (hv : ∀ x ∈ t.row, x.1.length ≤ 100000 ∧ x.2.length ≤ 100000) : ∀ (n : Nat) (p : List UInt8) (i : Int) (x : MN) (a : GV), m.at i = some x → i ∈ inoK t → VK t a.s → (gvD n p i a).o = a.o ++ undD m n p i := by
 have hr : Rises t.row := by rw [ht]; exact R.ri
 have file : ∀ (i : Int) (x : MN) (s : VS), m.at i = some x → x.k = 1 → VK t s → (s.fall i).1.1 = x.b := by
  intro i x s hx k1 hs
  have hfile : m.file i = some x := by unfold MF.file; rw [hx]; dsimp only; rw [if_pos k1]
  have hfall := zQk (s := s) (hs.vj hr hv) (m := m) (par := par) (by rw [hs.sh, ht]; exact R) (R.u i x hx).1
  rw [hfile] at hfall
  rw [hfall]
 intro n
 induction n with
 | zero =>
  intro p i x a hx hi h
  have hvv := h.rd (zBg (.inr hi))
  unfold gvD undD
  rw [h.load, zCa R ht hx, hx]
  dsimp only
  by_cases k1 : x.k = 1
  ·rw [if_pos k1, if_pos k1]
   dsimp only
   rw [file i x _ hx k1 hvv]
  ·rw [if_neg k1, if_neg k1]
 | succ n ih =>
  intro p i x a hx hi h
  have hvv := h.rd (zBg (.inr hi))
  unfold gvD undD
  rw [h.load, zCa R ht hx, hx]
  dsimp only
  by_cases k1 : x.k = 1
  ·rw [if_pos k1, if_pos k1]
   dsimp only
   rw [file i x _ hx k1 hvv]
  ·rw [if_neg k1, if_neg k1, h.sh, zNl R ht hx, List.foldl_map]
   rw [zJi (t := t) (g := fun y : KV => undD m n (p ++ 47 :: y.1) (beV y.2)) x.e _ (hvv.rngE hi), List.append_assoc, List.singleton_append]
   intro a y hy h
   obtain ⟨c, z, h1, h2, hcu, hz, hc1, hcd, hn, _⟩ := zGm R ht hx hy
   have hyn : y.1 ∈ namesL i t.row := by rw [zNl R ht hx]; exact List.mem_map.2 ⟨y, hy, rfl⟩
   refine ⟨zTo hr hyn (fun c a'' hc ha => zU7 hr n _ c a'' hc ha) h, ?_⟩
   unfold gvN
   rw [h.child, hcd, h2]
   dsimp only
   exact ih _ c z _ hz (zFk hr hcd).1 (h.rd (zPr hyn))
abbrev Chg9 := List UInt8 × UInt8
def mrgD : List Thg → List Thg → List Chg9
 | [], [] => []
 | x :: l, [] => (x.1, 45) :: mrgD l []
 | [], y :: m => (y.1, 43) :: mrgD [] m
 | x :: l, y :: m => if lt x.1 y.1 then (x.1, 45) :: mrgD l (y :: m) else if lt y.1 x.1 then (y.1, 43) :: mrgD (x :: l) m else (if x = y then [] else [(x.1, 126)]) ++ mrgD l m
termination_by l m => l.length + m.length
theorem zCv : mrgD [] [] = [] := by rw [mrgD]
theorem zKz (x : Thg) (l : List Thg) : mrgD (x :: l) [] = (x.1, 45) :: mrgD l [] := by rw [mrgD]
theorem zKl (y : Thg) (m : List Thg) : mrgD [] (y :: m) = (y.1, 43) :: mrgD [] m := by rw [mrgD]
theorem zKt (x : Thg) (l : List Thg) (y : Thg) (m : List Thg) : mrgD (x :: l) (y :: m) = if lt x.1 y.1 then (x.1, 45) :: mrgD l (y :: m) else if lt y.1 x.1 then (y.1, 43) :: mrgD (x :: l) m else (if x = y then [] else [(x.1, 126)]) ++ mrgD l m := by
 rw [mrgD]
theorem zLh : ∀ l : List Thg, mrgD l l = []
 | [] => zCv
 | x :: l => by rw [zKt, if_neg (lt_irrefl _), if_neg (lt_irrefl _), if_pos rfl, zLh l]; rfl
def turnC (c : Chg9) : Chg9 := (c.1, if c.2 = 43 then 45 else if c.2 = 45 then 43 else c.2)
theorem zT5 : ∀ (n : Nat) (l m : List Thg), l.length + m.length ≤ n → mrgD m l = (mrgD l m).map turnC := by
 intro n
 induction n with
 | zero =>
  intro l m h
  have e1 : l = [] := List.length_eq_zero_iff.1 (by omega)
  have e2 : m = [] := List.length_eq_zero_iff.1 (by omega)
  subst e1 e2
  rw [zCv]; rfl
 | succ n ih =>
  intro l m h
  cases l with
  | nil =>
   cases m with
   | nil => rw [zCv]; rfl
   | cons y m => rw [zKz, zKl, ih [] m (by rw [List.length_cons] at h; omega)]; rfl
  | cons x l =>
   cases m with
   | nil => rw [zKz, zKl, ih l [] (by rw [List.length_cons] at h; omega)]; rfl
   | cons y m =>
    rw [List.length_cons, List.length_cons] at h
    rw [zKt, zKt]
    rcases zBq x.1 y.1 with c | c | c
    ·rw [if_pos c, if_neg (zCo c), if_pos c, ih l (y :: m) (by rw [List.length_cons]; omega)]; rfl
    ·have n1 : ¬ lt x.1 y.1 := by rw [c]; exact lt_irrefl _
     have n2 : ¬ lt y.1 x.1 := by rw [c]; exact lt_irrefl _
     simp only [if_neg n1, if_neg n2]
     rw [ih l m (by omega), List.map_append]
     congr 1
     by_cases e : x = y
     ·rw [if_pos e, if_pos e.symm]; rfl
     ·rw [if_neg e, if_neg (fun q => e q.symm), c]; rfl
    ·rw [if_pos c, if_neg (zCo c), if_pos c, ih (x :: l) m (by rw [List.length_cons]; omega)]; rfl
theorem nodup_inj {l : List Thg} (h : (l.map (·.1)).Nodup) {x y : Thg} (hx : x ∈ l) (hy : y ∈ l) (e : x.1 = y.1) : x = y := by
 induction l with
 | nil => cases hx
 | cons z r ih =>
  have h2 := List.nodup_cons.1 (show (z.1 :: r.map (·.1)).Nodup from h)
  rcases List.mem_cons.1 hx with a | a <;> rcases List.mem_cons.1 hy with b | b
  ·rw [a, b]
  ·exact absurd (List.mem_map.2 ⟨y, b, by rw [← e, a]⟩) h2.1
  ·exact absurd (List.mem_map.2 ⟨x, a, by rw [e, b]⟩) h2.1
  ·exact ih h2.2 a b
def ltT (x y : Thg) : Bool := decide (lt x.1 y.1)
def thgS (l : List Thg) : List Thg := stabS ltT l
theorem und_len {l : List KV} {m : MF} {par : Int → Int} (R : Rel l m par) : ∀ (n : Nat) (p : List UInt8) (N : Nms) (i : Int) (x : MN), m.at i = some x → (undD m n p i).length = 1 + (if x.k = 2 then (visD m n N i).length else 0) := by
 intro n
 induction n with
 | zero =>
  intro p N i x hx
  unfold undD visD
  rw [hx]
  dsimp only
  split <;> split <;> rfl
 | succ n ih =>
  intro p N i x hx
  unfold undD visD
  rw [hx]
  dsimp only
  rcases R.kin i x hx with ⟨k2, _⟩ | ⟨k1, _, _⟩
  ·rw [if_neg (by omega), if_pos k2, List.length_cons, Nat.add_comm]
   congr 1
   have e : ∀ e : List KV, (∀ y ∈ e, y ∈ x.e) → (e.flatMap fun y => undD m n (p ++ 47 :: y.1) (beV y.2)).length = (e.flatMap fun y => (N ++ [y.1], beV y.2) :: (if m.kind (beV y.2) = 2 then visD m n (N ++ [y.1]) (beV y.2) else [])).length := by
    intro e
    induction e with
    | nil => intro _; rfl
    | cons y r ih2 =>
     intro hs
     have hre : Rises x.e := by rw [R.ent _ _ hx]; exact zU R.ri
     obtain ⟨_, c, z, h1, hz, _, _⟩ := R.nam _ _ hx y.1 y.2 ((z5 hre).2 (hs y (by simp)))
     have hc := (R.u c z hz).1
     have hb : beV y.2 = c := by rw [h1]; exact yM _ hc
     have hk : m.kind c = z.k := by unfold MF.kind; rw [hz]
     rw [List.flatMap_cons, List.flatMap_cons, List.length_append, List.length_append, ih2 fun w hw => hs w (by simp [hw]), hb, ih _ (N ++ [y.1]) c z hz, hk, List.length_cons]
     split
     ·omega
     ·rfl
   exact e x.e fun _ h => h
  ·rw [if_pos k1, if_neg (by omega)]; rfl
theorem und_48 {l : List KV} {m : MF} {par : Int → Int} (R : Rel l m par) (n : Nat) (p : List UInt8) : (undD m n p 1).length ≤ 1 + l.length := by
 obtain ⟨x, hx, k2⟩ := R.root
 rw [und_len R n p [] 1 x hx, if_pos k2]
 have := zVt R n
 omega
end Go.Proofs.YtdnpkgakpiopgaaGreatDoor

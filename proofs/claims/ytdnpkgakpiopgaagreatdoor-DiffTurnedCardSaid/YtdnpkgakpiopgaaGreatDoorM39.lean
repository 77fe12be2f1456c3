import Derived.Test.YtdnpkgakpiopgaaGreatDoorGo
import Derived.Test.YtdnpkgakpiopgaaGreatDoorM38
import Derived.Test.YtdnpkgakpiopgaaGreatDoorM10
namespace Go.Proofs.YtdnpkgakpiopgaaGreatDoor
set_option maxRecDepth 20000
open Go.Awp Tr
abbrev VisJ := List (Nms × Int × Int)
structure BI (m0 : MF) (S : VisJ) (ps : PS) (s : VS) (m1 : MF) (i : Nat) : Prop where
 d : D20 s noH m1 (PN i) i
 w : s.writes = .nil
 c : S.length ≤ i
 r : ∀ N j, Reach m1 N j ↔ (N = [] ∧ j = 1) ∨ ∃ c, (N, c, j) ∈ S
 n : ∀ v ∈ S, ∃ z z1, m0.at v.2.1 = some z ∧ m1.at v.2.2 = some z1 ∧ z1.k = z.k ∧ z1.b = z.b ∧ Reach m0 v.1 v.2.1 ∧ (z1.k = 1 → z1.n ≤ (S.length : Int) + 1)
 f : ∀ v ∈ S, ∀ w ∈ S, v.2.1 = w.2.1 ↔ v.2.2 = w.2.2
 p : ∀ c O, ps.fst c = some O → ∃ j, (O, c, j) ∈ S
 q : ∀ c z, ps.fst c = none → m0.at c = some z → z.k ≠ 2 → ∀ v ∈ S, v.2.1 ≠ c
theorem BI.place {m0 : MF} {S : VisJ} {ps : PS} {s : VS} {m1 : MF} {i : Nat} (h : BI m0 S ps s m1 i) {par : Int → Int} (R : Rel s.shown.row m1 par) {N : Nms} {y : List UInt8} {d0 : Int} {x0 : MN}
  (hN : N ∈ [] :: S.map (·.1)) (h0 : Reach m0 N d0) (hx0 : m0.at d0 = some x0) (hk0 : x0.k = 2) (hQ : N ++ [y] ∉ S.map (·.1)) : ∃ d1 x1, Reach m1 N d1 ∧ m1.at d1 = some x1 ∧ x1.k = 2 ∧ lget y x1.e = none := by
 obtain ⟨d1, x1, h1, h2, h3⟩ : ∃ d1 x1, Reach m1 N d1 ∧ m1.at d1 = some x1 ∧ x1.k = 2 := by
  rcases List.mem_cons.1 hN with e | hm
  ·subst e
   obtain ⟨x, hx, hk⟩ := R.root
   exact ⟨1, x, .nil, hx, hk⟩
  ·obtain ⟨v, hv, e⟩ := List.mem_map.1 hm
   obtain ⟨z, z1, g1, g2, g3, _, g5, _⟩ := h.n v hv
   have e2 : v.2.1 = d0 := by
    have hv1 : v.1 = N := e
    rw [hv1] at g5
    exact zVh g5 h0
   rw [e2, hx0] at g1
   obtain rfl := Option.some.inj g1
   refine ⟨v.2.2, z1, (h.r N v.2.2).2 (.inr ⟨v.2.1, ?_⟩), g2, g3.trans hk0⟩
   have hv1 : v.1 = N := e
   rw [← hv1]
   exact hv
 refine ⟨d1, x1, h1, h2, h3, ?_⟩
 cases hg : lget y x1.e with
 | none => rfl
 | some v =>
  exfalso
  obtain ⟨_, c1, z, e1, e2, _⟩ := R.nam _ _ h2 y v hg
  rw [e1] at hg
  have hr : Reach m1 (N ++ [y]) c1 := .snoc h1 h2 h3 hg (R.u _ _ e2).1
  rcases (h.r _ _).1 hr with ⟨q, _⟩ | ⟨c, q⟩
  ·simp at q
  ·exact hQ (List.mem_map.2 ⟨_, q, rfl⟩)
theorem BI.make {m0 : MF} {S : VisJ} {ps : PS} {s : VS} {m1 : MF} {i : Nat} (h : BI m0 S ps s m1 i) (hi : i ≤ 400) {par : Int → Int} (R : Rel s.shown.row m1 par) {N : Nms} {y : List UInt8} (hok : NmOk (N ++ [y])) {d1 : Int} {x1 : MN} (h1 : Reach m1 N d1) (hx1 : m1.at d1 = some x1) (hk1 : x1.k = 2) (hg : lget y x1.e = none)
  {k : Int} (hk : k = 1 ∨ k = 2) (X : POp) (hX : ¬ (X.o.kind = 6 ∨ X.o.kind = 9)) (es : ∀ j, sdo s noH X.o j = (rs0 (s.make (pathJ (N ++ [y])) k j).1, (s.make (pathJ (N ++ [y])) k j).2, noH)) (em : ∀ j, mdo m1 noH X.o j = (rs0 (m1.make (pathJ (N ++ [y])) k j).1, (m1.make (pathJ (N ++ [y])) k j).2, noH)) (rest : List POp) :
  ∃ s' m', bkS (X :: rest) i s noH = bkS rest (i + 1) s' noH ∧ D20 s' noH m' (PN (i + 1)) (i + 1) ∧ s'.writes = .nil ∧ Hung m1 m' d1 y (500 - (i : Int)) ∧ m'.at (500 - (i : Int)) = some ⟨500 - (i : Int), k, k, [], []⟩ ∧ m1.at (500 - (i : Int)) = none := by
 have hP : ¬ PN i (500 - (i : Int)) := by unfold PN; omega
 have hnone := h.d.p.none hP
 have hfind := find_new R (p := pathJ (N ++ [y])) (by rw [hok.split.1]) hok.split.2 h1 hx1 hk1 hg
 obtain ⟨a1, a2, a3⟩ := zS4 hfind hx1 hk1 hg hk (j := 500 - (i : Int)) (by unfold U32; omega) (by omega) hnone
 obtain ⟨f1, f2⟩ := zBj h.d.v R (pathJ (N ++ [y]))
 have f2 := f2 (by rw [hfind])
 have hne := zSq (s := s) (by rw [h.w]; decide) (p := pathJ (N ++ [y])) (k := k) (i := 500 - (i : Int)) (by rw [f1, hfind]) (by rw [f2.hi, hfind])
 obtain ⟨g1, g2, g3⟩ := (stepN h.d hi X.o).resolve_left (by rw [es]; show (s.make _ _ _).1 ≠ 21; rw [hne]; decide)
 have he : (sdo s noH X.o (500 - (i : Int))).1.e = 0 := by rw [es]; exact hne
 obtain ⟨k1, k2⟩ := g3.based
 rw [em] at k1
 exact ⟨_, _, bkS_base he hX, k1, k2, a2, a3, hnone⟩
theorem rel_le {α β : Type} [DecidableEq β] {rel : α → β → Prop} : ∀ {P : List α} {L : List β}, P.Nodup → (∀ p ∈ P, ∃ b ∈ L, rel p b) → (∀ p q b, rel p b → rel q b → p = q) → P.length ≤ L.length
 | [], _, _, _, _ => Nat.zero_le _
 | p :: r, L, hn, h, hi => by
  have h2 := List.nodup_cons.1 hn
  obtain ⟨b, hb, hpb⟩ := h p (by simp)
  have ih := rel_le (L := L.erase b) h2.2 (fun q hq => by
   obtain ⟨b', hb', hq'⟩ := h q (by simp [hq])
   refine ⟨b', (List.mem_erase_of_ne fun e => ?_).2 hb', hq'⟩
   rw [e] at hq'
   exact h2.1 (by rw [hi p q b hpb hq']; exact hq)) hi
  rw [List.length_erase_of_mem hb] at ih
  have : 0 < L.length := List.length_pos_of_mem hb
  rw [List.length_cons]; omega
theorem zVt {l : List KV} {m : MF} {par : Int → Int} (R : Rel l m par) (n : Nat) : (visD m n [] 1).length ≤ l.length := by
 obtain ⟨h1, h2, _⟩ := zU3 R n [] 1 .nil
 have := rel_le (P := (visD m n [] 1).map (·.1)) (L := l.map (·.1)) (rel := fun Q k => ∃ N y d x, Q = N ++ [y] ∧ Reach m N d ∧ m.at d = some x ∧ x.k = 2 ∧ k = keyH 69 d ++ y) h2 (fun Q hQ => by
  obtain ⟨v, hv, rfl⟩ := List.mem_map.1 hQ
  obtain ⟨hr, ⟨M, hM, e⟩, _⟩ := h1 v hv
  rw [List.nil_append] at e
  have hvn : v.1 ≠ [] := by rw [e]; exact hM
  have e2 : v.1 = v.1.dropLast ++ [v.1.getLast hvn] := (List.dropLast_concat_getLast hvn).symm
  rw [e2] at hr
  obtain ⟨d, xd, g1, g2, g3, g4⟩ := zR3 hr
  rw [R.ent _ _ g2, qW R.ri] at g4
  exact ⟨_, List.mem_map.2 ⟨_, (z5 R.ri).1 g4, rfl⟩, _, _, d, xd, e2, g1, g2, g3, rfl⟩) (fun p q b => by
  rintro ⟨N, y, d, x, e1, e2, e3, e4, e5⟩ ⟨N', y', d', x', f1, f2, f3, f4, f5⟩
  obtain ⟨_, g1, g2⟩ := zSi (by decide) (by decide) (zS0 e2) (zS0 f2) (e5.symm.trans f5)
  subst g1 g2
  rw [e1, f1, zD4 R e2 f2 e3 e4])
 rwa [List.length_map, List.length_map] at this
def RelPS (S : VisJ) (s0 s1 : PS) : Prop := s0.ps = s1.ps ∧ ∃ T : VisJ, (∀ v ∈ T, v ∈ S) ∧ s0.fs = T.map (fun v => (v.2.1, v.1)) ∧ s1.fs = T.map (fun v => (v.2.2, v.1))
theorem zL9 {α : Type} {p q : α → Bool} : ∀ l : List α, (∀ x ∈ l, p x = q x) → l.find? p = l.find? q
 | [], _ => rfl
 | x :: l, h => by rw [List.find?_cons, List.find?_cons, h x (by simp), zL9 l fun y hy => h y (by simp [hy])]
theorem RelPS.fst {S : VisJ} {s0 s1 : PS} (h : RelPS S s0 s1) (hf : ∀ v ∈ S, ∀ w ∈ S, v.2.1 = w.2.1 ↔ v.2.2 = w.2.2) {N : Nms} {c j : Int} (hc : (N, c, j) ∈ S) : s0.fst c = s1.fst j := by
 obtain ⟨_, T, hT, e0, e1⟩ := h
 unfold PS.fst
 rw [e0, e1, List.find?_map, List.find?_map, Option.map_map, Option.map_map]
 have e : T.find? ((fun p : Int × Nms => p.1 == c) ∘ fun v : Nms × Int × Int => (v.2.1, v.1)) = T.find? ((fun p : Int × Nms => p.1 == j) ∘ fun v : Nms × Int × Int => (v.2.2, v.1)) := zL9 T fun v hv => by
  show (v.2.1 == c) = (v.2.2 == j)
  rw [Bool.eq_iff_iff, beq_iff_eq, beq_iff_eq]
  exact hf v (hT v hv) _ hc
 rw [e]
 rfl
end Go.Proofs.YtdnpkgakpiopgaaGreatDoor
namespace Go.Proofs.YtdnpkgakpiopgaaGreatDoor
set_option maxRecDepth 20000
open Go.Awp
def swpS {E : Type} (l : List E) (i j : Nat) : List E :=
 match l[i]?, l[j]? with
 | some x, some y => (l.set i y).set j x
 | _, _ => l
def ltS {E : Type} (lt : E → E → Bool) (l : List E) (i j : Nat) : Bool :=
 match l[i]?, l[j]? with
 | some x, some y => lt x y
 | _, _ => false
theorem zAl {E : Type} (l : List E) (i j : Nat) : (swpS l i j).length = l.length := by
 unfold swpS
 split <;> simp
theorem zJc {E : Type} (A : List E) (x : E) (R : List E) (i : Nat) (h : i = A.length) : (A ++ x :: R)[i]? = some x := by
 subst h; simp
theorem zJt {E : Type} (A : List E) (x : E) (M : List E) (y : E) (R : List E) (j : Nat) (h : j = A.length + 1 + M.length) : (A ++ x :: (M ++ y :: R))[j]? = some y := by
 have e : A ++ x :: (M ++ y :: R) = (A ++ x :: M) ++ y :: R := by simp
 rw [e]
 exact zJc _ _ _ _ (by simp; omega)
theorem zNg {E : Type} (A : List E) (x z : E) (R : List E) (i : Nat) (h : i = A.length) : (A ++ x :: R).set i z = A ++ z :: R := by
 subst h; simp
theorem zO9 {E : Type} (A : List E) (x : E) (M : List E) (y z : E) (R : List E) (j : Nat) (h : j = A.length + 1 + M.length) : (A ++ x :: (M ++ y :: R)).set j z = A ++ x :: (M ++ z :: R) := by
 have e : ∀ w, A ++ x :: (M ++ w :: R) = (A ++ x :: M) ++ w :: R := by simp
 rw [e, e]
 exact zNg _ _ _ _ _ (by simp; omega)
theorem zT1 {E : Type} (A : List E) (x : E) (M : List E) (y : E) (R : List E) (i j : Nat) (h : i = A.length) (h2 : j = A.length + 1 + M.length) :
  swpS (A ++ x :: (M ++ y :: R)) i j = A ++ y :: (M ++ x :: R) := by
 unfold swpS
 rw [zJc A x _ i h, zJt A x M y R j h2]
 dsimp only
 rw [zNg A x y _ i h, zO9 A y M y x R j h2]
theorem zQm {E : Type} (A : List E) (x : E) (M : List E) (y : E) (R : List E) (i j : Nat) (h : i = A.length) (h2 : j = A.length + 1 + M.length) :
  swpS (A ++ x :: (M ++ y :: R)) j i = A ++ y :: (M ++ x :: R) := by
 unfold swpS
 rw [zJc A x _ i h, zJt A x M y R j h2]
 dsimp only
 rw [zO9 A x M y x R j h2, zNg A x y _ i h]
theorem lt_seg {E : Type} (lt : E → E → Bool) (A : List E) (x : E) (M : List E) (y : E) (R : List E) (i j : Nat) (h : i = A.length) (h2 : j = A.length + 1 + M.length) :
  ltS lt (A ++ x :: (M ++ y :: R)) i j = lt x y ∧ ltS lt (A ++ x :: (M ++ y :: R)) j i = lt y x := by
 unfold ltS
 rw [zJc A x _ i h, zJt A x M y R j h2]
 exact ⟨rfl, rfl⟩
def insJ {E : Type} (lt : E → E → Bool) (a : Nat) (l : List E) : Nat → List E
 | 0 => l
 | j + 1 => if a < j + 1 ∧ ltS lt l (j + 1) j = true then insJ lt a (swpS l (j + 1) j) j else l
def insS {E : Type} (lt : E → E → Bool) (a b : Nat) (l : List E) (i : Nat) : List E :=
 if i < b then insS lt a b (insJ lt a l i) (i + 1) else l
termination_by b - i
def bsS (f : Nat → Bool) (i j : Nat) : Nat :=
 if i < j then (if f ((i + j) / 2) then bsS f ((i + j) / 2 + 1) j else bsS f i ((i + j) / 2)) else i
termination_by j - i
def shlS {E : Type} (l : List E) (k e : Nat) : List E :=
 if k < e then shlS (swpS l k (k + 1)) (k + 1) e else l
termination_by e - k
def shrS {E : Type} (l : List E) (i : Nat) : Nat → List E
 | 0 => l
 | k + 1 => if i < k + 1 then shrS (swpS l (k + 1) k) i k else l
def swR {E : Type} (a b n : Nat) (l : List E) (k : Nat) : List E :=
 if k < n then swR a b n (swpS l (a + k) (b + k)) (k + 1) else l
termination_by n - k
def rotS {E : Type} (m : Nat) (l : List E) (i j : Nat) : List E :=
 if i = j ∨ i = 0 ∨ j = 0 then swR (m - i) m i l 0
 else if j < i then rotS m (swR (m - i) m j l 0) (i - j) j
 else rotS m (swR (m - i) (m + j - i) i l 0) i (j - i)
termination_by i + j
def cutS {E : Type} (lt : E → E → Bool) (l : List E) (a m b : Nat) : Nat :=
 bsS (fun c => !ltS lt l ((a + b) / 2 + m - 1 - c) c) (if (a + b) / 2 < m then (a + b) / 2 + m - b else a) (if (a + b) / 2 < m then (a + b) / 2 else m)
def symS {E : Type} (lt : E → E → Bool) : Nat → List E → Nat → Nat → Nat → List E
 | 0, l, _, _, _ => l
 | f + 1, l, a, m, b =>
  if m = a + 1 then shlS l a (bsS (fun h => ltS lt l h a) m b - 1)
  else if b = m + 1 then shrS l (bsS (fun h => !ltS lt l m h) a m) m
  else
   let s := cutS lt l a m b
   let l1 := if s < m ∧ m < (a + b) / 2 + m - s then rotS m l (m - s) ((a + b) / 2 + m - s - m) else l
   let l2 := if a < s ∧ s < (a + b) / 2 then symS lt f l1 a s ((a + b) / 2) else l1
   if (a + b) / 2 < (a + b) / 2 + m - s ∧ (a + b) / 2 + m - s < b then symS lt f l2 ((a + b) / 2) ((a + b) / 2 + m - s) b else l2
def blkS {E : Type} (lt : E → E → Bool) (n : Nat) (l : List E) (a : Nat) : List E :=
 if a + 20 ≤ n then blkS lt n (insS lt a (a + 20) l (a + 1)) (a + 20) else insS lt a n l (a + 1)
termination_by n - a
def joinS {E : Type} (lt : E → E → Bool) (n z : Nat) (l : List E) (a : Nat) : List E :=
 if z = 0 then l
 else if a + 2 * z ≤ n then joinS lt n z (symS lt (2 * z) l a (a + z) (a + 2 * z)) (a + 2 * z)
 else if a + z < n then symS lt (n - a) l a (a + z) n else l
termination_by n - a
def allS {E : Type} (lt : E → E → Bool) (n : Nat) (l : List E) (z : Nat) : List E :=
 if z = 0 then l
 else if z < n then allS lt n (joinS lt n z l 0) (2 * z) else l
termination_by n - z
def stabS {E : Type} (lt : E → E → Bool) (l : List E) : List E := allS lt l.length (blkS lt l.length l 0) 20
end Go.Proofs.YtdnpkgakpiopgaaGreatDoor

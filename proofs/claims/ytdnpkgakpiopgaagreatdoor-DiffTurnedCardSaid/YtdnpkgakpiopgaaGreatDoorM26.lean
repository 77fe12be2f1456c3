import Derived.Test.YtdnpkgakpiopgaaGreatDoorGo
import Derived.Test.YtdnpkgakpiopgaaGreatDoorM22
import Derived.Test.YtdnpkgakpiopgaaGreatDoorM25
import Derived.Test.YtdnpkgakpiopgaaGreatDoorM24
import Derived.Test.YtdnpkgakpiopgaaGreatDoorM9
import Derived.Test.YtdnpkgakpiopgaaGreatDoorM10
namespace Go.Proofs.YtdnpkgakpiopgaaGreatDoor
set_option maxRecDepth 20000
open Go.Awp Tr
theorem zWc {m : MF} (h : RA m) {x : MN} (hx : m.at x.i = some x) (b : List UInt8) : RA (m.with { x with b := b }) := by
 refine h.keep (P := fun _ _ => False) (fun d y hy hk => ?_) (fun j y' hy => ?_) fun _ _ _ _ _ _ _ _ _ _ => id
 ·rw [yV]
  split
  ·rename_i e
   dsimp only at e
   rw [e, hx] at hy
   obtain rfl := Option.some.inj hy
   exact ⟨_, rfl, hk, fun _ _ => rfl⟩
  ·exact ⟨y, hy, hk, fun _ _ => rfl⟩
 ·rw [yV] at hy
  split at hy
  ·rename_i e
   dsimp only at e
   obtain rfl := Option.some.inj hy
   exact ⟨x, by rw [e]; exact hx, rfl⟩
  ·exact ⟨y', hy, rfl⟩
theorem zLn {m : MF} (h : RA m) (hf : ∀ x ∈ m, m.at x.i = some x) (i o : Int) (b : List UInt8) : RA (m.fwrite i o b).2 := by
 unfold MF.fwrite
 split
 ·exact h
 rename_i x hx
 split
 ·exact h
 split
 ·exact h
 split
 ·exact h
 ·exact zWc h (hf x (yY (jX hx).1).1) _
theorem zU6 {m : MF} (h : RA m) (hf : ∀ x ∈ m, m.at x.i = some x) (i z : Int) : RA (m.ftrunc i z).2 := by
 unfold MF.ftrunc
 split
 ·exact h
 rename_i x hx
 split
 ·exact h
 split
 ·exact h
 ·exact zWc h (hf x (yY (jX hx).1).1) _
theorem mdo_ra {r : List KV} {m : MF} {par : Int → Int} (R : Rel r m par) {c : Nat} (hw : m.wk c) (hc : 2 ≤ c) (h : RA m) (l : List Int) (o : Op20) {i : Int} (hiu : U32 i) (hi0 : i ≠ 0) (hi : m.at i = none) : RA (mdo m l o i).2.1 := by
 unfold mdo
 by_cases k4 : o.kind = 4
 ·rw [if_pos k4]
  exact zSa R hw hc h o.path (.inl rfl) hiu hi0 hi
 rw [if_neg k4]
 by_cases k5 : o.kind = 5
 ·rw [if_pos k5]
  exact zSa R hw hc h o.path (.inr rfl) hiu hi0 hi
 rw [if_neg k5]
 by_cases k6 : o.kind = 6
 ·rw [if_pos k6]
  repeat' split
  all_goals exact h
 rw [if_neg k6]
 by_cases k7 : o.kind = 7
 ·rw [if_pos k7]
  split <;> exact h
 rw [if_neg k7]
 by_cases k8 : o.kind = 8
 ·rw [if_pos k8]
  split <;> exact h
 rw [if_neg k8]
 by_cases k9 : o.kind = 9
 ·rw [if_pos k9]
  split
  ·exact h
  split
  ·exact zLn h R.fst _ _ _
  ·exact zLn h R.fst _ _ _
 rw [if_neg k9]
 by_cases k10 : o.kind = 10
 ·rw [if_pos k10]
  split
  ·exact h
  ·exact zU6 h R.fst _ _
 rw [if_neg k10]
 by_cases k11 : o.kind = 11
 ·rw [if_pos k11]
  exact zVb R hw h _ _
 rw [if_neg k11]
 by_cases k12 : o.kind = 12
 ·rw [if_pos k12]
  exact link_ra R hw h _ _
 rw [if_neg k12]
 by_cases k13 : o.kind = 13
 ·rw [if_pos k13]
  exact zUo R hw h _
 rw [if_neg k13]
 by_cases k14 : o.kind = 14
 ·rw [if_pos k14]
  exact zV1 R hw h _
 rw [if_neg k14]
 by_cases k15 : o.kind = 15
 ·rw [if_pos k15]
  exact h
 rw [if_neg k15]
 by_cases k16 : o.kind = 16
 ·rw [if_pos k16]
  exact h
 rw [if_neg k16]
 exact h
theorem zCa {l : List KV} {m : MF} {par : Int → Int} (R : Rel l m par) {t : Tr} (ht : t.row = l) {j : Int} {x : MN} (hx : m.at j = some x) : ldT t j = some (x.k, x.n, (x.b.length : Int), par j) := by
 unfold ldT
 rw [yQ _ _ (by rw [ht]; exact R.ri), ht]
 exact R.nod j x hx
structure AgA (a : SV8) (s : AS) : Prop where
 o : a.o = s.B
 f : ∀ c, mget c a.F = (s.fst c).map AV.str
theorem zGm {l : List KV} {m : MF} {par : Int → Int} (R : Rel l m par) {t : Tr} (ht : t.row = l) {i : Int} {x : MN} (hx : m.at i = some x) {y : KV} (hy : y ∈ x.e) : ∃ c z, y.2 = beB 4 c ∧ beV y.2 = c ∧ U32 c ∧ m.at c = some z ∧ c ≠ 1 ∧ cdT t i y.1 = some c ∧ nameB y.1 = true ∧ (z.k = 2 → par c = i) := by
 have hr : Rises t.row := by rw [ht]; exact R.ri
 have hre : Rises x.e := by rw [R.ent _ _ hx]; exact zU R.ri
 have hg : lget y.1 x.e = some y.2 := (z5 hre).2 hy
 obtain ⟨hn, c, z, h1, h2, h3, h4⟩ := R.nam _ _ hx y.1 y.2 hg
 have hcu := (R.u c z h2).1
 refine ⟨c, z, h1, by rw [h1, yM c hcu], hcu, h2, h3, ?_, hn, h4⟩
 unfold cdT
 rw [yQ _ _ hr, zCc (jL hn), ht, ← qW R.ri, ← R.ent _ _ hx, hg, h1, zLg hcu]
theorem zNl {l : List KV} {m : MF} {par : Int → Int} (R : Rel l m par) {t : Tr} (ht : t.row = l) {i : Int} {x : MN} (hx : m.at i = some x) : namesL i t.row = x.e.map (·.1) := by
 rw [zCn, ht, ← R.ent _ _ hx]
abbrev Nms := List (List UInt8)
def pathJ : Nms → List UInt8
 | [] => []
 | x :: r => 47 :: (x ++ pathJ r)
theorem zO1 {x : List UInt8} (h : nameB x = true) : x.count 47 = 0 := by
 unfold nameB at h
 simp only [Bool.and_eq_true] at h
 rw [List.count_eq_zero]
 intro hm
 obtain ⟨j, hj⟩ := List.getElem?_of_mem hm
 exact (zNb.1 h.1.1.1.1 j 47 hj).2 rfl
theorem zQf : ∀ (x : List UInt8) (r : Nms), (∀ y ∈ x :: r, nameB y = true) → spl 47 (x ++ pathJ r) = x :: r
 | x, [], h => by
  show spl 47 (x ++ []) = _
  rw [List.append_nil]
  exact zJ2 (zO1 (h x (by simp)))
 | x, y :: r, h => by
  show spl 47 (x ++ 47 :: (y ++ pathJ r)) = _
  rw [zUm _ (zO1 (h x (by simp))), zQf y r fun z hz => h z (by simp [List.mem_cons.1 hz])]
structure NmOk (N : Nms) : Prop where
 ne : N ≠ []
 b : ∀ x ∈ N, nameB x = true
 l : N.length ≤ 16
 p : (pathJ N).length ≤ 255
theorem NmOk.split {N : Nms} (h : NmOk N) : splitN (pathJ N) = (.ps (N.map .str), 0) ∧ namesP (pathJ N) = N := by
 obtain ⟨h0, hb, hl, hp⟩ := h
 cases N with
 | nil => exact absurd rfl h0
 | cons x r =>
  have hs := zQf x r hb
  have hx : x ≠ [] := fun e => by have := hb x (by simp); rw [e] at this; revert this; decide
  have h47 : pathJ (x :: r) ≠ [47] := fun e => by
   have : x ++ pathJ r = [] := (List.cons.inj e).2
   exact hx (List.append_eq_nil_iff.1 this).1
  have hmay : mayN (x :: r) = true := by
   unfold mayN
   rw [Bool.and_eq_true, decide_eq_true_eq, Bool.not_eq_true']
   refine ⟨by omega, ?_⟩
   rw [List.any_eq_false]
   intro y hy
   rw [hb y hy]; decide
  have e : splitN (pathJ (x :: r)) = (.ps ((x :: r).map .str), 0) := by
   unfold splitN
   rw [if_neg (by rintro (q | q); cases q; omega), if_neg (show ¬ (pathJ (x :: r)).headD 0 ≠ 47 from fun q => q rfl), if_neg h47]
   show (if mayN (spl 47 (x ++ pathJ r)) = true then _ else _) = _
   rw [hs, if_pos hmay]
   show (AV.ps ((spl 47 (x ++ pathJ r)).map .str), (0 : Int)) = _
   rw [hs]
  refine ⟨e, ?_⟩
  unfold namesP
  rw [e, if_neg (by rintro (q | q); exact q rfl; exact h47 q)]
  exact hs
inductive Pt where
 | d (N : Nms)
 | f (N : Nms) (b : List UInt8)
 | l (N O : Nms)
structure PS where
 ps : List Pt
 fs : List (Int × Nms)
def PS.fst (s : PS) (i : Int) : Option Nms := (s.fs.find? fun p => p.1 == i).map (·.2)
def prtE (m : MF) (rec : Nms → Int → PS → PS) (Q : Nms) (c : Int) (s : PS) : PS := match m.at c with
 | none => s
 | some z => if z.k = 2 then rec Q c { s with ps := s.ps ++ [.d Q] } else match s.fst c with
  | some O => { s with ps := s.ps ++ [.l Q O] }
  | none => ⟨s.ps ++ [.f Q z.b], s.fs ++ [(c, Q)]⟩
def prtD (m : MF) : Nat → Nms → Int → PS → PS
 | 0, _, _, s => s
 | n + 1, N, i, s => match m.at i with
  | none => s
  | some x => x.e.foldl (fun s y => prtE m (prtD m n) (N ++ [y.1]) (beV y.2) s) s
def MF.parts (m : MF) : List Pt := (prtD m 17 [] 1 ⟨[], []⟩).ps
def PtOk : Pt → Prop
 | .d N => NmOk N
 | .f N b => NmOk N ∧ b.length ≤ 4096
 | .l N O => NmOk N ∧ NmOk O
structure PsOk (s : PS) : Prop where
 p : ∀ q ∈ s.ps, PtOk q
 f : ∀ q ∈ s.fs, NmOk q.2
theorem PsOk.fst {s : PS} (h : PsOk s) {c : Int} {O : Nms} (hf : s.fst c = some O) : NmOk O := by
 unfold PS.fst at hf
 cases hq : s.fs.find? fun p => p.1 == c with
 | none => rw [hq] at hf; cases hf
 | some q =>
  rw [hq] at hf
  obtain rfl := Option.some.inj hf
  exact h.f q (List.mem_of_find?_eq_some hq)
theorem PsOk.snoc {s : PS} (h : PsOk s) {q : Pt} (hq : PtOk q) : PsOk { s with ps := s.ps ++ [q] } :=
 ⟨fun r hr => by
  rcases List.mem_append.1 hr with hr | hr
  ·exact h.p r hr
  ·rw [List.mem_singleton] at hr; rw [hr]; exact hq, h.f⟩
end Go.Proofs.YtdnpkgakpiopgaaGreatDoor

import Derived.Test.YtdnpkgakpiopgaaGreatDoorGo
import Derived.Test.YtdnpkgakpiopgaaGreatDoorM22
import Derived.Test.YtdnpkgakpiopgaaGreatDoorM24
import Derived.Test.YtdnpkgakpiopgaaGreatDoorM23
import Derived.Test.YtdnpkgakpiopgaaGreatDoorM2
import Derived.Test.YtdnpkgakpiopgaaGreatDoorM3
import Derived.Test.YtdnpkgakpiopgaaGreatDoorM8
import Derived.Test.YtdnpkgakpiopgaaGreatDoorM5
import Derived.Test.YtdnpkgakpiopgaaGreatDoorM21
import Derived.Test.YtdnpkgakpiopgaaGreatDoorM19
import Derived.Test.YtdnpkgakpiopgaaGreatDoorM20
namespace Go.Proofs.YtdnpkgakpiopgaaGreatDoor
set_option maxRecDepth 20000
open Go.Awp Tr
structure SV8 where
 s : VS
 F : Mp
 o : List UInt8
def inoK (t : Tr) : List Int := 1 :: t.row.map fun y => gF y.2 0
def keysK (t : Tr) : List (List UInt8) := [] :: (t.row.map (·.1) ++ (0 :: inoK t).map (keyH 73))
def rngsK (t : Tr) : List Rg := (inoK t).map fun i => (keyH 69 i, beh (keyH 69 i))
structure VK (t : Tr) (s : VS) : Prop where
 b : s.base = t
 sh : s.shown = t
 w : s.writes = .nil
 rr : Rises s.reads.row
 rk : ∀ x ∈ s.reads.row, x.1 ∈ keysK t
 rg : ∀ r ∈ s.ranges, r ∈ rngsK t
 rn : s.ranges.Nodup
theorem VK.new (t : Tr) : VK t (VS.new t) := ⟨rfl, rfl, rfl, by simp [VS.new, row, Rises], (by simp [VS.new, row]), (by simp [VS.new]), List.nodup_nil⟩
theorem VK.rd {t : Tr} {s : VS} (h : VK t s) {k : List UInt8} (hk : k ∈ keysK t) : VK t (s.rd k) := by
 refine ⟨h.b, h.sh, h.w, jS h.rr, fun x hx => ?_, h.rg, h.rn⟩
 have hx : x ∈ (s.reads.set k []).row := hx
 rw [qY _ _ _ h.rr, y8 h.rr] at hx
 rcases hx with rfl | hx
 ·exact hk
 ·exact h.rk x hx.1
theorem VK.rngE {t : Tr} {s : VS} (h : VK t s) {i : Int} (hi : i ∈ inoK t) : VK t (s.rngE i) := by
 unfold VS.rngE VS.range
 split
 ·refine ⟨h.b, h.sh, h.w, h.rr, h.rk, ?_, ?_⟩
  ·intro r hr
   dsimp only at hr
   split at hr
   ·exact h.rg r hr
   ·rcases List.mem_append.1 hr with hr | hr
    ·exact h.rg r hr
    ·rw [List.mem_singleton] at hr
     rw [hr]
     exact List.mem_map.2 ⟨i, hi, rfl⟩
  ·dsimp only
   split
   ·exact h.rn
   ·rename_i hn
    exact List.nodup_append.2 ⟨h.rn, by simp, fun a ha b hb => by
     rw [List.mem_singleton] at hb
     rw [hb]
     intro q; rw [q] at ha; exact hn ha⟩
 ·exact h
theorem zF5 {α : Type} [DecidableEq α] : ∀ {q L : List α}, q.Nodup → (∀ i ∈ q, i ∈ L) → q.length ≤ L.length
 | [], _, _, _ => Nat.zero_le _
 | a :: r, L, h, hs => by
  have h2 := List.nodup_cons.1 h
  have ha := hs a List.mem_cons_self
  have ih := zF5 (L := L.erase a) h2.2 fun i hi => (List.mem_erase_of_ne (fun e => h2.1 (by rw [← e]; exact hi))).2 (hs i (List.mem_cons_of_mem _ hi))
  rw [List.length_erase_of_mem ha] at ih
  have : 0 < L.length := List.length_pos_of_mem ha
  rw [List.length_cons]; omega
theorem zNr {l : List KV} (h : Rises l) : (l.map (·.1)).Nodup := by
 unfold List.Nodup
 rw [List.pairwise_map]
 exact h.imp fun {a b} q => jW q
theorem zVs (t : Tr) : (keysK t).length = 2 * t.size + 3 := by
 unfold keysK inoK
 simp [yN]; omega
theorem VK.vj {t : Tr} {s : VS} (h : VK t s) (ht : Rises t.row) (hv : ∀ x ∈ t.row, x.1.length ≤ 100000 ∧ x.2.length ≤ 100000) : VJ s (2 * t.size + 3) := by
 refine ⟨by rw [h.b]; exact ht, by rw [h.sh]; exact ht, by rw [h.w]; simp [row, Rises], h.rr, by rw [h.b]; omega, by rw [h.sh]; omega, by rw [h.w]; exact Nat.zero_le _, ?_, ?_, by rw [h.sh]; exact hv⟩
 ·rw [← yN, ← zVs]
  have := zF5 (q := s.reads.row.map (·.1)) (L := keysK t) (zNr h.rr) fun k hk => by
   obtain ⟨x, hx, rfl⟩ := List.mem_map.1 hk
   exact h.rk x hx
  simpa using this
 ·have := zF5 (q := s.ranges) (L := rngsK t) h.rn h.rg
  have e : (rngsK t).length = t.size + 1 := by unfold rngsK inoK; simp [yN]
  omega
theorem zSc {t : Tr} {i : Int} {nm : List UInt8} (hn : nm ∈ namesL i t.row) : ∃ v, (keyH 69 i ++ nm, v) ∈ t.row := by
 rw [zCn] at hn
 obtain ⟨y, hy, rfl⟩ := List.mem_map.1 hn
 exact ⟨y.2, qE.1 hy⟩
theorem zPr {t : Tr} {i : Int} {nm : List UInt8} (hn : nm ∈ namesL i t.row) : entryK i nm ∈ keysK t := by
 unfold entryK keysK
 split
 ·exact List.mem_cons_self
 ·obtain ⟨v, hv⟩ := zSc hn
  exact List.mem_cons_of_mem _ (List.mem_append_left _ (List.mem_map.2 ⟨_, hv, rfl⟩))
theorem zFk {t : Tr} (ht : Rises t.row) {d c : Int} {nm : List UInt8} (h : cdT t d nm = some c) : c ∈ inoK t ∧ U32 c := by
 refine ⟨?_, zMs h⟩
 unfold cdT chOf at h
 split at h
 ·rename_i h4
  obtain rfl := Option.some.inj h
  cases hg : t.get (entryK d nm) with
  | none => rw [hg] at h4; cases h4
  | some v =>
   rw [yQ _ _ ht] at hg
   exact List.mem_cons_of_mem _ (List.mem_map.2 ⟨_, (z5 ht).1 hg, rfl⟩)
 ·cases h
theorem VK.child {t : Tr} {s : VS} (h : VK t s) (d : Int) (nm : List UInt8) : s.child d nm = cdT t d nm := by unfold VS.child cdT; rw [h.sh]
theorem VK.load {t : Tr} {s : VS} (h : VK t s) (j : Int) : s.load j = ldT t j := by unfold VS.load ldT; rw [h.sh]
theorem zBg {t : Tr} {c : Int} (h : c = 0 ∨ c ∈ inoK t) : keyH 73 c ∈ keysK t := by
 unfold keysK
 refine List.mem_cons_of_mem _ (List.mem_append_right _ (List.mem_map.2 ⟨c, ?_, rfl⟩))
 rcases h with rfl | h
 ·exact List.mem_cons_self
 ·exact List.mem_cons_of_mem _ h
theorem VK.fall {t : Tr} {s : VS} (h : VK t s) {c : Int} (hc : c ∈ inoK t) : VK t (s.fall c).2 := by
 unfold VS.fall
 split
 ·exact h.rd (zBg (.inr hc))
 ·exact h.rd (zBg (.inr hc))
def FS (F : Mp) (b : Nat) : Prop := ∀ r ∈ F, ∃ p : List UInt8, r.2 = .str p ∧ p.length ≤ b
theorem FS.mono {F : Mp} {a b : Nat} (h : FS F a) (hb : a ≤ b) : FS F b := fun r hr => by
 obtain ⟨p, h1, h2⟩ := h r hr
 exact ⟨p, h1, by omega⟩
theorem FS.get {F : Mp} {b : Nat} (h : FS F b) {c : Int} {v : AV} (hv : mget c F = some v) : ∃ p : List UInt8, v = .str p ∧ p.length ≤ b := by
 unfold mget at hv
 cases hl : look c F 0 with
 | none => rw [hl] at hv; cases hv
 | some q =>
  rw [hl] at hv
  obtain rfl := Option.some.inj hv
  exact h _ (List.mem_of_getElem? (zG6 hl).2)
theorem FS.put {F : Mp} {b : Nat} (h : FS F b) (c : Int) {q : List UInt8} (hq : q.length ≤ b) : FS (mput c (.str q) F) b := fun r hr => by
 rcases zAo hr with rfl | hr
 ·exact ⟨q, rfl, hq⟩
 ·exact h r hr
structure SOk (t : Tr) (b : Nat) (a : SV8) : Prop where
 v : VK t a.s
 f : FS a.F b
theorem zG2 {α β : Type} {P : α → Prop} {f : α → β → α} : ∀ (l : List β) (a : α), P a → (∀ a, ∀ y ∈ l, P a → P (f a y)) → P (l.foldl f a)
 | [], _, h, _ => h
 | y :: l, a, h, hf => zG2 l (f a y) (hf a y (by simp) h) fun a z hz => hf a z (by simp [hz])
def MF.nd (m : MF) : Prop := (m.map (·.i)).Nodup
theorem MF.nd.with {m : MF} (h : m.nd) (x : MN) : (m.with x).nd := by
 unfold MF.nd MF.with
 rw [List.map_append, List.map_map]
 have e : (m.map ((·.i) ∘ fun y => if y.i = x.i then x else y)) = m.map (·.i) := by
  refine List.map_congr_left fun y _ => ?_
  show (if y.i = x.i then x else y).i = y.i
  split
  ·rename_i q; exact q.symm
  ·rfl
 rw [e]
 cases hx : m.at x.i with
 | some z =>
  show (List.map (fun x : MN => x.i) m ++ []).Nodup
  rw [List.append_nil]
  exact h
 | none =>
  refine List.nodup_append.2 ⟨h, by simp, fun a ha b hb => ?_⟩
  obtain ⟨y, hy, rfl⟩ := List.mem_map.1 ha
  have hb : b = x.i := by simpa using hb
  rw [hb]
  intro q
  have : (m.at x.i).isSome = true := by rw [at_any, List.any_eq_true]; exact ⟨y, hy, by simpa using q⟩
  rw [hx] at this
  cases this
theorem MF.nd.without {m : MF} (h : m.nd) (j : Int) : (m.without j).nd := List.Nodup.sublist (List.Sublist.map _ List.filter_sublist) h
theorem MF.nd.linked {m : MF} (h : m.nd) (j b : Int) : (m.linked j b).nd := by
 unfold MF.linked; split
 ·rename_i x hx; exact h.with _
 ·exact h
theorem MF.nd.named {m : MF} (h : m.nd) (d : Int) (nm : List UInt8) (j : Int) : (m.named d nm j).nd := by
 unfold MF.named; split
 ·rename_i x hx; exact h.with _
 ·exact h
theorem MF.nd.rmv {m : MF} (h : m.nd) (b : MS) : (m.rmv b).2.nd := by
 unfold MF.rmv
 split
 ·exact h
 ·split
  ·exact h
  ·split
   ·exact h
   ·exact ((h.without _).linked _ _).named _ _ _
theorem MF.nd.unl {m : MF} (h : m.nd) (b : MS) : (m.unl b).2.nd := by
 unfold MF.unl
 split
 ·exact h
 ·split
  ·exact h
  ·split
   ·exact (h.without _).named _ _ _
   ·exact (h.linked _ _).named _ _ _
theorem MF.nd.moved {m : MF} (h : m.nd) (s t : MS) (b : Bool) : (m.moved s t b).nd := by
 unfold MF.moved
 split
 ·exact (((h.named _ _ _).named _ _ _).linked _ _).linked _ _
 ·exact (h.named _ _ _).named _ _ _
theorem MF.nd.make {m : MF} (h : m.nd) (p : List UInt8) (k i : Int) : (m.make p k i).2.nd := by
 unfold MF.make
 split
 ·exact h
 split
 ·exact h
 dsimp only
 split
 ·exact (h.with _).named _ _ _
 ·exact ((h.with _).linked _ _).named _ _ _
theorem MF.nd.remove {m : MF} (h : m.nd) (p : List UInt8) : (m.remove p).2.nd := by
 unfold MF.remove
 repeat' split
 ·exact h
 ·exact h
 ·exact h
 ·exact h.rmv _
theorem MF.nd.unlink {m : MF} (h : m.nd) (p : List UInt8) : (m.unlink p).2.nd := by
 unfold MF.unlink
 repeat' split
 ·exact h
 ·exact h
 ·exact h.unl _
theorem MF.nd.link {m : MF} (h : m.nd) (o p : List UInt8) : (m.link o p).2.nd := by
 unfold MF.link
 split
 ·exact h
 split
 ·exact h
 split
 ·exact h
 split
 ·exact h
 split
 ·exact h
 split
 ·exact h
 split
 ·exact h
 exact (h.linked _ _).named _ _ _
theorem MF.nd.rename {m : MF} (h : m.nd) (o p : List UInt8) : (m.rename o p).2.nd := by
 unfold MF.rename
 split
 ·exact h
 split
 ·exact h
 split
 ·exact h
 split
 ·exact h
 split
 ·exact h
 split
 ·exact h
 split
 ·exact h
 split
 ·exact h.moved _ _ _
 have hq : (if m.kind (m.findP o).1.i = 2 then m.rmv (m.findP p).1 else m.unl (m.findP p).1).2.nd := by
  split
  ·exact h.rmv _
  ·exact h.unl _
 generalize (if m.kind (m.findP o).1.i = 2 then m.rmv (m.findP p).1 else m.unl (m.findP p).1) = q at hq ⊢
 dsimp only
 split
 ·exact h
 ·exact MF.nd.moved hq _ _ _
theorem MF.nd.fwrite {m : MF} (h : m.nd) (i o : Int) (b : List UInt8) : (m.fwrite i o b).2.nd := by
 unfold MF.fwrite
 split
 ·exact h
 rename_i x hx
 split
 ·exact h
 split
 ·exact h
 split
 ·exact h
 ·exact h.with _
theorem MF.nd.ftrunc {m : MF} (h : m.nd) (i z : Int) : (m.ftrunc i z).2.nd := by
 unfold MF.ftrunc
 split
 ·exact h
 rename_i x hx
 split
 ·exact h
 split
 ·exact h
 ·exact h.with _
inductive SplR (m : MF) (y : KV) : Prop where
 | ino (j : Int) (x : MN) (hj : U32 j) (hk : y.1 = keyH 73 j) (hs : splitK y.1 = (73, j, [], 0)) (hx : m.at j = some x) : SplR m y
 | ent (j k : Int) (nm : List UInt8) (x z : MN) (hj : U32 j) (hku : U32 k) (hk : y.1 = keyH 69 j ++ nm) (hs : splitK y.1 = (69, j, nm, 0)) (hn : nameB nm = true) (hx : m.at j = some x) (hg : lget nm x.e = some (beB 4 k)) (hv : y.2 = beB 4 k) (hz : m.at k = some z) : SplR m y
 | blk (j i : Int) (hh : y.1.headD 0 = 68) (hs : splitK y.1 = (68, j, [], i)) : SplR m y
def sumF {α : Type} (f : α → Int) : List α → Int
 | [] => 0
 | x :: r => f x + sumF f r
def nblk (n : Nat) : Int := (((n + 63) / 64 : Nat) : Int)
def entP (y : KV) : Int := 41 + (y.1.length : Int)
def ofN (x : MN) : Int := 50 + 103 * nblk x.b.length + sumF entP x.e
def MF.of (m : MF) : Int := sumF ofN m
end Go.Proofs.YtdnpkgakpiopgaaGreatDoor

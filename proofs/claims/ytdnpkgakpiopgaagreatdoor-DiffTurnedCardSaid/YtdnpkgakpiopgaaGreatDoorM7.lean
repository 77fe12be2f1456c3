import Derived.Test.YtdnpkgakpiopgaaGreatDoorM6
import Derived.Test.YtdnpkgakpiopgaaGreatDoorM2
import Derived.Test.YtdnpkgakpiopgaaGreatDoorM3
import Derived.Test.YtdnpkgakpiopgaaGreatDoorM5
import Derived.MapKept
import Derived.Test.YtdnpkgakpiopgaaGreatDoorGo
namespace Go.Proofs.YtdnpkgakpiopgaaGreatDoor
set_option maxRecDepth 20000
open Go.Awp Tr
abbrev Nd := Int × Int × Int × Int
structure VJ (s : VS) (n : Nat) : Prop where
 rb : Rises s.base.row
 rs : Rises s.shown.row
 rw : Rises s.writes.row
 rr : Rises s.reads.row
 zb : s.base.size ≤ n
 zs : s.shown.size ≤ n
 zw : s.writes.size ≤ n
 zr : s.reads.size ≤ n
 zg : s.ranges.length ≤ n
 val : ∀ x ∈ s.shown.row, x.1.length ≤ 100000 ∧ x.2.length ≤ 100000
def VS.rd (s : VS) (k : List UInt8) : VS := { s with reads := s.reads.set k [] }
def VS.rds (s : VS) (ks : List (List UInt8)) : VS := { s with reads := ks.foldl (fun t k => t.set k []) s.reads }
def VS.put (s : VS) (k v : List UInt8) : VS := if s.room k = true then s.set k v else s
def VS.del (s : VS) (k : List UInt8) : VS := if s.room k = true then s.cut k else s
theorem VJ.new {t : Tr} {n : Nat} (h : Rises t.row) (hz : t.size ≤ n) (hv : ∀ x ∈ t.row, x.1.length ≤ 100000 ∧ x.2.length ≤ 100000) : VJ (VS.new t) n :=
 ⟨h, h, by simp [VS.new, row, Rises], by simp [VS.new, row, Rises], hz, hz, Nat.zero_le _, Nat.zero_le _, Nat.zero_le _, hv⟩
theorem VJ.mono {s : VS} {n m : Nat} (h : VJ s n) (hm : n ≤ m) : VJ s m :=
 ⟨h.rb, h.rs, h.rw, h.rr, by have := h.zb; omega, by have := h.zs; omega, by have := h.zw; omega, by have := h.zr; omega, by have := h.zg; omega, h.val⟩
theorem VJ.rd {s : VS} {n : Nat} (h : VJ s n) (k : List UInt8) : VJ (s.rd k) (n + 1) :=
 ⟨h.rb, h.rs, h.rw, jS h.rr, by have := h.zb; unfold VS.rd; dsimp only; omega, by have := h.zs; unfold VS.rd; dsimp only; omega, by have := h.zw; unfold VS.rd; dsimp only; omega, by have := h.zr; have := jZ k [] s.reads; unfold VS.rd; dsimp only; omega, by have := h.zg; unfold VS.rd; dsimp only; omega, h.val⟩
theorem rds_cons (s : VS) (k : List UInt8) (ks : List (List UInt8)) : s.rds (k :: ks) = (s.rd k).rds ks := rfl
theorem zIr (s : VS) (ks ls : List (List UInt8)) : s.rds (ks ++ ls) = (s.rds ks).rds ls := by unfold VS.rds; rw [List.foldl_append]
theorem VJ.rds {s : VS} {n : Nat} (h : VJ s n) (ks : List (List UInt8)) : VJ (s.rds ks) (n + ks.length) := by
 induction ks generalizing s n with
 | nil => exact h
 | cons k ks ih =>
  rw [rds_cons, List.length_cons]
  exact (ih (h.rd k)).mono (by omega)
theorem VJ.range {s : VS} {n : Nat} (h : VJ s n) (a b : List UInt8) : VJ (s.range a b) (n + 1) := by
 unfold VS.range
 split
 ·refine ⟨h.rb, h.rs, h.rw, h.rr, by have := h.zb; dsimp only; omega, by have := h.zs; dsimp only; omega, by have := h.zw; dsimp only; omega, by have := h.zr; dsimp only; omega, ?_, h.val⟩
  have := h.zg
  dsimp only
  split
  ·omega
  ·rw [List.length_append]; simp; omega
 ·exact h.mono (by omega)
theorem VJ.set {s : VS} {n : Nat} (h : VJ s n) (k v : List UInt8) (hk : k.length ≤ 100000) (hv : v.length ≤ 100000) : VJ (s.set k v) (n + 1) := by
 have z1 := jZ k v s.shown
 have z2 := jZ k (61 :: v) s.writes
 refine ⟨h.rb, jS h.rs, jS h.rw, h.rr, by have := h.zb; unfold VS.set; dsimp only; omega, by have := h.zs; unfold VS.set; dsimp only; omega, by have := h.zw; unfold VS.set; dsimp only; omega, by have := h.zr; unfold VS.set; dsimp only; omega, by have := h.zg; unfold VS.set; dsimp only; omega, fun x hx => ?_⟩
 unfold VS.set at hx
 dsimp only at hx
 rw [qY _ _ _ h.rs] at hx
 rcases zBl hx with rfl | hx
 ·exact ⟨hk, hv⟩
 ·exact h.val x hx
theorem VJ.cut {s : VS} {n : Nat} (h : VJ s n) (k : List UInt8) : VJ (s.cut k) (n + 1) := by
 have z1 := zAm s.shown k
 have z2 := zAm s.writes k
 have z3 := jZ k [] s.writes
 refine ⟨h.rb, zKy h.rs, ?_, h.rr, by have := h.zb; unfold VS.cut; dsimp only; omega, by have := h.zs; unfold VS.cut; dsimp only; omega, ?_, by have := h.zr; unfold VS.cut; dsimp only; omega, by have := h.zg; unfold VS.cut; dsimp only; omega, fun x hx => ?_⟩
 ·unfold VS.cut
  dsimp only
  split
  ·exact jS h.rw
  ·exact zKy h.rw
 ·have := h.zw
  unfold VS.cut
  dsimp only
  split <;> omega
 ·unfold VS.cut at hx
  dsimp only at hx
  rw [qT _ _ h.rs] at hx
  exact h.val x (List.mem_filter.1 hx).1
theorem VJ.put {s : VS} {n : Nat} (h : VJ s n) (k v : List UInt8) (hk : k.length ≤ 100000) (hv : v.length ≤ 100000) : VJ (s.put k v) (n + 1) := by
 unfold VS.put
 split
 ·exact h.set k v hk hv
 ·exact h.mono (by omega)
theorem VJ.del {s : VS} {n : Nat} (h : VJ s n) (k : List UInt8) : VJ (s.del k) (n + 1) := by
 unfold VS.del
 split
 ·exact h.cut k
 ·exact h.mono (by omega)
theorem VJ.len {s : VS} {n : Nat} (h : VJ s n) {k v : List UInt8} (hg : s.shown.get k = some v) : v.length ≤ 100000 := by
 rw [yQ _ _ h.rs] at hg
 exact (h.val _ ((z5 h.rs).1 hg)).2
theorem VJ.len0 {s : VS} {n : Nat} (h : VJ s n) (k : List UInt8) : ((s.shown.get k).getD []).length ≤ 100000 := by
 cases hg : s.shown.get k with
 | none => exact Nat.zero_le _
 | some v => exact h.len hg
def ndOf (n : Int) : Option (List UInt8) → Option Nd
 | none => if n = 1 then some (2, 2, 0, 1) else none
 | some v => getNode v
def VS.load (s : VS) (n : Int) : Option Nd := ndOf n (s.shown.get (keyH 73 n))
abbrev ndT (g : Nd) : TV := .agg [.p (.int .u8 g.1), .p (.int .u32 g.2.1), .p (.int .u32 g.2.2.1), .p (.int .u32 g.2.2.2)]
abbrev ndA (g : Nd) : TV := .p (.agg (nodeV g.1 g.2.1 g.2.2.1 g.2.2.2))
theorem qH (g : Option Nd) : nodeT g = .tup [ndT (g.getD (0, 0, 0, 0)), .p (.bool g.isSome)] := by
 cases g with
 | none => rfl
 | some x => obtain ⟨a, b, c, d⟩ := x; rfl
def Nd.ok (g : Nd) : Prop := (0 ≤ g.1 ∧ g.1 ≤ 255) ∧ (0 ≤ g.2.1 ∧ g.2.1 ≤ 4294967295) ∧ (0 ≤ g.2.2.1 ∧ g.2.2.1 ≤ 4294967295) ∧ (0 ≤ g.2.2.2 ∧ g.2.2.2 ≤ 4294967295)
theorem b0_bd17 (l : List UInt8) : 0 ≤ b0 l ∧ b0 l ≤ 255 := by
 unfold b0
 have := (l.headD 0).toNat_lt
 omega
theorem zR2 {l : List UInt8} {g : Nd} (h : getNode l = some g) : Nd.ok g := by
 unfold getNode at h
 split at h
 ·obtain rfl := Option.some.inj h
  exact ⟨b0_bd17 l, zLo l 1, zLo l 5, zLo l 9⟩
 ·cases h
theorem zMy {n : Int} {o : Option (List UInt8)} {g : Nd} (h : ndOf n o = some g) : Nd.ok g := by
 cases o with
 | none =>
  unfold ndOf at h
  dsimp only at h
  split at h
  ·obtain rfl := Option.some.inj h
   unfold Nd.ok; decide
  ·cases h
 | some v => exact zR2 h
def VS.save (s : VS) (n : Int) (g : Nd) : VS := s.put (keyH 73 n) (nodeB g.1 g.2.1 g.2.2.1 g.2.2.2)
theorem zD6 (a b c d : Int) : (nodeB a b c d).length = 13 := by simp [nodeB, yD]
def chOf (g : Option (List UInt8)) : Option Int := if (g.getD []).length = 4 then some (gF (g.getD []) 0) else none
def VS.child (s : VS) (d : Int) (m : List UInt8) : Option Int := chOf (s.shown.get (entryK d m))
abbrev chT (g : Option Int) : TV := .tup [.p (.int .u32 (g.getD 0)), .p (.bool g.isSome)]
theorem zMs {o : Option (List UInt8)} {i : Int} (h : chOf o = some i) : 0 ≤ i ∧ i ≤ 4294967295 := by
 unfold chOf at h
 split at h
 ·obtain rfl := Option.some.inj h
  exact zLo _ _
 ·cases h
set_option maxHeartbeats 4000000 in
theorem jB {s : VS} {m : Nat} (h : VJ s m) (hm : m ≤ 1000000) (n : Int) (hn : 0 ≤ n ∧ n ≤ 4294967295) : Con Tryz.prog 65 [vP, .p (.int .u32 n)] (vH s) (nodeT (s.load n)) (vH (s.rd (keyH 73 n))) [] := by
 have c1 := zC4 n hn []
 have c2 := zLb s (keyH 73 n) (by have := h.zr; unfold big40; omega)
 have hl := h.len0 (keyH 73 n)
 rw [zAk] at c2
 change Con Tryz.prog _ _ _ _ (vH (s.rd (keyH 73 n))) _ at c2
 unfold VS.load
 generalize s.shown.get (keyH 73 n) = g at c2 hl
 generalize s.rd (keyH 73 n) = s' at c2
 cases g with
 | none =>
  by_cases h1 : n = 1
  ·subst h1
   have cr := zSb []
   show Con _ _ _ _ (nodeT (some (2, 2, 0, 1))) _ _
   refine zD Tryz.func65 rfl (by kernel_rfl) rfl fun F w0 β0 => ?_
   refine zE rfl ?_
   refine go ?_
   refine zH rfl rfl (zB rfl rfl (c1) rfl rfl rfl rfl) rfl ?_
   refine go ?_
   refine zH rfl rfl (zA [.o 0, .o 1] rfl rfl (c2) rfl rfl rfl ⟨⟨rfl, rfl⟩, ⟨rfl, rfl⟩, trivial⟩ rfl rfl rfl rfl) rfl ?_
   refine go ?_
   refine zH rfl rfl (zB rfl rfl (cr) rfl rfl rfl rfl) rfl ?_
   refine go ?_
   exact zC hT rfl rfl rfl
  ·have c3 := zLa [] (by decide)
   rw [qH] at c3
   have e : nodeT (ndOf n none) = .tup [ndT (0, 0, 0, 0), .p (.bool false)] := by
    show nodeT (if n = 1 then _ else _) = _
    rw [if_neg h1]; rfl
   rw [e]
   refine zD Tryz.func65 rfl (by kernel_rfl) rfl fun F w0 β0 => ?_
   refine zE rfl ?_
   refine go ?_
   refine zH rfl rfl (zB rfl rfl (c1) rfl rfl rfl rfl) rfl ?_
   refine go ?_
   refine zH rfl rfl (zA [.o 0, .o 1] rfl rfl (c2) rfl rfl rfl ⟨⟨rfl, rfl⟩, ⟨rfl, rfl⟩, trivial⟩ rfl rfl rfl rfl) rfl ?_
   refine go ?_
   refine zF rfl (by simp [h1]) ?_
   refine go ?_
   refine zH rfl rfl (zB rfl rfl (c3) rfl rfl rfl rfl) rfl ?_
   refine go ?_
   exact zC hT rfl rfl rfl
 | some v =>
  have c3 := zLa v (by dsimp only [Option.getD] at hl; omega)
  rw [qH] at c3
  show Con _ _ _ _ (nodeT (getNode v)) _ _
  rw [qH]
  generalize getNode v = g at c3
  refine zD Tryz.func65 rfl (by kernel_rfl) rfl fun F w0 β0 => ?_
  refine zE rfl ?_
  refine go ?_
  refine zH rfl rfl (zB rfl rfl (c1) rfl rfl rfl rfl) rfl ?_
  refine go ?_
  refine zH rfl rfl (zA [.o 0, .o 1] rfl rfl (c2) rfl rfl rfl ⟨⟨rfl, rfl⟩, ⟨rfl, rfl⟩, trivial⟩ rfl rfl rfl rfl) rfl ?_
  refine go ?_
  refine zH rfl rfl (zB rfl rfl (c3) rfl rfl rfl rfl) rfl ?_
  refine go ?_
  exact zC hT rfl rfl rfl
theorem jF {s : VS} {m : Nat} (h : VJ s m) (hm : m ≤ 1000000) (n : Int) (hn : 0 ≤ n ∧ n ≤ 4294967295) (g : Nd) (hg : Nd.ok g) : Con Tryz.prog 161 [vP, .p (.int .u32 n), ndA g] (vH s) (.p (.bool (s.room (keyH 73 n)))) (vH (s.save n g)) [] := by
 have c1 := zC4 n hn []
 have c2 := zUk g.1 g.2.1 g.2.2.1 g.2.2.2 hg.1 hg.2.1 hg.2.2.1 hg.2.2.2
 have c3 := zGb s (keyH 73 n) (nodeB g.1 g.2.1 g.2.2.1 g.2.2.2) (by have := h.zw; unfold big40; omega) (by have := h.zs; unfold big40; omega) (by rw [zD6]; omega)
 change Con Tryz.prog _ _ _ _ (vH (s.save n g)) _ at c3
 generalize s.save n g = s' at c3
 refine zD Tryz.func161 rfl (by kernel_rfl) rfl fun F w0 β0 => ?_
 refine zE rfl ?_
 refine go ?_
 refine yA 5 (vH s') (by kernel_rfl) (by kernel_rfl) ?_
 refine gdJ ?_
 refine yJ rfl rfl rfl rfl rfl rfl (zM rfl rfl (c1) rfl rfl rfl) rfl ?_
 refine gdJ ?_
 refine yJ rfl rfl rfl rfl rfl rfl (zM rfl rfl (c2) rfl rfl rfl) rfl ?_
 refine gdJ ?_
 refine yI rfl rfl rfl rfl rfl rfl (zA [.o 0, .o 1] rfl rfl (c3) rfl rfl rfl ⟨⟨rfl, rfl⟩, ⟨rfl, rfl⟩, trivial⟩ rfl rfl rfl rfl) rfl ?_
 refine gdJ ?_
 refine go ?_
 exact zC hT rfl rfl rfl
theorem zIh {s : VS} {m : Nat} (h : VJ s m) (hm : m ≤ 1000000) (n : Int) (hn : 0 ≤ n ∧ n ≤ 4294967295) : Con Tryz.prog 190 [vP, .p (.int .u32 n)] (vH s) (.p (.bool (s.room (keyH 73 n)))) (vH (s.del (keyH 73 n))) [] := by
 have c1 := zC4 n hn []
 have c3 := zEa s (keyH 73 n) (by have := h.zw; unfold big40; omega) (by have := h.zs; unfold big40; omega)
 change Con Tryz.prog _ _ _ _ (vH (s.del (keyH 73 n))) _ at c3
 generalize s.del (keyH 73 n) = s' at c3
 refine zD Tryz.func190 rfl (by kernel_rfl) rfl fun F w0 β0 => ?_
 refine zE rfl ?_
 refine go ?_
 refine zH rfl rfl (zB rfl rfl (c1) rfl rfl rfl rfl) rfl ?_
 refine go ?_
 refine zH rfl rfl (zA [.o 0, .o 1] rfl rfl (c3) rfl rfl rfl ⟨⟨rfl, rfl⟩, ⟨rfl, rfl⟩, trivial⟩ rfl rfl rfl rfl) rfl ?_
 refine go ?_
 exact zC hT rfl rfl rfl
theorem zB1 {s : VS} {m : Nat} (h : VJ s m) (hm : m ≤ 1000000) (n : Int) (hn : 0 ≤ n ∧ n ≤ 4294967295) (x : List UInt8) : Con Tryz.prog 171 [vP, .p (.int .u32 n), .p (.str x)] (vH s) (.p (.bool (s.room (entryK n x)))) (vH (s.del (entryK n x))) [] := by
 have c1 := zDd n x hn []
 have c3 := zEa s (entryK n x) (by have := h.zw; unfold big40; omega) (by have := h.zs; unfold big40; omega)
 change Con Tryz.prog _ _ _ _ (vH (s.del (entryK n x))) _ at c3
 generalize s.del (entryK n x) = s' at c3
 refine zD Tryz.func171 rfl (by kernel_rfl) rfl fun F w0 β0 => ?_
 refine zE rfl ?_
 refine go ?_
 refine zH rfl rfl (zB rfl rfl (c1) rfl rfl rfl rfl) rfl ?_
 refine go ?_
 refine zH rfl rfl (zA [.o 0, .o 1] rfl rfl (c3) rfl rfl rfl ⟨⟨rfl, rfl⟩, ⟨rfl, rfl⟩, trivial⟩ rfl rfl rfl rfl) rfl ?_
 refine go ?_
 exact zC hT rfl rfl rfl
theorem zEl {s : VS} {m : Nat} (h : VJ s m) (hm : m ≤ 1000000) (n i : Int) (hn : 0 ≤ n ∧ n ≤ 4294967295) (hi : 0 ≤ i ∧ i ≤ 4294967295) (x : List UInt8) : Con Tryz.prog 162 [vP, .p (.int .u32 n), .p (.str x), .p (.int .u32 i)] (vH s) (.p (.bool (s.room (entryK n x)))) (vH (s.put (entryK n x) (beB 4 i))) [] := by
 have c1 := zDd n x hn []
 have c2 := put4 (s := .nils) (l := []) .nils i hi (by decide)
 rw [List.nil_append] at c2
 have c3 := zGb s (entryK n x) (beB 4 i) (by have := h.zw; unfold big40; omega) (by have := h.zs; unfold big40; omega) (by rw [yD]; omega)
 change Con Tryz.prog _ _ _ _ (vH (s.put (entryK n x) (beB 4 i))) _ at c3
 generalize s.put (entryK n x) (beB 4 i) = s' at c3
 refine zD Tryz.func162 rfl (by kernel_rfl) rfl fun F w0 β0 => ?_
 refine zE rfl ?_
 refine go ?_
 refine zH rfl rfl (zB rfl rfl (c1) rfl rfl rfl rfl) rfl ?_
 refine go ?_
 refine yH 14 _ rfl (congrArg (fun z => TV.p (.int .u64 z)) (u64_in i (by omega))) ?_
 refine zH rfl rfl (zB rfl rfl (c2) rfl rfl rfl rfl) rfl ?_
 refine go ?_
 refine zH rfl rfl (zA [.o 0, .o 1] rfl rfl (c3) rfl rfl rfl ⟨⟨rfl, rfl⟩, ⟨rfl, rfl⟩, trivial⟩ rfl rfl rfl rfl) rfl ?_
 refine go ?_
 exact zC hT rfl rfl rfl
set_option maxHeartbeats 4000000 in
theorem zG9 {s : VS} {m : Nat} (h : VJ s m) (hm : m ≤ 1000000) (n : Int) (hn : 0 ≤ n ∧ n ≤ 4294967295) (x : List UInt8) : Con Tryz.prog 64 [vP, .p (.int .u32 n), .p (.str x)] (vH s) (chT (s.child n x)) (vH (s.rd (entryK n x))) [] := by
 have c1 := zDd n x hn []
 have c2 := zLb s (entryK n x) (by have := h.zr; unfold big40; omega)
 have hl := h.len0 (entryK n x)
 rw [zAk] at c2
 change Con Tryz.prog _ _ _ _ (vH (s.rd (entryK n x))) _ at c2
 unfold VS.child chOf
 generalize s.shown.get (entryK n x) = g at c2 hl
 generalize s.rd (entryK n x) = s' at c2
 generalize g.getD [] = v at c2 hl
 generalize g.isSome = b at c2
 have c3 := zOy (.ps v) 0 4 (by decide) (by omega) []
 rw [show (wide 4).toNat = 4 by decide] at c3
 by_cases h4 : v.length < 4
 ·have e : getR v 0 4 = (0, 0, 3) := by unfold getR; rw [if_neg (by omega), if_pos (by omega)]
  rw [e] at c3
  change Con Tryz.prog _ _ _ (.tup [.p (.int .u64 0), .p (.int .i64 0), .p (.int .i64 3)]) _ _ at c3
  rw [if_neg (by omega)]
  refine zD Tryz.func64 rfl (by kernel_rfl) rfl fun F w0 β0 => ?_
  refine zE rfl ?_
  refine go ?_
  refine zH rfl rfl (zB rfl rfl (c1) rfl rfl rfl rfl) rfl ?_
  refine go ?_
  refine zH rfl rfl (zA [.o 0, .o 1] rfl rfl (c2) rfl rfl rfl ⟨⟨rfl, rfl⟩, ⟨rfl, rfl⟩, trivial⟩ rfl rfl rfl rfl) rfl ?_
  refine go ?_
  refine zH rfl rfl (zB rfl rfl (c3) rfl rfl rfl rfl) rfl ?_
  refine go ?_
  exact zC hT rfl rfl rfl
 ·have e : getR v 0 4 = (gF v 0, 4, 0) := by unfold getR gF; rw [if_neg (by omega), if_neg (by omega)]; rfl
  rw [e] at c3
  change Con Tryz.prog _ _ _ (.tup [.p (.int .u64 (gF v 0)), .p (.int .i64 4), .p (.int .i64 0)]) _ _ at c3
  by_cases h5 : v.length = 4
  ·rw [if_pos h5]
   refine zD Tryz.func64 rfl (by kernel_rfl) rfl fun F w0 β0 => ?_
   refine zE rfl ?_
   refine go ?_
   refine zH rfl rfl (zB rfl rfl (c1) rfl rfl rfl rfl) rfl ?_
   refine go ?_
   refine zH rfl rfl (zA [.o 0, .o 1] rfl rfl (c2) rfl rfl rfl ⟨⟨rfl, rfl⟩, ⟨rfl, rfl⟩, trivial⟩ rfl rfl rfl rfl) rfl ?_
   refine go ?_
   refine zH rfl rfl (zB rfl rfl (c3) rfl rfl rfl rfl) rfl ?_
   refine go ?_
   refine zF rfl (by simp [h5]) ?_
   refine go ?_
   refine yH 6 _ rfl (congrArg (fun z => TV.p (.int .u32 z)) (zC2 _ (zLo v 0))) ?_
   exact zC hT rfl rfl rfl
  ·rw [if_neg h5]
   refine zD Tryz.func64 rfl (by kernel_rfl) rfl fun F w0 β0 => ?_
   refine zE rfl ?_
   refine go ?_
   refine zH rfl rfl (zB rfl rfl (c1) rfl rfl rfl rfl) rfl ?_
   refine go ?_
   refine zH rfl rfl (zA [.o 0, .o 1] rfl rfl (c2) rfl rfl rfl ⟨⟨rfl, rfl⟩, ⟨rfl, rfl⟩, trivial⟩ rfl rfl rfl rfl) rfl ?_
   refine go ?_
   refine zH rfl rfl (zB rfl rfl (c3) rfl rfl rfl rfl) rfl ?_
   refine go ?_
   refine zG rfl (by simp; omega) ?_
   refine go ?_
   exact zC hT rfl rfl rfl
end Go.Proofs.YtdnpkgakpiopgaaGreatDoor
namespace Go.Proofs.YtdnpkgakpiopgaaGreatDoor
set_option maxRecDepth 20000
open Go.Awp Go.RowKit Go.MapKept
def pl1 : AV → Option Value
 | .int k n => some (.int k n)
 | .bool b => some (.bool b)
 | .str l => some (.string ⟨l.toArray⟩)
 | _ => none
def pl1L : List AV → Option (List Value)
 | [] => some []
 | x :: r => match pl1 x, pl1L r with
  | some v, some vs => some (v :: vs)
  | _, _ => none
def plV : AV → Option Value
 | .agg xs => match pl1L xs with
  | some vs => some (.agg vs.toArray)
  | none => none
 | x => pl1 x
def plD (x : AV) : Value := (plV x).getD undef
def plOk (x : AV) : Bool := (plV x).isSome
section
variable {w : World} {N : Nat → Prop}
end
structure KeyTy (P : Program) (κ : Type) (kt : TypeId) (ka : κ → AV) where
 d : TypeDesc
 und : P.underlying kt = some d
 pl : ∀ k, plOk (ka k) = true
 isK : ∀ k, IsKey d (plD (ka k))
 inj : ∀ k k', plD (ka k) = plD (ka k') → k = k'
section
variable {κ : Type} (ka : κ → AV)
variable [DecidableEq κ]
def look (k : κ) : List (κ × AV) → Nat → Option (Nat × AV)
 | [], _ => none
 | r :: rs, j => if r.1 = k then some (j, r.2) else look k rs (j + 1)
def mget (k : κ) (rows : List (κ × AV)) : Option AV := (look k rows 0).map (·.2)
def mput (k : κ) (v : AV) (rows : List (κ × AV)) : List (κ × AV) := match look k rows 0 with
 | some (i, _) => rows.set i (k, v)
 | none => rows ++ [(k, v)]
theorem zG6 {k : κ} : ∀ {rows : List (κ × AV)} {j i : Nat} {v : AV}, look k rows j = some (i, v) → j ≤ i ∧ rows[i - j]? = some (k, v)
 | [], j, i, v, h => by simp [look] at h
 | r :: rs, j, i, v, h => by
  simp only [look] at h
  split at h
  ·rename_i e
   obtain ⟨rfl, rfl⟩ := Prod.mk.inj (Option.some.inj h)
   subst e
   exact ⟨Nat.le_refl _, by rw [Nat.sub_self]; rfl⟩
  ·obtain ⟨h1, h2⟩ := zG6 h
   exact ⟨by omega, by rw [show i - j = (i - (j + 1)) + 1 by omega, List.getElem?_cons_succ]; exact h2⟩
theorem zP7 {k : κ} {v : AV} : ∀ {rows : List (κ × AV)} {j : Nat} (k' : κ), look k' (rows ++ [(k, v)]) j = (look k' rows j).or (if k = k' then some (j + rows.length, v) else none)
 | [], j, k' => by simp [look]
 | r :: rs, j, k' => by
  simp only [List.cons_append, look]
  split
  ·simp
  ·rw [zP7 k']
   congr 1
   simp only [List.length_cons]
   rw [show j + 1 + rs.length = j + (rs.length + 1) by omega]
theorem zOl {k : κ} {v : AV} : ∀ {rows : List (κ × AV)} {j i : Nat} {u : AV} (k' : κ), look k rows j = some (i, u) → look k' (rows.set (i - j) (k, v)) j = if k' = k then some (i, v) else look k' rows j
 | [], j, i, u, k', h => by simp [look] at h
 | r :: rs, j, i, u, k', h => by
  simp only [look] at h
  split at h
  ·rename_i e
   obtain ⟨rfl, rfl⟩ := Prod.mk.inj (Option.some.inj h)
   rw [Nat.sub_self, List.set_cons_zero]
   simp only [look]
   by_cases e2 : k = k'
   ·rw [if_pos e2, if_pos e2.symm]
   ·rw [if_neg e2, if_neg (Ne.symm e2), if_neg (by rw [e]; exact e2)]
  ·rename_i e
   have h1 := (zG6 h).1
   rw [show i - j = (i - (j + 1)) + 1 by omega, List.set_cons_succ]
   simp only [look]
   rw [zOl k' h]
   by_cases e2 : r.1 = k'
   ·rw [if_pos e2, if_neg (by rw [← e2]; exact e), if_pos e2]
   ·rw [if_neg e2, if_neg e2]
theorem zAf {k k' : κ} {v : AV} {rows : List (κ × AV)} : mget k' (mput k v rows) = if k' = k then some v else mget k' rows := by
 unfold mput mget
 cases h : look k rows 0 with
 | some p =>
  obtain ⟨i, u⟩ := p
  have := zOl (v := v) k' h
  rw [Nat.sub_zero] at this
  dsimp only
  rw [this]
  split <;> rfl
 | none =>
  dsimp only
  rw [zP7]
  by_cases e : k = k'
  ·subst e
   rw [h]; simp
  ·rw [if_neg e, if_neg (Ne.symm e), Option.or_none]
theorem zAo {k : κ} {v : AV} {rows : List (κ × AV)} {r : κ × AV} (h : r ∈ mput k v rows) : r = (k, v) ∨ r ∈ rows := by
 unfold mput at h
 split at h
 ·exact (List.mem_or_eq_of_mem_set h).symm
 ·rcases List.mem_append.1 h with h | h
  ·exact .inr h
  ·exact .inl (by simpa using h)
end
section
variable {P : Program} {T : Tab} {env : Env} {H L : List AObj} {o : Oper} {x : TV} {κ : Type} {ka : κ → AV}
end
end Go.Proofs.YtdnpkgakpiopgaaGreatDoor
namespace Go.Proofs.YtdnpkgakpiopgaaGreatDoor
set_option maxRecDepth 20000
open Go.Awp Tr
structure Ix (n : Nat) where
 i : Nat
 h : i ≤ n
theorem zTq {α β : Type} (f : α → β) {l : List α} {i : Nat} {x : α} (hx : l[i]? = some x) : (l.take i).map f ++ [f x] = (l.take (i + 1)).map f := by
 obtain ⟨h, rfl⟩ := List.getElem?_eq_some_iff.1 hx
 rw [List.take_succ_eq_append_getElem h, List.map_append]
 rfl
end Go.Proofs.YtdnpkgakpiopgaaGreatDoor

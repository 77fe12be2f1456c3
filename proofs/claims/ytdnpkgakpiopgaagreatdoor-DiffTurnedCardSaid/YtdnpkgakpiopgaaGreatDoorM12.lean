import Derived.Test.YtdnpkgakpiopgaaGreatDoorGo
import Derived.Test.YtdnpkgakpiopgaaGreatDoorM11
import Derived.Test.YtdnpkgakpiopgaaGreatDoorM8
import Derived.Test.YtdnpkgakpiopgaaGreatDoorM6
import Derived.Test.YtdnpkgakpiopgaaGreatDoorM10
namespace Go.Proofs.YtdnpkgakpiopgaaGreatDoor
set_option maxRecDepth 20000
open Go.Awp Tr
def VS.linkAt (s : VS) (a t : Sp) : Int × VS :=
 let s1 := s.put (entryK t.d t.m) (beB 4 a.i)
 (fullE [s.room (entryK t.d t.m), s1.room (keyH 73 a.i)], s1.save a.i (linkN a.n 1))
def VS.link (s : VS) (o p : List UInt8) : Int × VS :=
 if (s.there o true).2 ≠ 0 then ((s.there o true).2, s.rdp o) else if (s.there o true).1.n.1 = 2 then (13, s.rdp o) else
 if ((s.rdp o).find p).2.1 ≠ 0 then (((s.rdp o).find p).2.1, (s.rdp o).rdp p) else if ((s.rdp o).find p).1.i ≠ 0 then (11, (s.rdp o).rdp p) else if (s.there o true).1.n.2.1 ≥ 1000 then (18, (s.rdp o).rdp p)
 else ((s.rdp o).rdp p).linkAt (s.there o true).1 ((s.rdp o).find p).1
set_option maxHeartbeats 8000000 in
theorem zS5 {s : VS} {m : Nat} (h : VJ s m) (hm : m ≤ 100000) (o p : List UInt8) : Con Tryz.prog 132 [vP, .p (.str o), .p (.str p)] (vH s) (.p (.int .i64 (s.link o p).1)) (vH (s.link o p).2) [] := by
 have c1 := zA3 h (by omega) o true
 have ha := zDv s o true
 have hv := h.rdp o
 unfold VS.link
 generalize s.there o true = t at c1 ha
 generalize s.rdp o = s1 at c1 hv
 obtain ⟨a, e⟩ := t
 dsimp only at c1 ha ⊢
 by_cases he : e ≠ 0
 ·rw [if_pos he]
  refine zD Tryz.func132 rfl (by kernel_rfl) rfl fun F w0 β0 => ?_
  refine zE rfl ?_
  refine go ?_
  refine zH rfl rfl (zA [.o 0, .o 1] rfl rfl (c1) rfl rfl rfl ⟨⟨rfl, rfl⟩, ⟨rfl, rfl⟩, trivial⟩ rfl rfl rfl rfl) rfl ?_
  refine go ?_
  refine zG rfl (by simp [he]) ?_
  refine go ?_
  exact zC hT rfl rfl rfl
 rw [if_neg he]
 obtain rfl : e = 0 := by simpa using he
 by_cases hk : a.n.1 = 2
 ·rw [if_pos hk]
  refine zD Tryz.func132 rfl (by kernel_rfl) rfl fun F w0 β0 => ?_
  refine zE rfl ?_
  refine go ?_
  refine zH rfl rfl (zA [.o 0, .o 1] rfl rfl (c1) rfl rfl rfl ⟨⟨rfl, rfl⟩, ⟨rfl, rfl⟩, trivial⟩ rfl rfl rfl rfl) rfl ?_
  refine go ?_
  refine zG rfl (by simp [hk]) ?_
  refine go ?_
  exact zC hT rfl rfl rfl
 rw [if_neg hk]
 have c2 := zAy hv (by omega) p
 have hfo := zEr s1 p
 change Con Tryz.prog _ _ _ _ (vH (s1.rdp p)) _ at c2
 have hv2 := hv.rdp p
 generalize s1.rdp p = s2 at c2 hv2
 generalize s1.find p = fr at c2 hfo
 obtain ⟨t, e, ks⟩ := fr
 dsimp only at c2 hfo ⊢
 by_cases he : e ≠ 0
 ·rw [if_pos he]
  refine zD Tryz.func132 rfl (by kernel_rfl) rfl fun F w0 β0 => ?_
  refine zE rfl ?_
  refine go ?_
  refine zH rfl rfl (zA [.o 0, .o 1] rfl rfl (c1) rfl rfl rfl ⟨⟨rfl, rfl⟩, ⟨rfl, rfl⟩, trivial⟩ rfl rfl rfl rfl) rfl ?_
  refine go ?_
  refine zF rfl (by simpa using hk) ?_
  refine go ?_
  refine zH rfl rfl (zA [.o 0, .o 1] rfl rfl (c2) rfl rfl rfl ⟨⟨rfl, rfl⟩, ⟨rfl, rfl⟩, trivial⟩ rfl rfl rfl rfl) rfl ?_
  refine go ?_
  refine zG rfl (by simp [he]) ?_
  refine go ?_
  exact zC hT rfl rfl rfl
 rw [if_neg he]
 obtain rfl : e = 0 := by simpa using he
 by_cases ht : t.i ≠ 0
 ·rw [if_pos ht]
  refine zD Tryz.func132 rfl (by kernel_rfl) rfl fun F w0 β0 => ?_
  refine zE rfl ?_
  refine go ?_
  refine zH rfl rfl (zA [.o 0, .o 1] rfl rfl (c1) rfl rfl rfl ⟨⟨rfl, rfl⟩, ⟨rfl, rfl⟩, trivial⟩ rfl rfl rfl rfl) rfl ?_
  refine go ?_
  refine zF rfl (by simpa using hk) ?_
  refine go ?_
  refine zH rfl rfl (zA [.o 0, .o 1] rfl rfl (c2) rfl rfl rfl ⟨⟨rfl, rfl⟩, ⟨rfl, rfl⟩, trivial⟩ rfl rfl rfl rfl) rfl ?_
  refine go ?_
  refine zG rfl (by simp [ht]) ?_
  refine go ?_
  exact zC hT rfl rfl rfl
 rw [if_neg ht]
 by_cases hn : a.n.2.1 ≥ 1000
 ·rw [if_pos hn]
  refine zD Tryz.func132 rfl (by kernel_rfl) rfl fun F w0 β0 => ?_
  refine zE rfl ?_
  refine go ?_
  refine zH rfl rfl (zA [.o 0, .o 1] rfl rfl (c1) rfl rfl rfl ⟨⟨rfl, rfl⟩, ⟨rfl, rfl⟩, trivial⟩ rfl rfl rfl rfl) rfl ?_
  refine go ?_
  refine zF rfl (by simpa using hk) ?_
  refine go ?_
  refine zH rfl rfl (zA [.o 0, .o 1] rfl rfl (c2) rfl rfl rfl ⟨⟨rfl, rfl⟩, ⟨rfl, rfl⟩, trivial⟩ rfl rfl rfl rfl) rfl ?_
  refine go ?_
  refine zF rfl (by simpa using ht) ?_
  refine go ?_
  refine zG rfl (decide_eq_true hn) ?_
  refine go ?_
  exact zC hT rfl rfl rfl
 rw [if_neg hn]
 unfold VS.linkAt
 dsimp only
 have c3 := zEl hv2 (by omega) t.d a.i hfo.1.1 ha.2.1 t.m
 have hv3 := hv2.hang t.d t.m a.i
 generalize s2.put (entryK t.d t.m) (beB 4 a.i) = s3 at c3 hv3
 generalize s2.room (entryK t.d t.m) = r1 at c3
 have c4 := jF hv3 (by omega) a.i ha.2.1 (linkN a.n 1) (zI1 ha.2.2 1)
 generalize s3.save a.i (linkN a.n 1) = s4 at c4
 generalize s3.room (keyH 73 a.i) = r2 at c4
 have c5 := qG [r1, r2] (by simp)
 generalize fullE [r1, r2] = e1 at c5
 refine zD Tryz.func132 rfl (by kernel_rfl) rfl fun F w0 β0 => ?_
 refine zE rfl ?_
 refine go ?_
 refine zH rfl rfl (zA [.o 0, .o 1] rfl rfl (c1) rfl rfl rfl ⟨⟨rfl, rfl⟩, ⟨rfl, rfl⟩, trivial⟩ rfl rfl rfl rfl) rfl ?_
 refine go ?_
 refine zF rfl (by simpa using hk) ?_
 refine go ?_
 refine zH rfl rfl (zA [.o 0, .o 1] rfl rfl (c2) rfl rfl rfl ⟨⟨rfl, rfl⟩, ⟨rfl, rfl⟩, trivial⟩ rfl rfl rfl rfl) rfl ?_
 refine go ?_
 refine zF rfl (by simpa using ht) ?_
 refine go ?_
 refine zF rfl (decide_eq_false hn) ?_
 refine go ?_
 refine jH 7 13 (vH s3) (vH s4) (by kernel_rfl) (by kernel_rfl) ?_
 refine gdJ ?_
 refine yI rfl rfl rfl rfl rfl rfl (zA [.o 0, .o 1] rfl rfl (c3) rfl rfl rfl ⟨⟨rfl, rfl⟩, ⟨rfl, rfl⟩, trivial⟩ rfl rfl rfl rfl) rfl ?_
 refine gdJ ?_
 refine yI rfl rfl rfl rfl rfl rfl (zA [.o 0, .o 1] rfl rfl (c4) rfl rfl rfl ⟨⟨rfl, rfl⟩, ⟨rfl, rfl⟩, trivial⟩ rfl rfl rfl rfl) rfl ?_
 refine gdJ ?_
 refine yJ rfl rfl rfl rfl rfl rfl (zM rfl rfl (c5) rfl rfl rfl) rfl ?_
 refine gdJ ?_
 refine go ?_
 exact zC hT rfl rfl rfl
theorem zLc (l : List UInt8) : Sl AV.str (splitN l).1 (namesP l) := by
 by_cases h : (splitN l).2 = 0
 ·rcases (zA8 h).1 with ⟨h1, h2⟩ | h1
  ·rw [h1, h2]; exact .nils
  ·rw [h1]; exact .ps _
 ·have e : namesP l = [] := by unfold namesP; rw [if_pos (.inl h)]
  rw [e]
  have : (splitN l).1 = .nils := by
   unfold splitN at h ⊢
   repeat' split
   all_goals first | rfl | (simp_all)
  rw [this]; exact .nils
theorem zR7 (l : List UInt8) : (namesP l).length ≤ 16 := by
 by_cases h : (splitN l).2 = 0
 ·exact (zA8 h).2.1
 ·have e : namesP l = [] := by unfold namesP; rw [if_pos (.inl h)]
  rw [e]; simp
def VS.clears (s : VS) (a t : Sp) (o p : List UInt8) : Int × VS :=
 if a.n.1 = 2 ∧ underB (namesP o) (namesP p) = true then (15, s) else if t.i = 0 then (0, s) else if a.n.1 = 2 then s.removes t else s.unlinks t
theorem zK8 {s : VS} {n : Nat} (h : VJ s n) (a t : Sp) (o p : List UInt8) : VJ (s.clears a t o p).2 (2 * n + 10) := by
 unfold VS.clears
 repeat' split
 ·exact h.mono (by omega)
 ·exact h.mono (by omega)
 ·exact (zCy h t).mono (by omega)
 ·exact zH4 h t
set_option maxHeartbeats 8000000 in
theorem zNd {s : VS} {m : Nat} (h : VJ s m) (hm : m ≤ 100000) (a t : Sp) (ht : Sp.ok t) (o p : List UInt8) : Con Tryz.prog 170 [vP, spA a, spA t, .p (.str o), .p (.str p)] (vH s) (.p (.int .i64 (s.clears a t o p).1)) (vH (s.clears a t o p).2) [] := by
 have c1 := zDe o
 have c2 := zDe p
 have c3 := zRc (splitN o).1 (splitN p).1 _ _ (zLc o) (zLc p) (by have := zR7 o; unfold big40; omega)
 generalize (splitN o).1 = x1 at c1 c3
 generalize (splitN p).1 = x2 at c2 c3
 generalize (splitN o).2 = e1 at c1
 generalize (splitN p).2 = e2 at c2
 unfold VS.clears
 generalize underB (namesP o) (namesP p) = u at c3
 have d1 := zE8 h (by omega) t ht
 have d2 := zFc h (by omega) t ht
 generalize s.removes t = q1 at d1
 generalize s.unlinks t = q2 at d2
 by_cases hk : a.n.1 = 2
 ·cases u with
  | true =>
   rw [if_pos ⟨hk, rfl⟩]
   refine zD Tryz.func170 rfl (by kernel_rfl) rfl fun F w0 β0 => ?_
   refine zE rfl ?_
   refine go ?_
   refine zG rfl (by simp [hk]) ?_
   refine go ?_
   refine zH rfl rfl (zB rfl rfl (c1) rfl rfl rfl rfl) rfl ?_
   refine go ?_
   refine zH rfl rfl (zB rfl rfl (c2) rfl rfl rfl rfl) rfl ?_
   refine go ?_
   refine zH rfl rfl (zB rfl rfl (c3) rfl rfl rfl rfl) rfl ?_
   refine go ?_
   exact zC hT rfl rfl rfl
  | false =>
   rw [if_neg (by simp)]
   by_cases h0 : t.i = 0
   ·rw [if_pos h0]
    refine zD Tryz.func170 rfl (by kernel_rfl) rfl fun F w0 β0 => ?_
    refine zE rfl ?_
    refine go ?_
    refine zG rfl (by simp [hk]) ?_
    refine go ?_
    refine zH rfl rfl (zB rfl rfl (c1) rfl rfl rfl rfl) rfl ?_
    refine go ?_
    refine zH rfl rfl (zB rfl rfl (c2) rfl rfl rfl rfl) rfl ?_
    refine go ?_
    refine zH rfl rfl (zB rfl rfl (c3) rfl rfl rfl rfl) rfl ?_
    refine go ?_
    refine zG rfl (by simp [h0]) ?_
    refine go ?_
    exact zC hT rfl rfl rfl
   ·rw [if_neg h0, if_pos hk]
    obtain ⟨e3, s3⟩ := q1
    dsimp only at d1 ⊢
    refine zD Tryz.func170 rfl (by kernel_rfl) rfl fun F w0 β0 => ?_
    refine zE rfl ?_
    refine go ?_
    refine zG rfl (by simp [hk]) ?_
    refine go ?_
    refine zH rfl rfl (zB rfl rfl (c1) rfl rfl rfl rfl) rfl ?_
    refine go ?_
    refine zH rfl rfl (zB rfl rfl (c2) rfl rfl rfl rfl) rfl ?_
    refine go ?_
    refine zH rfl rfl (zB rfl rfl (c3) rfl rfl rfl rfl) rfl ?_
    refine go ?_
    refine zF rfl (by simpa using h0) ?_
    refine go ?_
    refine zG rfl (by simp [hk]) ?_
    refine go ?_
    refine zH rfl rfl (zA [.o 0, .o 1] rfl rfl (d1) rfl rfl rfl ⟨⟨rfl, rfl⟩, ⟨rfl, rfl⟩, trivial⟩ rfl rfl rfl rfl) rfl ?_
    refine go ?_
    exact zC hT rfl rfl rfl
 ·rw [if_neg (by simp [hk])]
  by_cases h0 : t.i = 0
  ·rw [if_pos h0]
   refine zD Tryz.func170 rfl (by kernel_rfl) rfl fun F w0 β0 => ?_
   refine zE rfl ?_
   refine go ?_
   refine zF rfl (by simpa using hk) ?_
   refine go ?_
   refine zG rfl (by simp [h0]) ?_
   refine go ?_
   exact zC hT rfl rfl rfl
  ·rw [if_neg h0, if_neg hk]
   obtain ⟨e3, s3⟩ := q2
   dsimp only at d2 ⊢
   refine zD Tryz.func170 rfl (by kernel_rfl) rfl fun F w0 β0 => ?_
   refine zE rfl ?_
   refine go ?_
   refine zF rfl (by simpa using hk) ?_
   refine go ?_
   refine zF rfl (by simpa using h0) ?_
   refine go ?_
   refine zF rfl (by simpa using hk) ?_
   refine go ?_
   refine zH rfl rfl (zA [.o 0, .o 1] rfl rfl (d2) rfl rfl rfl ⟨⟨rfl, rfl⟩, ⟨rfl, rfl⟩, trivial⟩ rfl rfl rfl rfl) rfl ?_
   refine go ?_
   exact zC hT rfl rfl rfl
def parN (g : Nd) (d : Int) : Nd := (g.1, g.2.1, g.2.2.1, d)
def VS.movesAt (s : VS) (a t : Sp) : Int × VS :=
 let s2 := s.del (entryK a.d a.m)
 let s3 := s2.put (entryK t.d t.m) (beB 4 a.i)
 let e := fullE [s.room (entryK a.d a.m), s2.room (entryK t.d t.m)]
 if a.n.1 ≠ 2 ∨ a.d = t.d then (e, s3) else
 let s4 := s3.save a.i (parN a.n t.d)
 let s5 := s4.links a.d (-1)
 (firstE [e, fullE [s3.room (keyH 73 a.i)], s4.linksE a.d, s5.linksE t.d], s5.links t.d 1)
def VS.renameAt (s : VS) (a t : Sp) (o p : List UInt8) : Int × VS :=
 if (s.clears a t o p).1 ≠ 0 then s.clears a t o p else (s.clears a t o p).2.movesAt a t
def VS.rename (s : VS) (o p : List UInt8) : Int × VS :=
 if (s.there o false).2 ≠ 0 then ((s.there o false).2, s.rdp o) else
 if ((s.rdp o).find p).2.1 ≠ 0 then (((s.rdp o).find p).2.1, (s.rdp o).rdp p) else if ((s.rdp o).find p).1.i = 1 then (29, (s.rdp o).rdp p) else if ((s.rdp o).find p).1.i = (s.there o false).1.i then (0, (s.rdp o).rdp p)
 else ((s.rdp o).rdp p).renameAt (s.there o false).1 ((s.rdp o).find p).1 o p
set_option maxHeartbeats 16000000 in
theorem zOb {s : VS} {m : Nat} (h : VJ s m) (hm : m ≤ 90000) (o p : List UInt8) : Con Tryz.prog 131 [vP, .p (.str o), .p (.str p)] (vH s) (.p (.int .i64 (s.rename o p).1)) (vH (s.rename o p).2) [] := by
 have c1 := zA3 h (by omega) o false
 have ha := zDv s o false
 have hv := h.rdp o
 unfold VS.rename
 generalize s.there o false = t at c1 ha
 generalize s.rdp o = s1 at c1 hv
 obtain ⟨a, e⟩ := t
 dsimp only at c1 ha ⊢
 by_cases he : e ≠ 0
 ·rw [if_pos he]
  refine zD Tryz.func131 rfl (by kernel_rfl) rfl fun F w0 β0 => ?_
  refine zE rfl ?_
  refine go ?_
  refine zH rfl rfl (zA [.o 0, .o 1] rfl rfl (c1) rfl rfl rfl ⟨⟨rfl, rfl⟩, ⟨rfl, rfl⟩, trivial⟩ rfl rfl rfl rfl) rfl ?_
  refine go ?_
  refine zG rfl (by simp [he]) ?_
  refine go ?_
  exact zC hT rfl rfl rfl
 rw [if_neg he]
 obtain rfl : e = 0 := by simpa using he
 have c2 := zAy hv (by omega) p
 have hfo := zEr s1 p
 change Con Tryz.prog _ _ _ _ (vH (s1.rdp p)) _ at c2
 have hv2 := hv.rdp p
 generalize s1.rdp p = s2 at c2 hv2
 generalize s1.find p = fr at c2 hfo
 obtain ⟨t, e, ks⟩ := fr
 dsimp only at c2 hfo ⊢
 by_cases he : e ≠ 0
 ·rw [if_pos he]
  refine zD Tryz.func131 rfl (by kernel_rfl) rfl fun F w0 β0 => ?_
  refine zE rfl ?_
  refine go ?_
  refine zH rfl rfl (zA [.o 0, .o 1] rfl rfl (c1) rfl rfl rfl ⟨⟨rfl, rfl⟩, ⟨rfl, rfl⟩, trivial⟩ rfl rfl rfl rfl) rfl ?_
  refine go ?_
  refine zH rfl rfl (zA [.o 0, .o 1] rfl rfl (c2) rfl rfl rfl ⟨⟨rfl, rfl⟩, ⟨rfl, rfl⟩, trivial⟩ rfl rfl rfl rfl) rfl ?_
  refine go ?_
  refine zG rfl (by simp [he]) ?_
  refine go ?_
  exact zC hT rfl rfl rfl
 rw [if_neg he]
 obtain rfl : e = 0 := by simpa using he
 by_cases ht : t.i = 1
 ·rw [if_pos ht]
  refine zD Tryz.func131 rfl (by kernel_rfl) rfl fun F w0 β0 => ?_
  refine zE rfl ?_
  refine go ?_
  refine zH rfl rfl (zA [.o 0, .o 1] rfl rfl (c1) rfl rfl rfl ⟨⟨rfl, rfl⟩, ⟨rfl, rfl⟩, trivial⟩ rfl rfl rfl rfl) rfl ?_
  refine go ?_
  refine zH rfl rfl (zA [.o 0, .o 1] rfl rfl (c2) rfl rfl rfl ⟨⟨rfl, rfl⟩, ⟨rfl, rfl⟩, trivial⟩ rfl rfl rfl rfl) rfl ?_
  refine go ?_
  refine zG rfl (by simp [ht]) ?_
  refine go ?_
  exact zC hT rfl rfl rfl
 rw [if_neg ht]
 by_cases hs : t.i = a.i
 ·rw [if_pos hs]
  refine zD Tryz.func131 rfl (by kernel_rfl) rfl fun F w0 β0 => ?_
  refine zE rfl ?_
  refine go ?_
  refine zH rfl rfl (zA [.o 0, .o 1] rfl rfl (c1) rfl rfl rfl ⟨⟨rfl, rfl⟩, ⟨rfl, rfl⟩, trivial⟩ rfl rfl rfl rfl) rfl ?_
  refine go ?_
  refine zH rfl rfl (zA [.o 0, .o 1] rfl rfl (c2) rfl rfl rfl ⟨⟨rfl, rfl⟩, ⟨rfl, rfl⟩, trivial⟩ rfl rfl rfl rfl) rfl ?_
  refine go ?_
  refine zF rfl (by simpa using ht) ?_
  refine go ?_
  refine zG rfl (by simp [hs]) ?_
  refine go ?_
  exact zC hT rfl rfl rfl
 rw [if_neg hs]
 unfold VS.renameAt
 have c3 := zNd hv2 (by omega) a t hfo.1 o p
 have hv3 := zK8 hv2 a t o p
 generalize s2.clears a t o p = q at c3 hv3
 obtain ⟨e, s3⟩ := q
 dsimp only at c3 hv3 ⊢
 by_cases he : e ≠ 0
 ·rw [if_pos he]
  refine zD Tryz.func131 rfl (by kernel_rfl) rfl fun F w0 β0 => ?_
  refine zE rfl ?_
  refine go ?_
  refine zH rfl rfl (zA [.o 0, .o 1] rfl rfl (c1) rfl rfl rfl ⟨⟨rfl, rfl⟩, ⟨rfl, rfl⟩, trivial⟩ rfl rfl rfl rfl) rfl ?_
  refine go ?_
  refine zH rfl rfl (zA [.o 0, .o 1] rfl rfl (c2) rfl rfl rfl ⟨⟨rfl, rfl⟩, ⟨rfl, rfl⟩, trivial⟩ rfl rfl rfl rfl) rfl ?_
  refine go ?_
  refine zF rfl (by simpa using ht) ?_
  refine go ?_
  refine zF rfl (by simpa using hs) ?_
  refine go ?_
  refine zH rfl rfl (zA [.o 0, .o 1] rfl rfl (c3) rfl rfl rfl ⟨⟨rfl, rfl⟩, ⟨rfl, rfl⟩, trivial⟩ rfl rfl rfl rfl) rfl ?_
  refine go ?_
  refine zG rfl (by simp [he]) ?_
  refine go ?_
  exact zC hT rfl rfl rfl
 rw [if_neg he]
 obtain rfl : e = 0 := by simpa using he
 unfold VS.movesAt
 dsimp only
 have d1 := zB1 hv3 (by omega) a.d ha.1 a.m
 have hv4 := hv3.del (entryK a.d a.m)
 generalize s3.del (entryK a.d a.m) = s4 at d1 hv4
 generalize s3.room (entryK a.d a.m) = r1 at d1
 have d2 := zEl hv4 (by omega) t.d a.i hfo.1.1 ha.2.1 t.m
 have hv5 := hv4.hang t.d t.m a.i
 generalize s4.put (entryK t.d t.m) (beB 4 a.i) = s5 at d2 hv5
 generalize s4.room (entryK t.d t.m) = r2 at d2
 have d3 := qG [r1, r2] (by simp)
 generalize fullE [r1, r2] = e1 at d3
 by_cases hk : a.n.1 ≠ 2 ∨ a.d = t.d
 ·rw [if_pos hk]
  refine zD Tryz.func131 rfl (by kernel_rfl) rfl fun F w0 β0 => ?_
  refine zE rfl ?_
  refine go ?_
  refine zH rfl rfl (zA [.o 0, .o 1] rfl rfl (c1) rfl rfl rfl ⟨⟨rfl, rfl⟩, ⟨rfl, rfl⟩, trivial⟩ rfl rfl rfl rfl) rfl ?_
  refine go ?_
  refine zH rfl rfl (zA [.o 0, .o 1] rfl rfl (c2) rfl rfl rfl ⟨⟨rfl, rfl⟩, ⟨rfl, rfl⟩, trivial⟩ rfl rfl rfl rfl) rfl ?_
  refine go ?_
  refine zF rfl (by simpa using ht) ?_
  refine go ?_
  refine zF rfl (by simpa using hs) ?_
  refine go ?_
  refine zH rfl rfl (zA [.o 0, .o 1] rfl rfl (c3) rfl rfl rfl ⟨⟨rfl, rfl⟩, ⟨rfl, rfl⟩, trivial⟩ rfl rfl rfl rfl) rfl ?_
  refine go ?_
  refine jH 5 13 (vH s4) (vH s5) (by kernel_rfl) (by kernel_rfl) ?_
  refine gdJ ?_
  refine yI rfl rfl rfl rfl rfl rfl (zA [.o 0, .o 1] rfl rfl (d1) rfl rfl rfl ⟨⟨rfl, rfl⟩, ⟨rfl, rfl⟩, trivial⟩ rfl rfl rfl rfl) rfl ?_
  refine gdJ ?_
  refine yI rfl rfl rfl rfl rfl rfl (zA [.o 0, .o 1] rfl rfl (d2) rfl rfl rfl ⟨⟨rfl, rfl⟩, ⟨rfl, rfl⟩, trivial⟩ rfl rfl rfl rfl) rfl ?_
  refine gdJ ?_
  refine yJ rfl rfl rfl rfl rfl rfl (zM rfl rfl (d3) rfl rfl rfl) rfl ?_
  refine gdJ ?_
  refine go ?_
  refine zG rfl (by rcases hk with h | h <;> simp [h]) ?_
  refine go ?_
  exact zC hT rfl rfl rfl
 rw [if_neg hk]
 have hg : Nd.ok (parN a.n t.d) := ⟨ha.2.2.1, ha.2.2.2.1, ha.2.2.2.2.1, hfo.1.1⟩
 have d4 := jF hv5 (by omega) a.i ha.2.1 (parN a.n t.d) hg
 have hv6 := hv5.save a.i (parN a.n t.d)
 generalize s5.save a.i (parN a.n t.d) = s6 at d4 hv6
 generalize s5.room (keyH 73 a.i) = r3 at d4
 have d5 := qG [r3] (by simp)
 generalize fullE [r3] = e2 at d5
 have d6 := zCu hv6 (by omega) a.d (-1) ha.1 (by decide)
 have hv7 := hv6.links a.d (-1)
 generalize s6.links a.d (-1) = s7 at d6 hv7
 generalize s6.linksE a.d = e3 at d6
 have d7 := zCu hv7 (by omega) t.d 1 hfo.1.1 (by decide)
 generalize s7.links t.d 1 = s8 at d7
 generalize s7.linksE t.d = e4 at d7
 have d8 := j6 [e1, e2, e3, e4] (by simp)
 generalize firstE [e1, e2, e3, e4] = e5 at d8
 refine zD Tryz.func131 rfl (by kernel_rfl) rfl fun F w0 β0 => ?_
 refine zE rfl ?_
 refine go ?_
 refine zH rfl rfl (zA [.o 0, .o 1] rfl rfl (c1) rfl rfl rfl ⟨⟨rfl, rfl⟩, ⟨rfl, rfl⟩, trivial⟩ rfl rfl rfl rfl) rfl ?_
 refine go ?_
 refine zH rfl rfl (zA [.o 0, .o 1] rfl rfl (c2) rfl rfl rfl ⟨⟨rfl, rfl⟩, ⟨rfl, rfl⟩, trivial⟩ rfl rfl rfl rfl) rfl ?_
 refine go ?_
 refine zF rfl (by simpa using ht) ?_
 refine go ?_
 refine zF rfl (by simpa using hs) ?_
 refine go ?_
 refine zH rfl rfl (zA [.o 0, .o 1] rfl rfl (c3) rfl rfl rfl ⟨⟨rfl, rfl⟩, ⟨rfl, rfl⟩, trivial⟩ rfl rfl rfl rfl) rfl ?_
 refine go ?_
 refine jH 5 13 (vH s4) (vH s5) (by kernel_rfl) (by kernel_rfl) ?_
 refine gdJ ?_
 refine yI rfl rfl rfl rfl rfl rfl (zA [.o 0, .o 1] rfl rfl (d1) rfl rfl rfl ⟨⟨rfl, rfl⟩, ⟨rfl, rfl⟩, trivial⟩ rfl rfl rfl rfl) rfl ?_
 refine gdJ ?_
 refine yI rfl rfl rfl rfl rfl rfl (zA [.o 0, .o 1] rfl rfl (d2) rfl rfl rfl ⟨⟨rfl, rfl⟩, ⟨rfl, rfl⟩, trivial⟩ rfl rfl rfl rfl) rfl ?_
 refine gdJ ?_
 refine yJ rfl rfl rfl rfl rfl rfl (zM rfl rfl (d3) rfl rfl rfl) rfl ?_
 refine gdJ ?_
 refine go ?_
 refine zF rfl (by simpa using hk) ?_
 refine go ?_
 refine zPt 6 8 12 16 (vH s6) (vH s6) (vH s7) (vH s8) (by kernel_rfl) (by kernel_rfl) ?_
 refine gdJ ?_
 refine yI rfl rfl rfl rfl rfl rfl (zA [.o 0, .o 1] rfl rfl (d4) rfl rfl rfl ⟨⟨rfl, rfl⟩, ⟨rfl, rfl⟩, trivial⟩ rfl rfl rfl rfl) rfl ?_
 refine gdJ ?_
 refine yI rfl rfl rfl rfl rfl rfl (zM rfl rfl (d5) rfl rfl rfl) rfl ?_
 refine gdJ ?_
 refine yI rfl rfl rfl rfl rfl rfl (zA [.o 0, .o 1] rfl rfl (d6) rfl rfl rfl ⟨⟨rfl, rfl⟩, ⟨rfl, rfl⟩, trivial⟩ rfl rfl rfl rfl) rfl ?_
 refine gdJ ?_
 refine yI rfl rfl rfl rfl rfl rfl (zA [.o 0, .o 1] rfl rfl (d7) rfl rfl rfl ⟨⟨rfl, rfl⟩, ⟨rfl, rfl⟩, trivial⟩ rfl rfl rfl rfl) rfl ?_
 refine gdJ ?_
 refine yJ rfl rfl rfl rfl rfl rfl (zM rfl rfl (d8) rfl rfl rfl) rfl ?_
 refine gdJ ?_
 refine go ?_
 exact zC hT rfl rfl rfl
def stepW (l : List KV) (w : KV) : List KV := if w.2 = [] then lcut w.1 l else lset w.1 (w.2.drop 1) l
structure WrI (k : List UInt8) (w : List KV) where
 i : Nat
 h : i ≤ w.length
 e : lget k (w.drop i) = lget k w
structure RgI (g : List Rg) (r : Rg) where
 i : Nat
 h : i ≤ g.length
 e : r ∈ g ↔ r ∈ g.drop i
structure MN where
 i : Int
 k : Int
 n : Int
 b : List UInt8
 e : List KV
abbrev MF := List MN
def newM : MF := [⟨1, 2, 2, [], []⟩]
def MF.at (f : MF) (i : Int) : Option MN := f.find? fun x => x.i == i
def ixF : MF → Int → Nat → Int
 | [], _, _ => -1
 | x :: r, i, j => if x.i = i then (j : Int) else ixF r i (j + 1)
def MF.ix (f : MF) (i : Int) : Int := ixF f i 0
theorem at_any (f : MF) (i : Int) : (f.at i).isSome = f.any fun x => x.i == i := by
 unfold MF.at
 rw [Bool.eq_iff_iff, List.find?_isSome, List.any_eq_true]
theorem yY {f : MF} {i : Int} {x : MN} (h : f.at i = some x) : x ∈ f ∧ x.i = i := by
 unfold MF.at at h
 exact ⟨List.mem_of_find?_eq_some h, by simpa using List.find?_some h⟩
def MF.with (f : MF) (x : MN) : MF := f.map (fun y => if y.i = x.i then x else y) ++ (if (f.at x.i).isSome = true then [] else [x])
def MF.without (f : MF) (i : Int) : MF := f.filter fun x => !(x.i == i)
def MN.entry (x : MN) (m : List UInt8) : Int := match lget m x.e with
 | some v => beV v
 | none => 0
def nmE (e : List KV) (m : List UInt8) (i : Int) : List KV := if i = 0 then lcut m e else lset m (beB 4 i) e
def MF.named (f : MF) (d : Int) (m : List UInt8) (i : Int) : MF := match f.at d with
 | some x => f.with { x with e := nmE x.e m i }
 | none => f
def MF.linked (f : MF) (i by_ : Int) : MF := match f.at i with
 | some x => f.with { x with n := x.n + by_ }
 | none => f
structure MS where
 d : Int
 m : List UInt8
 i : Int
def ms0 : MS := ⟨0, [], 0⟩
def MF.go (f : MF) : List (List UInt8) → MS → MS × Int
 | [], a => (a, 0)
 | x :: r, a => if a.i = 0 then (ms0, 10) else match f.at a.i with
  | none => (ms0, 0)
  | some n => if n.k ≠ 2 then (ms0, 12) else MF.go f r ⟨a.i, x, n.entry x⟩
def MF.findP (f : MF) (l : List UInt8) : MS × Int := if (splitN l).2 ≠ 0 then (ms0, (splitN l).2) else f.go (namesP l) ⟨0, [], 1⟩
def MF.kind (f : MF) (i : Int) : Int := match f.at i with
 | some x => x.k
 | none => 0
def MF.make (f : MF) (p : List UInt8) (k i : Int) : Int × MF :=
 if (f.findP p).2 ≠ 0 then ((f.findP p).2, f) else if (f.findP p).1.i ≠ 0 then (11, f)
 else (0, MF.named (if k = 1 then f.with ⟨i, 1, 1, [], []⟩ else (f.with ⟨i, 2, 2, [], []⟩).linked (f.findP p).1.d 1) (f.findP p).1.d (f.findP p).1.m i)
def MF.rmv (f : MF) (s : MS) : Int × MF := match f.at s.i with
 | none => (0, f)
 | some n => if n.k ≠ 2 then (12, f) else if n.e.length > 0 then (14, f) else (0, ((f.without s.i).linked s.d (-1)).named s.d s.m 0)
def MF.unl (f : MF) (s : MS) : Int × MF := match f.at s.i with
 | none => (0, f)
 | some n => if n.k = 2 then (13, f) else (0, (if n.n = 1 then f.without s.i else f.linked s.i (-1)).named s.d s.m 0)
def MF.remove (f : MF) (p : List UInt8) : Int × MF :=
 if (f.findP p).2 ≠ 0 then ((f.findP p).2, f) else if (f.findP p).1.i = 1 then (29, f) else if (f.findP p).1.i = 0 then (10, f) else f.rmv (f.findP p).1
def MF.list (f : MF) (p : List UInt8) : List (List UInt8) × Int :=
 if (f.findP p).2 ≠ 0 then ([], (f.findP p).2) else if (f.findP p).1.i = 0 then ([], 10) else match f.at (f.findP p).1.i with
  | none => ([], 0)
  | some n => if n.k ≠ 2 then ([], 12) else (n.e.map (·.1), 0)
def MF.link (f : MF) (o p : List UInt8) : Int × MF :=
 if (f.findP o).2 ≠ 0 then ((f.findP o).2, f) else if (f.findP o).1.i = 0 then (10, f) else match f.at (f.findP o).1.i with
  | none => (0, f)
  | some n => if n.k = 2 then (13, f) else if (f.findP p).2 ≠ 0 then ((f.findP p).2, f) else if (f.findP p).1.i ≠ 0 then (11, f) else if n.n ≥ 1000 then (18, f)
   else (0, (f.linked (f.findP o).1.i 1).named (f.findP p).1.d (f.findP p).1.m (f.findP o).1.i)
def MF.unlink (f : MF) (p : List UInt8) : Int × MF :=
 if (f.findP p).2 ≠ 0 then ((f.findP p).2, f) else if (f.findP p).1.i = 0 then (10, f) else f.unl (f.findP p).1
def MF.moved (f : MF) (s t : MS) (dir : Bool) : MF :=
 if dir = true then ((((f.named s.d s.m 0).named t.d t.m s.i).linked s.d (-1)).linked t.d 1) else (f.named s.d s.m 0).named t.d t.m s.i
def MF.rename (f : MF) (o p : List UInt8) : Int × MF :=
 if (f.findP o).2 ≠ 0 then ((f.findP o).2, f) else if (f.findP o).1.i = 1 then (29, f) else if (f.findP o).1.i = 0 then (10, f)
 else if (f.findP p).2 ≠ 0 then ((f.findP p).2, f) else if (f.findP p).1.i = 1 then (29, f) else if (f.findP p).1.i = (f.findP o).1.i then (0, f)
 else if (f.kind (f.findP o).1.i = 2 && underB (namesP o) (namesP p)) = true then (15, f)
 else if (f.findP p).1.i = 0 then (0, f.moved (f.findP o).1 (f.findP p).1 (f.kind (f.findP o).1.i == 2))
 else
  let q := if f.kind (f.findP o).1.i = 2 then f.rmv (f.findP p).1 else f.unl (f.findP p).1
  if q.1 ≠ 0 then (q.1, f) else (0, q.2.moved (f.findP o).1 (f.findP p).1 (f.kind (f.findP o).1.i == 2))
end Go.Proofs.YtdnpkgakpiopgaaGreatDoor

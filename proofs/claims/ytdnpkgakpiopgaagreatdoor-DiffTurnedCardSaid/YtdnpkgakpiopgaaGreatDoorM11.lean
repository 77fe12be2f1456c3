import Derived.Test.YtdnpkgakpiopgaaGreatDoorGo
import Derived.Test.YtdnpkgakpiopgaaGreatDoorM10
import Derived.Test.YtdnpkgakpiopgaaGreatDoorM9
namespace Go.Proofs.YtdnpkgakpiopgaaGreatDoor
set_option maxRecDepth 20000
open Go.Awp Tr
def fullE : List Bool → Int
 | [] => 0
 | b :: r => if b = true then fullE r else 21
def firstE : List Int → Int
 | [] => 0
 | e :: r => if e ≠ 0 then e else firstE r
structure LB {α : Type} (f : List α → Int) (l : List α) where
 i : Nat
 h : i ≤ l.length
 e : f (l.drop i) = f l
set_option maxHeartbeats 4000000 in
theorem qG (l : List Bool) (hl : l.length ≤ 1000) : Con Tryz.prog 160 [.p (.ps (l.map .bool))] [] (.p (.int .i64 (fullE l))) [] [] := by
 have hlen : (l.map AV.bool).length = l.length := by simp
 refine zD Tryz.func160 rfl (by kernel_rfl) rfl fun F w0 β0 => ?_
 refine zE rfl ?_
 refine go ?_
 refine z9 (fun q : LB fullE l => [(5, .p (.ps (l.map .bool))), (6, .p (.int .i64 (l.length : Int))), (7, .p (.int .i64 (q.i : Int)))]) (fun _ => []) (fun _ => []) (fun q => l.length - q.i) ⟨0, by omega, rfl⟩ ⟨rfl, (by rw [← hlen]; rfl), rfl, trivial⟩ rfl rfl (fun q => ?_)
 have hi := q.h
 have he := q.e
 refine go ?_
 by_cases h : q.i < l.length
 ·have hx : l[q.i]? = some l[q.i] := List.getElem?_eq_getElem h
  have hdr : l.drop q.i = l[q.i] :: l.drop (q.i + 1) := List.drop_eq_getElem_cons h
  rw [hdr] at he
  generalize l[q.i] = x at hx he
  have hxk : (l.map AV.bool)[((q.i : Nat) : Int).toNat]? = some (.bool x) := by rw [Int.toNat_natCast, List.getElem?_map, hx]; rfl
  refine zG rfl (decide_eq_true (by omega)) ?_
  refine go ?_
  refine zH rfl rfl (zJ hT rfl rfl rfl rfl rfl (.ps _) (by omega) (by rw [hlen]; omega)) rfl ?_
  refine go ?_
  refine zH rfl rfl (zI hT rfl rfl (.ps _) hxk rfl rfl) rfl ?_
  rw [← he]
  cases x with
  | true =>
   refine go ?_
   refine zR ⟨q.i + 1, by omega, he⟩ (by show l.length - (q.i + 1) < l.length - q.i; omega) ⟨rfl, rfl, congrArg (fun z => TV.p (.int .i64 z)) (by rw [IntWalk.i64_in _ (by omega)]; rfl), trivial⟩ rfl rfl
  | false =>
   refine go ?_
   exact zC hT rfl rfl rfl
 ·rw [List.drop_eq_nil_of_le (by omega)] at he
  rw [← he]
  refine zF rfl (decide_eq_false (by omega)) ?_
  refine go ?_
  exact zC hT rfl rfl rfl
set_option maxHeartbeats 4000000 in
theorem j6 (l : List Int) (hl : l.length ≤ 1000) : Con Tryz.prog 163 [.p (.ps (l.map (.int .i64)))] [] (.p (.int .i64 (firstE l))) [] [] := by
 have hlen : (l.map (AV.int .i64)).length = l.length := by simp
 refine zD Tryz.func163 rfl (by kernel_rfl) rfl fun F w0 β0 => ?_
 refine zE rfl ?_
 refine go ?_
 refine z9 (fun q : LB firstE l => [(5, .p (.ps (l.map (.int .i64)))), (6, .p (.int .i64 (l.length : Int))), (7, .p (.int .i64 (q.i : Int)))]) (fun _ => []) (fun _ => []) (fun q => l.length - q.i) ⟨0, by omega, rfl⟩ ⟨rfl, (by rw [← hlen]; rfl), rfl, trivial⟩ rfl rfl (fun q => ?_)
 have hi := q.h
 have he := q.e
 refine go ?_
 by_cases h : q.i < l.length
 ·have hx : l[q.i]? = some l[q.i] := List.getElem?_eq_getElem h
  have hdr : l.drop q.i = l[q.i] :: l.drop (q.i + 1) := List.drop_eq_getElem_cons h
  rw [hdr] at he
  generalize l[q.i] = x at hx he
  have hxk : (l.map (AV.int .i64))[((q.i : Nat) : Int).toNat]? = some (.int .i64 x) := by rw [Int.toNat_natCast, List.getElem?_map, hx]; rfl
  refine zG rfl (decide_eq_true (by omega)) ?_
  refine go ?_
  refine zH rfl rfl (zJ hT rfl rfl rfl rfl rfl (.ps _) (by omega) (by rw [hlen]; omega)) rfl ?_
  refine go ?_
  refine zH rfl rfl (zI hT rfl rfl (.ps _) hxk rfl rfl) rfl ?_
  refine go ?_
  by_cases hx0 : x ≠ 0
  ·rw [firstE, if_pos hx0] at he
   rw [← he]
   refine zG rfl (by simp [hx0]) ?_
   refine go ?_
   exact zC hT rfl rfl rfl
  ·rw [firstE, if_neg hx0] at he
   refine zF rfl (by simpa using hx0) ?_
   refine go ?_
   refine zR ⟨q.i + 1, by omega, he⟩ (by show l.length - (q.i + 1) < l.length - q.i; omega) ⟨rfl, rfl, congrArg (fun z => TV.p (.int .i64 z)) (by rw [IntWalk.i64_in _ (by omega)]; rfl), trivial⟩ rfl rfl
 ·rw [List.drop_eq_nil_of_le (by omega)] at he
  rw [← he]
  refine zF rfl (decide_eq_false (by omega)) ?_
  refine go ?_
  exact zC hT rfl rfl rfl
theorem u32_bd (n : Int) : U32 (IntKind.u32.wrap n) := by
 unfold IntKind.wrap
 simp [IntKind.bits, IntKind.signed]
 omega
def linkN (g : Nd) (b : Int) : Nd := (g.1, IntKind.u32.wrap (g.2.1 + b), g.2.2.1, g.2.2.2)
theorem zI1 {g : Nd} (h : Nd.ok g) (b : Int) : Nd.ok (linkN g b) := ⟨h.1, u32_bd _, h.2.2.1, h.2.2.2⟩
def VS.links (s : VS) (d b : Int) : VS := (s.rd (keyH 73 d)).save d (linkN ((s.load d).getD (0, 0, 0, 0)) b)
def VS.linksE (s : VS) (d : Int) : Int := fullE [s.room (keyH 73 d)]
theorem zCu {s : VS} {m : Nat} (h : VJ s m) (hm : m ≤ 900000) (d b : Int) (hd : U32 d) (hb : -1 ≤ b ∧ b ≤ 1) : Con Tryz.prog 164 [vP, .p (.int .u32 d), .p (.int .i64 b)] (vH s) (.p (.int .i64 (s.linksE d))) (vH (s.links d b)) [] := by
 have c1 := jB h (by omega) d hd
 rw [qH] at c1
 have hok : Nd.ok ((s.load d).getD (0, 0, 0, 0)) := zNi
 have c2 := jF (h.rd (keyH 73 d)) (by omega) d hd _ (zI1 hok b)
 change Con Tryz.prog _ _ _ (.p (.bool (s.room (keyH 73 d)))) (vH (s.links d b)) _ at c2
 unfold VS.linksE
 generalize s.links d b = s2 at c2
 generalize s.rd (keyH 73 d) = s1 at c1 c2
 generalize (s.load d).getD (0, 0, 0, 0) = g at c1 c2 hok
 generalize (s.load d).isSome = y at c1
 generalize s.room (keyH 73 d) = rm at c2
 have c3 := qG [rm] (by simp)
 have hl := hok.2.1
 refine zD Tryz.func164 rfl (by kernel_rfl) rfl fun F w0 β0 => ?_
 refine zE rfl ?_
 refine go ?_
 refine zH rfl rfl (zA [.o 0, .o 1] rfl rfl (c1) rfl rfl rfl ⟨⟨rfl, rfl⟩, ⟨rfl, rfl⟩, trivial⟩ rfl rfl rfl rfl) rfl ?_
 refine go ?_
 have e : IntKind.u32.wrap (IntKind.i64.wrap (IntKind.i64.wrap g.2.1 + b)) = IntKind.u32.wrap (g.2.1 + b) := by
  rw [IntWalk.i64_in g.2.1 (by omega), IntWalk.i64_in (g.2.1 + b) (by omega)]
 rw [e]
 refine zH rfl rfl (zA [.o 0, .o 1] rfl rfl (c2) rfl rfl rfl ⟨⟨rfl, rfl⟩, ⟨rfl, rfl⟩, trivial⟩ rfl rfl rfl rfl) rfl ?_
 refine go ?_
 refine zH rfl rfl (zB rfl rfl (c3) rfl rfl rfl rfl) rfl ?_
 refine go ?_
 exact zC hT rfl rfl rfl
def newN (k p : Int) : Nd := if k = 1 then (1, 1, 0, 0) else (2, 2, 0, p)
theorem zVu (k p : Int) (H : List AObj) : Con Tryz.prog 150 [.p (.int .u8 k), .p (.int .u32 p)] H (ndT (newN k p)) H [] := by
 have c := zOj k p H
 have e : TV.agg ((newV k p).map .p) = ndT (newN k p) := by unfold newV newN; split <;> rfl
 rwa [e] at c
theorem newN_ok {k p : Int} (h : U32 p) : Nd.ok (newN k p) := by
 unfold newN
 split
 ·unfold Nd.ok; decide
 ·exact ⟨by dsimp only; omega, by dsimp only; omega, by dsimp only; omega, h⟩
def VS.makeAt (s : VS) (a : Sp) (k i : Int) : Int × VS :=
 let s2 := s.save i (newN k a.d)
 let s3 := s2.put (entryK a.d a.m) (beB 4 i)
 let e := fullE [s.room (keyH 73 i), s2.room (entryK a.d a.m)]
 if (newN k a.d).1 = 2 then (firstE [e, s3.linksE a.d], s3.links a.d 1) else (e, s3)
def VS.make (s : VS) (p : List UInt8) (k i : Int) : Int × VS :=
 if (s.find p).2.1 ≠ 0 then ((s.find p).2.1, s.rds (s.find p).2.2) else if (s.find p).1.i ≠ 0 then (11, s.rds (s.find p).2.2) else (s.rds (s.find p).2.2).makeAt (s.find p).1 k i
theorem VJ.save {s : VS} {n : Nat} (h : VJ s n) (i : Int) (g : Nd) : VJ (s.save i g) (n + 1) := h.put _ _ (by rw [qC]; omega) (by rw [zD6]; omega)
theorem zQ1 (d : Int) (m : List UInt8) : (entryK d m).length ≤ 37 := by
 unfold entryK
 split
 ·exact Nat.zero_le _
 ·rw [List.length_append, qC]; omega
theorem VJ.hang {s : VS} {n : Nat} (h : VJ s n) (d : Int) (m : List UInt8) (i : Int) : VJ (s.put (entryK d m) (beB 4 i)) (n + 1) := h.put _ _ (by have := zQ1 d m; omega) (by rw [yD]; omega)
theorem VJ.links {s : VS} {n : Nat} (h : VJ s n) (d b : Int) : VJ (s.links d b) (n + 2) := (h.rd _).save _ _
set_option maxHeartbeats 8000000 in
theorem zLp {s : VS} {m : Nat} (h : VJ s m) (hm : m ≤ 800000) (p : List UInt8) (k i : Int) (hi : U32 i) : Con Tryz.prog 124 [vP, .p (.str p), .p (.int .u8 k), .p (.int .u32 i)] (vH s) (.p (.int .i64 (s.make p k i).1)) (vH (s.make p k i).2) [] := by
 have c1 := zAy h (by omega) p
 have hfo := zEr s p
 unfold VS.make
 generalize s.find p = fr at c1 hfo
 obtain ⟨a, e, ks⟩ := fr
 dsimp only at c1 hfo ⊢
 have hv := (h.rds ks).mono (show m + ks.length ≤ m + 33 by omega)
 generalize s.rds ks = s1 at c1 hv
 by_cases he : e ≠ 0
 ·rw [if_pos he]
  refine zD Tryz.func124 rfl (by kernel_rfl) rfl fun F w0 β0 => ?_
  refine zE rfl ?_
  refine go ?_
  refine zH rfl rfl (zA [.o 0, .o 1] rfl rfl (c1) rfl rfl rfl ⟨⟨rfl, rfl⟩, ⟨rfl, rfl⟩, trivial⟩ rfl rfl rfl rfl) rfl ?_
  refine go ?_
  refine zG rfl (by simp [he]) ?_
  refine go ?_
  exact zC hT rfl rfl rfl
 rw [if_neg he]
 obtain rfl : e = 0 := by simpa using he
 by_cases hai : a.i ≠ 0
 ·rw [if_pos hai]
  refine zD Tryz.func124 rfl (by kernel_rfl) rfl fun F w0 β0 => ?_
  refine zE rfl ?_
  refine go ?_
  refine zH rfl rfl (zA [.o 0, .o 1] rfl rfl (c1) rfl rfl rfl ⟨⟨rfl, rfl⟩, ⟨rfl, rfl⟩, trivial⟩ rfl rfl rfl rfl) rfl ?_
  refine go ?_
  refine zG rfl (by simp [hai]) ?_
  refine go ?_
  exact zC hT rfl rfl rfl
 rw [if_neg hai]
 unfold VS.makeAt
 dsimp only
 have c2 := zVu k a.d []
 have hg := newN_ok (k := k) hfo.1.1
 generalize newN k a.d = g at c2 hg
 have c3 := jF hv (by omega) i hi g hg
 have hv2 := hv.save i g
 generalize s1.save i g = s2 at c3 hv2
 generalize s1.room (keyH 73 i) = r1 at c3
 have c4 := zEl hv2 (by omega) a.d i hfo.1.1 hi a.m
 have hv3 := hv2.hang a.d a.m i
 generalize s2.put (entryK a.d a.m) (beB 4 i) = s3 at c4 hv3
 generalize s2.room (entryK a.d a.m) = r2 at c4
 have c5 := qG [r1, r2] (by simp)
 generalize fullE [r1, r2] = e1 at c5
 by_cases hk : g.1 = 2
 ·rw [if_pos hk]
  have c6 := zCu hv3 (by omega) a.d 1 hfo.1.1 (by decide)
  generalize s3.links a.d 1 = s4 at c6
  generalize s3.linksE a.d = e2 at c6
  have c7 := j6 [e1, e2] (by simp)
  generalize firstE [e1, e2] = e3 at c7
  refine zD Tryz.func124 rfl (by kernel_rfl) rfl fun F w0 β0 => ?_
  refine zE rfl ?_
  refine go ?_
  refine zH rfl rfl (zA [.o 0, .o 1] rfl rfl (c1) rfl rfl rfl ⟨⟨rfl, rfl⟩, ⟨rfl, rfl⟩, trivial⟩ rfl rfl rfl rfl) rfl ?_
  refine go ?_
  refine zF rfl (by simpa using hai) ?_
  refine go ?_
  refine zH rfl rfl (zB rfl rfl (c2) rfl rfl rfl rfl) rfl ?_
  refine go ?_
  refine jH 3 10 (vH s2) (vH s3) (by kernel_rfl) (by kernel_rfl) ?_
  refine gdJ ?_
  refine yI rfl rfl rfl rfl rfl rfl (zA [.o 0, .o 1] rfl rfl (c3) rfl rfl rfl ⟨⟨rfl, rfl⟩, ⟨rfl, rfl⟩, trivial⟩ rfl rfl rfl rfl) rfl ?_
  refine gdJ ?_
  refine yI rfl rfl rfl rfl rfl rfl (zA [.o 0, .o 1] rfl rfl (c4) rfl rfl rfl ⟨⟨rfl, rfl⟩, ⟨rfl, rfl⟩, trivial⟩ rfl rfl rfl rfl) rfl ?_
  refine gdJ ?_
  refine yJ rfl rfl rfl rfl rfl rfl (zM rfl rfl (c5) rfl rfl rfl) rfl ?_
  refine gdJ ?_
  refine go ?_
  refine zG rfl (by simp [hk]) ?_
  refine go ?_
  refine zH rfl rfl (zA [.o 0, .o 1] rfl rfl (c6) rfl rfl rfl ⟨⟨rfl, rfl⟩, ⟨rfl, rfl⟩, trivial⟩ rfl rfl rfl rfl) rfl ?_
  refine go ?_
  refine zH rfl rfl (zB rfl rfl (c7) rfl rfl rfl rfl) rfl ?_
  refine go ?_
  exact zC hT rfl rfl rfl
 ·rw [if_neg hk]
  refine zD Tryz.func124 rfl (by kernel_rfl) rfl fun F w0 β0 => ?_
  refine zE rfl ?_
  refine go ?_
  refine zH rfl rfl (zA [.o 0, .o 1] rfl rfl (c1) rfl rfl rfl ⟨⟨rfl, rfl⟩, ⟨rfl, rfl⟩, trivial⟩ rfl rfl rfl rfl) rfl ?_
  refine go ?_
  refine zF rfl (by simpa using hai) ?_
  refine go ?_
  refine zH rfl rfl (zB rfl rfl (c2) rfl rfl rfl rfl) rfl ?_
  refine go ?_
  refine jH 3 10 (vH s2) (vH s3) (by kernel_rfl) (by kernel_rfl) ?_
  refine gdJ ?_
  refine yI rfl rfl rfl rfl rfl rfl (zA [.o 0, .o 1] rfl rfl (c3) rfl rfl rfl ⟨⟨rfl, rfl⟩, ⟨rfl, rfl⟩, trivial⟩ rfl rfl rfl rfl) rfl ?_
  refine gdJ ?_
  refine yI rfl rfl rfl rfl rfl rfl (zA [.o 0, .o 1] rfl rfl (c4) rfl rfl rfl ⟨⟨rfl, rfl⟩, ⟨rfl, rfl⟩, trivial⟩ rfl rfl rfl rfl) rfl ?_
  refine gdJ ?_
  refine yJ rfl rfl rfl rfl rfl rfl (zM rfl rfl (c5) rfl rfl rfl) rfl ?_
  refine gdJ ?_
  refine go ?_
  refine zF rfl (by simp [hk]) ?_
  refine go ?_
  exact zC hT rfl rfl rfl
def VS.there (s : VS) (p : List UInt8) (root : Bool) : Sp × Int :=
 if (s.find p).2.1 ≠ 0 then (sp0, (s.find p).2.1) else if root = false ∧ (s.find p).1.i = 1 then (sp0, 29) else if (s.find p).1.i = 0 then (sp0, 10) else ((s.find p).1, 0)
theorem zDv (s : VS) (p : List UInt8) (root : Bool) : Sp.ok (s.there p root).1 := by
 unfold VS.there
 repeat' split
 all_goals first | exact zUv | exact (zEr s p).1
def VS.rdp (s : VS) (p : List UInt8) : VS := s.rds (s.find p).2.2
theorem VJ.rdp {s : VS} {n : Nat} (h : VJ s n) (p : List UInt8) : VJ (s.rdp p) (n + 33) := (h.rds _).mono (by have := (zEr s p).2; omega)
set_option maxHeartbeats 4000000 in
theorem zA3 {s : VS} {m : Nat} (h : VJ s m) (hm : m ≤ 800000) (p : List UInt8) (root : Bool) : Con Tryz.prog 169 [vP, .p (.str p), .p (.bool root)] (vH s) (.tup [spT (s.there p root).1, .p (.int .i64 (s.there p root).2)]) (vH (s.rdp p)) [] := by
 have c1 := zAy h (by omega) p
 change Con Tryz.prog _ _ _ _ (vH (s.rdp p)) _ at c1
 unfold VS.there
 generalize s.rdp p = s1 at c1
 generalize s.find p = fr at c1
 obtain ⟨a, e, ks⟩ := fr
 dsimp only at c1 ⊢
 by_cases he : e ≠ 0
 ·rw [if_pos he]
  refine zD Tryz.func169 rfl (by kernel_rfl) rfl fun F w0 β0 => ?_
  refine zE rfl ?_
  refine go ?_
  refine zH rfl rfl (zA [.o 0, .o 1] rfl rfl (c1) rfl rfl rfl ⟨⟨rfl, rfl⟩, ⟨rfl, rfl⟩, trivial⟩ rfl rfl rfl rfl) rfl ?_
  refine go ?_
  refine zG rfl (by simp [he]) ?_
  refine go ?_
  exact zC hT rfl rfl rfl
 rw [if_neg he]
 obtain rfl : e = 0 := by simpa using he
 by_cases h1 : root = false ∧ a.i = 1
 ·rw [if_pos h1]
  obtain ⟨rfl, h1⟩ := h1
  refine zD Tryz.func169 rfl (by kernel_rfl) rfl fun F w0 β0 => ?_
  refine zE rfl ?_
  refine go ?_
  refine zH rfl rfl (zA [.o 0, .o 1] rfl rfl (c1) rfl rfl rfl ⟨⟨rfl, rfl⟩, ⟨rfl, rfl⟩, trivial⟩ rfl rfl rfl rfl) rfl ?_
  refine go ?_
  refine zG rfl (by simp [h1]) ?_
  refine go ?_
  exact zC hT rfl rfl rfl
 rw [if_neg h1]
 by_cases h0 : a.i = 0
 ·rw [if_pos h0]
  cases root with
  | true =>
   refine zD Tryz.func169 rfl (by kernel_rfl) rfl fun F w0 β0 => ?_
   refine zE rfl ?_
   refine go ?_
   refine zH rfl rfl (zA [.o 0, .o 1] rfl rfl (c1) rfl rfl rfl ⟨⟨rfl, rfl⟩, ⟨rfl, rfl⟩, trivial⟩ rfl rfl rfl rfl) rfl ?_
   refine go ?_
   refine zG rfl (by simp [h0]) ?_
   refine go ?_
   exact zC hT rfl rfl rfl
  | false =>
   refine zD Tryz.func169 rfl (by kernel_rfl) rfl fun F w0 β0 => ?_
   refine zE rfl ?_
   refine go ?_
   refine zH rfl rfl (zA [.o 0, .o 1] rfl rfl (c1) rfl rfl rfl ⟨⟨rfl, rfl⟩, ⟨rfl, rfl⟩, trivial⟩ rfl rfl rfl rfl) rfl ?_
   refine go ?_
   refine zF rfl (by simpa using h1) ?_
   refine go ?_
   refine zG rfl (by simp [h0]) ?_
   refine go ?_
   exact zC hT rfl rfl rfl
 rw [if_neg h0]
 cases root with
 | true =>
  refine zD Tryz.func169 rfl (by kernel_rfl) rfl fun F w0 β0 => ?_
  refine zE rfl ?_
  refine go ?_
  refine zH rfl rfl (zA [.o 0, .o 1] rfl rfl (c1) rfl rfl rfl ⟨⟨rfl, rfl⟩, ⟨rfl, rfl⟩, trivial⟩ rfl rfl rfl rfl) rfl ?_
  refine go ?_
  refine zF rfl (by simpa using h0) ?_
  refine go ?_
  exact zC hT rfl rfl rfl
 | false =>
  refine zD Tryz.func169 rfl (by kernel_rfl) rfl fun F w0 β0 => ?_
  refine zE rfl ?_
  refine go ?_
  refine zH rfl rfl (zA [.o 0, .o 1] rfl rfl (c1) rfl rfl rfl ⟨⟨rfl, rfl⟩, ⟨rfl, rfl⟩, trivial⟩ rfl rfl rfl rfl) rfl ?_
  refine go ?_
  refine zF rfl (by simpa using h1) ?_
  refine go ?_
  refine zF rfl (by simpa using h0) ?_
  refine go ?_
  exact zC hT rfl rfl rfl
def VS.removes (s : VS) (a : Sp) : Int × VS :=
 if a.n.1 ≠ 2 then (12, s) else if (namesL a.i s.shown.row).length > 0 then (14, s.rngE a.i) else
 let s1 := s.rngE a.i
 let s2 := s1.del (entryK a.d a.m)
 let s3 := s2.del (keyH 73 a.i)
 (firstE [fullE [s1.room (entryK a.d a.m), s2.room (keyH 73 a.i)], s3.linksE a.d], s3.links a.d (-1))
theorem VJ.rngE {s : VS} {n : Nat} (h : VJ s n) (i : Int) : VJ (s.rngE i) (n + 1) := h.range _ _
theorem zCy {s : VS} {n : Nat} (h : VJ s n) (a : Sp) : VJ (s.removes a).2 (n + 10) := by
 unfold VS.removes
 split
 ·exact h.mono (by omega)
 split
 ·exact (h.rngE _).mono (by omega)
 ·exact ((((h.rngE _).del _).del _).links _ _).mono (by omega)
set_option maxHeartbeats 8000000 in
theorem zE8 {s : VS} {m : Nat} (h : VJ s m) (hm : m ≤ 800000) (a : Sp) (ha : Sp.ok a) : Con Tryz.prog 173 [vP, spA a] (vH s) (.p (.int .i64 (s.removes a).1)) (vH (s.removes a).2) [] := by
 have c1 := zE7 h (by omega) a.i ha.2.1
 unfold VS.removes
 by_cases hk : a.n.1 ≠ 2
 ·rw [if_pos hk]
  refine zD Tryz.func173 rfl (by kernel_rfl) rfl fun F w0 β0 => ?_
  refine zE rfl ?_
  refine go ?_
  refine zG rfl (by simp [hk]) ?_
  refine go ?_
  exact zC hT rfl rfl rfl
 rw [if_neg hk]
 have hv1 := h.rngE a.i
 generalize hN : namesL a.i s.shown.row = N at c1
 generalize s.rngE a.i = s1 at c1 hv1
 have hlN : (N.map AV.str).length = N.length := by simp
 by_cases hl : N.length > 0
 ·rw [if_pos hl]
  refine zD Tryz.func173 rfl (by kernel_rfl) rfl fun F w0 β0 => ?_
  refine zE rfl ?_
  refine go ?_
  refine zF rfl (by simpa using hk) ?_
  refine go ?_
  refine zH rfl rfl (zA [.o 0, .o 1] rfl rfl (c1) rfl rfl rfl ⟨⟨rfl, rfl⟩, ⟨rfl, rfl⟩, trivial⟩ rfl rfl rfl rfl) rfl ?_
  refine go ?_
  refine zG rfl (decide_eq_true (by rw [hlN]; omega)) ?_
  refine go ?_
  exact zC hT rfl rfl rfl
 rw [if_neg hl]
 dsimp only
 have c2 := zB1 hv1 (by omega) a.d ha.1 a.m
 have hv2 := hv1.del (entryK a.d a.m)
 generalize s1.del (entryK a.d a.m) = s2 at c2 hv2
 generalize s1.room (entryK a.d a.m) = r1 at c2
 have c3 := zIh hv2 (by omega) a.i ha.2.1
 have hv3 := hv2.del (keyH 73 a.i)
 generalize s2.del (keyH 73 a.i) = s3 at c3 hv3
 generalize s2.room (keyH 73 a.i) = r2 at c3
 have c4 := qG [r1, r2] (by simp)
 generalize fullE [r1, r2] = e1 at c4
 have c5 := zCu hv3 (by omega) a.d (-1) ha.1 (by decide)
 generalize s3.links a.d (-1) = s4 at c5
 generalize s3.linksE a.d = e2 at c5
 have c6 := j6 [e1, e2] (by simp)
 generalize firstE [e1, e2] = e3 at c6
 refine zD Tryz.func173 rfl (by kernel_rfl) rfl fun F w0 β0 => ?_
 refine zE rfl ?_
 refine go ?_
 refine zF rfl (by simpa using hk) ?_
 refine go ?_
 refine zH rfl rfl (zA [.o 0, .o 1] rfl rfl (c1) rfl rfl rfl ⟨⟨rfl, rfl⟩, ⟨rfl, rfl⟩, trivial⟩ rfl rfl rfl rfl) rfl ?_
 refine go ?_
 refine zF rfl (decide_eq_false (by rw [hlN]; omega)) ?_
 refine go ?_
 refine zPt 5 9 11 15 (vH s2) (vH s3) (vH s3) (vH s4) (by kernel_rfl) (by kernel_rfl) ?_
 refine gdJ ?_
 refine yI rfl rfl rfl rfl rfl rfl (zA [.o 0, .o 1] rfl rfl (c2) rfl rfl rfl ⟨⟨rfl, rfl⟩, ⟨rfl, rfl⟩, trivial⟩ rfl rfl rfl rfl) rfl ?_
 refine gdJ ?_
 refine yI rfl rfl rfl rfl rfl rfl (zA [.o 0, .o 1] rfl rfl (c3) rfl rfl rfl ⟨⟨rfl, rfl⟩, ⟨rfl, rfl⟩, trivial⟩ rfl rfl rfl rfl) rfl ?_
 refine gdJ ?_
 refine yI rfl rfl rfl rfl rfl rfl (zM rfl rfl (c4) rfl rfl rfl) rfl ?_
 refine gdJ ?_
 refine yI rfl rfl rfl rfl rfl rfl (zA [.o 0, .o 1] rfl rfl (c5) rfl rfl rfl ⟨⟨rfl, rfl⟩, ⟨rfl, rfl⟩, trivial⟩ rfl rfl rfl rfl) rfl ?_
 refine gdJ ?_
 refine yJ rfl rfl rfl rfl rfl rfl (zM rfl rfl (c6) rfl rfl rfl) rfl ?_
 refine gdJ ?_
 refine go ?_
 exact zC hT rfl rfl rfl
def VS.cutsL : VS → List KV → Int → Int × VS
 | s, [], e => (e, s)
 | s, x :: r, e => VS.cutsL (s.del x.1) r (firstE [e, fullE [s.room x.1]])
theorem zCl : ∀ (R : List KV) {s : VS} {n : Nat} (e : Int), VJ s n → VJ (s.cutsL R e).2 (n + R.length)
 | [], s, n, e, h => h
 | x :: r, s, n, e, h => by
  have := zCl r (firstE [e, fullE [s.room x.1]]) (h.del x.1)
  exact this.mono (by rw [List.length_cons]; omega)
theorem zIf : ∀ (R : List KV) (s : VS) (e : Int) (x : KV), s.cutsL (R ++ [x]) e = (firstE [(s.cutsL R e).1, fullE [(s.cutsL R e).2.room x.1]], (s.cutsL R e).2.del x.1)
 | [], _, _, _ => rfl
 | _ :: r, _, _, x => zIf r _ _ x
def VS.blkR (s : VS) (i : Int) : List KV := s.rangeR (blockK i 0) (beh (keyH 68 i))
def VS.rngB (s : VS) (i : Int) : VS := s.range (blockK i 0) (beh (keyH 68 i))
def VS.unlinks (s : VS) (a : Sp) : Int × VS :=
 if a.n.1 = 2 then (13, s) else
 let s1 := s.del (entryK a.d a.m)
 let e := fullE [s.room (entryK a.d a.m)]
 if a.n.2.1 > 1 then (firstE [e, fullE [s1.room (keyH 73 a.i)]], s1.save a.i (linkN a.n (-1)))
 else
  let q := (s1.rngB a.i).cutsL (s1.blkR a.i) e
  (firstE [q.1, fullE [q.2.room (keyH 73 a.i)]], q.2.del (keyH 73 a.i))
theorem zHt {s : VS} {n : Nat} (h : VJ s n) (a b : List UInt8) : (s.rangeR a b).length ≤ n := by
 unfold VS.rangeR
 have h2 := h.zs
 split
 ·have := zB6 a b s.shown; omega
 ·exact Nat.zero_le _
theorem zH4 {s : VS} {n : Nat} (h : VJ s n) (a : Sp) : VJ (s.unlinks a).2 (2 * n + 10) := by
 unfold VS.unlinks
 split
 ·exact h.mono (by omega)
 dsimp only
 split
 ·exact ((h.del _).save _ _).mono (by omega)
 ·have h1 := h.del (entryK a.d a.m)
  have h2 := zHt h1 (blockK a.i 0) (beh (keyH 68 a.i))
  have h3 := zCl ((s.del (entryK a.d a.m)).blkR a.i) (fullE [s.room (entryK a.d a.m)]) (h1.range (blockK a.i 0) (beh (keyH 68 a.i)))
  refine (h3.del (keyH 73 a.i)).mono ?_
  unfold VS.blkR
  omega
theorem zVq (i : Int) : blocksV i 0 = blockK i 0 := by unfold blocksV; rw [if_neg (by omega)]; rfl
set_option maxHeartbeats 16000000 in
theorem zFc {s : VS} {m : Nat} (h : VJ s m) (hm : m ≤ 200000) (a : Sp) (ha : Sp.ok a) : Con Tryz.prog 172 [vP, spA a] (vH s) (.p (.int .i64 (s.unlinks a).1)) (vH (s.unlinks a).2) [] := by
 unfold VS.unlinks
 by_cases hk : a.n.1 = 2
 ·rw [if_pos hk]
  refine zD Tryz.func172 rfl (by kernel_rfl) rfl fun F w0 β0 => ?_
  refine zE rfl ?_
  refine go ?_
  refine zG rfl (by simp [hk]) ?_
  refine go ?_
  exact zC hT rfl rfl rfl
 rw [if_neg hk]
 dsimp only
 have c1 := zB1 h (by omega) a.d ha.1 a.m
 have hv1 := h.del (entryK a.d a.m)
 generalize s.del (entryK a.d a.m) = s1 at c1 hv1
 generalize s.room (entryK a.d a.m) = r1 at c1
 have c2 := qG [r1] (by simp)
 generalize fullE [r1] = e1 at c2
 by_cases hl : a.n.2.1 > 1
 ·rw [if_pos hl]
  have hok := zI1 ha.2.2 (-1)
  have c3 := jF hv1 (by omega) a.i ha.2.1 (linkN a.n (-1)) hok
  generalize s1.save a.i (linkN a.n (-1)) = s2 at c3
  generalize s1.room (keyH 73 a.i) = r2 at c3
  have c4 := qG [r2] (by simp)
  generalize fullE [r2] = e2 at c4
  have c5 := j6 [e1, e2] (by simp)
  generalize firstE [e1, e2] = e3 at c5
  refine zD Tryz.func172 rfl (by kernel_rfl) rfl fun F w0 β0 => ?_
  refine zE rfl ?_
  refine go ?_
  refine zF rfl (by simpa using hk) ?_
  refine go ?_
  refine zH rfl rfl (zA [.o 0, .o 1] rfl rfl (c1) rfl rfl rfl ⟨⟨rfl, rfl⟩, ⟨rfl, rfl⟩, trivial⟩ rfl rfl rfl rfl) rfl ?_
  refine go ?_
  refine zH rfl rfl (zB rfl rfl (c2) rfl rfl rfl rfl) rfl ?_
  refine go ?_
  refine zG rfl (decide_eq_true hl) ?_
  refine go ?_
  refine zH rfl rfl (zA [.o 0, .o 1] rfl rfl (c3) rfl rfl rfl ⟨⟨rfl, rfl⟩, ⟨rfl, rfl⟩, trivial⟩ rfl rfl rfl rfl) rfl ?_
  refine go ?_
  refine zH rfl rfl (zB rfl rfl (c4) rfl rfl rfl rfl) rfl ?_
  refine go ?_
  refine zH rfl rfl (zB rfl rfl (c5) rfl rfl rfl rfl) rfl ?_
  refine go ?_
  exact zC hT rfl rfl rfl
 rw [if_neg hl]
 have c3 := zLd a.i 0 ha.2.1
 rw [zVq] at c3
 have c4 := (zDk s1 (blockK a.i 0) (beh (keyH 68 a.i)) (by have := hv1.zs; unfold big40; omega) (by have := hv1.zg; unfold big40; omega)).toPs (.inl rfl)
 have hR := zHt hv1 (blockK a.i 0) (beh (keyH 68 a.i))
 change Con Tryz.prog _ _ _ (.p (.ps (kvs (s1.blkR a.i)))) (vH (s1.rngB a.i)) _ at c4
 have hv2 : VJ (s1.rngB a.i) (m + 2) := hv1.range _ _
 change (s1.blkR a.i).length ≤ _ at hR
 generalize s1.rngB a.i = s2 at c4 hv2
 generalize s1.blkR a.i = R at c4 hR
 have hlk : (kvs R).length = R.length := by simp
 refine zD Tryz.func172 rfl (by kernel_rfl) rfl fun F w0 β0 => ?_
 refine zE rfl ?_
 refine go ?_
 refine zF rfl (by simpa using hk) ?_
 refine go ?_
 refine zH rfl rfl (zA [.o 0, .o 1] rfl rfl (c1) rfl rfl rfl ⟨⟨rfl, rfl⟩, ⟨rfl, rfl⟩, trivial⟩ rfl rfl rfl rfl) rfl ?_
 refine go ?_
 refine zH rfl rfl (zB rfl rfl (c2) rfl rfl rfl rfl) rfl ?_
 refine go ?_
 refine zF rfl (decide_eq_false hl) ?_
 refine go ?_
 refine zH rfl rfl (zB rfl rfl (c3) rfl rfl rfl rfl) rfl ?_
 refine go ?_
 refine zH rfl rfl (zA [.o 0, .o 1] rfl rfl (c4) rfl rfl rfl ⟨⟨rfl, rfl⟩, ⟨rfl, rfl⟩, trivial⟩ rfl rfl rfl rfl) rfl ?_
 refine go ?_
 refine z9 (fun q : Ix R.length => [(0, vP), (3, .ad (.l 0) 0), (5, .p (.int .i64 (s2.cutsL (R.take q.i) e1).1)), (52, .p (.ps (kvs R))), (53, .p (.int .i64 (R.length : Int))), (54, .p (.int .i64 (q.i : Int)))]) (fun q => vH (s2.cutsL (R.take q.i) e1).2) (fun _ => [spB a]) (fun q => R.length - q.i) ⟨0, by omega⟩ ⟨rfl, rfl, rfl, rfl, (by rw [← hlk]; rfl), rfl, trivial⟩ rfl rfl (fun q => ?_)
 have hi := q.h
 have hvq := zCl (R.take q.i) e1 hv2
 rw [List.length_take] at hvq
 refine go ?_
 by_cases h : q.i < R.length
 ·have hx : R[q.i]? = some R[q.i] := List.getElem?_eq_getElem h
  generalize R[q.i] = x at hx
  have hxk : (kvs R)[((q.i : Nat) : Int).toNat]? = some (kvV x) := zM0 hx
  have hnx : R.take (q.i + 1) = R.take q.i ++ [x] := zHi hx
  have hsn := zIf (R.take q.i) s2 e1 x
  rw [← hnx] at hsn
  generalize s2.cutsL (R.take q.i) e1 = p at hvq hsn
  obtain ⟨e, s⟩ := p
  dsimp only at hvq hsn
  have d1 := zEa s x.1 (by have := hvq.zw; unfold big40; omega) (by have := hvq.zs; unfold big40; omega)
  change Con Tryz.prog _ _ _ _ (vH (s.del x.1)) _ at d1
  generalize s.del x.1 = s' at d1 hsn
  generalize s.room x.1 = rm at d1 hsn
  have d2 := qG [rm] (by simp)
  generalize fullE [rm] = e2 at d2 hsn
  have d3 := j6 [e, e2] (by simp)
  generalize firstE [e, e2] = e3 at d3 hsn
  refine zG rfl (decide_eq_true (by omega)) ?_
  refine go ?_
  refine zH rfl rfl (zJ hT rfl rfl rfl rfl rfl (.ps _) (by omega) (by rw [hlk]; omega)) rfl ?_
  refine go ?_
  refine zH rfl rfl (zI hT rfl rfl (.ps _) hxk rfl rfl) rfl ?_
  refine go ?_
  refine zH rfl rfl (zA [.o 0, .o 1] rfl rfl (d1) rfl rfl rfl ⟨⟨rfl, rfl⟩, ⟨rfl, rfl⟩, trivial⟩ rfl rfl rfl rfl) rfl ?_
  refine go ?_
  refine zH rfl rfl (zB rfl rfl (d2) rfl rfl rfl rfl) rfl ?_
  refine go ?_
  refine zH rfl rfl (zB rfl rfl (d3) rfl rfl rfl rfl) rfl ?_
  refine go ?_
  refine zY 1 [(0, vP), (3, .ad (.l 0) 0), (5, .p (.int .i64 e3)), (52, .p (.ps (kvs R))), (53, .p (.int .i64 (R.length : Int))), (54, .p (.int .i64 (IntKind.i64.wrap ((q.i : Int) + 1))))] ⟨rfl, rfl, rfl, rfl, rfl, rfl, trivial⟩ rfl rfl ?_
  refine zR ⟨q.i + 1, by omega⟩ (by show R.length - (q.i + 1) < R.length - q.i; omega) ⟨rfl, rfl, by rw [hsn]; rfl, rfl, rfl, congrArg (fun z => TV.p (.int .i64 z)) (by rw [IntWalk.i64_in _ (by omega)]; rfl), trivial⟩ (by dsimp only; rw [hsn]) rfl
 rw [List.take_of_length_le (by omega)] at hvq ⊢
 refine zF rfl (decide_eq_false (by omega)) ?_
 generalize s2.cutsL R e1 = p at hvq
 obtain ⟨e, s⟩ := p
 dsimp only at hvq ⊢
 have d1 := zIh hvq (by omega) a.i ha.2.1
 generalize s.del (keyH 73 a.i) = s' at d1
 generalize s.room (keyH 73 a.i) = rm at d1
 have d2 := qG [rm] (by simp)
 generalize fullE [rm] = e2 at d2
 have d3 := j6 [e, e2] (by simp)
 generalize firstE [e, e2] = e3 at d3
 refine go ?_
 refine zH rfl rfl (zA [.o 0, .o 1] rfl rfl (d1) rfl rfl rfl ⟨⟨rfl, rfl⟩, ⟨rfl, rfl⟩, trivial⟩ rfl rfl rfl rfl) rfl ?_
 refine go ?_
 refine zH rfl rfl (zB rfl rfl (d2) rfl rfl rfl rfl) rfl ?_
 refine go ?_
 refine zH rfl rfl (zB rfl rfl (d3) rfl rfl rfl rfl) rfl ?_
 refine go ?_
 exact zC hT rfl rfl rfl
def VS.remove (s : VS) (p : List UInt8) : Int × VS := if (s.there p false).2 ≠ 0 then ((s.there p false).2, s.rdp p) else (s.rdp p).removes (s.there p false).1
theorem zN6 {s : VS} {m : Nat} (h : VJ s m) (hm : m ≤ 100000) (p : List UInt8) : Con Tryz.prog 134 [vP, .p (.str p)] (vH s) (.p (.int .i64 (s.remove p).1)) (vH (s.remove p).2) [] := by
 have c1 := zA3 h (by omega) p false
 have ha := zDv s p false
 have hv := h.rdp p
 unfold VS.remove
 generalize s.there p false = t at c1 ha
 generalize s.rdp p = s1 at c1 hv
 obtain ⟨a, e⟩ := t
 dsimp only at c1 ha ⊢
 by_cases he : e ≠ 0
 ·rw [if_pos he]
  refine zD Tryz.func134 rfl (by kernel_rfl) rfl fun F w0 β0 => ?_
  refine zE rfl ?_
  refine go ?_
  refine zH rfl rfl (zA [.o 0, .o 1] rfl rfl (c1) rfl rfl rfl ⟨⟨rfl, rfl⟩, ⟨rfl, rfl⟩, trivial⟩ rfl rfl rfl rfl) rfl ?_
  refine go ?_
  refine zG rfl (by simp [he]) ?_
  refine go ?_
  exact zC hT rfl rfl rfl
 rw [if_neg he]
 obtain rfl : e = 0 := by simpa using he
 have c2 := zE8 hv (by omega) a ha
 generalize s1.removes a = q at c2
 obtain ⟨e2, s2⟩ := q
 dsimp only at c2 ⊢
 refine zD Tryz.func134 rfl (by kernel_rfl) rfl fun F w0 β0 => ?_
 refine zE rfl ?_
 refine go ?_
 refine zH rfl rfl (zA [.o 0, .o 1] rfl rfl (c1) rfl rfl rfl ⟨⟨rfl, rfl⟩, ⟨rfl, rfl⟩, trivial⟩ rfl rfl rfl rfl) rfl ?_
 refine go ?_
 refine zH rfl rfl (zA [.o 0, .o 1] rfl rfl (c2) rfl rfl rfl ⟨⟨rfl, rfl⟩, ⟨rfl, rfl⟩, trivial⟩ rfl rfl rfl rfl) rfl ?_
 refine go ?_
 exact zC hT rfl rfl rfl
def VS.unlink (s : VS) (p : List UInt8) : Int × VS := if (s.there p true).2 ≠ 0 then ((s.there p true).2, s.rdp p) else (s.rdp p).unlinks (s.there p true).1
theorem zMw {s : VS} {m : Nat} (h : VJ s m) (hm : m ≤ 100000) (p : List UInt8) : Con Tryz.prog 133 [vP, .p (.str p)] (vH s) (.p (.int .i64 (s.unlink p).1)) (vH (s.unlink p).2) [] := by
 have c1 := zA3 h (by omega) p true
 have ha := zDv s p true
 have hv := h.rdp p
 unfold VS.unlink
 generalize s.there p true = t at c1 ha
 generalize s.rdp p = s1 at c1 hv
 obtain ⟨a, e⟩ := t
 dsimp only at c1 ha ⊢
 by_cases he : e ≠ 0
 ·rw [if_pos he]
  refine zD Tryz.func133 rfl (by kernel_rfl) rfl fun F w0 β0 => ?_
  refine zE rfl ?_
  refine go ?_
  refine zH rfl rfl (zA [.o 0, .o 1] rfl rfl (c1) rfl rfl rfl ⟨⟨rfl, rfl⟩, ⟨rfl, rfl⟩, trivial⟩ rfl rfl rfl rfl) rfl ?_
  refine go ?_
  refine zG rfl (by simp [he]) ?_
  refine go ?_
  exact zC hT rfl rfl rfl
 rw [if_neg he]
 obtain rfl : e = 0 := by simpa using he
 have c2 := zFc hv (by omega) a ha
 generalize s1.unlinks a = q at c2
 obtain ⟨e2, s2⟩ := q
 dsimp only at c2 ⊢
 refine zD Tryz.func133 rfl (by kernel_rfl) rfl fun F w0 β0 => ?_
 refine zE rfl ?_
 refine go ?_
 refine zH rfl rfl (zA [.o 0, .o 1] rfl rfl (c1) rfl rfl rfl ⟨⟨rfl, rfl⟩, ⟨rfl, rfl⟩, trivial⟩ rfl rfl rfl rfl) rfl ?_
 refine go ?_
 refine zH rfl rfl (zA [.o 0, .o 1] rfl rfl (c2) rfl rfl rfl ⟨⟨rfl, rfl⟩, ⟨rfl, rfl⟩, trivial⟩ rfl rfl rfl rfl) rfl ?_
 refine go ?_
 exact zC hT rfl rfl rfl
def VS.dlist (s : VS) (p : List UInt8) : (List (List UInt8) × Int) × VS :=
 if (s.there p true).2 ≠ 0 then (([], (s.there p true).2), s.rdp p) else if (s.there p true).1.n.1 ≠ 2 then (([], 12), s.rdp p) else ((namesL (s.there p true).1.i s.shown.row, 0), (s.rdp p).rngE (s.there p true).1.i)
theorem zQt {s : VS} {m : Nat} (h : VJ s m) (hm : m ≤ 100000) (p : List UInt8) : ∃ x, AVLe x (.ps ((s.dlist p).1.1.map .str)) ∧ Con Tryz.prog 135 [vP, .p (.str p)] (vH s) (.tup [.p x, .p (.int .i64 (s.dlist p).1.2)]) (vH (s.dlist p).2) [] := by
 have c1 := zA3 h (by omega) p true
 have ha := zDv s p true
 have hv := h.rdp p
 have hsh : (s.rdp p).shown = s.shown := rfl
 unfold VS.dlist
 generalize s.there p true = t at c1 ha
 generalize s.rdp p = s1 at c1 hv hsh
 obtain ⟨a, e⟩ := t
 dsimp only at c1 ha ⊢
 by_cases he : e ≠ 0
 ·rw [if_pos he]
  refine ⟨.nils, zFy, ?_⟩
  refine zD Tryz.func135 rfl (by kernel_rfl) rfl fun F w0 β0 => ?_
  refine zE rfl ?_
  refine go ?_
  refine zH rfl rfl (zA [.o 0, .o 1] rfl rfl (c1) rfl rfl rfl ⟨⟨rfl, rfl⟩, ⟨rfl, rfl⟩, trivial⟩ rfl rfl rfl rfl) rfl ?_
  refine go ?_
  refine zG rfl (by simp [he]) ?_
  refine go ?_
  exact zC hT rfl rfl rfl
 rw [if_neg he]
 obtain rfl : e = 0 := by simpa using he
 by_cases hk : a.n.1 ≠ 2
 ·rw [if_pos hk]
  refine ⟨.nils, zFy, ?_⟩
  refine zD Tryz.func135 rfl (by kernel_rfl) rfl fun F w0 β0 => ?_
  refine zE rfl ?_
  refine go ?_
  refine zH rfl rfl (zA [.o 0, .o 1] rfl rfl (c1) rfl rfl rfl ⟨⟨rfl, rfl⟩, ⟨rfl, rfl⟩, trivial⟩ rfl rfl rfl rfl) rfl ?_
  refine go ?_
  refine zG rfl (by simp [hk]) ?_
  refine go ?_
  exact zC hT rfl rfl rfl
 rw [if_neg hk]
 have c2 := zE7 hv (by omega) a.i ha.2.1
 rw [hsh] at c2
 dsimp only
 generalize namesL a.i s.shown.row = N at c2
 generalize s1.rngE a.i = s2 at c2
 refine ⟨_, AVLe.refl _, ?_⟩
 refine zD Tryz.func135 rfl (by kernel_rfl) rfl fun F w0 β0 => ?_
 refine zE rfl ?_
 refine go ?_
 refine zH rfl rfl (zA [.o 0, .o 1] rfl rfl (c1) rfl rfl rfl ⟨⟨rfl, rfl⟩, ⟨rfl, rfl⟩, trivial⟩ rfl rfl rfl rfl) rfl ?_
 refine go ?_
 refine zF rfl (by simpa using hk) ?_
 refine go ?_
 refine zH rfl rfl (zA [.o 0, .o 1] rfl rfl (c2) rfl rfl rfl ⟨⟨rfl, rfl⟩, ⟨rfl, rfl⟩, trivial⟩ rfl rfl rfl rfl) rfl ?_
 refine go ?_
 exact zC hT rfl rfl rfl
end Go.Proofs.YtdnpkgakpiopgaaGreatDoor

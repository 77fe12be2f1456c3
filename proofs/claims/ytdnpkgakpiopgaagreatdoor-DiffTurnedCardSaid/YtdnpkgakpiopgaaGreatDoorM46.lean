import Derived.Test.YtdnpkgakpiopgaaGreatDoorM45
import Derived.Test.YtdnpkgakpiopgaaGreatDoorGo
import Derived.Test.YtdnpkgakpiopgaaGreatDoorM38
namespace Go.Proofs.YtdnpkgakpiopgaaGreatDoor
set_option maxRecDepth 20000
open Go.Awp Tr
abbrev bdH (a : TV) (l : List UInt8) : List AObj := [.box 122 [a, .sl (.o 1) l.length 0 l.length], .arr 5 true 1 (bv l)]
abbrev bdN : TV := .p .nilp
abbrev bdS : TV := .ad (.o 0) 0
theorem zJu (l : List UInt8) : Con Tryz.prog 94 [.ad (.o 0) 0] (bdH bdN l) (.tup []) (bdH bdS l) [] := by
 refine zD Tryz.func94 rfl (by kernel_rfl) rfl fun F w0 β0 => ?_
 refine zE rfl ?_
 refine go ?_
 refine zH rfl rfl (zI6 (e := 122) (n := 1) rfl (by kernel_rfl) (by kernel_rfl) (by kernel_rfl) rfl rfl rfl) rfl ?_
 refine zH rfl rfl (zIt (e := Extern.AbiNoEscape.same) rfl rfl rfl Tryz.func140 (by kernel_rfl) (by kernel_rfl) (by kernel_rfl) (by kernel_rfl) (fun w β G vs => @esc_run Tryz.prog 0 w β G vs)) rfl ?_
 refine go ?_
 refine zH rfl rfl (zJ1 (e := 122) (n := 2) (k := 2) rfl (by kernel_rfl) (by kernel_rfl) (by kernel_rfl) rfl rfl rfl (by kernel_rfl)) rfl ?_
 refine go ?_
 exact zC hT rfl rfl rfl
theorem zDz (l : List UInt8) : Con Tryz.prog 94 [.ad (.o 0) 0] (bdH bdS l) (.tup []) (bdH bdS l) [] := by
 refine zD Tryz.func94 rfl (by kernel_rfl) rfl fun F w0 β0 => ?_
 refine zE rfl ?_
 refine go ?_
 refine zH rfl rfl (zNh (e := 122) hT rfl (by kernel_rfl) rfl rfl rfl rfl rfl) rfl ?_
 refine go ?_
 exact zC hT rfl rfl rfl
theorem zM5 (a : TV) (l m : List UInt8) : bdH a (l ++ m) = [.box 122 [a, .sl (.o 1) (l.length + m.length) 0 (l.length + m.length)], .arr 5 true 1 (bv l ++ bv m)] := by
 simp [bv]
theorem zS7 (l : List UInt8) (hl : l.length ≤ 1000000000) (c : UInt8) : Con Tryz.prog 49 [.ad (.o 0) 0, .p (.int .u8 (c.toNat : Int))] (bdH bdN l) (.p .top) (bdH bdS (l ++ [c])) [] := by
 have c1 := zJu l
 rw [zM5]
 refine zD Tryz.func49 rfl (by kernel_rfl) rfl fun F w0 β0 => ?_
 refine zE rfl ?_
 refine go ?_
 refine zH rfl rfl (zA [.o 0, .o 1] rfl rfl (c1) rfl rfl rfl ⟨⟨rfl, rfl⟩, ⟨rfl, rfl⟩, trivial⟩ rfl rfl rfl rfl) rfl ?_
 refine go ?_
 refine zH rfl rfl (qA hT rfl rfl rfl rfl (bv_length l) rfl rfl (.rd (.ps _)) jQ (zLz [c]) (y5 [c]) (by decide) (by show (l.length + 1) * 1 ≤ _; omega)) rfl ?_
 refine go ?_
 exact zC hT rfl rfl rfl
theorem zT8 (l : List UInt8) (hl : l.length ≤ 1000000000) (c : UInt8) : Con Tryz.prog 49 [.ad (.o 0) 0, .p (.int .u8 (c.toNat : Int))] (bdH bdS l) (.p .top) (bdH bdS (l ++ [c])) [] := by
 have c1 := zDz l
 rw [zM5]
 refine zD Tryz.func49 rfl (by kernel_rfl) rfl fun F w0 β0 => ?_
 refine zE rfl ?_
 refine go ?_
 refine zH rfl rfl (zA [.o 0, .o 1] rfl rfl (c1) rfl rfl rfl ⟨⟨rfl, rfl⟩, ⟨rfl, rfl⟩, trivial⟩ rfl rfl rfl rfl) rfl ?_
 refine go ?_
 refine zH rfl rfl (qA hT rfl rfl rfl rfl (bv_length l) rfl rfl (.rd (.ps _)) jQ (zLz [c]) (y5 [c]) (by decide) (by show (l.length + 1) * 1 ≤ _; omega)) rfl ?_
 refine go ?_
 exact zC hT rfl rfl rfl
theorem wstr_old (l : List UInt8) (m : List UInt8) (hl : l.length + m.length ≤ 1000000000) : Con Tryz.prog 50 [.ad (.o 0) 0, .p (.str m)] (bdH bdS l) (.tup [.p (.int .i64 (m.length : Int)), .p .top]) (bdH bdS (l ++ m)) [] := by
 have c1 := zDz l
 rw [zM5]
 refine zD Tryz.func50 rfl (by kernel_rfl) rfl fun F w0 β0 => ?_
 refine zE rfl ?_
 refine go ?_
 refine zH rfl rfl (zA [.o 0, .o 1] rfl rfl (c1) rfl rfl rfl ⟨⟨rfl, rfl⟩, ⟨rfl, rfl⟩, trivial⟩ rfl rfl rfl rfl) rfl ?_
 refine go ?_
 refine zH rfl rfl (qA hT rfl rfl rfl rfl (bv_length l) rfl rfl (.str m) ⟨fun _ => ⟨m, rfl⟩, fun _ => rfl⟩ (zLz m) (y5 m) (by decide) (by rw [List.length_map]; show (l.length + m.length) * 1 ≤ _; omega)) rfl ?_
 refine go ?_
 rw [List.length_map]
 exact zC hT rfl rfl rfl
abbrev bd0 : List AObj := [.box 122 [bdN, .p .nils]]
theorem zQ5 : Con Tryz.prog 51 [.ad (.o 0) 0] bd0 (.p (.str [])) bd0 [] := by
 refine zD Tryz.func51 rfl (by kernel_rfl) rfl fun F w0 β0 => ?_
 refine zE rfl ?_
 refine go ?_
 refine yE [_] [] (by kernel_rfl) (by kernel_rfl) rfl ?_
 refine gd ?_
 refine zS rfl rfl rfl rfl rfl (zHk rfl rfl) rfl ?_
 refine gd ?_
 refine zS rfl rfl rfl rfl rfl (zE0 rfl rfl rfl) rfl ?_
 refine gd ?_
 refine go ?_
 exact zC hT rfl rfl rfl
theorem zUe (l : List UInt8) (h0 : 0 < l.length) : Con Tryz.prog 51 [.ad (.o 0) 0] (bdH bdS l) (.p (.str l)) [.box 122 [bdS, .sl (.o 1) l.length 0 l.length], .dead] [] := by
 refine zD Tryz.func51 rfl (by kernel_rfl) rfl fun F w0 β0 => ?_
 refine zE rfl ?_
 refine go ?_
 refine yA 10 [.box 122 [bdS, .sl (.o 1) l.length 0 l.length], .dead] (by kernel_rfl) (by kernel_rfl) ?_
 refine gdJ ?_
 refine yJ rfl rfl rfl rfl rfl rfl (zHn rfl rfl rfl (bv_length l) h0) rfl ?_
 refine gdJ ?_
 refine yJ (x := .p (.int .i64 (l.length : Int))) rfl rfl rfl rfl rfl rfl (zBt (zP hT rfl rfl (.sl rfl (bv_length l))) (show TV.p (.int .i64 ((((bv l).drop 0).take l.length).length : Int)) = .p (.int .i64 (l.length : Int)) by simp [bv])) rfl ?_
 refine gdJ ?_
 refine yI rfl rfl rfl rfl rfl rfl (zEs (l := l) (i := 1) (e := 5) rfl (by kernel_rfl) (by kernel_rfl) rfl rfl rfl rfl h0) rfl ?_
 refine gdJ ?_
 refine go ?_
 exact zC hT rfl rfl rfl
def lnD (c : Chg9) : List UInt8 := c.2 :: ([32] ++ c.1 ++ [10])
def lnsD (l : List Chg9) : List UInt8 := l.flatMap lnD
theorem zVn : Con Tryz.prog 29 [.p (.ps [])] [] (.p (.str [])) [] [] := by
 have c3 := zQ5
 refine zD Tryz.func29 rfl (by kernel_rfl) rfl fun F w0 β0 => ?_
 refine zE rfl ?_
 refine go ?_
 refine z9 (fun _ : Unit => [(3, .ad (.l 0) 0), (6, .p (.ps [])), (7, .p (.int .i64 0)), (8, .p (.int .i64 0))]) (fun _ => []) (fun _ => [.box 122 [bdN, .p .nils]]) (fun _ => 0) () ⟨rfl, rfl, rfl, rfl, trivial⟩ rfl rfl (fun _ => ?_)
 refine go ?_
 refine zH rfl rfl (zA [.l 0] rfl rfl (c3) rfl rfl rfl ⟨⟨rfl, rfl⟩, trivial⟩ rfl rfl rfl rfl) rfl ?_
 refine go ?_
 exact zC hT rfl rfl rfl
structure LnI (cs : List Chg9) where
 i : Nat
 h : i ≤ cs.length
 l : List UInt8
 e : l ++ lnsD (cs.drop i) = lnsD cs
 f : Bool
 hf : f = true → i = 0
def bdA (f : Bool) : TV := match f with
 | true => .p .nilp
 | false => .ad (.l 0) 0
def lnL (f : Bool) (l : List UInt8) : List AObj := [.box 122 [bdA f, .sl (.l 1) l.length 0 l.length], .arr 5 true 1 (bv l)]
set_option maxHeartbeats 8000000 in
theorem zU5 (cs : List Chg9) (h0 : 0 < cs.length) (hn : cs.length ≤ 1000000) (hl : (lnsD cs).length ≤ 100000000) : Con Tryz.prog 29 [.p (.ps (cs.map chgA))] [] (.p (.str (lnsD cs))) [] [] := by
 have hlen : (cs.map chgA).length = cs.length := by simp
 refine zD Tryz.func29 rfl (by kernel_rfl) rfl fun F w0 β0 => ?_
 refine zE rfl ?_
 refine go ?_
 refine zWe 0 1 5 (e := 1) rfl rfl rfl (.inl rfl) ?_
 refine z9 (fun q : LnI cs => [(3, .ad (.l 0) 0), (6, .p (.ps (cs.map chgA))), (7, .p (.int .i64 (cs.length : Int))), (8, .p (.int .i64 (q.i : Int)))]) (fun _ => []) (fun q => lnL q.f q.l) (fun q => cs.length - q.i) ⟨0, Nat.zero_le _, [], rfl, true, fun _ => rfl⟩ ⟨rfl, rfl, by show TV.p (.int .i64 _) = _; rw [hlen], rfl, trivial⟩ rfl rfl (fun q => ?_)
 have he := q.e
 have hf := q.hf
 have hq := q.h
 have hql : q.l.length + (lnsD (cs.drop q.i)).length ≤ 100000000 := by rw [← List.length_append, he]; exact hl
 by_cases h : q.i < cs.length
 ·have hx : cs[q.i]? = some cs[q.i] := List.getElem?_eq_getElem h
  have hdr : cs.drop q.i = cs[q.i] :: cs.drop (q.i + 1) := List.drop_eq_getElem_cons h
  rw [hdr] at he hql
  generalize cs[q.i] = x at hx he hql
  have hxk : (cs.map chgA)[((q.i : Nat) : Int).toNat]? = some (chgA x) := by rw [Int.toNat_natCast, List.getElem?_map, hx]; rfl
  have e1 : lnsD (x :: cs.drop (q.i + 1)) = x.2 :: ([32] ++ x.1 ++ [10]) ++ lnsD (cs.drop (q.i + 1)) := rfl
  rw [e1] at he hql
  have hxl : q.l.length + x.1.length + 3 ≤ 100000000 := by
   simp at hql
   omega
  have he2 : (q.l ++ [x.2] ++ ([32] ++ x.1 ++ [10])) ++ lnsD (cs.drop (q.i + 1)) = lnsD cs := by
   rw [← he]; simp
  have hwi : IntKind.i64.wrap ((q.i : Int) + 1) = ((q.i + 1 : Nat) : Int) := by rw [IntWalk.i64_in _ (by omega)]; rfl
  have c2 := wstr_old (q.l ++ [x.2]) ([32] ++ x.1 ++ [10]) (by simp; omega)
  cases hfb : q.f with
  | true =>
   have c1 := zS7 q.l (by omega) x.2
   unfold lnL bdA
   refine go ?_
   refine zG rfl (decide_eq_true (by omega)) ?_
   refine go ?_
   refine zH rfl rfl (zJ hT rfl rfl rfl rfl rfl (.ps _) (by omega) (by rw [hlen]; omega)) rfl ?_
   refine go ?_
   refine zH rfl rfl (zI hT rfl rfl (.ps _) hxk rfl rfl) rfl ?_
   refine go ?_
   refine zH rfl rfl (zA [.l 0, .l 1] rfl rfl (c1) rfl rfl rfl ⟨⟨rfl, rfl⟩, ⟨rfl, rfl⟩, trivial⟩ rfl rfl rfl rfl) rfl ?_
   refine go ?_
   refine zH rfl rfl (zB3 (l := [32]) rfl rfl rfl (by simp; omega)) rfl ?_
   refine go ?_
   refine zH rfl rfl (zB3 (m := [10]) rfl rfl rfl (by simp; omega)) rfl ?_
   refine go ?_
   refine zH rfl rfl (zA [.l 0, .l 1] rfl rfl (c2) rfl rfl rfl ⟨⟨rfl, rfl⟩, ⟨rfl, rfl⟩, trivial⟩ rfl rfl rfl rfl) rfl ?_
   refine go ?_
   refine zY 2 [(3, .ad (.l 0) 0), (6, .p (.ps (cs.map chgA))), (7, .p (.int .i64 (cs.length : Int))), (8, .p (.int .i64 (IntKind.i64.wrap ((q.i : Int) + 1))))] ⟨rfl, rfl, rfl, rfl, trivial⟩ rfl rfl ?_
   refine zR ⟨q.i + 1, by omega, _, he2, false, fun h => by cases h⟩ (by show cs.length - (q.i + 1) < cs.length - q.i; omega) ⟨rfl, rfl, rfl, congrArg (fun z => TV.p (.int .i64 z)) hwi, trivial⟩ rfl rfl
  | false =>
   have c1 := zT8 q.l (by omega) x.2
   unfold lnL bdA
   refine go ?_
   refine zG rfl (decide_eq_true (by omega)) ?_
   refine go ?_
   refine zH rfl rfl (zJ hT rfl rfl rfl rfl rfl (.ps _) (by omega) (by rw [hlen]; omega)) rfl ?_
   refine go ?_
   refine zH rfl rfl (zI hT rfl rfl (.ps _) hxk rfl rfl) rfl ?_
   refine go ?_
   refine zH rfl rfl (zA [.l 0, .l 1] rfl rfl (c1) rfl rfl rfl ⟨⟨rfl, rfl⟩, ⟨rfl, rfl⟩, trivial⟩ rfl rfl rfl rfl) rfl ?_
   refine go ?_
   refine zH rfl rfl (zB3 (l := [32]) rfl rfl rfl (by simp; omega)) rfl ?_
   refine go ?_
   refine zH rfl rfl (zB3 (m := [10]) rfl rfl rfl (by simp; omega)) rfl ?_
   refine go ?_
   refine zH rfl rfl (zA [.l 0, .l 1] rfl rfl (c2) rfl rfl rfl ⟨⟨rfl, rfl⟩, ⟨rfl, rfl⟩, trivial⟩ rfl rfl rfl rfl) rfl ?_
   refine go ?_
   refine zY 2 [(3, .ad (.l 0) 0), (6, .p (.ps (cs.map chgA))), (7, .p (.int .i64 (cs.length : Int))), (8, .p (.int .i64 (IntKind.i64.wrap ((q.i : Int) + 1))))] ⟨rfl, rfl, rfl, rfl, trivial⟩ rfl rfl ?_
   refine zR ⟨q.i + 1, by omega, _, he2, false, fun h => by cases h⟩ (by show cs.length - (q.i + 1) < cs.length - q.i; omega) ⟨rfl, rfl, rfl, congrArg (fun z => TV.p (.int .i64 z)) hwi, trivial⟩ rfl rfl
 ·have hff : q.f = false := by
   cases hfb : q.f with
   | true => have := hf hfb; omega
   | false => rfl
  have hll : q.l = lnsD cs := by
   rw [List.drop_of_length_le (by omega)] at he
   rw [← he]
   simp [lnsD]
  have hpos : 0 < (lnsD cs).length := by
   cases cs with
   | nil => simp at h0
   | cons x r => show 0 < (lnD x ++ lnsD r).length; simp [lnD]
  have c3 := zUe (lnsD cs) hpos
  rw [hff, hll]
  unfold lnL bdA
  refine go ?_
  refine zF rfl (decide_eq_false (by omega)) ?_
  refine go ?_
  refine zH rfl rfl (zA [.l 0, .l 1] rfl rfl (c3) rfl rfl rfl ⟨⟨rfl, rfl⟩, ⟨rfl, rfl⟩, trivial⟩ rfl rfl rfl rfl) rfl ?_
  refine go ?_
  exact zC hT rfl rfl rfl
theorem lns_spec (cs : List Chg9) (hn : cs.length ≤ 1000000) (hl : (lnsD cs).length ≤ 100000000) : Con Tryz.prog 29 [.p (.ps (cs.map chgA))] [] (.p (.str (lnsD cs))) [] [] := by
 cases cs with
 | nil => exact zVn
 | cons x r => exact zU5 (x :: r) (by simp) hn hl
theorem zTu {m : MF} {par : Int → Int} {t : Tr} (R : Rel t.row m par) (hz : t.size ≤ 20000) : (thgS (undD m 16 [] 1)).length ≤ 20001 := by
 have h1 : (thgS (undD m 16 [] 1)).length = (undD m 16 [] 1).length := ((zTt ltT (undD m 16 [] 1)).1).length_eq
 have h2 := und_48 R 16 []
 have h3 := yN t
 omega
theorem zHr {m : MF} {par : Int → Int} {t : Tr} (R : Rel t.row m par) (hv : ∀ x ∈ t.row, x.1.length ≤ 100000 ∧ x.2.length ≤ 100000) (hz : t.size ≤ 20000) : Con Tryz.prog 26 [W t, W t] [] (.p (.ps [])) [] [] := by
 have c := zGx R hv hz
 have hl := zTu R hz
 have c2 := zEn _ _ (by omega) c c
 rw [zLh] at c2
 exact c2
theorem zVj : Con Tryz.prog 26 [.p .nilp, W .nil] [] (.p (.ps [])) [] [] := by
 obtain ⟨par, R⟩ := D20.start.r
 have c := zHr (t := .nil) R (by simp [row]) (by decide)
 exact Con.argT (args := [W .nil, W .nil]) 0 c rfl zCb
theorem zQi {l : List POp} {s : VS} (hm : made0 l = some s) : ∃ L : List Thg, Con Tryz.prog 45 [W (treeL s.shown.row)] [] (.p (.ps (L.map thgA))) [] [] ∧ L.length ≤ 20001 := by
 obtain ⟨m, par, R, ha, hv⟩ := zT6 hm
 have hvt := zMj hv
 have htr := zA9 hv.rs
 have hsz : (treeL s.shown.row).size ≤ 10000 := hvt.zs
 have hval : ∀ x ∈ (treeL s.shown.row).row, x.1.length ≤ 100000 ∧ x.2.length ≤ 100000 := fun x hx => by
  rw [htr] at hx
  have := hv.val x hx
  omega
 have R' : Rel (treeL s.shown.row).row m par := by rw [htr]; exact R
 exact ⟨_, zGx R' hval (by omega), zTu R' (by omega)⟩
set_option maxHeartbeats 4000000 in
theorem qM : Con Tryz.prog 25 [] [] (.p (.bool true)) [] [] := by
 have c2 := zVj
 have c3 := lns_spec [([47, 97], 43)] (by decide) (by decide)
 change Con Tryz.prog _ [.p (.ps [.agg [.int .u8 43, .str [47, 97]]])] _ (.p (.str [43, 32, 47, 97, 10])) _ _ at c3
 refine zD Tryz.func25 rfl (by kernel_rfl) rfl fun F w0 β0 => ?_
 refine zE rfl ?_
 refine go ?_
 refine zH rfl rfl (zB rfl rfl (zFx) rfl rfl rfl rfl) rfl ?_
 refine go ?_
 refine zH rfl rfl (zB rfl rfl (c2) rfl rfl rfl rfl) rfl ?_
 refine go ?_
 refine zZ rfl rfl rfl (zB rfl rfl (c3) rfl rfl rfl rfl) rfl ?_
 refine go ?_
 exact zC hT rfl rfl rfl
end Go.Proofs.YtdnpkgakpiopgaaGreatDoor

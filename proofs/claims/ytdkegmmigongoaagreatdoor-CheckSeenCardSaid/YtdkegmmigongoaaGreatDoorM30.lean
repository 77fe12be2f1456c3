import Derived.Test.YtdkegmmigongoaaGreatDoorGo
import Derived.Test.YtdkegmmigongoaaGreatDoorM29
import Derived.Test.YtdkegmmigongoaaGreatDoorM1
import Derived.Test.YtdkegmmigongoaaGreatDoorM26
import Derived.Test.YtdkegmmigongoaaGreatDoorM20
import Derived.Test.YtdkegmmigongoaaGreatDoorM21
import Derived.Test.YtdkegmmigongoaaGreatDoorM22
namespace Go.Proofs.YtdkegmmigongoaaGreatDoor
set_option maxRecDepth 20000
open Go.Awp Tr
abbrev kvT (y : KV) : TV := .p (.agg [.str y.1, .str y.2, .bool false])
set_option maxHeartbeats 8000000 in
theorem faultF_spec {s : VS} {m : Nat} (h : VJ s m) (hm : m ≤ 5000000000) (y : KV) (hy1 : y.1.length ≤ 100000) (hy2 : y.2.length ≤ 100000) {L : EL} {E B : Mp} (g : GI s.shown L E B) (hL : L.length ≤ 10000000) (hu : ∀ p ∈ L, U32 p.1) : ∃ s', VJ s' (m + s.shown.size + 4) ∧ s'.shown = s.shown ∧ Con Tryz.prog 111 [bkP, kvT y] (bkH s E B) (.p (.int .u8 (faultF s.shown L y))) (bkH s' E B) [] := by
 have c1 := ksplit_spec y.1 (by omega)
 obtain ⟨u1, u2⟩ := splitK_u y.1
 unfold faultF
 generalize splitK y.1 = r at c1 u1 u2
 obtain ⟨a, b, c, d⟩ := r
 dsimp only at u1 u2 ⊢
 change Con Tryz.prog _ _ _ (.tup [.p (.int .u8 a), .p (.int .u32 b), .p (.str c), .p (.int .i64 d)]) _ _ at c1
 by_cases a1 : a = 68
 ·subst a1
  rw [if_pos rfl]
  have c2 := blockF_spec h (by omega) b u1 d u2 y.2 hy2 E B
  refine ⟨s.rd (keyH 73 b), (h.rd _).mono (by omega), rfl, ?_⟩
  generalize s.rd (keyH 73 b) = s1 at c2
  refine con_of Tryz.func111 rfl (by kernel_rfl) rfl fun F w0 β0 => ?_
  refine K_tell rfl ?_
  refine go ?_
  refine K_op rfl rfl (opr_callP rfl rfl (c1) rfl rfl rfl rfl) rfl ?_
  refine go ?_
  refine K_op rfl rfl (opr_callS [.o 0, .o 1, .o 2, .o 3, .o 4] rfl rfl (c2) rfl rfl rfl ⟨⟨rfl, rfl⟩, ⟨rfl, rfl⟩, ⟨rfl, rfl⟩, ⟨rfl, rfl⟩, ⟨rfl, rfl⟩, trivial⟩ rfl rfl rfl rfl) rfl ?_
  refine go ?_
  exact J_done hT rfl rfl rfl
 rw [if_neg a1]
 by_cases a2 : a = 69
 ·subst a2
  rw [if_pos rfl]
  obtain ⟨s1, h1, e1, c2⟩ := entryF_spec h (by omega) b u1 c E B
  refine ⟨s1, h1.mono (by omega), e1, ?_⟩
  refine con_of Tryz.func111 rfl (by kernel_rfl) rfl fun F w0 β0 => ?_
  refine K_tell rfl ?_
  refine go ?_
  refine K_op rfl rfl (opr_callP rfl rfl (c1) rfl rfl rfl rfl) rfl ?_
  refine go ?_
  refine K_op rfl rfl (opr_callS [.o 0, .o 1, .o 2, .o 3, .o 4] rfl rfl (c2) rfl rfl rfl ⟨⟨rfl, rfl⟩, ⟨rfl, rfl⟩, ⟨rfl, rfl⟩, ⟨rfl, rfl⟩, ⟨rfl, rfl⟩, trivial⟩ rfl rfl rfl rfl) rfl ?_
  refine go ?_
  exact J_done hT rfl rfl rfl
 rw [if_neg a2]
 by_cases a3 : a = 73
 ·subst a3
  rw [if_pos rfl]
  obtain ⟨s1, h1, e1, c2⟩ := inodeF_spec h hm b u1 g hL hu
  refine ⟨s1, h1, e1, ?_⟩
  refine con_of Tryz.func111 rfl (by kernel_rfl) rfl fun F w0 β0 => ?_
  refine K_tell rfl ?_
  refine go ?_
  refine K_op rfl rfl (opr_callP rfl rfl (c1) rfl rfl rfl rfl) rfl ?_
  refine go ?_
  refine K_op rfl rfl (opr_callS [.o 0, .o 1, .o 2, .o 3, .o 4] rfl rfl (c2) rfl rfl rfl ⟨⟨rfl, rfl⟩, ⟨rfl, rfl⟩, ⟨rfl, rfl⟩, ⟨rfl, rfl⟩, ⟨rfl, rfl⟩, trivial⟩ rfl rfl rfl rfl) rfl ?_
  refine go ?_
  exact J_done hT rfl rfl rfl
 rw [if_neg a3]
 refine ⟨s, h.mono (by omega), rfl, ?_⟩
 refine con_of Tryz.func111 rfl (by kernel_rfl) rfl fun F w0 β0 => ?_
 refine K_tell rfl ?_
 refine go ?_
 refine K_op rfl rfl (opr_callP rfl rfl (c1) rfl rfl rfl rfl) rfl ?_
 refine go ?_
 refine K_condF rfl (by simpa using a1) ?_
 refine go ?_
 refine K_condF rfl (by simpa using a2) ?_
 refine go ?_
 refine K_condF rfl (by simpa using a3) ?_
 refine go ?_
 exact J_done hT rfl rfl rfl
structure GS where
 s : VS
 E : Mp
 B : Mp
 L : EL
def gstep (t : Tr) (a : GS) (y : KV) : GS := if (splitK y.1).1 = 69 then match cdT t (splitK y.1).2.1 (splitK y.1).2.2.1 with
  | none => { a with s := a.s.rd (entryK (splitK y.1).2.1 (splitK y.1).2.2.1) }
  | some i => ⟨(a.s.rd (entryK (splitK y.1).2.1 (splitK y.1).2.2.1)).rd (keyH 73 i), mput i (.agg [.int .i64 (cntE a.L i + 1), .int .u32 (splitK y.1).2.1]) a.E, if isDT t i = true then mput (splitK y.1).2.1 (.int .i64 (subE t a.L (splitK y.1).2.1 + 1)) a.B else a.B, a.L ++ [((splitK y.1).2.1, i)]⟩
 else a
def gst (t : Tr) (l : List KV) : GS := l.foldl (gstep t) ⟨VS.new t, [], [], []⟩
theorem gst_take {t : Tr} {l : List KV} {i : Nat} {y : KV} (h : l[i]? = some y) : gst t (l.take (i + 1)) = gstep t (gst t (l.take i)) y := by
 unfold gst
 rw [List.take_add_one, h, List.foldl_append]; rfl
structure GOk (t : Tr) (m : Nat) (l : List KV) (G : GS) : Prop where
 g : GI t G.L G.E G.B
 v : VJ G.s (m + 2 * l.length)
 sh : G.s.shown = t
 e : G.L = entsT t l
 u : ∀ p ∈ G.L, U32 p.1 ∧ U32 p.2
theorem gst_ok {t : Tr} {m : Nat} (ht : VJ (VS.new t) m) (l : List KV) : ∀ i, i ≤ l.length → GOk t m (l.take i) (gst t (l.take i)) := by
 intro i
 induction i with
 | zero => intro _; exact ⟨GI.new t, ht, rfl, rfl, by simp [gst]⟩
 | succ i ih =>
  intro hi
  have o := ih (by omega)
  have hx : l[i]? = some (l[i]'(by omega)) := List.getElem?_eq_getElem _
  generalize l[i]'(by omega) = y at hx
  rw [gst_take hx]
  have hen := entsT_take (t := t) hx
  have hl : (l.take (i + 1)).length = (l.take i).length + 1 := by rw [List.length_take, List.length_take]; omega
  have hu := (splitK_u y.1).1
  generalize gst t (l.take i) = G at o
  unfold gstep
  unfold entT at hen
  by_cases h69 : (splitK y.1).1 = 69
  ·rw [if_pos h69] at hen ⊢
   cases hc : cdT t (splitK y.1).2.1 (splitK y.1).2.2.1 with
   | none =>
    rw [hc] at hen
    change _ = entsT t (l.take i) ++ [] at hen
    rw [List.append_nil] at hen
    exact ⟨o.g, (o.v.rd _).mono (by rw [hl]; omega), o.sh, by rw [hen]; exact o.e, o.u⟩
   | some j =>
    rw [hc] at hen
    change _ = entsT t (l.take i) ++ [((splitK y.1).2.1, j)] at hen
    have hv := ((o.v.rd (entryK (splitK y.1).2.1 (splitK y.1).2.2.1)).rd (keyH 73 j)).mono (show _ ≤ m + 2 * (l.take (i + 1)).length by rw [hl]; omega)
    have hu2 : ∀ p ∈ G.L ++ [((splitK y.1).2.1, j)], U32 p.1 ∧ U32 p.2 := fun p hp => by
     rcases List.mem_append.1 hp with hp | hp
     ·exact o.u p hp
     ·rw [List.mem_singleton] at hp; subst hp; exact ⟨hu, chOf_ok hc⟩
    dsimp only
    by_cases hd : isDT t j = true
    ·rw [if_pos hd]
     exact ⟨o.g.dir hd, hv, o.sh, by rw [hen, ← o.e], hu2⟩
    ·rw [if_neg hd]
     exact ⟨o.g.file (by simpa using hd), hv, o.sh, by rw [hen, ← o.e], hu2⟩
  ·rw [if_neg h69] at hen ⊢
   change _ = entsT t (l.take i) ++ [] at hen
   rw [List.append_nil] at hen
   exact ⟨o.g, o.v.mono (by rw [hl]; omega), o.sh, by rw [hen]; exact o.e, o.u⟩
abbrev bkN (s : VS) (E B : Mp) : List AObj := [vB (.l 1) s.base s.shown s.writes s.reads s.ranges.length, vR s.ranges, mpO (AV.int .u32) E, mpO (AV.int .u32) B, bokB (.l 0) (.l 2) (.l 3)]
set_option maxHeartbeats 16000000 in
theorem gather_spec {t : Tr} {m : Nat} (ht : VJ (VS.new t) m) (hm : m ≤ 1000000) : Con Tryz.prog 106 [W t] [] (.ad (.l 4) 0) [] (bkN (gst t t.row).s (gst t t.row).E (gst t t.row).B) := by
 have hrl := row_len t
 have hsz : t.size ≤ m := ht.zs
 refine con_of Tryz.func106 rfl (by kernel_rfl) rfl fun F w0 β0 => ?_
 refine K_tell rfl ?_
 refine go ?_
 refine K_op rfl rfl (opr_callP rfl rfl (vnew_spec t) rfl rfl rfl rfl) rfl ?_
 refine go ?_
 refine K_op rfl rfl (opr_makeMap (AV.int .u32) rfl) rfl ?_
 refine go ?_
 refine K_op rfl rfl (opr_makeMap (AV.int .u32) rfl) rfl ?_
 refine go ?_
 refine K_op rfl rfl (stepN_ok hTM rfl) rfl ?_
 refine K_op rfl rfl (stepN_ok hTM rfl) rfl ?_
 refine go ?_
 refine K_op rfl rfl (opr_callP rfl rfl (tlen_spec t) rfl rfl rfl rfl) rfl ?_
 refine go ?_
 refine J_loop (fun q : Ix t.size => [(0, W t), (3, .ad (.l 4) 0), (20, .p (.int .i64 (t.size : Int))), (21, .p (.int .i64 (q.i : Int)))]) (fun _ => []) (fun q => bkN (gst t (t.row.take q.i)).s (gst t (t.row.take q.i)).E (gst t (t.row.take q.i)).B) (fun q => t.size - q.i) ⟨0, by omega⟩ ⟨rfl, rfl, rfl, rfl, trivial⟩ rfl rfl (fun q => ?_)
 have hi := q.h
 have o := gst_ok ht t.row q.i (by omega)
 have hlen := List.length_take_le q.i t.row
 refine go ?_
 by_cases h : q.i < t.size
 ·have hx : t.row[q.i]? = some (t.row[q.i]'(by omega)) := List.getElem?_eq_getElem _
  obtain ⟨hx1, hx2⟩ := ht.val _ (List.getElem_mem (l := t.row) (n := q.i) (by omega))
  generalize t.row[q.i]'(by omega) = y at hx hx1 hx2
  have c1 := tat_spec t (q.i : Int) (by unfold big40; omega) (by omega)
  rw [atZ_row, if_neg (by omega), Int.toNat_natCast, hx] at c1
  have c2 := ksplit_spec y.1 (by omega)
  have hgt := gst_take (t := t) hx
  have hu := (splitK_u y.1).1
  have hv := o.v
  have hsh := o.sh
  have hg := o.g
  have hcl : ∀ j, cntE (gst t (t.row.take q.i)).L j ≤ 1000000 := fun j => Nat.le_trans (cntE_le _ j) (by rw [o.e]; exact Nat.le_trans (entsT_len _ _) (by omega))
  have hsl : ∀ j, subE t (gst t (t.row.take q.i)).L j ≤ 1000000 := fun j => Nat.le_trans (subE_le t _ j) (by rw [o.e]; exact Nat.le_trans (entsT_len _ _) (by omega))
  generalize gst t (t.row.take q.i) = G at hgt hv hsh hg hcl hsl
  unfold gstep at hgt
  generalize splitK y.1 = r at c2 hgt hu
  obtain ⟨a, b, c, d⟩ := r
  dsimp only at hgt hu
  change Con Tryz.prog _ _ _ (.tup [.p (.int .u8 a), .p (.int .u32 b), .p (.str c), .p (.int .i64 d)]) _ _ at c2
  have hwi : IntKind.i64.wrap ((q.i : Int) + 1) = ((q.i + 1 : Nat) : Int) := by rw [IntWalk.i64_in _ (by omega)]; rfl
  refine K_condT rfl (decide_eq_true (by omega)) ?_
  refine go ?_
  refine K_op rfl rfl (opr_callP rfl rfl (c1) rfl rfl rfl rfl) rfl ?_
  refine go ?_
  refine K_op rfl rfl (opr_callP rfl rfl (c2) rfl rfl rfl rfl) rfl ?_
  refine go ?_
  by_cases h69 : a = 69
  ·subst h69
   rw [if_pos rfl] at hgt
   have c3 := wchildL_spec hv (by omega) b hu c
   have e3 : G.s.child b c = cdT t b c := by unfold VS.child cdT; rw [hsh]
   have hv1 := hv.rd (entryK b c)
   have hsh1 : (G.s.rd (entryK b c)).shown = t := hsh
   rw [e3] at c3
   generalize G.s.rd (entryK b c) = s1 at c3 hv1 hsh1 hgt
   have hok : ∀ i, cdT t b c = some i → U32 i := fun i hi => chOf_ok hi
   generalize cdT t b c = w at c3 hgt hok
   refine go ?_
   cases w with
   | none =>
    change Con Tryz.prog _ _ _ (.tup [.p (.int .u32 0), .p (.bool false)]) _ _ at c3
    refine K_op rfl rfl (opr_callS [.l 0, .l 1] rfl rfl (c3) rfl rfl rfl ⟨⟨rfl, rfl⟩, ⟨rfl, rfl⟩, trivial⟩ rfl rfl rfl rfl) rfl ?_
    refine go ?_
    refine J_take 5 [(0, W t), (3, .ad (.l 4) 0), (20, .p (.int .i64 (t.size : Int))), (21, .p (.int .i64 (IntKind.i64.wrap ((q.i : Int) + 1))))] ⟨rfl, rfl, rfl, rfl, trivial⟩ rfl rfl ?_
    refine J_again ⟨q.i + 1, by omega⟩ (by show t.size - (q.i + 1) < t.size - q.i; omega) ⟨rfl, rfl, rfl, congrArg (fun z => TV.p (.int .i64 z)) hwi, trivial⟩ rfl (by dsimp only; rw [hgt]; rfl)
   | some j =>
    change Con Tryz.prog _ _ _ (.tup [.p (.int .u32 j), .p (.bool true)]) _ _ at c3
    have hju := hok j rfl
    have c4 := bdir_spec hv1 (by omega) j hju (mput j (.agg [.int .i64 (cntE G.L j + 1), .int .u32 b]) G.E) G.B
    rw [hsh1] at c4
    have hc := hcl j
    have hs := hsl b
    have he := hg.e j
    have hb := hg.b b
    dsimp only at hgt
    generalize s1.rd (keyH 73 j) = s2 at c4 hgt
    have hw1 : IntKind.i64.wrap ((cntE G.L j : Int) + 1) = (cntE G.L j : Int) + 1 := IntWalk.i64_in _ (by omega)
    have hw2 : IntKind.i64.wrap ((subE t G.L b : Int) + 1) = (subE t G.L b : Int) + 1 := IntWalk.i64_in _ (by omega)
    generalize cntE G.L j = cn at c4 hgt hc he hw1
    generalize subE t G.L b = sb at hgt hs hb hw2
    refine K_op rfl rfl (opr_callS [.l 0, .l 1] rfl rfl (c3) rfl rfl rfl ⟨⟨rfl, rfl⟩, ⟨rfl, rfl⟩, trivial⟩ rfl rfl rfl rfl) rfl ?_
    refine go ?_
    refine J_drawS 15 (by kernel_rfl) (by kernel_rfl) ?_
    apply Exists.intro
    refine gdW ?_
    refine T_opD rfl rfl rfl rfl rfl (opr_fieldAddr hTM rfl rfl rfl) rfl ?_
    refine T_opD rfl rfl rfl rfl rfl (opr_loadM (kt := 36) (e := 189) (by kernel_rfl) rfl rfl) rfl ?_
    refine gdW ?_
    refine T_opD rfl rfl rfl rfl rfl (opr_fieldAddr hTM rfl rfl rfl) rfl ?_
    refine T_opD rfl rfl rfl rfl rfl (opr_loadM (kt := 36) (e := 189) (by kernel_rfl) rfl rfl) rfl ?_
    refine gdW ?_
    refine T_opD rfl rfl rfl rfl rfl (opr_le (opr_at (opr_lookup (u32Key (kt := 36) (by kernel_rfl)) (e := 189) (x0 := .agg [.int .i64 0, .int .u32 0]) rfl (by kernel_rfl) (by kernel_rfl) rfl rfl (fun _ => rfl) rfl hg.eo) (show TV.p ((mget j G.E).getD (.agg [.int .i64 0, .int .u32 0])) = .p (.agg [.int .i64 cn, .int .u32 (dirE G.L j)]) by rw [he])) (aggP_le _)) rfl ?_
    refine gdW ?_
    refine T_stD (x := .p .top) rfl rfl rfl rfl (opr_mapUpdate (i := 2) (rows := G.E) (k := j) (x := .agg [.int .i64 (IntKind.i64.wrap ((cn : Int) + 1)), .int .u32 b]) (u32Key (kt := 36) (by kernel_rfl)) (e := 189) rfl (by kernel_rfl) rfl rfl rfl rfl rfl) rfl ?_
    refine gdW ?_
    rw [hw1]
    refine go ?_
    refine K_op rfl rfl (opr_callS [.l 4, .l 0, .l 1, .l 2, .l 3] rfl rfl (c4) rfl rfl rfl ⟨⟨rfl, rfl⟩, ⟨rfl, rfl⟩, ⟨rfl, rfl⟩, ⟨rfl, rfl⟩, ⟨rfl, rfl⟩, trivial⟩ rfl rfl rfl rfl) rfl ?_
    refine go ?_
    by_cases hd : isDT t j = true
    ·rw [if_pos hd] at hgt
     refine K_condT rfl hd ?_
     refine go ?_
     refine K_op rfl rfl (opr_fieldAddr hTM rfl rfl rfl) rfl ?_
     refine K_op rfl rfl (opr_loadM (kt := 36) (e := 3) (by kernel_rfl) rfl rfl) rfl ?_
     refine go ?_
     refine K_op rfl rfl (opr_at (opr_lookup (u32Key (kt := 36) (by kernel_rfl)) (e := 3) (x0 := .int .i64 0) rfl (by kernel_rfl) (by kernel_rfl) rfl rfl (fun _ => rfl) rfl hg.bo) (show TV.p ((mget b G.B).getD (.int .i64 0)) = .p (.int .i64 sb) by rw [hb])) rfl ?_
     refine go ?_
     refine K_op rfl rfl (opr_mapUpdate (u32Key (kt := 36) (by kernel_rfl)) (e := 3) rfl (by kernel_rfl) rfl rfl rfl rfl rfl) rfl ?_
     refine go ?_
     refine J_take 5 [(0, W t), (3, .ad (.l 4) 0), (20, .p (.int .i64 (t.size : Int))), (21, .p (.int .i64 (IntKind.i64.wrap ((q.i : Int) + 1))))] ⟨rfl, rfl, rfl, rfl, trivial⟩ rfl rfl ?_
     refine J_again ⟨q.i + 1, by omega⟩ (by show t.size - (q.i + 1) < t.size - q.i; omega) ⟨rfl, rfl, rfl, congrArg (fun z => TV.p (.int .i64 z)) hwi, trivial⟩ rfl (by dsimp only; rw [hgt, hw2]; rfl)
    ·rw [if_neg hd] at hgt
     refine K_condF rfl (by simpa using hd) ?_
     refine go ?_
     refine J_take 5 [(0, W t), (3, .ad (.l 4) 0), (20, .p (.int .i64 (t.size : Int))), (21, .p (.int .i64 (IntKind.i64.wrap ((q.i : Int) + 1))))] ⟨rfl, rfl, rfl, rfl, trivial⟩ rfl rfl ?_
     refine J_again ⟨q.i + 1, by omega⟩ (by show t.size - (q.i + 1) < t.size - q.i; omega) ⟨rfl, rfl, rfl, congrArg (fun z => TV.p (.int .i64 z)) hwi, trivial⟩ rfl (by dsimp only; rw [hgt]; rfl)
  ·rw [if_neg h69] at hgt
   refine K_condT rfl (by simpa using h69) ?_
   refine go ?_
   refine J_take 5 [(0, W t), (3, .ad (.l 4) 0), (20, .p (.int .i64 (t.size : Int))), (21, .p (.int .i64 (IntKind.i64.wrap ((q.i : Int) + 1))))] ⟨rfl, rfl, rfl, rfl, trivial⟩ rfl rfl ?_
   refine J_again ⟨q.i + 1, by omega⟩ (by show t.size - (q.i + 1) < t.size - q.i; omega) ⟨rfl, rfl, rfl, congrArg (fun z => TV.p (.int .i64 z)) hwi, trivial⟩ rfl (by dsimp only; rw [hgt]; rfl)
 refine K_condF rfl (decide_eq_false (by omega)) ?_
 rw [List.take_of_length_le (show t.row.length ≤ q.i by omega)]
 refine go ?_
 exact J_give hT rfl rfl
def fltA (p : Int × List UInt8) : AV := .agg [.int .u8 p.1, .str p.2]
theorem flt_cl (l : List (Int × List UInt8)) : clR (l.map fltA) := by
 intro r hr x hx
 obtain ⟨y, _, rfl⟩ := List.mem_map.1 hr
 simp [cellsOf, fltA] at hx
 rcases hx with rfl | rfl <;> rfl
theorem flt_size (l : List (Int × List UInt8)) : ∀ r ∈ l.map fltA, (cellsOf r).length = 2 := by
 intro r hr
 obtain ⟨y, _, rfl⟩ := List.mem_map.1 hr
 rfl
structure CkI (t : Tr) (m : Nat) (n : Nat) where
 i : Nat
 h : i ≤ n
 s : VS
 v : VJ s (m + i * (t.size + 4))
 sh : s.shown = t
set_option maxHeartbeats 16000000 in
theorem check_spec {t : Tr} {m : Nat} (ht : VJ (VS.new t) m) (hm : m ≤ 20000) : Con Tryz.prog 66 [W t] [] (.p (.ps ((chkF t).map fltA))) [] [] := by
 have hrl := row_len t
 have hsz : t.size ≤ m := ht.zs
 have htr : Rises t.row := ht.rs
 have c1 := gather_spec ht (by omega)
 have o := gst_ok ht t.row t.row.length (Nat.le_refl _)
 rw [List.take_length] at o
 have c2 := kinode_spec 1 (by decide) []
 obtain ⟨og, ov, osh, oe, ou⟩ := o
 have hLl := entsT_len t t.row
 unfold chkF
 rw [← oe] at hLl ⊢
 generalize gst t t.row = G at c1 og ov osh hLl ou
 obtain ⟨s0, E, B, L⟩ := G
 dsimp only at c1 og ov osh hLl ou ⊢
 have c3 := lacks_spec s0 (keyH 73 1) E B
 rw [osh] at c3
 have cr := root_spec []
 have cn := nput_spec 2 2 0 1 (by decide) (by decide) (by decide) (by decide)
 have cs := tset_spec (keyH 73 1) (nodeB 2 2 0 1) t (by unfold big40; omega)
 have hrs : (rootT t).size ≤ t.size + 1 ∧ ∀ x ∈ (rootT t).row, x.1.length ≤ 100000 ∧ x.2.length ≤ 100000 := by
  unfold rootT
  split
  ·exact ⟨by omega, ht.val⟩
  ·refine ⟨set_size _ _ _, fun x hx => ?_⟩
   rw [set_row _ _ _ htr, lset_mem_iff htr] at hx
   rcases hx with rfl | hx
   ·exact ⟨by rw [keyH_len]; omega, by rw [nodeB_l13]; omega⟩
   ·exact ht.val x hx.1
 have hRd : rootT t = if (t.get (keyH 73 1)).isSome = true then t else t.set (keyH 73 1) (nodeB 2 2 0 1) := rfl
 generalize rootT t = R at hrs hRd
 obtain ⟨hRs, hRv⟩ := hrs
 have hRl := row_len R
 refine con_of Tryz.func66 rfl (by kernel_rfl) rfl fun F w0 β0 => ?_
 refine K_tell rfl ?_
 refine go ?_
 refine K_op rfl rfl (opr_callP rfl rfl (c1) rfl rfl rfl rfl) rfl ?_
 refine go ?_
 refine K_op rfl rfl (opr_callP rfl rfl (c2) rfl rfl rfl rfl) rfl ?_
 refine go ?_
 refine K_op rfl rfl (opr_callS [.l 4, .l 0, .l 1, .l 2, .l 3] rfl rfl (c3) rfl rfl rfl ⟨⟨rfl, rfl⟩, ⟨rfl, rfl⟩, ⟨rfl, rfl⟩, ⟨rfl, rfl⟩, ⟨rfl, rfl⟩, trivial⟩ rfl rfl rfl rfl) rfl ?_
 refine go ?_
 refine J_join [(0, W R), (3, .ad (.l 4) 0)] [] (bkN s0 E B) ?_ ?_
 ·cases hg : (t.get (keyH 73 1)).isSome with
  | true =>
   rw [hg, if_pos rfl] at hRd
   subst hRd
   refine K_condF rfl rfl ?_
   refine go ?_
   exact J_at ⟨rfl, rfl, trivial⟩ rfl rfl
  | false =>
   rw [hg, if_neg (by decide)] at hRd
   subst hRd
   refine K_condT rfl rfl ?_
   refine go ?_
   refine K_op rfl rfl (opr_callP rfl rfl (cr) rfl rfl rfl rfl) rfl ?_
   refine go ?_
   refine K_op rfl rfl (opr_callP rfl rfl (cn) rfl rfl rfl rfl) rfl ?_
   refine go ?_
   refine K_op rfl rfl (opr_callP rfl rfl (cs) rfl rfl rfl rfl) rfl ?_
   refine go ?_
   exact J_at ⟨rfl, rfl, trivial⟩ rfl rfl
 refine go ?_
 refine K_op rfl rfl (opr_callP rfl rfl (tlen_spec R) rfl rfl rfl rfl) rfl ?_
 refine go ?_
 refine J_lazyE 5 124 (e := 2) rfl rfl (.inl rfl) ?_
 refine J_loop (fun q : CkI t (m + 2 * t.size) R.size => [(0, W R), (3, .ad (.l 4) 0), (5, .sl (.l 5) (fltsF t L (R.row.take q.i)).length 0 (fltsF t L (R.row.take q.i)).length), (22, .p (.int .i64 (R.size : Int))), (23, .p (.int .i64 (q.i : Int)))]) (fun _ => []) (fun q => bkN q.s E B ++ [.arr 124 true 2 ((fltsF t L (R.row.take q.i)).map fltA)]) (fun q => R.size - q.i) ⟨0, by omega, s0, ov.mono (by omega), osh⟩ ⟨rfl, rfl, rfl, rfl, rfl, trivial⟩ rfl rfl (fun q => ?_)
 have hi := q.h
 have hfl : (fltsF t L (R.row.take q.i)).length ≤ R.row.length := Nat.le_trans (List.length_filterMap_le _ _) (by rw [List.length_take]; omega)
 have hml : ((fltsF t L (R.row.take q.i)).map fltA).length = (fltsF t L (R.row.take q.i)).length := by simp
 refine go ?_
 by_cases h : q.i < R.size
 ·have hx : R.row[q.i]? = some (R.row[q.i]'(by omega)) := List.getElem?_eq_getElem _
  obtain ⟨hx1, hx2⟩ := hRv _ (List.getElem_mem (l := R.row) (n := q.i) (by omega))
  generalize R.row[q.i]'(by omega) = y at hx hx1 hx2
  have c4 := tat_spec R (q.i : Int) (by unfold big40; omega) (by omega)
  rw [atZ_row, if_neg (by omega), Int.toNat_natCast, hx] at c4
  have hqi : q.i * (t.size + 4) ≤ 20001 * 20004 := Nat.mul_le_mul (by omega) (by omega)
  obtain ⟨s1, hv1, hs1, c5⟩ := faultF_spec q.v (by omega) y hx1 hx2 (L := L) (E := E) (B := B) (by rw [q.sh]; exact og) (by omega) fun p hp => (ou p hp).1
  rw [q.sh] at hs1 hv1 c5
  have hft := fltsF_take (t := t) (L := L) hx
  have hwi : IntKind.i64.wrap ((q.i : Int) + 1) = ((q.i + 1 : Nat) : Int) := by rw [IntWalk.i64_in _ (by omega)]; rfl
  have hv2 : VJ s1 (m + 2 * t.size + (q.i + 1) * (t.size + 4)) := hv1.mono (by rw [Nat.add_mul]; omega)
  generalize faultF t L y = f at c5 hft
  refine K_condT rfl (decide_eq_true (by omega)) ?_
  refine go ?_
  refine K_op rfl rfl (opr_callP rfl rfl (c4) rfl rfl rfl rfl) rfl ?_
  refine go ?_
  refine K_op rfl rfl (opr_callS [.l 4, .l 0, .l 1, .l 2, .l 3] rfl rfl (c5) rfl rfl rfl ⟨⟨rfl, rfl⟩, ⟨rfl, rfl⟩, ⟨rfl, rfl⟩, ⟨rfl, rfl⟩, ⟨rfl, rfl⟩, trivial⟩ rfl rfl rfl rfl) rfl ?_
  refine go ?_
  by_cases hf : f = 0
  ·rw [if_pos hf, List.append_nil] at hft
   refine K_condF rfl (by simp [hf]) ?_
   refine go ?_
   refine J_take 6 [(0, W R), (3, .ad (.l 4) 0), (5, .sl (.l 5) (fltsF t L (R.row.take q.i)).length 0 (fltsF t L (R.row.take q.i)).length), (22, .p (.int .i64 (R.size : Int))), (23, .p (.int .i64 (IntKind.i64.wrap ((q.i : Int) + 1))))] ⟨rfl, rfl, rfl, rfl, rfl, trivial⟩ rfl rfl ?_
   refine J_again ⟨q.i + 1, by omega, s1, hv2, hs1⟩ (by show R.size - (q.i + 1) < R.size - q.i; omega) ⟨rfl, rfl, (by show TV.sl _ _ _ _ = TV.sl _ _ _ _; rw [hft]), rfl, congrArg (fun z => TV.p (.int .i64 z)) hwi, trivial⟩ rfl (by dsimp only; rw [hft]; rfl)
  ·rw [if_neg hf] at hft
   refine K_condT rfl (by simpa using hf) ?_
   refine go ?_
   refine K_op rfl rfl (opr_app_own hT rfl rfl rfl rfl hml rfl rfl (.rd (.ps _)) hbs_ps (flt_cl [(f, y.1)]) (flt_size [(f, y.1)]) (by decide) (by show ((fltsF t L (R.row.take q.i)).length + 1) * 24 ≤ _; omega)) rfl ?_
   refine go ?_
   refine J_take 6 [(0, W R), (3, .ad (.l 4) 0), (5, .sl (.l 5) ((fltsF t L (R.row.take q.i)).length + 1) 0 ((fltsF t L (R.row.take q.i)).length + 1)), (22, .p (.int .i64 (R.size : Int))), (23, .p (.int .i64 (IntKind.i64.wrap ((q.i : Int) + 1))))] ⟨rfl, rfl, rfl, rfl, rfl, trivial⟩ rfl rfl ?_
   refine J_again ⟨q.i + 1, by omega, s1, hv2, hs1⟩ (by show R.size - (q.i + 1) < R.size - q.i; omega) ⟨rfl, rfl, (by show TV.sl _ _ _ _ = TV.sl _ _ _ _; rw [hft, List.length_append]; rfl), rfl, congrArg (fun z => TV.p (.int .i64 z)) hwi, trivial⟩ rfl (by dsimp only; rw [hft, List.map_append]; rfl)
 refine K_condF rfl (decide_eq_false (by omega)) ?_
 rw [List.take_of_length_le (show R.row.length ≤ q.i by omega)] at hml ⊢
 refine go ?_
 refine J_freeze_all 2 5 rfl rfl hml ?_
 refine J_take 0 [(2, .p (.ps ((fltsF t L R.row).map fltA)))] ⟨rfl, trivial⟩ rfl rfl ?_
 exact J_done hT rfl rfl rfl
theorem clean_spec {t : Tr} {m : Nat} (ht : VJ (VS.new t) m) (hm : m ≤ 20000) : Con Tryz.prog 36 [W t] [] (.p (.bool (decide (chkF t = [])))) [] [] := by
 have c1 := check_spec ht hm
 have e : decide (chkF t = []) = (((chkF t).map fltA).length == (0 : Int)) := by
  rw [List.length_map, Bool.eq_iff_iff, decide_eq_true_eq, beq_iff_eq]
  constructor
  ·intro h; rw [h]; rfl
  ·intro h; exact List.eq_nil_of_length_eq_zero (by omega)
 rw [e]
 generalize (chkF t).map fltA = F0 at c1
 refine con_of Tryz.func36 rfl (by kernel_rfl) rfl fun F w0 β0 => ?_
 refine K_tell rfl ?_
 refine go ?_
 refine K_op rfl rfl (opr_callP rfl rfl (c1) rfl rfl rfl rfl) rfl ?_
 refine go ?_
 exact J_done hT rfl rfl rfl
theorem vj_nil : VJ (VS.new .nil) 0 := VJ.new (by simp [row, Rises]) (Nat.le_refl _) (by simp [row])
def t27 : Tr := Tr.nil.set (blockK 2 0) [97]
theorem t27_ok : VJ (VS.new t27) 1 := by
 have hr : t27.row = lset (blockK 2 0) [97] [] := set_row _ _ _ (by simp [row, Rises])
 refine VJ.new (by rw [hr]; exact lset_rises (by simp [Rises])) (set_size _ _ _) fun x hx => ?_
 rw [hr, lset_mem_iff (by simp [Rises])] at hx
 rcases hx with rfl | hx
 ·exact ⟨by decide, by decide⟩
 ·exact absurd hx.1 (by simp)
theorem chk_nil : chkF .nil = [] := by kernel_rfl
theorem chk_27 : chkF t27 = [(2, blockK 2 0)] := by kernel_rfl
set_option maxHeartbeats 4000000 in
theorem fixed27_spec : Con Tryz.prog 35 [] [] (.p (.bool true)) [] [] := by
 have c1 := rblock_spec 2 0 (by decide) []
 have c2 := tset_spec (blockK 2 0) [97] .nil (by decide)
 have c3 := check_spec t27_ok (by omega)
 rw [chk_27] at c3
 change Con Tryz.prog _ _ _ (.p (.ps [.agg [.int .u8 2, .str (blockK 2 0)]])) _ _ at c3
 have c4 := clean_spec vj_nil (by omega)
 rw [chk_nil, decide_eq_true rfl] at c4
 have c5 : Con Tryz.prog 36 [.p .nilp] [] (.p (.bool true)) [] [] := Con.argT (args := [W .nil]) 0 c4 rfl rep_nil_cell
 refine con_of Tryz.func35 rfl (by kernel_rfl) rfl fun F w0 β0 => ?_
 refine K_tell rfl ?_
 refine go ?_
 refine K_op rfl rfl (opr_callP rfl rfl (tnew_spec) rfl rfl rfl rfl) rfl ?_
 refine go ?_
 refine K_op rfl rfl (opr_callP rfl rfl (c1) rfl rfl rfl rfl) rfl ?_
 refine go ?_
 refine K_op rfl rfl (opr_callP rfl rfl (c2) rfl rfl rfl rfl) rfl ?_
 refine go ?_
 refine K_op rfl rfl (opr_callP rfl rfl (c3) rfl rfl rfl rfl) rfl ?_
 refine go ?_
 refine K_yes rfl rfl rfl (opr_index hT rfl rfl rfl rfl rfl (.ps _) (by decide) (by decide)) rfl ?_
 refine go ?_
 refine K_yes rfl rfl rfl (opr_load_el hT rfl rfl (.ps _) (show [AV.agg [.int .u8 2, .str (blockK 2 0)]][0]? = some (AV.agg [.int .u8 2, .str (blockK 2 0)]) from rfl) rfl rfl) rfl ?_
 refine go ?_
 refine K_yes rfl rfl rfl (opr_callP rfl rfl (tnew_spec) rfl rfl rfl rfl) rfl ?_
 refine go ?_
 refine K_yes rfl rfl rfl (opr_callP rfl rfl (c4) rfl rfl rfl rfl) rfl ?_
 refine go ?_
 refine K_yes rfl rfl rfl (opr_callP rfl rfl (c5) rfl rfl rfl rfl) rfl ?_
 refine go ?_
 exact J_done hT rfl rfl rfl
end Go.Proofs.YtdkegmmigongoaaGreatDoor

import Derived.Test.YtdnpkgakpiopgaaGreatDoorGo
import Derived.Test.YtdnpkgakpiopgaaGreatDoorM7
import Derived.Test.YtdnpkgakpiopgaaGreatDoorM9
import Derived.Test.YtdnpkgakpiopgaaGreatDoorM6
namespace Go.Proofs.YtdnpkgakpiopgaaGreatDoor
set_option maxRecDepth 20000
open Go.Awp Tr
def namesL (n : Int) (l : List KV) : List (List UInt8) := (l.filter fun x => decide (keyH 69 n <+: x.1)).map fun x => x.1.drop 5
structure Sp where
 d : Int
 m : List UInt8
 i : Int
 n : Nd
abbrev spT (a : Sp) : TV := .agg [.p (.int .u32 a.d), .p (.str a.m), .p (.int .u32 a.i), .p (.int .u8 a.n.1), .p (.int .u32 a.n.2.1), .p (.int .u32 a.n.2.2.1), .p (.int .u32 a.n.2.2.2)]
abbrev spA (a : Sp) : TV := .p (.agg [.int .u32 a.d, .str a.m, .int .u32 a.i, .int .u8 a.n.1, .int .u32 a.n.2.1, .int .u32 a.n.2.2.1, .int .u32 a.n.2.2.2])
abbrev ndB (g : Nd) : AObj := .box 50 [.p (.int .u8 g.1), .p (.int .u32 g.2.1), .p (.int .u32 g.2.2.1), .p (.int .u32 g.2.2.2)]
abbrev spB (a : Sp) : AObj := .box 233 [.p (.int .u32 a.d), .p (.str a.m), .p (.int .u32 a.i), .p (.int .u8 a.n.1), .p (.int .u32 a.n.2.1), .p (.int .u32 a.n.2.2.1), .p (.int .u32 a.n.2.2.2)]
def sp0 : Sp := ⟨0, [], 0, (0, 0, 0, 0)⟩
def Sp.ok (a : Sp) : Prop := (0 ≤ a.d ∧ a.d ≤ 4294967295) ∧ (0 ≤ a.i ∧ a.i ≤ 4294967295) ∧ Nd.ok a.n
def stepF (s : VS) (a : Sp) (x : List UInt8) : Sp × List (List UInt8) :=
 match s.child a.i x with
 | none => (⟨a.i, x, 0, (0, 0, 0, 0)⟩, [entryK a.i x])
 | some j => (if (s.load j).isSome = true ∧ j ≠ 0 then ⟨a.i, x, j, (s.load j).getD (0, 0, 0, 0)⟩ else ⟨a.i, x, 0, (0, 0, 0, 0)⟩, [entryK a.i x, keyH 73 j])
def goF (s : VS) : List (List UInt8) → Sp → List (List UInt8) → Sp × Int × List (List UInt8)
 | [], a, ks => (a, 0, ks)
 | x :: r, a, ks => if a.i = 0 then (sp0, 10, ks) else if a.n.1 ≠ 2 then (sp0, 12, ks) else goF s r (stepF s a x).1 (ks ++ (stepF s a x).2)
def spR (s : VS) : Sp := ⟨0, [], 1, (s.load 1).getD (0, 0, 0, 0)⟩
def namesP (l : List UInt8) : List (List UInt8) := if (splitN l).2 ≠ 0 ∨ l = [47] then [] else spl 47 (l.drop 1)
def VS.find (s : VS) (l : List UInt8) : Sp × Int × List (List UInt8) := if (splitN l).2 ≠ 0 then (sp0, (splitN l).2, []) else goF s (namesP l) (spR s) [keyH 73 1]
theorem zPe (s : VS) (x : List UInt8) (r : List (List UInt8)) (a : Sp) (ks : List (List UInt8)) : goF s (x :: r) a ks = if a.i = 0 then (sp0, 10, ks) else if a.n.1 ≠ 2 then (sp0, 12, ks) else goF s r (stepF s a x).1 (ks ++ (stepF s a x).2) := rfl
theorem goF_nil (s : VS) (a : Sp) (ks : List (List UInt8)) : goF s [] a ks = (a, 0, ks) := rfl
theorem zV2 (s : VS) (ks : List (List UInt8)) (n : Int) (x : List UInt8) : (s.rds ks).child n x = s.child n x := rfl
theorem zNi {s : VS} {n : Int} : Nd.ok ((s.load n).getD (0, 0, 0, 0)) := by
 cases h : s.load n with
 | none => unfold Nd.ok; decide
 | some g => exact zMy h
theorem spR_ok (s : VS) : Sp.ok (spR s) := ⟨by unfold spR; dsimp only; omega, by unfold spR; dsimp only; omega, zNi⟩
theorem zO6 : Nd.ok (0, 0, 0, 0) := by unfold Nd.ok; decide
theorem zUv : Sp.ok sp0 := by unfold Sp.ok Nd.ok sp0; decide
theorem zQb {s : VS} {a : Sp} (h : Sp.ok a) (x : List UInt8) : Sp.ok (stepF s a x).1 ∧ (stepF s a x).2.length ≤ 2 := by
 unfold stepF
 cases hc : s.child a.i x with
 | none => exact ⟨⟨h.2.1, by dsimp only; omega, zO6⟩, by simp⟩
 | some j =>
  dsimp only
  refine ⟨?_, by simp⟩
  split
  ·exact ⟨h.2.1, zMs hc, zNi⟩
  ·exact ⟨h.2.1, by dsimp only; omega, zO6⟩
theorem goF_ok {s : VS} : ∀ (r : List (List UInt8)) (a : Sp) (ks : List (List UInt8)), Sp.ok a → Sp.ok (goF s r a ks).1 ∧ (goF s r a ks).2.2.length ≤ ks.length + 2 * r.length
 | [], a, ks, h => ⟨h, Nat.le_refl _⟩
 | x :: r, a, ks, h => by
  have h0 := zUv
  unfold goF
  split
  ·exact ⟨h0, by dsimp only; omega⟩
  split
  ·exact ⟨h0, by dsimp only; omega⟩
  have h1 := zQb (s := s) h x
  have h2 := goF_ok (s := s) r (stepF s a x).1 (ks ++ (stepF s a x).2) h1.1
  refine ⟨h2.1, ?_⟩
  have h3 := h2.2
  rw [List.length_append] at h3
  rw [List.length_cons]
  omega
theorem zA8 {l : List UInt8} (h : (splitN l).2 = 0) : ((splitN l).1 = .nils ∧ namesP l = [] ∨ (splitN l).1 = .ps ((namesP l).map .str)) ∧ (namesP l).length ≤ 16 ∧ ∀ x ∈ namesP l, nameB x = true := by
 unfold splitN at h
 have hn : namesP l = if (splitN l).2 ≠ 0 ∨ l = [47] then [] else spl 47 (l.drop 1) := rfl
 by_cases h1 : l = [] ∨ 255 < l.length
 ·rw [if_pos h1] at h; cases h
 rw [if_neg h1] at h
 by_cases h2 : l.headD 0 ≠ 47
 ·rw [if_pos h2] at h; cases h
 rw [if_neg h2] at h
 by_cases h3 : l = [47]
 ·have e : namesP l = [] := by rw [hn, if_pos (.inr h3)]
  have e2 : splitN l = (.nils, 0) := by unfold splitN; rw [if_neg h1, if_neg h2, if_pos h3]
  rw [e, e2]
  exact ⟨.inl ⟨rfl, rfl⟩, by simp, by simp⟩
 ·rw [if_neg h3] at h
  by_cases hm : mayN (spl 47 (l.drop 1)) = true
  ·have e2 : splitN l = (.ps ((spl 47 (l.drop 1)).map .str), 0) := by unfold splitN; rw [if_neg h1, if_neg h2, if_neg h3, if_pos hm]
   have e : namesP l = spl 47 (l.drop 1) := by rw [hn, e2, if_neg (by simp [h3])]
   rw [e, e2]
   unfold mayN at hm
   rw [Bool.and_eq_true, decide_eq_true_eq, Bool.not_eq_true', List.any_eq_false] at hm
   refine ⟨.inr rfl, by omega, fun x hx => ?_⟩
   have := hm.2 x hx
   simpa using this
  ·rw [if_neg hm] at h; cases h
theorem zEr (s : VS) (l : List UInt8) : Sp.ok (s.find l).1 ∧ (s.find l).2.2.length ≤ 33 := by
 unfold VS.find
 split
 ·exact ⟨zUv, by simp⟩
 ·rename_i h
  have h2 := zA8 (l := l) (by simpa using h)
  have h1 := goF_ok (s := s) (namesP l) (spR s) [keyH 73 1] (spR_ok s)
  refine ⟨h1.1, Nat.le_trans h1.2 ?_⟩
  have := h2.2.1
  simp only [List.length_cons, List.length_nil]
  omega
theorem beh_lt (n : Int) : Op.bytesLess (keyH 69 n) (beh (keyH 69 n)) = true := ((zGq (zEv 69 n (by decide)) (keyH 69 n)).2 (List.prefix_refl _)).2
theorem zQ7 {s : VS} {m : Nat} (h : VJ s m) (n : Int) : s.rangeR (keyH 69 n) (beh (keyH 69 n)) = s.shown.row.filter fun x => decide (keyH 69 n <+: x.1) := by
 unfold VS.rangeR
 rw [if_pos (beh_lt n), zCf _ _ _ h.rs]
 unfold lrange
 congr 1
 funext x
 exact inR_beh (zEv 69 n (by decide)) x.1
def nmV (l : List KV) : List AV := l.map fun x => .str (x.1.drop 5)
theorem nm_cl (l : List KV) : clR (nmV l) := by
 intro r hr x hx
 obtain ⟨y, _, rfl⟩ := List.mem_map.1 hr
 simp [cellsOf] at hx
 subst hx; rfl
theorem nm_size (l : List KV) : ∀ r ∈ nmV l, (cellsOf r).length = 1 := by
 intro r hr
 obtain ⟨y, _, rfl⟩ := List.mem_map.1 hr
 rfl
theorem nm_take {l : List KV} {i : Nat} {x : KV} (hx : l[i]? = some x) : nmV (l.take i) ++ [.str (x.1.drop 5)] = nmV (l.take (i + 1)) := zTq (fun y : KV => AV.str (y.1.drop 5)) hx
def VS.rngE (s : VS) (n : Int) : VS := s.range (keyH 69 n) (beh (keyH 69 n))
set_option maxHeartbeats 8000000 in
theorem zE7 {s : VS} {m : Nat} (h : VJ s m) (hm : m ≤ 1000000) (n : Int) (hn : 0 ≤ n ∧ n ≤ 4294967295) : Con Tryz.prog 63 [vP, .p (.int .u32 n)] (vH s) (.p (.ps ((namesL n s.shown.row).map .str))) (vH (s.rngE n)) [] := by
 have c1 := zL1 n hn
 have c2 := (zDk s (keyH 69 n) (beh (keyH 69 n)) (by have := h.zs; unfold big40; omega) (by have := h.zg; unfold big40; omega)).toPs (.inl rfl)
 rw [zQ7 h n] at c2
 change Con Tryz.prog _ _ _ _ (vH (s.rngE n)) _ at c2
 have hmem : ∀ x ∈ s.shown.row.filter (fun x => decide (keyH 69 n <+: x.1)), 5 ≤ x.1.length := fun x hx => by
  rw [List.mem_filter, decide_eq_true_eq] at hx
  have := hx.2.length_le
  rwa [qC] at this
 have hlen : ∀ x ∈ s.shown.row.filter (fun x => decide (keyH 69 n <+: x.1)), x.1.length ≤ 100000 := fun x hx => (h.val x (List.mem_filter.1 hx).1).1
 have hcount : (s.shown.row.filter (fun x => decide (keyH 69 n <+: x.1))).length ≤ 1000000 := by
  have := List.length_filter_le (fun x : KV => decide (keyH 69 n <+: x.1)) s.shown.row
  have h2 := yN s.shown
  have := h.zs
  omega
 have er : (namesL n s.shown.row).map AV.str = nmV (s.shown.row.filter fun x => decide (keyH 69 n <+: x.1)) := by unfold namesL nmV; rw [List.map_map]; rfl
 rw [er]
 generalize s.shown.row.filter (fun x => decide (keyH 69 n <+: x.1)) = R at c2 hmem hlen hcount
 generalize s.rngE n = s' at c2
 have hlk : (kvs R).length = R.length := by simp
 have hk5 := qC 69 n
 generalize keyH 69 n = kk at c1 c2 hk5
 refine Con.freeze (n := R.length) (b := true) (rows := nmV R) (Ty := 9) (e := 1) ?_ (by simp [nmV])
 refine zD Tryz.func63 rfl (by kernel_rfl) rfl fun F w0 β0 => ?_
 refine zE rfl ?_
 refine go ?_
 refine zH rfl rfl (zB rfl rfl (c1) rfl rfl rfl rfl) rfl ?_
 refine go ?_
 refine zNe 7 9 (e := 1) rfl rfl (.inl rfl) ?_
 refine zH rfl rfl (zA [.o 0, .o 1] rfl rfl (c2) rfl rfl rfl ⟨⟨rfl, rfl⟩, ⟨rfl, rfl⟩, trivial⟩ rfl rfl rfl rfl) rfl ?_
 refine go ?_
 refine z9 (fun q : Ix R.length => [(5, .p (.str kk)), (7, .sl (.l 0) q.i 0 q.i), (18, .p (.ps (kvs R))), (19, .p (.int .i64 (R.length : Int))), (20, .p (.int .i64 (q.i : Int)))]) (fun _ => vH s') (fun q => [.arr 9 true 1 (nmV (R.take q.i))]) (fun q => R.length - q.i) ⟨0, by omega⟩ ⟨rfl, rfl, rfl, (by rw [← hlk]; rfl), rfl, trivial⟩ rfl rfl (fun q => ?_)
 have hi := q.h
 have hlt : (nmV (R.take q.i)).length = q.i := by simp [nmV]; omega
 refine go ?_
 by_cases h : q.i < R.length
 ·have hx : R[q.i]? = some R[q.i] := List.getElem?_eq_getElem h
  have h5 := hmem _ (List.getElem_mem h)
  have h9 := hlen _ (List.getElem_mem h)
  generalize R[q.i] = x at hx h5 h9
  have hxk : (kvs R)[((q.i : Nat) : Int).toNat]? = some (kvV x) := zM0 hx
  refine zG rfl (decide_eq_true (by omega)) ?_
  refine go ?_
  refine zH rfl rfl (zJ hT rfl rfl rfl rfl rfl (.ps _) (by omega) (by rw [hlk]; omega)) rfl ?_
  refine go ?_
  refine zH rfl rfl (zI hT rfl rfl (.ps _) hxk rfl rfl) rfl ?_
  refine go ?_
  rw [hk5]
  have hcut : ((x.1.drop (((5 : Nat) : Int)).toNat).take ((x.1.length : Int).toNat - (((5 : Nat) : Int)).toNat)) = x.1.drop 5 := List.take_of_length_le (by simp)
  refine zH rfl rfl (zBi hT rfl rfl rfl rfl rfl (by omega) (by omega) (by omega)) rfl ?_
  rw [hcut]
  refine go ?_
  refine zH rfl rfl (yW hT rfl rfl rfl rfl hlt rfl rfl (.rd (.ps _)) jQ (nm_cl [x]) (nm_size [x]) (by decide) (by show (q.i + 1) * 16 ≤ _; omega)) rfl ?_
  refine go ?_
  refine zY 1 [(5, .p (.str kk)), (7, .sl (.l 0) (q.i + 1) 0 (q.i + 1)), (18, .p (.ps (kvs R))), (19, .p (.int .i64 (R.length : Int))), (20, .p (.int .i64 (IntKind.i64.wrap ((q.i : Int) + 1))))] ⟨rfl, rfl, rfl, rfl, rfl, trivial⟩ rfl rfl ?_
  refine zR ⟨q.i + 1, by omega⟩ (by show R.length - (q.i + 1) < R.length - q.i; omega) ⟨rfl, rfl, rfl, rfl, congrArg (fun z => TV.p (.int .i64 z)) (by rw [IntWalk.i64_in _ (by omega)]; rfl), trivial⟩ rfl (by show [AObj.arr _ _ _ _] = [AObj.arr _ _ _ _]; rw [← nm_take hx]; rfl)
 have e : q.i = R.length := by omega
 rw [e, List.take_length]
 refine zF rfl (decide_eq_false (by omega)) ?_
 refine go ?_
 exact zBr hT rfl rfl
structure FI17 (s : VS) (N : List (List UInt8)) where
 i : Nat
 a : Sp
 ks : List (List UInt8)
 h : i ≤ N.length
 e : goF s (N.drop i) a ks = goF s N (spR s) [keyH 73 1]
 ok : Sp.ok a
 hk : ks.length ≤ 1 + 2 * i
set_option maxHeartbeats 16000000 in
theorem zAy {s : VS} {m : Nat} (h : VJ s m) (hm : m ≤ 900000) (p : List UInt8) : Con Tryz.prog 159 [vP, .p (.str p)] (vH s) (.tup [spT (s.find p).1, .p (.int .i64 (s.find p).2.1)]) (vH (s.rds (s.find p).2.2)) [] := by
 have c1 := zDe p
 have hsp := zA8 (l := p)
 unfold VS.find
 generalize (splitN p).2 = e at c1 hsp
 generalize (splitN p).1 = av at c1 hsp
 by_cases he : e ≠ 0
 ·rw [if_pos he]
  refine zD Tryz.func159 rfl (by kernel_rfl) rfl fun F w0 β0 => ?_
  refine zE rfl ?_
  refine go ?_
  refine zH rfl rfl (zB rfl rfl (c1) rfl rfl rfl rfl) rfl ?_
  refine go ?_
  refine zG rfl (by simp [he]) ?_
  refine go ?_
  exact zC hT rfl rfl rfl
 rw [if_neg he]
 obtain rfl : e = 0 := by simpa using he
 obtain ⟨hav, hn16, _⟩ := hsp rfl
 have hle : AVLe av (.ps ((namesP p).map .str)) := by
  rcases hav with ⟨rfl, h2⟩ | rfl
  ·rw [h2]; exact zFy
  ·exact AVLe.refl _
 generalize namesP p = N at hle hn16
 have hlN : (N.map AV.str).length = N.length := by simp
 have c2 := jB h (by omega) 1 (by decide)
 rw [qH] at c2
 refine zD Tryz.func159 rfl (by kernel_rfl) rfl fun F w0 β0 => ?_
 refine zE rfl ?_
 refine go ?_
 refine zH rfl rfl (zB rfl rfl (c1) rfl rfl rfl rfl) rfl ?_
 refine go ?_
 refine zH rfl rfl (zA [.o 0, .o 1] rfl rfl (c2) rfl rfl rfl ⟨⟨rfl, rfl⟩, ⟨rfl, rfl⟩, trivial⟩ rfl rfl rfl rfl) rfl ?_
 refine go ?_
 refine J_le 33 _ rfl hle ?_
 refine go ?_
 refine z9 (fun q : FI17 s N => [(0, vP), (4, .ad (.l 0) 0), (10, .ad (.l 2) 0), (33, .p (.ps (N.map .str))), (34, .p (.int .i64 (N.length : Int))), (35, .p (.int .i64 (q.i : Int)))]) (fun q => vH (s.rds q.ks)) (fun q => [.box 233 [.p (.int .u32 0), .p (.str []), .p (.int .u32 0), .p (.int .u8 0), .p (.int .u32 0), .p (.int .u32 0), .p (.int .u32 0)], .box 50 [.p (.int .u8 ((s.load 1).getD (0, 0, 0, 0)).1), .p (.int .u32 ((s.load 1).getD (0, 0, 0, 0)).2.1), .p (.int .u32 ((s.load 1).getD (0, 0, 0, 0)).2.2.1), .p (.int .u32 ((s.load 1).getD (0, 0, 0, 0)).2.2.2)], .box 233 [.p (.int .u32 q.a.d), .p (.str q.a.m), .p (.int .u32 q.a.i), .p (.int .u8 q.a.n.1), .p (.int .u32 q.a.n.2.1), .p (.int .u32 q.a.n.2.2.1), .p (.int .u32 q.a.n.2.2.2)]]) (fun q => N.length - q.i) ⟨0, spR s, [keyH 73 1], by omega, rfl, spR_ok s, by simp⟩ ⟨rfl, rfl, rfl, rfl, (by rw [← hlN]; rfl), rfl, trivial⟩ rfl rfl (fun q => ?_)
 have hi := q.h
 have hqe := q.e
 have hok := q.ok
 have hks := q.hk
 refine go ?_
 by_cases hlt : q.i < N.length
 ·have hx : N[q.i]? = some N[q.i] := List.getElem?_eq_getElem hlt
  have hdr : N.drop q.i = N[q.i] :: N.drop (q.i + 1) := List.drop_eq_getElem_cons hlt
  rw [hdr] at hqe
  generalize N[q.i] = x at hx hqe
  have hxk : (N.map AV.str)[((q.i : Nat) : Int).toNat]? = some (.str x) := by rw [Int.toNat_natCast, List.getElem?_map, hx]; rfl
  refine zG rfl (decide_eq_true (by omega)) ?_
  refine go ?_
  refine zH rfl rfl (zJ hT rfl rfl rfl rfl rfl (.ps _) (by omega) (by rw [hlN]; omega)) rfl ?_
  refine go ?_
  refine zH rfl rfl (zI hT rfl rfl (.ps _) hxk rfl rfl) rfl ?_
  refine go ?_
  rw [zPe] at hqe
  by_cases h0 : q.a.i = 0
  ·rw [if_pos h0] at hqe
   refine zG rfl (by simp [h0]) ?_
   refine go ?_
   rw [← hqe]
   exact zC hT rfl rfl rfl
  rw [if_neg h0] at hqe
  refine zF rfl (by simp [h0]) ?_
  refine go ?_
  by_cases h2 : q.a.n.1 ≠ 2
  ·rw [if_pos h2] at hqe
   refine zG rfl (by simp [h2]) ?_
   refine go ?_
   rw [← hqe]
   exact zC hT rfl rfl rfl
  rw [if_neg h2] at hqe
  refine zF rfl (by simpa using h2) ?_
  have hv := h.rds q.ks
  have c3 := zG9 hv (by omega) q.a.i hok.2.1 x
  rw [zV2] at c3
  have hst := zQb (s := s) hok x
  unfold stepF at hqe hst
  cases hc : s.child q.a.i x with
  | none =>
   rw [hc] at c3 hqe hst
   dsimp only at hqe hst
   refine go ?_
   refine zH rfl rfl (zA [.o 0, .o 1] rfl rfl (c3) rfl rfl rfl ⟨⟨rfl, rfl⟩, ⟨rfl, rfl⟩, trivial⟩ rfl rfl rfl rfl) rfl ?_
   refine go ?_
   refine zY 3 [(0, vP), (4, .ad (.l 0) 0), (10, .ad (.l 2) 0), (33, .p (.ps (N.map .str))), (34, .p (.int .i64 (N.length : Int))), (35, .p (.int .i64 (IntKind.i64.wrap ((q.i : Int) + 1))))] ⟨rfl, rfl, rfl, rfl, rfl, rfl, trivial⟩ rfl rfl ?_
   refine zR ⟨q.i + 1, ⟨q.a.i, x, 0, (0, 0, 0, 0)⟩, q.ks ++ [entryK q.a.i x], by omega, hqe, hst.1, by rw [List.length_append]; simp only [List.length_cons, List.length_nil]; omega⟩ (by show N.length - (q.i + 1) < N.length - q.i; omega) ⟨rfl, rfl, rfl, rfl, rfl, congrArg (fun z => TV.p (.int .i64 z)) (by rw [IntWalk.i64_in _ (by omega)]; rfl), trivial⟩ (congrArg vH (zIr s q.ks [entryK q.a.i x])) rfl
  | some j =>
   have hj := zMs hc
   rw [hc] at c3 hqe hst
   dsimp only at hqe hst
   have c4 := jB (hv.rd (entryK q.a.i x)) (by omega) j hj
   rw [qH] at c4
   change Con Tryz.prog _ _ _ (.tup [ndT ((s.load j).getD (0, 0, 0, 0)), .p (.bool (s.load j).isSome)]) _ _ at c4
   refine go ?_
   refine zH rfl rfl (zA [.o 0, .o 1] rfl rfl (c3) rfl rfl rfl ⟨⟨rfl, rfl⟩, ⟨rfl, rfl⟩, trivial⟩ rfl rfl rfl rfl) rfl ?_
   refine go ?_
   refine zH rfl rfl (zA [.o 0, .o 1] rfl rfl (c4) rfl rfl rfl ⟨⟨rfl, rfl⟩, ⟨rfl, rfl⟩, trivial⟩ rfl rfl rfl rfl) rfl ?_
   refine go ?_
   cases hl : (s.load j).isSome with
   | false =>
    rw [hl, if_neg (by simp)] at hqe hst
    refine go ?_
    refine zY 3 [(0, vP), (4, .ad (.l 0) 0), (10, .ad (.l 2) 0), (33, .p (.ps (N.map .str))), (34, .p (.int .i64 (N.length : Int))), (35, .p (.int .i64 (IntKind.i64.wrap ((q.i : Int) + 1))))] ⟨rfl, rfl, rfl, rfl, rfl, rfl, trivial⟩ rfl rfl ?_
    refine zR ⟨q.i + 1, ⟨q.a.i, x, 0, (0, 0, 0, 0)⟩, q.ks ++ [entryK q.a.i x, keyH 73 j], by omega, hqe, hst.1, by rw [List.length_append]; simp only [List.length_cons, List.length_nil]; omega⟩ (by show N.length - (q.i + 1) < N.length - q.i; omega) ⟨rfl, rfl, rfl, rfl, rfl, congrArg (fun z => TV.p (.int .i64 z)) (by rw [IntWalk.i64_in _ (by omega)]; rfl), trivial⟩ (congrArg vH (zIr s q.ks [entryK q.a.i x, keyH 73 j])) rfl
   | true =>
    by_cases hj0 : j = 0
    ·rw [if_neg (by simp [hj0])] at hqe hst
     refine go ?_
     refine zF rfl (by simp [hj0]) ?_
     refine go ?_
     refine zY 3 [(0, vP), (4, .ad (.l 0) 0), (10, .ad (.l 2) 0), (33, .p (.ps (N.map .str))), (34, .p (.int .i64 (N.length : Int))), (35, .p (.int .i64 (IntKind.i64.wrap ((q.i : Int) + 1))))] ⟨rfl, rfl, rfl, rfl, rfl, rfl, trivial⟩ rfl rfl ?_
     refine zR ⟨q.i + 1, ⟨q.a.i, x, 0, (0, 0, 0, 0)⟩, q.ks ++ [entryK q.a.i x, keyH 73 j], by omega, hqe, hst.1, by rw [List.length_append]; simp only [List.length_cons, List.length_nil]; omega⟩ (by show N.length - (q.i + 1) < N.length - q.i; omega) ⟨rfl, rfl, rfl, rfl, rfl, congrArg (fun z => TV.p (.int .i64 z)) (by rw [IntWalk.i64_in _ (by omega)]; rfl), trivial⟩ (congrArg vH (zIr s q.ks [entryK q.a.i x, keyH 73 j])) rfl
    ·rw [hl, if_pos (by simp [hj0])] at hqe hst
     refine go ?_
     refine zG rfl (by simp [hj0]) ?_
     refine go ?_
     refine yE [[spB ⟨0, [], 0, (0, 0, 0, 0)⟩, ndB ((s.load 1).getD (0, 0, 0, 0)), spB ⟨q.a.i, x, 0, (0, 0, 0, 0)⟩, ndB ((s.load j).getD (0, 0, 0, 0))], [spB ⟨0, [], 0, (0, 0, 0, 0)⟩, ndB ((s.load 1).getD (0, 0, 0, 0)), spB ⟨q.a.i, x, j, (0, 0, 0, 0)⟩, ndB ((s.load j).getD (0, 0, 0, 0))], [spB ⟨0, [], 0, (0, 0, 0, 0)⟩, ndB ((s.load 1).getD (0, 0, 0, 0)), spB ⟨q.a.i, x, j, (s.load j).getD (0, 0, 0, 0)⟩, ndB ((s.load j).getD (0, 0, 0, 0))]] [3, 5] (by kernel_rfl) (by kernel_rfl) rfl ?_
     refine gdW ?_
     refine go ?_
     refine zY 3 [(0, vP), (4, .ad (.l 0) 0), (10, .ad (.l 2) 0), (33, .p (.ps (N.map .str))), (34, .p (.int .i64 (N.length : Int))), (35, .p (.int .i64 (IntKind.i64.wrap ((q.i : Int) + 1))))] ⟨rfl, rfl, rfl, rfl, rfl, rfl, trivial⟩ rfl rfl ?_
     refine zR ⟨q.i + 1, ⟨q.a.i, x, j, (s.load j).getD (0, 0, 0, 0)⟩, q.ks ++ [entryK q.a.i x, keyH 73 j], by omega, hqe, hst.1, by rw [List.length_append]; simp only [List.length_cons, List.length_nil]; omega⟩ (by show N.length - (q.i + 1) < N.length - q.i; omega) ⟨rfl, rfl, rfl, rfl, rfl, congrArg (fun z => TV.p (.int .i64 z)) (by rw [IntWalk.i64_in _ (by omega)]; rfl), trivial⟩ (congrArg vH (zIr s q.ks [entryK q.a.i x, keyH 73 j])) rfl
 ·have e : q.i = N.length := by omega
  rw [e, List.drop_length] at hqe
  rw [goF_nil] at hqe
  rw [← hqe]
  refine zF rfl (decide_eq_false (by omega)) ?_
  refine go ?_
  exact zC hT rfl rfl rfl
abbrev U32 (n : Int) : Prop := 0 ≤ n ∧ n ≤ 4294967295
theorem zEi (k n : Int) (r : List UInt8) : (keyH k n ++ r).drop 5 = r := by
 have : (keyH k n).length = 5 := qC k n
 rw [List.drop_append_of_le_length (by omega), List.drop_of_length_le (by omega), List.nil_append]
theorem zBm {k : List UInt8} {l : List KV} {y : KV} : y ∈ lcut k l ↔ y ∈ l ∧ y.1 ≠ k := by
 unfold lcut
 rw [List.mem_filter]
 simp
theorem zD2 (p : KV → Bool) {k v : List UInt8} : ∀ {l : List KV}, Rises l → (lset k v l).countP p + (match lget k l with | some u => if p (k, u) = true then 1 else 0 | none => 0) = l.countP p + (if p (k, v) = true then 1 else 0)
 | [], _ => by simp [lset, lget]
 | x :: r, h => by
  have hp := List.pairwise_cons.1 h
  have ih := zD2 p (k := k) (v := v) hp.2
  obtain ⟨xa, xb⟩ := x
  dsimp only at hp
  rcases zBq k xa with hl | rfl | hl
  ·have h1 := zF6 k v (xa, xb) r hl [] (by simp)
   simp only [List.nil_append] at h1
   have h2 : lget k ((xa, xb) :: r) = none := qX fun y hy e => by
    rcases List.mem_cons.1 hy with rfl | hy
    ·exact jW hl e.symm
    ·exact jW (qK hl (hp.1 y hy)) e.symm
   rw [h1, h2]
   simp [lset, List.countP_cons]
  ·have h1 := zMi k v (k, xb) r rfl [] (by simp)
   simp only [List.nil_append] at h1
   rw [h1]
   simp only [lget, if_true, List.countP_cons]
   omega
  ·have h1 := zC0 k v (xa, xb) r hl [] (by simp)
   simp only [List.nil_append] at h1
   have h2 : lget k ((xa, xb) :: r) = lget k r := by
    simp only [lget]
    rw [if_neg (jW hl)]
   rw [h1, h2]
   simp only [List.countP_cons]
   omega
theorem zDl (p : KV → Bool) {k : List UInt8} : ∀ {l : List KV}, Rises l → (lcut k l).countP p + (match lget k l with | some u => if p (k, u) = true then 1 else 0 | none => 0) = l.countP p
 | [], _ => by simp [lcut, lget]
 | x :: r, h => by
  have hp := List.pairwise_cons.1 h
  have ih := zDl p (k := k) hp.2
  by_cases e : x.1 = k
  ·have h2 : lcut k r = r := jN fun y hy e2 => jW (hp.1 y hy) (e.trans e2.symm)
   have h1 : lcut k (x :: r) = r := by
    have : lcut k (x :: r) = lcut k r := by unfold lcut; rw [List.filter_cons_of_neg (by simp [e])]
    rw [this, h2]
   rw [h1]
   simp only [lget, e, if_true, List.countP_cons]
   obtain ⟨a, b⟩ := x
   dsimp only at e ⊢
   subst e
   rfl
  ·have h1 : lcut k (x :: r) = x :: lcut k r := by unfold lcut; rw [List.filter_cons_of_pos (by simp [e])]
   have h2 : lget k (x :: r) = lget k r := by simp only [lget]; rw [if_neg e]
   rw [h1, h2]
   simp only [List.countP_cons]
   omega
end Go.Proofs.YtdnpkgakpiopgaaGreatDoor

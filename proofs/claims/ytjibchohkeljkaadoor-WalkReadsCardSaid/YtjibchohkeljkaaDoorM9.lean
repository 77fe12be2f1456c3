/- Contracts and plain laws, several texts joined: F17b, Row, F17c. -/
import Derived.Test.YtjibchohkeljkaaDoorGo
import Derived.Test.YtjibchohkeljkaaDoorM8
import Derived.Test.YtjibchohkeljkaaDoorM6
import Derived.Test.YtjibchohkeljkaaDoorM5
import Derived.Test.YtjibchohkeljkaaDoorM7
import Derived.Test.YtjibchohkeljkaaDoorM4
import Derived.Test.YtjibchohkeljkaaDoorM2
/- walk: List, Find, Lead. -/
-- @D
namespace Go.Proofs.YtjibchohkeljkaaDoor
set_option maxRecDepth 20000
open Go.Awp Tr
/-- The names of a directory's entries. -/
def namesL (n : Int) (l : List KV) : List (List UInt8) := (l.filter fun x => decide (keyH 69 n <+: x.1)).map fun x => x.1.drop 5
/-- A spot: the directory, the name, the inode's number and the inode. -/
structure Sp where
  d : Int
  m : List UInt8
  i : Int
  n : Nd
abbrev spT (a : Sp) : TV := .agg [.p (.int .u32 a.d), .p (.str a.m), .p (.int .u32 a.i), .p (.int .u8 a.n.1), .p (.int .u32 a.n.2.1), .p (.int .u32 a.n.2.2.1), .p (.int .u32 a.n.2.2.2)]
abbrev spA (a : Sp) : TV := .p (.agg [.int .u32 a.d, .str a.m, .int .u32 a.i, .int .u8 a.n.1, .int .u32 a.n.2.1, .int .u32 a.n.2.2.1, .int .u32 a.n.2.2.2])
abbrev ndB (g : Nd) : AObj := .box 45 [.p (.int .u8 g.1), .p (.int .u32 g.2.1), .p (.int .u32 g.2.2.1), .p (.int .u32 g.2.2.2)]
abbrev spB (a : Sp) : AObj := .box 50 [.p (.int .u32 a.d), .p (.str a.m), .p (.int .u32 a.i), .p (.int .u8 a.n.1), .p (.int .u32 a.n.2.1), .p (.int .u32 a.n.2.2.1), .p (.int .u32 a.n.2.2.2)]
def sp0 : Sp := ⟨0, [], 0, (0, 0, 0, 0)⟩
def Sp.ok (a : Sp) : Prop := (0 ≤ a.d ∧ a.d ≤ 4294967295) ∧ (0 ≤ a.i ∧ a.i ≤ 4294967295) ∧ Nd.ok a.n
/-- One name further: the spot, what is read. -/
def stepF (s : VS) (a : Sp) (x : List UInt8) : Sp × List (List UInt8) :=
  match s.child a.i x with
  | none => (⟨a.i, x, 0, (0, 0, 0, 0)⟩, [entryK a.i x])
  | some j => (if (s.load j).isSome = true ∧ j ≠ 0 then ⟨a.i, x, j, (s.load j).getD (0, 0, 0, 0)⟩ else ⟨a.i, x, 0, (0, 0, 0, 0)⟩, [entryK a.i x, keyH 73 j])
/-- What names lead to: the spot, the error, what is read. -/
def goF (s : VS) : List (List UInt8) → Sp → List (List UInt8) → Sp × Int × List (List UInt8)
  | [], a, ks => (a, 0, ks)
  | x :: r, a, ks => if a.i = 0 then (sp0, 10, ks) else if a.n.1 ≠ 2 then (sp0, 12, ks) else goF s r (stepF s a x).1 (ks ++ (stepF s a x).2)
def spR (s : VS) : Sp := ⟨0, [], 1, (s.load 1).getD (0, 0, 0, 0)⟩
/-- A path's names. -/
def namesP (l : List UInt8) : List (List UInt8) := if (splitN l).2 ≠ 0 ∨ l = [47] then [] else spl 47 (l.drop 1)
def VS.find (s : VS) (l : List UInt8) : Sp × Int × List (List UInt8) := if (splitN l).2 ≠ 0 then (sp0, (splitN l).2, []) else goF s (namesP l) (spR s) [keyH 73 1]
theorem goF_cons (s : VS) (x : List UInt8) (r : List (List UInt8)) (a : Sp) (ks : List (List UInt8)) : goF s (x :: r) a ks = if a.i = 0 then (sp0, 10, ks) else if a.n.1 ≠ 2 then (sp0, 12, ks) else goF s r (stepF s a x).1 (ks ++ (stepF s a x).2) := rfl
theorem goF_nil (s : VS) (a : Sp) (ks : List (List UInt8)) : goF s [] a ks = (a, 0, ks) := rfl
theorem child_rds (s : VS) (ks : List (List UInt8)) (n : Int) (x : List UInt8) : (s.rds ks).child n x = s.child n x := rfl
theorem load_rds (s : VS) (ks : List (List UInt8)) (n : Int) : (s.rds ks).load n = s.load n := rfl
theorem load_ok {s : VS} {n : Int} : Nd.ok ((s.load n).getD (0, 0, 0, 0)) := by
  cases h : s.load n with
  | none => unfold Nd.ok; decide
  | some g => exact ndOf_ok h
theorem spR_ok (s : VS) : Sp.ok (spR s) := ⟨by unfold spR; dsimp only; omega, by unfold spR; dsimp only; omega, load_ok⟩
theorem nd0_ok : Nd.ok (0, 0, 0, 0) := by unfold Nd.ok; decide
theorem sp0_ok : Sp.ok sp0 := by unfold Sp.ok Nd.ok sp0; decide
theorem stepF_ok {s : VS} {a : Sp} (h : Sp.ok a) (x : List UInt8) : Sp.ok (stepF s a x).1 ∧ (stepF s a x).2.length ≤ 2 := by
  unfold stepF
  cases hc : s.child a.i x with
  | none => exact ⟨⟨h.2.1, by dsimp only; omega, nd0_ok⟩, by simp⟩
  | some j =>
    dsimp only
    refine ⟨?_, by simp⟩
    split
    · exact ⟨h.2.1, chOf_ok hc, load_ok⟩
    · exact ⟨h.2.1, by dsimp only; omega, nd0_ok⟩
theorem goF_ok {s : VS} : ∀ (r : List (List UInt8)) (a : Sp) (ks : List (List UInt8)), Sp.ok a → Sp.ok (goF s r a ks).1 ∧ (goF s r a ks).2.2.length ≤ ks.length + 2 * r.length
  | [], a, ks, h => ⟨h, Nat.le_refl _⟩
  | x :: r, a, ks, h => by
    have h0 := sp0_ok
    unfold goF
    split
    · exact ⟨h0, by dsimp only; omega⟩
    split
    · exact ⟨h0, by dsimp only; omega⟩
    have h1 := stepF_ok (s := s) h x
    have h2 := goF_ok (s := s) r (stepF s a x).1 (ks ++ (stepF s a x).2) h1.1
    refine ⟨h2.1, ?_⟩
    have h3 := h2.2
    rw [List.length_append] at h3
    rw [List.length_cons]
    omega
/-- A path's names, as many as may be. -/
theorem splitN_eq {l : List UInt8} (h : (splitN l).2 = 0) : ((splitN l).1 = .nils ∧ namesP l = [] ∨ (splitN l).1 = .ps ((namesP l).map .str)) ∧ (namesP l).length ≤ 16 ∧ ∀ x ∈ namesP l, nameB x = true := by
  unfold splitN at h
  have hn : namesP l = if (splitN l).2 ≠ 0 ∨ l = [47] then [] else spl 47 (l.drop 1) := rfl
  by_cases h1 : l = [] ∨ 255 < l.length
  · rw [if_pos h1] at h; cases h
  rw [if_neg h1] at h
  by_cases h2 : l.headD 0 ≠ 47
  · rw [if_pos h2] at h; cases h
  rw [if_neg h2] at h
  by_cases h3 : l = [47]
  · have e : namesP l = [] := by rw [hn, if_pos (.inr h3)]
    have e2 : splitN l = (.nils, 0) := by unfold splitN; rw [if_neg h1, if_neg h2, if_pos h3]
    rw [e, e2]
    exact ⟨.inl ⟨rfl, rfl⟩, by simp, by simp⟩
  · rw [if_neg h3] at h
    by_cases hm : mayN (spl 47 (l.drop 1)) = true
    · have e2 : splitN l = (.ps ((spl 47 (l.drop 1)).map .str), 0) := by unfold splitN; rw [if_neg h1, if_neg h2, if_neg h3, if_pos hm]
      have e : namesP l = spl 47 (l.drop 1) := by rw [hn, e2, if_neg (by simp [h3])]
      rw [e, e2]
      unfold mayN at hm
      rw [Bool.and_eq_true, decide_eq_true_eq, Bool.not_eq_true', List.any_eq_false] at hm
      refine ⟨.inr rfl, by omega, fun x hx => ?_⟩
      have := hm.2 x hx
      simpa using this
    · rw [if_neg hm] at h; cases h
theorem find_ok (s : VS) (l : List UInt8) : Sp.ok (s.find l).1 ∧ (s.find l).2.2.length ≤ 33 := by
  unfold VS.find
  split
  · exact ⟨sp0_ok, by simp⟩
  · rename_i h
    have h2 := splitN_eq (l := l) (by simpa using h)
    have h1 := goF_ok (s := s) (namesP l) (spR s) [keyH 73 1] (spR_ok s)
    refine ⟨h1.1, Nat.le_trans h1.2 ?_⟩
    have := h2.2.1
    simp only [List.length_cons, List.length_nil]
    omega
theorem beh_lt (n : Int) : Op.bytesLess (keyH 69 n) (beh (keyH 69 n)) = true := ((beh_iff (beh_key 69 n (by decide)) (keyH 69 n)).2 (List.prefix_refl _)).2
theorem range_ents {s : VS} {m : Nat} (h : VJ s m) (n : Int) : s.rangeR (keyH 69 n) (beh (keyH 69 n)) = s.shown.row.filter fun x => decide (keyH 69 n <+: x.1) := by
  unfold VS.rangeR
  rw [if_pos (beh_lt n), range_row _ _ _ h.rs]
  unfold lrange
  congr 1
  funext x
  exact inR_beh (beh_key 69 n (by decide)) x.1
def nmV (l : List KV) : List AV := l.map fun x => .str (x.1.drop 5)
theorem nm_cl (l : List KV) : clR (nmV l) := by
  intro r hr x hx
  obtain ⟨y, _, rfl⟩ := List.mem_map.1 hr
  simp [cellsOf] at hx
  subst hx; rfl
theorem nm_size (l : List KV) : ∀ r ∈ nmV l, (cellsOf r).length = 1 := by
  intro r hr
  obtain ⟨y, _, rfl⟩ := List.mem_map.1 hr
  rfl
theorem nm_take {l : List KV} {i : Nat} {x : KV} (hx : l[i]? = some x) : nmV (l.take i) ++ [.str (x.1.drop 5)] = nmV (l.take (i + 1)) := map_take1 (fun y : KV => AV.str (y.1.drop 5)) hx
def VS.rngE (s : VS) (n : Int) : VS := s.range (keyH 69 n) (beh (keyH 69 n))
set_option maxHeartbeats 8000000 in
theorem wlist_spec {s : VS} {m : Nat} (h : VJ s m) (hm : m ≤ 1000000) (n : Int) (hn : 0 ≤ n ∧ n ≤ 4294967295) : Con Tryd.prog 27 [vP, .p (.int .u32 n)] (vH s) (.p (.ps ((namesL n s.shown.row).map .str))) (vH (s.rngE n)) [] := by
  have c1 := entries_spec n hn
  have c2 := (vrange_spec s (keyH 69 n) (beh (keyH 69 n)) (by have := h.zs; unfold big40; omega) (by have := h.zg; unfold big40; omega)).toPs (.inl rfl)
  rw [range_ents h n] at c2
  change Con Tryd.prog _ _ _ _ (vH (s.rngE n)) _ at c2
  have hmem : ∀ x ∈ s.shown.row.filter (fun x => decide (keyH 69 n <+: x.1)), 5 ≤ x.1.length := fun x hx => by
    rw [List.mem_filter, decide_eq_true_eq] at hx
    have := hx.2.length_le
    rwa [keyH_len] at this
  have hlen : ∀ x ∈ s.shown.row.filter (fun x => decide (keyH 69 n <+: x.1)), x.1.length ≤ 100000 := fun x hx => (h.val x (List.mem_filter.1 hx).1).1
  have hcount : (s.shown.row.filter (fun x => decide (keyH 69 n <+: x.1))).length ≤ 1000000 := by
    have := List.length_filter_le (fun x : KV => decide (keyH 69 n <+: x.1)) s.shown.row
    have h2 := row_len s.shown
    have := h.zs
    omega
  have er : (namesL n s.shown.row).map AV.str = nmV (s.shown.row.filter fun x => decide (keyH 69 n <+: x.1)) := by unfold namesL nmV; rw [List.map_map]; rfl
  rw [er]
  generalize s.shown.row.filter (fun x => decide (keyH 69 n <+: x.1)) = R at c2 hmem hlen hcount
  generalize s.rngE n = s' at c2
  have hlk : (kvs R).length = R.length := by simp
  have hk5 := keyH_len 69 n
  generalize keyH 69 n = kk at c1 c2 hk5
  refine Con.freeze (n := R.length) (b := true) (rows := nmV R) (Ty := 9) (e := 1) ?_ (by simp [nmV])
  refine con_of Tryd.func27 rfl (by kernel_rfl) rfl fun F w0 β0 => ?_
  refine K_tell rfl ?_
  refine go ?_
  refine K_op rfl rfl (opr_callP rfl rfl (c1) rfl rfl rfl rfl) rfl ?_
  refine go ?_
  refine J_lazyE 7 9 (e := 1) rfl rfl (.inl rfl) ?_
  refine K_op rfl rfl (opr_callS [.o 0, .o 1] rfl rfl (c2) rfl rfl rfl ⟨⟨rfl, rfl⟩, ⟨rfl, rfl⟩, trivial⟩ rfl rfl rfl rfl) rfl ?_
  refine go ?_
  refine J_loop (fun q : Ix R.length => [(5, .p (.str kk)), (7, .sl (.l 0) q.i 0 q.i), (18, .p (.ps (kvs R))), (19, .p (.int .i64 (R.length : Int))), (20, .p (.int .i64 (q.i : Int)))]) (fun _ => vH s') (fun q => [.arr 9 true 1 (nmV (R.take q.i))]) (fun q => R.length - q.i) ⟨0, by omega⟩ ⟨rfl, rfl, rfl, (by rw [← hlk]; rfl), rfl, trivial⟩ rfl rfl (fun q => ?_)
  have hi := q.h
  have hlt : (nmV (R.take q.i)).length = q.i := by simp [nmV]; omega
  refine go ?_
  by_cases h : q.i < R.length
  · have hx : R[q.i]? = some R[q.i] := List.getElem?_eq_getElem h
    have h5 := hmem _ (List.getElem_mem h)
    have h9 := hlen _ (List.getElem_mem h)
    generalize R[q.i] = x at hx h5 h9
    have hxk : (kvs R)[((q.i : Nat) : Int).toNat]? = some (kvV x) := kvs_get hx
    refine K_condT rfl (decide_eq_true (by omega)) ?_
    refine go ?_
    refine K_op rfl rfl (opr_index hT rfl rfl rfl rfl rfl (.ps _) (by omega) (by rw [hlk]; omega)) rfl ?_
    refine go ?_
    refine K_op rfl rfl (opr_load_el hT rfl rfl (.ps _) hxk rfl rfl) rfl ?_
    refine go ?_
    rw [hk5]
    have hcut : ((x.1.drop (((5 : Nat) : Int)).toNat).take ((x.1.length : Int).toNat - (((5 : Nat) : Int)).toNat)) = x.1.drop 5 := List.take_of_length_le (by simp)
    refine K_op rfl rfl (opr_cut_str hT rfl rfl rfl rfl rfl (by omega) (by omega) (by omega)) rfl ?_
    rw [hcut]
    refine go ?_
    refine K_op rfl rfl (opr_app_own hT rfl rfl rfl rfl hlt rfl rfl (.rd (.ps _)) hbs_ps (nm_cl [x]) (nm_size [x]) (by decide) (by show (q.i + 1) * 16 ≤ _; omega)) rfl ?_
    refine go ?_
    refine J_take 1 [(5, .p (.str kk)), (7, .sl (.l 0) (q.i + 1) 0 (q.i + 1)), (18, .p (.ps (kvs R))), (19, .p (.int .i64 (R.length : Int))), (20, .p (.int .i64 (IntKind.i64.wrap ((q.i : Int) + 1))))] ⟨rfl, rfl, rfl, rfl, rfl, trivial⟩ rfl rfl ?_
    refine J_again ⟨q.i + 1, by omega⟩ (by show R.length - (q.i + 1) < R.length - q.i; omega) ⟨rfl, rfl, rfl, rfl, congrArg (fun z => TV.p (.int .i64 z)) (by rw [IntWalk.i64_in _ (by omega)]; rfl), trivial⟩ rfl (by show [AObj.arr _ _ _ _] = [AObj.arr _ _ _ _]; rw [← nm_take hx]; rfl)
  have e : q.i = R.length := by omega
  rw [e, List.take_length]
  refine K_condF rfl (decide_eq_false (by omega)) ?_
  refine go ?_
  exact J_give hT rfl rfl
/-- How far a path is gone. -/
structure FI17 (s : VS) (N : List (List UInt8)) where
  i : Nat
  a : Sp
  ks : List (List UInt8)
  h : i ≤ N.length
  e : goF s (N.drop i) a ks = goF s N (spR s) [keyH 73 1]
  ok : Sp.ok a
  hk : ks.length ≤ 1 + 2 * i
set_option maxHeartbeats 16000000 in
theorem wfind_spec {s : VS} {m : Nat} (h : VJ s m) (hm : m ≤ 900000) (p : List UInt8) : Con Tryd.prog 20 [vP, .p (.str p)] (vH s) (.tup [spT (s.find p).1, .p (.int .i64 (s.find p).2.1)]) (vH (s.rds (s.find p).2.2)) [] := by
  have c1 := nsplit_spec p
  have hsp := splitN_eq (l := p)
  unfold VS.find
  generalize (splitN p).2 = e at c1 hsp
  generalize (splitN p).1 = av at c1 hsp
  by_cases he : e ≠ 0
  · rw [if_pos he]
    refine con_of Tryd.func20 rfl (by kernel_rfl) rfl fun F w0 β0 => ?_
    refine K_tell rfl ?_
    refine go ?_
    refine K_op rfl rfl (opr_callP rfl rfl (c1) rfl rfl rfl rfl) rfl ?_
    refine go ?_
    refine K_condT rfl (by simp [he]) ?_
    refine go ?_
    exact J_done hT rfl rfl rfl
  rw [if_neg he]
  obtain rfl : e = 0 := by simpa using he
  obtain ⟨hav, hn16, _⟩ := hsp rfl
  have hle : AVLe av (.ps ((namesP p).map .str)) := by
    rcases hav with ⟨rfl, h2⟩ | rfl
    · rw [h2]; exact nils_ps
    · exact AVLe.refl _
  generalize namesP p = N at hle hn16
  have hlN : (N.map AV.str).length = N.length := by simp
  have c2 := wload_spec h (by omega) 1 (by decide)
  rw [nodeT_tup] at c2
  refine con_of Tryd.func20 rfl (by kernel_rfl) rfl fun F w0 β0 => ?_
  refine K_tell rfl ?_
  refine go ?_
  refine K_op rfl rfl (opr_callP rfl rfl (c1) rfl rfl rfl rfl) rfl ?_
  refine go ?_
  refine K_op rfl rfl (opr_callS [.o 0, .o 1] rfl rfl (c2) rfl rfl rfl ⟨⟨rfl, rfl⟩, ⟨rfl, rfl⟩, trivial⟩ rfl rfl rfl rfl) rfl ?_
  refine go ?_
  refine J_le 33 _ rfl hle ?_
  refine go ?_
  refine J_loop (fun q : FI17 s N => [(0, vP), (4, .ad (.l 0) 0), (10, .ad (.l 2) 0), (33, .p (.ps (N.map .str))), (34, .p (.int .i64 (N.length : Int))), (35, .p (.int .i64 (q.i : Int)))]) (fun q => vH (s.rds q.ks)) (fun q => [.box 50 [.p (.int .u32 0), .p (.str []), .p (.int .u32 0), .p (.int .u8 0), .p (.int .u32 0), .p (.int .u32 0), .p (.int .u32 0)], .box 45 [.p (.int .u8 ((s.load 1).getD (0, 0, 0, 0)).1), .p (.int .u32 ((s.load 1).getD (0, 0, 0, 0)).2.1), .p (.int .u32 ((s.load 1).getD (0, 0, 0, 0)).2.2.1), .p (.int .u32 ((s.load 1).getD (0, 0, 0, 0)).2.2.2)], .box 50 [.p (.int .u32 q.a.d), .p (.str q.a.m), .p (.int .u32 q.a.i), .p (.int .u8 q.a.n.1), .p (.int .u32 q.a.n.2.1), .p (.int .u32 q.a.n.2.2.1), .p (.int .u32 q.a.n.2.2.2)]]) (fun q => N.length - q.i) ⟨0, spR s, [keyH 73 1], by omega, rfl, spR_ok s, by simp⟩ ⟨rfl, rfl, rfl, rfl, (by rw [← hlN]; rfl), rfl, trivial⟩ rfl rfl (fun q => ?_)
  have hi := q.h
  have hqe := q.e
  have hok := q.ok
  have hks := q.hk
  refine go ?_
  by_cases hlt : q.i < N.length
  · have hx : N[q.i]? = some N[q.i] := List.getElem?_eq_getElem hlt
    have hdr : N.drop q.i = N[q.i] :: N.drop (q.i + 1) := List.drop_eq_getElem_cons hlt
    rw [hdr] at hqe
    generalize N[q.i] = x at hx hqe
    have hxk : (N.map AV.str)[((q.i : Nat) : Int).toNat]? = some (.str x) := by rw [Int.toNat_natCast, List.getElem?_map, hx]; rfl
    refine K_condT rfl (decide_eq_true (by omega)) ?_
    refine go ?_
    refine K_op rfl rfl (opr_index hT rfl rfl rfl rfl rfl (.ps _) (by omega) (by rw [hlN]; omega)) rfl ?_
    refine go ?_
    refine K_op rfl rfl (opr_load_el hT rfl rfl (.ps _) hxk rfl rfl) rfl ?_
    refine go ?_
    rw [goF_cons] at hqe
    by_cases h0 : q.a.i = 0
    · rw [if_pos h0] at hqe
      refine K_condT rfl (by simp [h0]) ?_
      refine go ?_
      rw [← hqe]
      exact J_done hT rfl rfl rfl
    rw [if_neg h0] at hqe
    refine K_condF rfl (by simp [h0]) ?_
    refine go ?_
    by_cases h2 : q.a.n.1 ≠ 2
    · rw [if_pos h2] at hqe
      refine K_condT rfl (by simp [h2]) ?_
      refine go ?_
      rw [← hqe]
      exact J_done hT rfl rfl rfl
    rw [if_neg h2] at hqe
    refine K_condF rfl (by simpa using h2) ?_
    have hv := h.rds q.ks
    have c3 := wchild_spec hv (by omega) q.a.i hok.2.1 x
    rw [child_rds] at c3
    have hst := stepF_ok (s := s) hok x
    unfold stepF at hqe hst
    cases hc : s.child q.a.i x with
    | none =>
      rw [hc] at c3 hqe hst
      dsimp only at hqe hst
      refine go ?_
      refine K_op rfl rfl (opr_callS [.o 0, .o 1] rfl rfl (c3) rfl rfl rfl ⟨⟨rfl, rfl⟩, ⟨rfl, rfl⟩, trivial⟩ rfl rfl rfl rfl) rfl ?_
      refine go ?_
      refine J_take 3 [(0, vP), (4, .ad (.l 0) 0), (10, .ad (.l 2) 0), (33, .p (.ps (N.map .str))), (34, .p (.int .i64 (N.length : Int))), (35, .p (.int .i64 (IntKind.i64.wrap ((q.i : Int) + 1))))] ⟨rfl, rfl, rfl, rfl, rfl, rfl, trivial⟩ rfl rfl ?_
      refine J_again ⟨q.i + 1, ⟨q.a.i, x, 0, (0, 0, 0, 0)⟩, q.ks ++ [entryK q.a.i x], by omega, hqe, hst.1, by rw [List.length_append]; simp only [List.length_cons, List.length_nil]; omega⟩ (by show N.length - (q.i + 1) < N.length - q.i; omega) ⟨rfl, rfl, rfl, rfl, rfl, congrArg (fun z => TV.p (.int .i64 z)) (by rw [IntWalk.i64_in _ (by omega)]; rfl), trivial⟩ (congrArg vH (rds_app s q.ks [entryK q.a.i x])) rfl
    | some j =>
      have hj := chOf_ok hc
      rw [hc] at c3 hqe hst
      dsimp only at hqe hst
      have c4 := wload_spec (hv.rd (entryK q.a.i x)) (by omega) j hj
      rw [nodeT_tup] at c4
      change Con Tryd.prog _ _ _ (.tup [ndT ((s.load j).getD (0, 0, 0, 0)), .p (.bool (s.load j).isSome)]) _ _ at c4
      refine go ?_
      refine K_op rfl rfl (opr_callS [.o 0, .o 1] rfl rfl (c3) rfl rfl rfl ⟨⟨rfl, rfl⟩, ⟨rfl, rfl⟩, trivial⟩ rfl rfl rfl rfl) rfl ?_
      refine go ?_
      refine K_op rfl rfl (opr_callS [.o 0, .o 1] rfl rfl (c4) rfl rfl rfl ⟨⟨rfl, rfl⟩, ⟨rfl, rfl⟩, trivial⟩ rfl rfl rfl rfl) rfl ?_
      refine go ?_
      cases hl : (s.load j).isSome with
      | false =>
        rw [hl, if_neg (by simp)] at hqe hst
        refine go ?_
        refine J_take 3 [(0, vP), (4, .ad (.l 0) 0), (10, .ad (.l 2) 0), (33, .p (.ps (N.map .str))), (34, .p (.int .i64 (N.length : Int))), (35, .p (.int .i64 (IntKind.i64.wrap ((q.i : Int) + 1))))] ⟨rfl, rfl, rfl, rfl, rfl, rfl, trivial⟩ rfl rfl ?_
        refine J_again ⟨q.i + 1, ⟨q.a.i, x, 0, (0, 0, 0, 0)⟩, q.ks ++ [entryK q.a.i x, keyH 73 j], by omega, hqe, hst.1, by rw [List.length_append]; simp only [List.length_cons, List.length_nil]; omega⟩ (by show N.length - (q.i + 1) < N.length - q.i; omega) ⟨rfl, rfl, rfl, rfl, rfl, congrArg (fun z => TV.p (.int .i64 z)) (by rw [IntWalk.i64_in _ (by omega)]; rfl), trivial⟩ (congrArg vH (rds_app s q.ks [entryK q.a.i x, keyH 73 j])) rfl
      | true =>
        by_cases hj0 : j = 0
        · rw [if_neg (by simp [hj0])] at hqe hst
          refine go ?_
          refine K_condF rfl (by simp [hj0]) ?_
          refine go ?_
          refine J_take 3 [(0, vP), (4, .ad (.l 0) 0), (10, .ad (.l 2) 0), (33, .p (.ps (N.map .str))), (34, .p (.int .i64 (N.length : Int))), (35, .p (.int .i64 (IntKind.i64.wrap ((q.i : Int) + 1))))] ⟨rfl, rfl, rfl, rfl, rfl, rfl, trivial⟩ rfl rfl ?_
          refine J_again ⟨q.i + 1, ⟨q.a.i, x, 0, (0, 0, 0, 0)⟩, q.ks ++ [entryK q.a.i x, keyH 73 j], by omega, hqe, hst.1, by rw [List.length_append]; simp only [List.length_cons, List.length_nil]; omega⟩ (by show N.length - (q.i + 1) < N.length - q.i; omega) ⟨rfl, rfl, rfl, rfl, rfl, congrArg (fun z => TV.p (.int .i64 z)) (by rw [IntWalk.i64_in _ (by omega)]; rfl), trivial⟩ (congrArg vH (rds_app s q.ks [entryK q.a.i x, keyH 73 j])) rfl
        · rw [hl, if_pos (by simp [hj0])] at hqe hst
          refine go ?_
          refine K_condT rfl (by simp [hj0]) ?_
          refine go ?_
          refine J_draw [[spB ⟨0, [], 0, (0, 0, 0, 0)⟩, ndB ((s.load 1).getD (0, 0, 0, 0)), spB ⟨q.a.i, x, 0, (0, 0, 0, 0)⟩, ndB ((s.load j).getD (0, 0, 0, 0))], [spB ⟨0, [], 0, (0, 0, 0, 0)⟩, ndB ((s.load 1).getD (0, 0, 0, 0)), spB ⟨q.a.i, x, j, (0, 0, 0, 0)⟩, ndB ((s.load j).getD (0, 0, 0, 0))], [spB ⟨0, [], 0, (0, 0, 0, 0)⟩, ndB ((s.load 1).getD (0, 0, 0, 0)), spB ⟨q.a.i, x, j, (s.load j).getD (0, 0, 0, 0)⟩, ndB ((s.load j).getD (0, 0, 0, 0))]] [3, 5] (by kernel_rfl) (by kernel_rfl) rfl ?_
          refine gdW ?_
          refine go ?_
          refine J_take 3 [(0, vP), (4, .ad (.l 0) 0), (10, .ad (.l 2) 0), (33, .p (.ps (N.map .str))), (34, .p (.int .i64 (N.length : Int))), (35, .p (.int .i64 (IntKind.i64.wrap ((q.i : Int) + 1))))] ⟨rfl, rfl, rfl, rfl, rfl, rfl, trivial⟩ rfl rfl ?_
          refine J_again ⟨q.i + 1, ⟨q.a.i, x, j, (s.load j).getD (0, 0, 0, 0)⟩, q.ks ++ [entryK q.a.i x, keyH 73 j], by omega, hqe, hst.1, by rw [List.length_append]; simp only [List.length_cons, List.length_nil]; omega⟩ (by show N.length - (q.i + 1) < N.length - q.i; omega) ⟨rfl, rfl, rfl, rfl, rfl, congrArg (fun z => TV.p (.int .i64 z)) (by rw [IntWalk.i64_in _ (by omega)]; rfl), trivial⟩ (congrArg vH (rds_app s q.ks [entryK q.a.i x, keyH 73 j])) rfl
  · have e : q.i = N.length := by omega
    rw [e, List.drop_length] at hqe
    rw [goF_nil] at hqe
    rw [← hqe]
    refine K_condF rfl (decide_eq_false (by omega)) ?_
    refine go ?_
    exact J_done hT rfl rfl rfl
end Go.Proofs.YtjibchohkeljkaaDoor

/- Rows of keys: a directory's entries, in plain Lean. -/
-- @D
namespace Go.Proofs.YtjibchohkeljkaaDoor
set_option maxRecDepth 20000
open Go.Awp Tr
/-- A directory's entries: name and value. -/
def entsL (d : Int) (l : List KV) : List KV := (l.filter fun x => decide (keyH 69 d <+: x.1)).map fun x => (x.1.drop 5, x.2)
abbrev U32 (n : Int) : Prop := 0 ≤ n ∧ n ≤ 4294967295
theorem drop_app5 (k n : Int) (r : List UInt8) : (keyH k n ++ r).drop 5 = r := by
  have : (keyH k n).length = 5 := keyH_len k n
  rw [List.drop_append_of_le_length (by omega), List.drop_of_length_le (by omega), List.nil_append]
theorem entsL_mem {d : Int} {l : List KV} {x v : List UInt8} : (x, v) ∈ entsL d l ↔ (keyH 69 d ++ x, v) ∈ l := by
  unfold entsL
  rw [List.mem_map]
  constructor
  · rintro ⟨y, hy, e⟩
    rw [List.mem_filter, decide_eq_true_eq] at hy
    obtain ⟨h1, r, h2⟩ := hy
    obtain ⟨e1, e2⟩ := Prod.mk.inj e
    rw [← h2, drop_app5] at e1
    subst e1 e2
    rw [h2]
    exact h1
  · intro h
    exact ⟨_, List.mem_filter.2 ⟨h, decide_eq_true (List.prefix_append _ _)⟩, by dsimp only; rw [drop_app5]⟩
theorem entsL_rises {d : Int} {l : List KV} (h : Rises l) : Rises (entsL d l) := by
  unfold entsL Rises
  rw [List.pairwise_map]
  have h2 : (l.filter fun x => decide (keyH 69 d <+: x.1)).Pairwise fun a b => lt a.1 b.1 := List.Pairwise.sublist List.filter_sublist h
  refine List.Pairwise.imp_of_mem (fun {a b} ha hb hab => ?_) h2
  rw [List.mem_filter, decide_eq_true_eq] at ha hb
  obtain ⟨_, r, hr⟩ := ha
  obtain ⟨_, t, ht⟩ := hb
  dsimp only
  unfold lt at hab ⊢
  rw [← hr, ← ht] at hab ⊢
  rw [bl_append] at hab
  rw [drop_app5, drop_app5]
  exact hab
theorem entsL_get {d : Int} {l : List KV} (h : Rises l) (x : List UInt8) : lget x (entsL d l) = lget (keyH 69 d ++ x) l := by
  cases hg : lget (keyH 69 d ++ x) l with
  | some v => exact (lget_some (entsL_rises h)).2 (entsL_mem.2 ((lget_some h).1 hg))
  | none =>
    cases hq : lget x (entsL d l) with
    | none => rfl
    | some v =>
      have := (lget_some h).2 (entsL_mem.1 ((lget_some (entsL_rises h)).1 hq))
      rw [hg] at this
      cases this
theorem lcut_mem {k : List UInt8} {l : List KV} {y : KV} : y ∈ lcut k l ↔ y ∈ l ∧ y.1 ≠ k := by
  unfold lcut
  rw [List.mem_filter]
  simp
theorem entsL_set {d d' : Int} (hd : U32 d) (hd' : U32 d') {l : List KV} (h : Rises l) (x v : List UInt8) : entsL d (lset (keyH 69 d' ++ x) v l) = if d = d' then lset x v (entsL d l) else entsL d l := by
  have key : ∀ (y : List UInt8), keyH 69 d ++ y = keyH 69 d' ++ x ↔ d = d' ∧ y = x := fun y =>
    ⟨fun e => (key_inj (by omega) (by omega) hd hd' e).2, fun ⟨e1, e2⟩ => by rw [e1, e2]⟩
  split
  · rename_i e
    subst e
    refine rises_ext (entsL_rises (lset_rises h)) (lset_rises (entsL_rises h)) fun ⟨y, w⟩ => ?_
    rw [entsL_mem, lset_mem_iff h, lset_mem_iff (entsL_rises h), entsL_mem]
    simp only [Prod.mk.injEq, key, true_and, ne_eq]
  · rename_i e
    refine rises_ext (entsL_rises (lset_rises h)) (entsL_rises h) fun ⟨y, w⟩ => ?_
    rw [entsL_mem, lset_mem_iff h, entsL_mem]
    simp only [Prod.mk.injEq, key, e, false_and, false_or, ne_eq, not_false_eq_true, and_true]
theorem entsL_cut {d d' : Int} (hd : U32 d) (hd' : U32 d') {l : List KV} (h : Rises l) (x : List UInt8) : entsL d (lcut (keyH 69 d' ++ x) l) = if d = d' then lcut x (entsL d l) else entsL d l := by
  have key : ∀ (y : List UInt8), keyH 69 d ++ y = keyH 69 d' ++ x ↔ d = d' ∧ y = x := fun y =>
    ⟨fun e => (key_inj (by omega) (by omega) hd hd' e).2, fun ⟨e1, e2⟩ => by rw [e1, e2]⟩
  split
  · rename_i e
    subst e
    refine rises_ext (entsL_rises (lcut_rises h)) (lcut_rises (entsL_rises h)) fun ⟨y, w⟩ => ?_
    rw [entsL_mem, lcut_mem, lcut_mem, entsL_mem]
    simp only [key, true_and, ne_eq]
  · rename_i e
    refine rises_ext (entsL_rises (lcut_rises h)) (entsL_rises h) fun ⟨y, w⟩ => ?_
    rw [entsL_mem, lcut_mem, entsL_mem]
    simp only [key, e, false_and, ne_eq, not_false_eq_true, and_true]
/-- Keys that are no entries. -/
def noE (k : List UInt8) : Prop := ∀ d y, U32 d → keyH 69 d ++ y ≠ k
theorem noE_I {n : Int} (hn : U32 n) : noE (keyH 73 n) := fun d y hd e => by
  have := (key_inj (k := 69) (k' := 73) (r := y) (r' := []) (by decide) (by decide) hd hn (by rw [e, List.append_nil])).1
  exact absurd this (by decide)
theorem noE_D {n : Int} (hn : U32 n) (r : List UInt8) : noE (keyH 68 n ++ r) := fun d y hd e => by
  have := (key_inj (k := 69) (k' := 68) (by decide) (by decide) hd hn e).1
  exact absurd this (by decide)
theorem entsL_set_no {d : Int} (hd : U32 d) {l : List KV} (h : Rises l) {k : List UInt8} (v : List UInt8) (hk : noE k) : entsL d (lset k v l) = entsL d l := by
  refine rises_ext (entsL_rises (lset_rises h)) (entsL_rises h) fun ⟨y, w⟩ => ?_
  rw [entsL_mem, lset_mem_iff h, entsL_mem]
  have := hk d y hd
  simp only [Prod.mk.injEq, this, false_and, false_or, ne_eq, not_false_eq_true, and_true]
theorem entsL_cut_no {d : Int} (hd : U32 d) {l : List KV} (h : Rises l) {k : List UInt8} (hk : noE k) : entsL d (lcut k l) = entsL d l := by
  refine rises_ext (entsL_rises (lcut_rises h)) (entsL_rises h) fun ⟨y, w⟩ => ?_
  rw [entsL_mem, lcut_mem, entsL_mem]
  have := hk d y hd
  simp only [this, ne_eq, not_false_eq_true, and_true]
/-- How many rows are so. -/
theorem count_set (p : KV → Bool) {k v : List UInt8} : ∀ {l : List KV}, Rises l → (lset k v l).countP p + (match lget k l with | some u => if p (k, u) = true then 1 else 0 | none => 0) = l.countP p + (if p (k, v) = true then 1 else 0)
  | [], _ => by simp [lset, lget]
  | x :: r, h => by
    have hp := List.pairwise_cons.1 h
    have ih := count_set p (k := k) (v := v) hp.2
    obtain ⟨xa, xb⟩ := x
    dsimp only at hp
    rcases lt_cases k xa with hl | rfl | hl
    · have h1 := lset_left k v (xa, xb) r hl [] (by simp)
      simp only [List.nil_append] at h1
      have h2 : lget k ((xa, xb) :: r) = none := lget_none fun y hy e => by
        rcases List.mem_cons.1 hy with rfl | hy
        · exact lt_ne hl e.symm
        · exact lt_ne (lt_trans hl (hp.1 y hy)) e.symm
      rw [h1, h2]
      simp [lset, List.countP_cons]
    · have h1 := lset_at k v (k, xb) r rfl [] (by simp)
      simp only [List.nil_append] at h1
      rw [h1]
      simp only [lget, if_true, List.countP_cons]
      omega
    · have h1 := lset_right k v (xa, xb) r hl [] (by simp)
      simp only [List.nil_append] at h1
      have h2 : lget k ((xa, xb) :: r) = lget k r := by
        simp only [lget]
        rw [if_neg (lt_ne hl)]
      rw [h1, h2]
      simp only [List.countP_cons]
      omega
theorem count_cut (p : KV → Bool) {k : List UInt8} : ∀ {l : List KV}, Rises l → (lcut k l).countP p + (match lget k l with | some u => if p (k, u) = true then 1 else 0 | none => 0) = l.countP p
  | [], _ => by simp [lcut, lget]
  | x :: r, h => by
    have hp := List.pairwise_cons.1 h
    have ih := count_cut p (k := k) hp.2
    by_cases e : x.1 = k
    · have h2 : lcut k r = r := lcut_none fun y hy e2 => lt_ne (hp.1 y hy) (e.trans e2.symm)
      have h1 : lcut k (x :: r) = r := by
        have : lcut k (x :: r) = lcut k r := by unfold lcut; rw [List.filter_cons_of_neg (by simp [e])]
        rw [this, h2]
      rw [h1]
      simp only [lget, e, if_true, List.countP_cons]
      obtain ⟨a, b⟩ := x
      dsimp only at e ⊢
      subst e
      rfl
    · have h1 : lcut k (x :: r) = x :: lcut k r := by unfold lcut; rw [List.filter_cons_of_pos (by simp [e])]
      have h2 : lget k (x :: r) = lget k r := by simp only [lget]; rw [if_neg e]
      rw [h1, h2]
      simp only [List.countP_cons]
      omega
end Go.Proofs.YtjibchohkeljkaaDoor

/- The reference of layer 17 (Save, Hang, List); the laws' fixed, cut and do. -/
-- @D
namespace Go.Proofs.YtjibchohkeljkaaDoor
set_option maxRecDepth 20000
open Go.Awp Tr
/-- An operation of layer 17. -/
structure WOp where
  kind : Int
  d : Int
  i : Int
  m : List UInt8
  g : Nd
def wopV (o : WOp) : AV := .agg [.int .i64 o.kind, .int .u32 o.d, .int .u32 o.i, .str o.m, .int .u8 o.g.1, .int .u32 o.g.2.1, .int .u32 o.g.2.2.1, .int .u32 o.g.2.2.2]
def WOp.ok (o : WOp) : Prop := U32 o.d ∧ U32 o.i ∧ Nd.ok o.g
theorem all2_8 {R : Nat → AV → Prop} {a b c d e f g h : Nat} {cs : List AV} (H : All2 R [a, b, c, d, e, f, g, h] cs) : ∃ x1 x2 x3 x4 x5 x6 x7 x8, cs = [x1, x2, x3, x4, x5, x6, x7, x8] ∧ R a x1 ∧ R b x2 ∧ R c x3 ∧ R d x4 ∧ R e x5 ∧ R f x6 ∧ R g x7 ∧ R h x8 := by
  match cs, H with
  | [x1, x2, x3, x4, x5, x6, x7, x8], H => exact ⟨x1, x2, x3, x4, x5, x6, x7, x8, rfl, H.1, H.2.1, H.2.2.1, H.2.2.2.1, H.2.2.2.2.1, H.2.2.2.2.2.1, H.2.2.2.2.2.2.1, H.2.2.2.2.2.2.2.1⟩
theorem wops_shp {a : AV} (h : Shp tab 8 36 a) : ∃ l : List WOp, Sl wopV a l ∧ (∀ x ∈ l, x.ok) ∧ l.length ≤ 140737488355328 :=
  shp_agg wopV _ h rfl rfl rfl rfl (by decide) fun cs hcs => by
    obtain ⟨x1, x2, x3, x4, x5, x6, x7, x8, rfl, h1, h2, h3, h4, h5, h6, h7, h8⟩ := all2_8 hcs
    obtain ⟨n, rfl, hn⟩ := h1.int rfl
    obtain ⟨d, rfl, hd⟩ := h2.int rfl
    obtain ⟨i, rfl, hi⟩ := h3.int rfl
    obtain ⟨m, rfl, hm⟩ := h4.str rfl
    obtain ⟨k, rfl, hk⟩ := h5.int rfl
    obtain ⟨a, rfl, ha⟩ := h6.int rfl
    obtain ⟨b, rfl, hb⟩ := h7.int rfl
    obtain ⟨c, rfl, hc⟩ := h8.int rfl
    exact ⟨⟨n, d, i, m, (k, a, b, c)⟩, rfl, hd, hi, hk, ha, hb, hc⟩
def stop17 (i : Nat) (o : WOp) : Bool := decide (40 ≤ i) || (decide (32 < o.m.length) || o.m == [])
theorem stop17_eq (i : Nat) (o : WOp) : (decide ((i : Int) ≥ 40) || decide ((o.m.length : Int) > 32) || o.m == []) = stop17 i o := by
  unfold stop17
  rw [Bool.or_assoc]
  congr 1
  · exact decide_eq_decide.2 (by omega)
  · congr 1; exact decide_eq_decide.2 (by omega)
set_option maxHeartbeats 8000000 in
theorem cut17_spec {s : AV} {l : List WOp} (hs : Sl wopV s l) (hl : l.length ≤ 140737488355328) : ∃ s', Sl wopV s' (l.take (cutG stop17 l 0)) ∧ Con Tryd.prog 18 [.p s] [] (.p s') [] [] := by
  have hrd := hs.rd []
  have hlen : (l.map wopV).length = l.length := by simp
  have hE : ∀ r ∈ l.map wopV, (cellsOf r).length = 8 := by
    intro r hr
    obtain ⟨o, _, rfl⟩ := List.mem_map.1 hr
    rfl
  refine ⟨if cutG stop17 l 0 = l.length then s else .ps ((l.take (cutG stop17 l 0)).map wopV), ?_, ?_⟩
  · split
    · rename_i h; rw [h, List.take_length]; exact hs
    · exact .ps _
  refine con_of Tryd.func18 rfl (by kernel_rfl) rfl fun F w0 β0 => ?_
  refine K_tell rfl ?_
  refine go ?_
  refine K_op rfl rfl (opr_len_rd hT rfl rfl (hrd _)) rfl ?_
  rw [hlen]
  refine go ?_
  refine J_loop (fun q : CG stop17 l => [(0, .p s), (5, .p s), (6, .p (.int .i64 (l.length : Int))), (7, .p (.int .i64 (q.i : Int)))]) (fun _ => []) (fun _ => []) (fun q => l.length - q.i) ⟨0, by omega, rfl⟩ ⟨rfl, rfl, rfl, rfl, trivial⟩ rfl rfl (fun q => ?_)
  have hi := q.h
  refine go ?_
  by_cases h : q.i < l.length
  · have hx : l[q.i]? = some l[q.i] := List.getElem?_eq_getElem h
    generalize l[q.i] = x at hx
    have hxk : (l.map wopV)[((q.i : Nat) : Int).toNat]? = some (wopV x) := by rw [Int.toNat_natCast, List.getElem?_map, hx]; rfl
    have hst := cutG_step stop17 hx
    rw [q.e] at hst
    refine K_condT rfl (decide_eq_true (by omega)) ?_
    refine go ?_
    refine K_op rfl rfl (opr_index hT rfl rfl rfl rfl rfl (hrd _) (by omega) (by rw [hlen]; omega)) rfl ?_
    refine go ?_
    refine K_op rfl rfl (opr_load_el hT rfl rfl (hrd _) hxk rfl rfl) rfl ?_
    refine go ?_
    refine J_take 0 [(0, .p s), (3, .p (.int .i64 (q.i : Int))), (5, .p s), (6, .p (.int .i64 (l.length : Int))), (7, .p (.int .i64 (q.i : Int))), (24, .p (.bool (stop17 q.i x)))] ⟨rfl, rfl, rfl, rfl, rfl, (by rw [← stop17_eq]; rfl), trivial⟩ rfl rfl ?_
    by_cases hk : stop17 q.i x = true
    · rw [if_pos hk] at hst
      rw [hst, if_neg (by omega)]
      refine K_condT rfl hk ?_
      cases hs with
      | nils => simp at hx
      | ps =>
        have e : ((l.map wopV).drop 0).take (((q.i : Nat) : Int).toNat - 0) = (l.take q.i).map wopV := by simp
        rw [← e]
        refine go ?_
        refine K_op rfl rfl (opr_cut hT rfl rfl rfl rfl (hrd _) rfl rfl (by omega) (by omega) (by rw [hlen]; omega) hE) rfl ?_
        refine go ?_
        exact J_done hT rfl rfl rfl
    · rw [if_neg hk] at hst
      refine K_condF rfl (by simpa using hk) ?_
      refine go ?_
      refine J_again ⟨q.i + 1, by omega, hst.symm⟩ (by show l.length - (q.i + 1) < l.length - q.i; omega) ⟨rfl, rfl, rfl, congrArg (fun z => TV.p (.int .i64 z)) (by rw [IntWalk.i64_in _ (by omega)]; rfl), trivial⟩ rfl rfl
  · refine K_condF rfl (decide_eq_false (by omega)) ?_
    have e : cutG stop17 l 0 = l.length := by rw [← q.e, show q.i = l.length by omega, cutG_end stop17 (Nat.le_refl _)]
    rw [if_pos e]
    refine go ?_
    exact J_done hT rfl rfl rfl
/-! ### The reference -/
theorem rset_ps {l : List KV} (h : Rises l) (hl : l.length ≤ 1000000) (k v : List UInt8) : Con Tryd.prog 40 [.p (.ps (kvs l)), .p (.str k), .p (.str v)] [] (.p (.ps (kvs (lset k v l)))) [] [] := by
  have c := (rset10_rd (.ps (kvs l)) l k v (fun L => .ps _) (by unfold big40; omega)).toPs (.inr rfl)
  rwa [rset_row h] at c
theorem rcut_ps {l : List KV} (hl : l.length ≤ 1000000) (k : List UInt8) : Con Tryd.prog 29 [.p (.ps (kvs l)), .p (.str k)] [] (.p (.ps (kvs (lcut k l)))) [] [] :=
  (rcut10_rd (.ps (kvs l)) l k (fun L => .ps _) (by unfold big40; omega)).toPs (.inr rfl)
theorem rsave_spec {l : List KV} (h : Rises l) (hl : l.length ≤ 1000000) (n : Int) (hn : U32 n) (g : Nd) (hg : Nd.ok g) : Con Tryd.prog 36 [.p (.ps (kvs l)), .p (.int .u32 n), ndA g] [] (.p (.ps (kvs (lset (keyH 73 n) (nodeB g.1 g.2.1 g.2.2.1 g.2.2.2) l)))) [] [] := by
  have c1 := rinode_spec n hn []
  have c2 := rnput_spec g.1 g.2.1 g.2.2.1 g.2.2.2 hg.1 hg.2.1 hg.2.2.1 hg.2.2.2 []
  have c3 := rset_ps h hl (keyH 73 n) (nodeB g.1 g.2.1 g.2.2.1 g.2.2.2)
  generalize lset (keyH 73 n) (nodeB g.1 g.2.1 g.2.2.1 g.2.2.2) l = l' at c3
  refine con_of Tryd.func36 rfl (by kernel_rfl) rfl fun F w0 β0 => ?_
  refine K_tell rfl ?_
  refine go ?_
  refine J_drawH1 6 [] (by kernel_rfl) (by kernel_rfl) ?_
  refine gdH ?_
  refine T_opH rfl rfl rfl rfl rfl rfl (opr_call0P rfl rfl (c1) rfl rfl rfl) rfl ?_
  refine gdH ?_
  refine T_opH rfl rfl rfl rfl rfl rfl (opr_call0P rfl rfl (c2) rfl rfl rfl) rfl ?_
  refine gdH ?_
  refine T_opH rfl rfl rfl rfl rfl rfl (opr_call0P rfl rfl (c3) rfl rfl rfl) rfl ?_
  refine gdH ?_
  refine go ?_
  exact J_done hT rfl rfl rfl
theorem rhang_spec {l : List KV} (h : Rises l) (hl : l.length ≤ 1000000) (d i : Int) (hd : U32 d) (hi : U32 i) (m : List UInt8) : Con Tryd.prog 38 [.p (.ps (kvs l)), .p (.int .u32 d), .p (.str m), .p (.int .u32 i)] [] (.p (.ps (kvs (lset (entryK d m) (beB 4 i) l)))) [] [] := by
  have c1 := rentry_spec d m hd []
  have c2 := rput4 (s := .cz) (l := []) .cz i hi (by decide) []
  rw [List.nil_append] at c2
  have c3 := rset_ps h hl (entryK d m) (beB 4 i)
  generalize lset (entryK d m) (beB 4 i) l = l' at c3
  refine con_of Tryd.func38 rfl (by kernel_rfl) rfl fun F w0 β0 => ?_
  refine K_tell rfl ?_
  refine go ?_
  refine K_op rfl rfl (opr_callP rfl rfl (c1) rfl rfl rfl rfl) rfl ?_
  refine go ?_
  refine J_val 15 _ rfl (congrArg (fun z => TV.p (.int .u64 z)) (u64_in i (by unfold U32 at hi; omega))) ?_
  refine K_op rfl rfl (opr_callP rfl rfl (c2) rfl rfl rfl rfl) rfl ?_
  refine go ?_
  refine K_op rfl rfl (opr_callP rfl rfl (c3) rfl rfl rfl rfl) rfl ?_
  refine go ?_
  exact J_done hT rfl rfl rfl
/-- A directory's names, as the document tells them. -/
def nameR (n : Int) (x : KV) : Option (List UInt8) := if (splitK x.1).1 = 69 ∧ (splitK x.1).2.1 = n then some (splitK x.1).2.2.1 else none
def namesR (n : Int) (l : List KV) : List (List UInt8) := l.filterMap (nameR n)
theorem namesR_take {n : Int} {l : List KV} {i : Nat} {x : KV} (hx : l[i]? = some x) : namesR n (l.take (i + 1)) = namesR n (l.take i) ++ (nameR n x).toList := by
  obtain ⟨h, rfl⟩ := List.getElem?_eq_some_iff.1 hx
  unfold namesR
  rw [List.take_succ_eq_append_getElem h, List.filterMap_append]
  congr 1
set_option maxHeartbeats 8000000 in
theorem rlist_spec {l : List KV} (hl : l.length ≤ 1000000) (hk : ∀ x ∈ l, x.1.length ≤ 100000) (n : Int) : Con Tryd.prog 28 [.p (.ps (kvs l)), .p (.int .u32 n)] [] (.p (.ps ((namesR n l).map .str))) [] [] := by
  have hlk : (kvs l).length = l.length := by simp
  have hnl : ∀ i, (namesR n (l.take i)).length ≤ i := fun i => Nat.le_trans (List.length_filterMap_le _ _) (by simp; omega)
  refine Con.freeze (n := (namesR n l).length) (b := true) (rows := (namesR n l).map .str) (Ty := 9) (e := 1) ?_ (by simp)
  refine con_of Tryd.func28 rfl (by kernel_rfl) rfl fun F w0 β0 => ?_
  refine K_tell rfl ?_
  refine go ?_
  refine J_lazyE 5 9 (e := 1) rfl rfl (.inr rfl) ?_
  refine J_loop (fun q : Ix l.length => [(0, .p (.ps (kvs l))), (1, .p (.int .u32 n)), (5, .sl (.l 0) (namesR n (l.take q.i)).length 0 (namesR n (l.take q.i)).length), (13, .p (.int .i64 (l.length : Int))), (14, .p (.int .i64 (q.i : Int)))]) (fun _ => []) (fun q => [.arr 9 true 1 ((namesR n (l.take q.i)).map .str)]) (fun q => l.length - q.i) ⟨0, by omega⟩ ⟨rfl, rfl, rfl, (by rw [← hlk]; rfl), rfl, trivial⟩ rfl rfl (fun q => ?_)
  have hi := q.h
  have hnq := hnl q.i
  refine go ?_
  by_cases h : q.i < l.length
  · have hx : l[q.i]? = some l[q.i] := List.getElem?_eq_getElem h
    have hkx := hk _ (List.getElem_mem h)
    generalize l[q.i] = x at hx hkx
    have hxk : (kvs l)[((q.i : Nat) : Int).toNat]? = some (kvV x) := kvs_get hx
    have hft := namesR_take (n := n) hx
    generalize namesR n (l.take q.i) = A at hft hnq
    have c1 := rsplit_spec x.1 (by omega)
    unfold nameR at hft
    generalize splitK x.1 = r at c1 hft
    obtain ⟨r1, r2, r3, r4⟩ := r
    dsimp only at hft
    change Con Tryd.prog _ _ _ (.tup [.p (.int .u8 r1), .p (.int .u32 r2), .p (.str r3), .p (.int .i64 r4)]) _ _ at c1
    refine K_condT rfl (decide_eq_true (by omega)) ?_
    refine go ?_
    refine K_op rfl rfl (opr_index hT rfl rfl rfl rfl rfl (.ps _) (by omega) (by rw [hlk]; omega)) rfl ?_
    refine go ?_
    refine K_op rfl rfl (opr_load_el hT rfl rfl (.ps _) hxk rfl rfl) rfl ?_
    refine go ?_
    refine K_op rfl rfl (opr_callP rfl rfl (c1) rfl rfl rfl rfl) rfl ?_
    refine go ?_
    by_cases hc : r1 = 69 ∧ r2 = n
    · rw [if_pos hc] at hft
      refine K_condT rfl (by simp [hc.1, hc.2]) ?_
      refine go ?_
      refine K_op rfl rfl (opr_app_own hT rfl rfl rfl rfl (by simp) rfl rfl (.rd (.ps _)) hbs_ps (str_cl16 [r3]) (str_size [r3]) (by decide) (by show (A.length + 1) * 16 ≤ _; omega)) rfl ?_
      refine go ?_
      refine J_again ⟨q.i + 1, by omega⟩ (by show l.length - (q.i + 1) < l.length - q.i; omega) ⟨rfl, rfl, by rw [hft]; simp only [Option.toList, List.length_append]; rfl, rfl, congrArg (fun z => TV.p (.int .i64 z)) (by rw [IntWalk.i64_in _ (by omega)]; rfl), trivial⟩ rfl (by dsimp only; rw [hft, List.map_append]; rfl)
    · rw [if_neg hc] at hft
      refine K_condF rfl (by simpa using hc) ?_
      refine go ?_
      refine J_again ⟨q.i + 1, by omega⟩ (by show l.length - (q.i + 1) < l.length - q.i; omega) ⟨rfl, rfl, by rw [hft]; simp only [Option.toList, List.append_nil]; rfl, rfl, congrArg (fun z => TV.p (.int .i64 z)) (by rw [IntWalk.i64_in _ (by omega)]; rfl), trivial⟩ rfl (by dsimp only; rw [hft]; simp only [Option.toList, List.append_nil])
  have e : q.i = l.length := by omega
  rw [e, List.take_length]
  refine K_condF rfl (decide_eq_false (by omega)) ?_
  refine go ?_
  exact J_give hT rfl rfl
end Go.Proofs.YtjibchohkeljkaaDoor

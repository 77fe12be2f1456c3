/- Contracts and plain laws, several texts joined: F10q, F14, F14b, F14c, F14d, F14e, Shp, F14f, Tr6. -/
import Derived.Test.YtjibchohkeljkaaDoorM5
import Derived.Test.YtjibchohkeljkaaDoorGo
import Derived.Test.YtjibchohkeljkaaDoorM4
/- The laws of layer 10: same. -/
-- @D
namespace Go.Proofs.YtjibchohkeljkaaDoor
set_option maxRecDepth 20000
open Go.Awp Tr
theorem lget_at {l : List KV} (h : Rises l) {i : Nat} {x : KV} (hx : l[i]? = some x) : lget x.1 l = some x.2 := by
  induction l generalizing i with
  | nil => simp at hx
  | cons a r ih =>
    have hp := List.pairwise_cons.1 h
    unfold lget
    cases i with
    | zero => simp at hx; subst hx; simp
    | succ i =>
      simp at hx
      rw [if_neg (lt_ne (hp.1 x (List.mem_of_getElem? hx)))]
      exact ih hp.2 hx
theorem lrank_at {l : List KV} (h : Rises l) {i : Nat} {x : KV} (hx : l[i]? = some x) : lrank x.1 l = i := by
  induction l generalizing i with
  | nil => simp at hx
  | cons a r ih =>
    have hp := List.pairwise_cons.1 h
    unfold lrank
    cases i with
    | zero =>
      simp at hx; subst hx
      have : (a :: r).filter (fun y => Op.bytesLess y.1 a.1) = [] := by
        rw [List.filter_eq_nil_iff]
        intro y hy
        rcases List.mem_cons.1 hy with rfl | hy
        · exact lt_irrefl _
        · exact lt_asymm (hp.1 y hy)
      rw [this]; rfl
    | succ i =>
      simp at hx
      have hlt : Op.bytesLess a.1 x.1 = true := hp.1 x (List.mem_of_getElem? hx)
      rw [List.filter_cons, if_pos hlt, List.length_cons]
      have := ih hp.2 hx
      unfold lrank at this
      omega
structure MI (l : List KV) where
  i : Nat
  h : i ≤ l.length
end Go.Proofs.YtjibchohkeljkaaDoor

/- view: what a view is; New, Look, Get, room, Set, Cut. -/
-- @D
namespace Go.Proofs.YtjibchohkeljkaaDoor
set_option maxRecDepth 20000
open Go.Awp Tr
abbrev Rg := List UInt8 × List UInt8
/-- A view. -/
structure VS where
  base : Tr
  shown : Tr
  writes : Tr
  reads : Tr
  ranges : List Rg
def rgV (r : Rg) : AV := .agg [.str r.1, .str r.2]
abbrev vB (h : Hd) (b s w r : Tr) (n : Nat) : AObj := .box 70 [W b, W s, W w, W r, .sl h n 0 n]
abbrev vR (l : List Rg) : AObj := .arr 119 true 2 (l.map rgV)
/-- What the view's caller has of it. -/
abbrev vH (s : VS) : List AObj := [vB (.o 1) s.base s.shown s.writes s.reads s.ranges.length, vR s.ranges]
abbrev vN (s : VS) : List AObj := [vB (.l 1) s.base s.shown s.writes s.reads s.ranges.length, vR s.ranges]
abbrev vP : TV := .ad (.o 0) 0
def VS.new (t : Tr) : VS := ⟨t, t, .nil, .nil, []⟩
theorem getT_tup (g : Option (List UInt8)) : getT g = .tup [.p (.str (g.getD [])), .p (.bool g.isSome)] := by cases g <;> rfl
theorem vnew_spec (t : Tr) : Con Tryd.prog 16 [W t] [] (.ad (.l 0) 0) [] (vN (VS.new t)) := by
  refine con_of Tryd.func16 rfl (by kernel_rfl) rfl fun F w0 β0 => ?_
  refine K_tell rfl ?_
  refine go ?_
  refine J_recell 0 2 (.p (.cell .nilp)) rfl rfl rep_nil_cell ?_
  refine J_recell 0 3 (.p (.cell .nilp)) rfl rfl rep_nil_cell ?_
  refine J_lazy 0 4 119 (e := 2) rfl rfl rfl (.inl rfl) ?_
  exact J_give hT rfl rfl
theorem vget_spec (s : VS) (k : List UInt8) (hs : s.reads.size + 2 ≤ big40) : Con Tryd.prog 46 [vP, .p (.str k)] (vH s) (getT (s.shown.get k)) (vH { s with reads := s.reads.set k [] }) [] := by
  have c1 := tget_spec k s.shown
  rw [getT_tup] at c1 ⊢
  refine con_of Tryd.func46 rfl (by kernel_rfl) rfl fun F w0 β0 => ?_
  refine K_tell rfl ?_
  refine go ?_
  refine K_op rfl rfl (opr_callP rfl rfl (tset_spec k [] s.reads hs) rfl rfl rfl rfl) rfl ?_
  refine go ?_
  refine K_op rfl rfl (opr_callP rfl rfl (c1) rfl rfl rfl rfl) rfl ?_
  refine go ?_
  exact J_done hT rfl rfl rfl
/-- Whether a key may be written. -/
def VS.room (s : VS) (k : List UInt8) : Bool := (s.writes.get k).isSome || decide (s.writes.size < 48)
theorem vroom_spec (s : VS) (k : List UInt8) : Con Tryd.prog 63 [vP, .p (.str k)] (vH s) (.p (.bool (s.room k))) (vH s) [] := by
  have c1 := tget_spec k s.writes
  rw [getT_tup] at c1
  have e : s.room k = ((s.writes.get k).isSome || decide ((s.writes.size : Int) < 48)) := by
    unfold VS.room; congr 1; exact decide_eq_decide.2 (by omega)
  rw [e]
  refine con_of Tryd.func63 rfl (by kernel_rfl) rfl fun F w0 β0 => ?_
  refine K_tell rfl ?_
  refine go ?_
  refine K_op rfl rfl (opr_callP rfl rfl (c1) rfl rfl rfl rfl) rfl ?_
  refine go ?_
  refine K_opt rfl rfl rfl need1 (fun _ => opr_callP rfl rfl (tlen_spec s.writes) rfl rfl rfl rfl) rfl ?_
  refine go ?_
  exact J_done hT rfl rfl rfl
def VS.set (s : VS) (k v : List UInt8) : VS := { s with writes := s.writes.set k (61 :: v), shown := s.shown.set k v }
theorem vset_spec (s : VS) (k v : List UInt8) (hw : s.writes.size + 2 ≤ big40) (hs : s.shown.size + 2 ≤ big40) (hv : v.length ≤ 140737488355328) : Con Tryd.prog 39 [vP, .p (.str k), .p (.str v)] (vH s) (.p (.bool (s.room k))) (vH (if s.room k = true then s.set k v else s)) [] := by
  have c1 := vroom_spec s k
  generalize s.room k = b at c1
  cases b with
  | false =>
    refine con_of Tryd.func39 rfl (by kernel_rfl) rfl fun F w0 β0 => ?_
    refine K_tell rfl ?_
    refine go ?_
    refine K_op rfl rfl (opr_callS [.o 0, .o 1] rfl rfl (c1) rfl rfl rfl ⟨⟨rfl, rfl⟩, ⟨rfl, rfl⟩, trivial⟩ rfl rfl rfl rfl) rfl ?_
    refine go ?_
    exact J_done hT rfl rfl rfl
  | true =>
    refine con_of Tryd.func39 rfl (by kernel_rfl) rfl fun F w0 β0 => ?_
    refine K_tell rfl ?_
    refine go ?_
    refine K_op rfl rfl (opr_callS [.o 0, .o 1] rfl rfl (c1) rfl rfl rfl ⟨⟨rfl, rfl⟩, ⟨rfl, rfl⟩, trivial⟩ rfl rfl rfl rfl) rfl ?_
    refine go ?_
    refine K_op rfl rfl (opr_cat rfl rfl rfl (by simp; omega)) rfl ?_
    refine go ?_
    refine K_op rfl rfl (opr_callP rfl rfl (tset_spec k (61 :: v) s.writes hw) rfl rfl rfl rfl) rfl ?_
    refine go ?_
    refine K_op rfl rfl (opr_callP rfl rfl (tset_spec k v s.shown hs) rfl rfl rfl rfl) rfl ?_
    refine go ?_
    exact J_done hT rfl rfl rfl
def VS.cut (s : VS) (k : List UInt8) : VS := { s with writes := if (s.base.get k).isSome = true then s.writes.set k [] else s.writes.cut k, shown := s.shown.cut k }
theorem vcut_spec (s : VS) (k : List UInt8) (hw : s.writes.size + 2 ≤ big40) (hs : s.shown.size + 2 ≤ big40) : Con Tryd.prog 48 [vP, .p (.str k)] (vH s) (.p (.bool (s.room k))) (vH (if s.room k = true then s.cut k else s)) [] := by
  have c1 := vroom_spec s k
  have c2 := tget_spec k s.base
  rw [getT_tup] at c2
  unfold VS.cut
  generalize (s.base.get k).getD [] = g0 at c2
  generalize (s.base.get k).isSome = g at c2
  generalize s.room k = b at c1
  cases b with
  | false =>
    refine con_of Tryd.func48 rfl (by kernel_rfl) rfl fun F w0 β0 => ?_
    refine K_tell rfl ?_
    refine go ?_
    refine K_op rfl rfl (opr_callS [.o 0, .o 1] rfl rfl (c1) rfl rfl rfl ⟨⟨rfl, rfl⟩, ⟨rfl, rfl⟩, trivial⟩ rfl rfl rfl rfl) rfl ?_
    refine go ?_
    exact J_done hT rfl rfl rfl
  | true =>
    refine con_of Tryd.func48 rfl (by kernel_rfl) rfl fun F w0 β0 => ?_
    refine K_tell rfl ?_
    refine go ?_
    refine K_op rfl rfl (opr_callS [.o 0, .o 1] rfl rfl (c1) rfl rfl rfl ⟨⟨rfl, rfl⟩, ⟨rfl, rfl⟩, trivial⟩ rfl rfl rfl rfl) rfl ?_
    refine go ?_
    refine K_op rfl rfl (opr_callP rfl rfl (c2) rfl rfl rfl rfl) rfl ?_
    refine go ?_
    cases g with
    | true =>
      refine go ?_
      refine K_op rfl rfl (opr_callP rfl rfl (tset_spec k [] s.writes hw) rfl rfl rfl rfl) rfl ?_
      refine go ?_
      refine K_op rfl rfl (opr_callP rfl rfl (tcut_spec s.shown k hs) rfl rfl rfl rfl) rfl ?_
      refine go ?_
      exact J_done hT rfl rfl rfl
    | false =>
      refine go ?_
      refine K_op rfl rfl (opr_callP rfl rfl (tcut_spec s.writes k hw) rfl rfl rfl rfl) rfl ?_
      refine go ?_
      refine K_op rfl rfl (opr_callP rfl rfl (tcut_spec s.shown k hs) rfl rfl rfl rfl) rfl ?_
      refine go ?_
      exact J_done hT rfl rfl rfl
end Go.Proofs.YtjibchohkeljkaaDoor

/- view: ranges: slices.Index, slices.Contains, Range. -/
-- @D
namespace Go.Proofs.YtjibchohkeljkaaDoor
set_option maxRecDepth 20000
open Go.Awp Tr
def idxR : List Rg → Rg → Nat → Int
  | [], _, _ => -1
  | x :: t, r, i => if x = r then (i : Int) else idxR t r (i + 1)
theorem idxR_mem (r : Rg) : ∀ (l : List Rg) (i : Nat), (0 ≤ idxR l r i ↔ r ∈ l) ∧ -1 ≤ idxR l r i
  | [], i => by simp [idxR]
  | x :: t, i => by
    have := idxR_mem r t (i + 1)
    unfold idxR
    split
    · rename_i e
      exact ⟨by simp [e], by omega⟩
    · rename_i e
      refine ⟨?_, this.2⟩
      rw [this.1, List.mem_cons]
      exact ⟨.inr, fun h => h.resolve_left fun h => e h.symm⟩
structure IxR (l : List Rg) (r : Rg) where
  i : Nat
  h : i ≤ l.length
  e : idxR (l.drop i) r i = idxR l r 0
theorem rg_eq (r x : Rg) : (decide (r.1 = x.1) && (decide (r.2 = x.2) && true)) = decide (x = r) := by
  by_cases h : x = r
  · subst h; simp
  · rw [decide_eq_false h]
    have : ¬ (r.1 = x.1 ∧ r.2 = x.2) := fun ⟨h1, h2⟩ => h (Prod.ext h1.symm h2.symm)
    simp only [Bool.and_true, Bool.and_eq_false_iff, decide_eq_false_iff_not]
    exact Decidable.not_and_iff_or_not.1 this
set_option maxHeartbeats 4000000 in
theorem rgIndex_spec (l : List Rg) (r : Rg) (hl : l.length ≤ big40) : Con Tryd.prog 88 [.sl (.o 0) l.length 0 l.length, .p (rgV r)] [vR l] (.p (.int .i64 (idxR l r 0))) [vR l] [] := by
  have hlen : (l.map rgV).length = l.length := by simp
  have hrd : ∀ L, Rd [vR l] L (.sl (.o 0) l.length 0 l.length) (l.map rgV) := fun L => Rd.full rfl hlen
  unfold big40 at hl
  refine con_of Tryd.func88 rfl (by kernel_rfl) rfl fun F w0 β0 => ?_
  refine K_tell rfl ?_
  refine go ?_
  refine K_op rfl rfl (opr_len_rd hT rfl rfl (hrd _)) rfl ?_
  rw [hlen]
  refine go ?_
  refine J_loop (fun q : IxR l r => [(0, .sl (.o 0) l.length 0 l.length), (3, .ad (.l 0) 0), (7, .p (.int .i64 (l.length : Int))), (8, .p (.int .i64 (q.i : Int)))]) (fun _ => [vR l]) (fun _ => [.box 119 [.p (.str r.1), .p (.str r.2)]]) (fun q => l.length - q.i) ⟨0, by omega, rfl⟩ ⟨rfl, rfl, rfl, rfl, trivial⟩ rfl rfl (fun q => ?_)
  have hi := q.h
  have he := q.e
  refine go ?_
  by_cases h : q.i < l.length
  · have hx : l[q.i]? = some l[q.i] := List.getElem?_eq_getElem h
    have hdr : l.drop q.i = l[q.i] :: l.drop (q.i + 1) := List.drop_eq_getElem_cons h
    rw [hdr] at he
    generalize l[q.i] = x at hx he
    have hxk : (l.map rgV)[((q.i : Nat) : Int).toNat]? = some (rgV x) := by rw [Int.toNat_natCast, List.getElem?_map, hx]; rfl
    refine K_condT rfl (decide_eq_true (by omega)) ?_
    refine go ?_
    refine J_draw [_] [] (by kernel_rfl) (by kernel_rfl) rfl ?_
    refine gd ?_
    refine T_opD rfl rfl rfl rfl rfl (opr_index hT rfl rfl rfl rfl rfl (hrd _) (by omega) (by rw [hlen]; omega)) rfl ?_
    refine T_opD rfl rfl rfl rfl rfl (opr_load_el hT rfl rfl (hrd _) hxk rfl rfl) rfl ?_
    refine T_opD rfl rfl rfl rfl rfl (opr_eqAgg hT rfl (by kernel_rfl) rfl rfl rfl rfl rfl) rfl ?_
    refine J_weak [(0, .sl (.o 0) l.length 0 l.length), (3, .ad (.l 0) 0), (5, .p (.int .i64 (q.i : Int))), (7, .p (.int .i64 (l.length : Int))), (8, .p (.int .i64 (q.i : Int))), (16, .p (.bool (decide (x = r))))] ⟨rfl, rfl, rfl, rfl, rfl, (by rw [← rg_eq r x]; rfl), trivial⟩ ?_
    by_cases hk : x = r
    · rw [← he, idxR, if_pos hk]
      refine K_condT rfl (by simp [hk]) ?_
      refine go ?_
      exact J_done hT rfl rfl rfl
    · rw [idxR, if_neg hk] at he
      refine K_condF rfl (by simp [hk]) ?_
      refine go ?_
      refine J_again ⟨q.i + 1, by omega, he⟩ (by show l.length - (q.i + 1) < l.length - q.i; omega) ⟨rfl, rfl, rfl, congrArg (fun z => TV.p (.int .i64 z)) (by rw [IntWalk.i64_in _ (by omega)]; rfl), trivial⟩ rfl rfl
  · rw [List.drop_eq_nil_of_le (by omega), idxR] at he
    rw [← he]
    refine K_condF rfl (decide_eq_false (by omega)) ?_
    refine go ?_
    exact J_done hT rfl rfl rfl
theorem rgContains_spec (l : List Rg) (r : Rg) (hl : l.length ≤ big40) : Con Tryd.prog 75 [.sl (.o 0) l.length 0 l.length, .p (rgV r)] [vR l] (.p (.bool (decide (r ∈ l)))) [vR l] [] := by
  have c1 := rgIndex_spec l r hl
  have e : decide (r ∈ l) = decide (idxR l r 0 ≥ 0) := decide_eq_decide.2 (idxR_mem r l 0).1.symm
  rw [e]
  generalize idxR l r 0 = z at c1
  refine con_of Tryd.func75 rfl (by kernel_rfl) rfl fun F w0 β0 => ?_
  refine K_tell rfl ?_
  refine go ?_
  refine K_op rfl rfl (opr_callS [.o 0] rfl rfl (c1) rfl rfl rfl ⟨⟨rfl, rfl⟩, trivial⟩ rfl rfl rfl rfl) rfl ?_
  refine go ?_
  exact J_done hT rfl rfl rfl
def VS.range (s : VS) (a b : List UInt8) : VS := if Op.bytesLess a b = true then { s with ranges := if (a, b) ∈ s.ranges then s.ranges else s.ranges ++ [(a, b)] } else s
def VS.rangeR (s : VS) (a b : List UInt8) : List KV := if Op.bytesLess a b = true then s.shown.range a b else []
set_option maxHeartbeats 4000000 in
theorem vrange_spec (s : VS) (a b : List UInt8) (hs : s.shown.size ≤ big40) (hr : s.ranges.length ≤ big40) : Con Tryd.prog 50 [vP, .p (.str a), .p (.str b)] (vH s) (accT 0 .nils (kvs (s.rangeR a b))) (vH (s.range a b)) (accL 81 3 (kvs (s.rangeR a b))) := by
  unfold VS.range VS.rangeR
  by_cases hab : Op.bytesLess a b = true
  · rw [if_pos hab, if_pos hab]
    have c1 := rgContains_spec s.ranges (a, b) hr
    have c2 := trange_spec a b s.shown hs
    refine con_of Tryd.func50 rfl (by kernel_rfl) rfl fun F w0 β0 => ?_
    refine K_tell rfl ?_
    refine gx ?_
    rw [hab]
    refine go ?_
    refine J_draw [_] [] (by kernel_rfl) (by kernel_rfl) rfl ?_
    refine gd ?_
    refine T_opD rfl rfl rfl rfl rfl (opr_callS [.o 1] rfl rfl c1 rfl rfl rfl ⟨⟨rfl, rfl⟩, trivial⟩ rfl rfl rfl rfl) rfl ?_
    refine gd ?_
    refine J_weak [(0, vP), (1, .p (.str a)), (2, .p (.str b)), (7, .ad (.l 0) 0), (24, .p (.bool (!(decide ((a, b) ∈ s.ranges)))))] ⟨rfl, rfl, rfl, rfl, rfl, trivial⟩ ?_
    by_cases hm : (a, b) ∈ s.ranges
    · rw [if_pos hm, decide_eq_true hm]
      refine go ?_
      refine J_take 0 [(38, W s.shown), (39, .p (.str a)), (40, .p (.str b))] ⟨rfl, rfl, rfl, trivial⟩ rfl rfl ?_
      refine K_opM rfl rfl (opr_callE rfl rfl c2 rfl rfl (accT_ren 0 0 0 _ _) (accL_ren ..)) rfl ?_
      refine K_opM rfl rfl (opr_mv (accT 0 .nils (kvs (s.shown.range a b))) (.inr rfl) rfl) rfl ?_
      refine go ?_
      exact J_give hT rfl rfl
    · rw [if_neg hm, decide_eq_false hm]
      have e1 : vH { s with ranges := s.ranges ++ [(a, b)] } = [vB (.o 1) s.base s.shown s.writes s.reads (s.ranges.length + 1), .arr 119 true 2 (s.ranges.map rgV ++ [rgV (a, b)])] := by
        simp [vH, vB, vR]
      rw [e1]
      refine go ?_
      refine J_drawH [vH s, [vB (.o 1) s.base s.shown s.writes s.reads s.ranges.length, .arr 119 true 2 (s.ranges.map rgV ++ [rgV (a, b)])], [vB (.o 1) s.base s.shown s.writes s.reads (s.ranges.length + 1), .arr 119 true 2 (s.ranges.map rgV ++ [rgV (a, b)])]]
        [[.box 119 [.p (.str a), .p (.str b)]], [.box 119 [.p (.str a), .p (.str b)]], [.box 119 [.p (.str a), .p (.str b)]]] [7, 10] (by kernel_rfl) (by kernel_rfl) rfl rfl ?_
      refine gdH ?_
      refine T_stH rfl rfl rfl rfl rfl rfl (opr_app_ownH (i := 1) (n := s.ranges.length) (rows0 := s.ranges.map rgV) (rows := [rgV (a, b)]) (Ty := 119) (te := ⟨.array 2 9, 2, 32, [.str [], .str []]⟩) hT rfl rfl rfl rfl (by simp) rfl rfl (.rd (.ps _)) hbs_ps (show clR [rgV (a, b)] from by intro r hr x hx; simp at hr; subst hr; simp [cellsOf, rgV] at hx; rcases hx with rfl | rfl <;> rfl) (show ∀ r ∈ [rgV (a, b)], (cellsOf r).length = 2 from by intro r hr; simp at hr; subst hr; rfl) (by decide) (by show (s.ranges.length + 1) * 32 ≤ _; unfold big40 at hr; omega)) rfl ?_
      refine gdH ?_
      refine J_weak [(0, vP), (1, .p (.str a)), (2, .p (.str b))] ⟨rfl, rfl, rfl, trivial⟩ ?_
      refine go ?_
      refine J_take 0 [(38, W s.shown), (39, .p (.str a)), (40, .p (.str b))] ⟨rfl, rfl, rfl, trivial⟩ rfl rfl ?_
      refine K_opM rfl rfl (opr_callE rfl rfl c2 rfl rfl (accT_ren 0 0 0 _ _) (accL_ren ..)) rfl ?_
      refine K_opM rfl rfl (opr_mv (accT 0 .nils (kvs (s.shown.range a b))) (.inr rfl) rfl) rfl ?_
      refine go ?_
      exact J_give hT rfl rfl
  · rw [if_neg hab, if_neg hab]
    simp only [Bool.not_eq_true] at hab
    refine con_of Tryd.func50 rfl (by kernel_rfl) rfl fun F w0 β0 => ?_
    refine K_tell rfl ?_
    refine gx ?_
    rw [hab]
    refine go ?_
    exact J_done hT rfl rfl rfl
end Go.Proofs.YtjibchohkeljkaaDoor

/- view: slices.Clone, Ranges, Copy, all, Reads. -/
-- @D
namespace Go.Proofs.YtjibchohkeljkaaDoor
set_option maxRecDepth 20000
open Go.Awp Tr
theorem rgV_cl (l : List Rg) : clR (l.map rgV) := by
  intro r hr x hx
  obtain ⟨y, _, rfl⟩ := List.mem_map.1 hr
  simp [cellsOf, rgV] at hx
  rcases hx with rfl | rfl <;> rfl
theorem rgV_size (l : List Rg) : ∀ r ∈ l.map rgV, (cellsOf r).length = 2 := by
  intro r hr
  obtain ⟨y, _, rfl⟩ := List.mem_map.1 hr
  rfl
structure Ix (n : Nat) where
  i : Nat
  h : i ≤ n
theorem map_take1 {α β : Type} (f : α → β) {l : List α} {i : Nat} {x : α} (hx : l[i]? = some x) : (l.take i).map f ++ [f x] = (l.take (i + 1)).map f := by
  obtain ⟨h, rfl⟩ := List.getElem?_eq_some_iff.1 hx
  rw [List.take_succ_eq_append_getElem h, List.map_append]
  rfl
theorem kvs_take {l : List KV} {i : Nat} {x : KV} (hx : l[i]? = some x) : kvs (l.take i) ++ [kvV x] = kvs (l.take (i + 1)) := map_take1 kvV hx
set_option maxHeartbeats 4000000 in
theorem vall_spec (t : Tr) (ht : t.size ≤ big40) : Con Tryd.prog 42 [W t] [] (.sl (.l 0) t.size 0 t.size) [] [.arr 81 true 3 (kvs t.row)] := by
  have hrl := row_len t
  have hat := atZ_row t
  generalize t.row = l at hrl hat
  have ht2 := ht
  unfold big40 at ht2
  refine con_of Tryd.func42 rfl (by kernel_rfl) rfl fun F w0 β0 => ?_
  refine K_tell rfl ?_
  refine go ?_
  refine K_op rfl rfl (opr_callP rfl rfl (tlen_spec t) rfl rfl rfl rfl) rfl ?_
  refine go ?_
  refine J_lazyE 3 81 (e := 3) rfl rfl (.inl rfl) ?_
  refine J_loop (fun q : Ix t.size => [(0, W t), (3, .sl (.l 0) q.i 0 q.i), (8, .p (.int .i64 (t.size : Int))), (9, .p (.int .i64 (q.i : Int)))]) (fun _ => []) (fun q => [.arr 81 true 3 (kvs (l.take q.i))]) (fun q => t.size - q.i) ⟨0, by omega⟩ ⟨rfl, rfl, rfl, rfl, trivial⟩ rfl rfl (fun q => ?_)
  have hi := q.h
  have hlt : (kvs (l.take q.i)).length = q.i := by simp; omega
  refine go ?_
  by_cases h : q.i < t.size
  · have hx : l[q.i]? = some (l[q.i]'(by omega)) := List.getElem?_eq_getElem _
    generalize l[q.i]'(by omega) = x at hx
    have a1 : atZ t (q.i : Int) = some x := by rw [hat, if_neg (by omega), Int.toNat_natCast, hx]
    have d1 := tat_spec t (q.i : Int) ht (by omega)
    rw [a1] at d1
    refine K_condT rfl (decide_eq_true (by omega)) ?_
    refine go ?_
    refine K_op rfl rfl (opr_callP rfl rfl (d1) rfl rfl rfl rfl) rfl ?_
    refine go ?_
    refine K_op rfl rfl (opr_app_own hT rfl rfl rfl rfl hlt rfl rfl (.rd (.ps _)) hbs_ps (kvs_cl [x]) (kvs_size [x]) (by decide) (by show (q.i + 1) * 40 ≤ _; omega)) rfl ?_
    refine go ?_
    refine J_take 1 [(0, W t), (3, .sl (.l 0) (q.i + 1) 0 (q.i + 1)), (8, .p (.int .i64 (t.size : Int))), (9, .p (.int .i64 (IntKind.i64.wrap ((q.i : Int) + 1))))] ⟨rfl, rfl, rfl, rfl, trivial⟩ rfl rfl ?_
    refine J_again ⟨q.i + 1, by omega⟩ (by show t.size - (q.i + 1) < t.size - q.i; omega) ⟨rfl, rfl, rfl, congrArg (fun z => TV.p (.int .i64 z)) (by rw [IntWalk.i64_in _ (by omega)]; rfl), trivial⟩ rfl (by show [AObj.arr _ _ _ _] = [AObj.arr _ _ _ _]; rw [← kvs_take hx]; rfl)
  have e : q.i = t.size := by omega
  rw [e, ← hrl, List.take_length, hrl]
  refine K_condF rfl (decide_eq_false (by omega)) ?_
  refine go ?_
  exact J_give hT rfl rfl
def ksV (l : List KV) : List AV := l.map fun x => .str x.1
theorem ks_cl (l : List KV) : clR (ksV l) := by
  intro r hr x hx
  obtain ⟨y, _, rfl⟩ := List.mem_map.1 hr
  simp [cellsOf] at hx
  subst hx; rfl
theorem ks_size (l : List KV) : ∀ r ∈ ksV l, (cellsOf r).length = 1 := by
  intro r hr
  obtain ⟨y, _, rfl⟩ := List.mem_map.1 hr
  rfl
theorem ks_take {l : List KV} {i : Nat} {x : KV} (hx : l[i]? = some x) : ksV (l.take i) ++ [.str x.1] = ksV (l.take (i + 1)) := map_take1 (fun y : KV => AV.str y.1) hx
set_option maxHeartbeats 4000000 in
theorem vreads_spec (s : VS) (hr : s.reads.size ≤ big40) : Con Tryd.prog 21 [vP] (vH s) (.sl (.l 0) s.reads.size 0 s.reads.size) (vH s) [.arr 9 true 1 (ksV s.reads.row)] := by
  have hrl := row_len s.reads
  have c1 := vall_spec s.reads hr
  generalize s.reads.row = l at hrl c1
  have hlk : (kvs l).length = s.reads.size := by simpa using hrl
  unfold big40 at hr
  refine con_of Tryd.func21 rfl (by kernel_rfl) rfl fun F w0 β0 => ?_
  refine K_tell rfl ?_
  refine go ?_
  refine J_lazyE 3 9 (e := 1) rfl rfl (.inl rfl) ?_
  refine K_op rfl rfl (opr_callP rfl rfl (c1) rfl rfl rfl rfl) rfl ?_
  have hrd : ∀ o M, Rd (vH s) (o :: .arr 81 true 3 (kvs l) :: M) (.sl (.l 1) s.reads.size 0 s.reads.size) (kvs l) := fun o M => Rd.full rfl hlk
  refine K_op rfl rfl (opr_len_rd hT rfl rfl (hrd _ _)) rfl ?_
  rw [hlk]
  refine go ?_
  refine J_loop (fun q : Ix s.reads.size => [(0, vP), (3, .sl (.l 0) q.i 0 q.i), (13, .sl (.l 1) s.reads.size 0 s.reads.size), (14, .p (.int .i64 (s.reads.size : Int))), (15, .p (.int .i64 (q.i : Int)))]) (fun _ => vH s) (fun q => [.arr 9 true 1 (ksV (l.take q.i)), .arr 81 true 3 (kvs l)]) (fun q => s.reads.size - q.i) ⟨0, by omega⟩ ⟨rfl, rfl, rfl, rfl, rfl, trivial⟩ rfl rfl (fun q => ?_)
  have hi := q.h
  have hlt : (ksV (l.take q.i)).length = q.i := by simp [ksV]; omega
  refine go ?_
  by_cases h : q.i < s.reads.size
  · have hx : l[q.i]? = some (l[q.i]'(by omega)) := List.getElem?_eq_getElem _
    generalize l[q.i]'(by omega) = x at hx
    have hxk : (kvs l)[((q.i : Nat) : Int).toNat]? = some (kvV x) := kvs_get hx
    refine K_condT rfl (decide_eq_true (by omega)) ?_
    refine go ?_
    refine K_op rfl rfl (opr_index hT rfl rfl rfl rfl rfl (hrd _ _) (by omega) (by rw [hlk]; omega)) rfl ?_
    refine go ?_
    refine K_op rfl rfl (opr_load_el hT rfl rfl (hrd _ _) hxk rfl rfl) rfl ?_
    refine go ?_
    refine K_op rfl rfl (opr_app_own hT rfl rfl rfl rfl hlt rfl rfl (.rd (.ps _)) hbs_ps (ks_cl [x]) (ks_size [x]) (by decide) (by show (q.i + 1) * 16 ≤ _; omega)) rfl ?_
    refine go ?_
    refine J_take 2 [(0, vP), (3, .sl (.l 0) (q.i + 1) 0 (q.i + 1)), (13, .sl (.l 1) s.reads.size 0 s.reads.size), (14, .p (.int .i64 (s.reads.size : Int))), (15, .p (.int .i64 (IntKind.i64.wrap ((q.i : Int) + 1))))] ⟨rfl, rfl, rfl, rfl, rfl, trivial⟩ rfl rfl ?_
    refine J_again ⟨q.i + 1, by omega⟩ (by show s.reads.size - (q.i + 1) < s.reads.size - q.i; omega) ⟨rfl, rfl, rfl, rfl, congrArg (fun z => TV.p (.int .i64 z)) (by rw [IntWalk.i64_in _ (by omega)]; rfl), trivial⟩ rfl (by show [AObj.arr _ _ _ _, _] = [AObj.arr _ _ _ _, _]; rw [← ks_take hx]; rfl)
  have e : q.i = s.reads.size := by omega
  rw [e, ← hrl, List.take_length, hrl]
  refine K_condF rfl (decide_eq_false (by omega)) ?_
  refine J_take 1 [(3, .sl (.l 0) s.reads.size 0 s.reads.size)] ⟨rfl, trivial⟩ rfl rfl ?_
  refine go ?_
  exact J_give hT rfl rfl
end Go.Proofs.YtjibchohkeljkaaDoor

/- view: Writes. -/
-- @D
namespace Go.Proofs.YtjibchohkeljkaaDoor
set_option maxRecDepth 20000
open Go.Awp Tr
/-- A write, as it is told: the value stands behind a mark; without one the key is gone. -/
def wr (x : KV) : PW := (x.1, x.2.drop 1, x.2 == [])
theorem set_mid {α : Type} (A : List α) (x y : α) (B : List α) (i : Nat) (h : A.length = i) : (A ++ x :: B).set (0 + i) y = A ++ y :: B := by
  subst h
  rw [Nat.zero_add, List.set_append_right _ _ (Nat.le_refl _), Nat.sub_self]
  rfl
theorem get_mid {α : Type} (A : List α) (x : α) (B : List α) (i : Nat) (h : A.length = i) : (A ++ x :: B)[i]? = some x := by
  subst h
  rw [List.getElem?_append_right (Nat.le_refl _), Nat.sub_self]
  rfl
/-- So far as they are told. -/
def wrS (l : List KV) (i : Nat) : List AV := (l.take i).map (fun x => pwV (wr x)) ++ (l.drop i).map kvV
end Go.Proofs.YtjibchohkeljkaaDoor

/- The laws of layer 14: fixed. -/
-- @D
namespace Go.Proofs.YtjibchohkeljkaaDoor
set_option maxRecDepth 20000
open Go.Awp Tr
end Go.Proofs.YtjibchohkeljkaaDoor

/- Rows as they are read; how far a row is gone through. -/
-- @D
namespace Go.Proofs.YtjibchohkeljkaaDoor
set_option maxRecDepth 20000
open Go.Awp
/-- A slice that stays, of rows. -/
inductive Sl {α : Type} (mk : α → AV) : AV → List α → Prop
  | nils : Sl mk .nils []
  | ps (l : List α) : Sl mk (.ps (l.map mk)) l
theorem Sl.rd {α : Type} {mk : α → AV} {s : AV} {l : List α} (h : Sl mk s l) (H L : List AObj) : Rd H L (.p s) (l.map mk) := by
  cases h with
  | nils => exact .nils
  | ps => exact .ps _
theorem shp_agg {α : Type} (mk : α → AV) (ok : α → Prop) {t e : Nat} {te : TyI} {ls : List Nat} {a : AV} (h : Shp tab 8 t a) (ht : tyD tab t = .slice e) (hte : tlk tab e = some te) (hls : leaves tab 7 e = some ls) (hag : isAggD te.d = some true) (hb : 0 < te.bytes)
    (hrow : ∀ cs, All2 (Shp tab 7) ls cs → ∃ x, AV.agg cs = mk x ∧ ok x) : ∃ l, Sl mk a l ∧ (∀ x ∈ l, ok x) ∧ l.length ≤ 140737488355328 := by
  rcases h.slice ht with rfl | ⟨rows, te', ls', rfl, hte', hls', hlen, hrows⟩
  · exact ⟨[], .nils, by simp, by simp⟩
  · rw [hte] at hte'
    obtain rfl := Option.some.inj hte'
    rw [hls] at hls'
    obtain rfl := Option.some.inj hls'
    have key : ∀ rows : List AV, (∀ r ∈ rows, All2 (Shp tab 7) ls (cellsOf r) ∧ (∀ y, isAggD te.d = some false → cellsOf r = [y] → r = y) ∧ (isAggD te.d = some true → ∃ cs, r = .agg cs)) → ∃ l : List α, rows = l.map mk ∧ ∀ x ∈ l, ok x := by
      intro rows
      induction rows with
      | nil => intro _; exact ⟨[], rfl, by simp⟩
      | cons r rs ih =>
        intro hr
        obtain ⟨l, hl, hok⟩ := ih fun r' h' => hr r' (by simp [h'])
        obtain ⟨h1, _, h2⟩ := hr r (by simp)
        obtain ⟨cs, rfl⟩ := h2 hag
        obtain ⟨x, hx, hxo⟩ := hrow cs h1
        refine ⟨x :: l, by rw [hl, hx]; rfl, fun o ho => ?_⟩
        rcases List.mem_cons.1 ho with rfl | ho
        · exact hxo
        · exact hok o ho
    obtain ⟨l, rfl, hok⟩ := key rows hrows
    refine ⟨l, .ps l, hok, ?_⟩
    unfold Go.Awp.reach at hlen
    have := Nat.le_mul_of_pos_right (l.map mk).length hb
    simp only [List.length_map] at hlen this
    omega
theorem shp_one {α : Type} (mk : α → AV) (ok : α → Prop) {t e : Nat} {te : TyI} {a : AV} (h : Shp tab 8 t a) (ht : tyD tab t = .slice e) (hte : tlk tab e = some te) (hls : leaves tab 7 e = some [e]) (hag : isAggD te.d = some false) (hb : 0 < te.bytes)
    (hrow : ∀ y, Shp tab 7 e y → ∃ x, y = mk x ∧ ok x) : ∃ l, Sl mk a l ∧ (∀ x ∈ l, ok x) ∧ l.length ≤ 140737488355328 := by
  rcases h.slice ht with rfl | ⟨rows, te', ls', rfl, hte', hls', hlen, hrows⟩
  · exact ⟨[], .nils, by simp, by simp⟩
  · rw [hte] at hte'
    obtain rfl := Option.some.inj hte'
    rw [hls] at hls'
    obtain rfl := Option.some.inj hls'
    have key : ∀ rows : List AV, (∀ r ∈ rows, All2 (Shp tab 7) [e] (cellsOf r) ∧ (∀ y, isAggD te.d = some false → cellsOf r = [y] → r = y) ∧ (isAggD te.d = some true → ∃ cs, r = .agg cs)) → ∃ l : List α, rows = l.map mk ∧ ∀ x ∈ l, ok x := by
      intro rows
      induction rows with
      | nil => intro _; exact ⟨[], rfl, by simp⟩
      | cons r rs ih =>
        intro hr
        obtain ⟨l, hl, hok⟩ := ih fun r' h' => hr r' (by simp [h'])
        obtain ⟨h1, h2, _⟩ := hr r (by simp)
        generalize hT7 : Shp tab 7 = S at h1 hrow
        obtain ⟨y, hy, hys⟩ : ∃ y, cellsOf r = [y] ∧ S e y := by
          match cellsOf r, h1 with
          | [y], h1 => exact ⟨y, rfl, h1.1⟩
        obtain rfl := h2 y hag hy
        obtain ⟨x, hx, hxo⟩ := hrow _ hys
        refine ⟨x :: l, by rw [hl, hx]; rfl, fun o ho => ?_⟩
        rcases List.mem_cons.1 ho with rfl | ho
        · exact hxo
        · exact hok o ho
    obtain ⟨l, rfl, hok⟩ := key rows hrows
    refine ⟨l, .ps l, hok, ?_⟩
    unfold Go.Awp.reach at hlen
    have := Nat.le_mul_of_pos_right (l.map mk).length hb
    simp only [List.length_map] at hlen this
    omega
theorem all2_3 {R : Nat → AV → Prop} {a b c : Nat} {cs : List AV} (h : All2 R [a, b, c] cs) : ∃ x y z, cs = [x, y, z] ∧ R a x ∧ R b y ∧ R c z := by
  match cs, h with
  | [x, y, z], h => exact ⟨x, y, z, rfl, h.1, h.2.1, h.2.2.1⟩
theorem all2_2 {R : Nat → AV → Prop} {a b : Nat} {cs : List AV} (h : All2 R [a, b] cs) : ∃ x y, cs = [x, y] ∧ R a x ∧ R b y := by
  match cs, h with
  | [x, y], h => exact ⟨x, y, rfl, h.1, h.2.1⟩
/-! ### How far a row is gone through -/
section
variable {α : Type} (stop : Nat → α → Bool)
def cutG : List α → Nat → Nat
  | [], i => i
  | o :: r, i => if stop i o = true then i else cutG r (i + 1)
theorem cutG_step {l : List α} {i : Nat} {o : α} (h : l[i]? = some o) : cutG stop (l.drop i) i = if stop i o = true then i else cutG stop (l.drop (i + 1)) (i + 1) := by
  obtain ⟨h2, rfl⟩ := List.getElem?_eq_some_iff.1 h
  rw [List.drop_eq_getElem_cons h2]
  rfl
theorem cutG_end {l : List α} {i : Nat} (h : l.length ≤ i) : cutG stop (l.drop i) i = i := by
  rw [List.drop_eq_nil_of_le h]; rfl
theorem cutG_le : ∀ (l : List α) (i : Nat), cutG stop l i ≤ i + l.length
  | [], i => by simp [cutG]
  | o :: r, i => by
    have := cutG_le r (i + 1)
    unfold cutG
    split
    · simp
    · simp only [List.length_cons]; omega
theorem cutG_max {n : Nat} (hn : ∀ i o, n ≤ i → stop i o = true) : ∀ (l : List α) (i : Nat), i ≤ n → cutG stop l i ≤ n
  | [], _, h => h
  | o :: r, i, h => by
    unfold cutG
    split
    · exact h
    · rename_i hs
      refine cutG_max hn r (i + 1) ?_
      rcases Nat.lt_or_ge i n with h1 | h1
      · omega
      · exact absurd (hn i o h1) hs
theorem cutG_all : ∀ (l : List α) (i : Nat), ∀ x ∈ l.take (cutG stop l i - i), ∃ j, stop j x = false
  | [], i, x, h => by simp [cutG] at h
  | o :: r, i, x, h => by
    unfold cutG at h
    split at h
    · simp at h
    · rename_i hs
      have hle : i + 1 ≤ cutG stop r (i + 1) := by
        have : ∀ (l : List α) (i : Nat), i ≤ cutG stop l i := by
          intro l
          induction l with
          | nil => intro i; exact Nat.le_refl _
          | cons a l ih =>
            intro i
            unfold cutG
            split
            · exact Nat.le_refl _
            · have := ih (i + 1); omega
        exact this r (i + 1)
      rw [show cutG stop r (i + 1) - i = (cutG stop r (i + 1) - (i + 1)) + 1 by omega, List.take_succ_cons, List.mem_cons] at h
      rcases h with rfl | h
      · exact ⟨i, by simpa using hs⟩
      · exact cutG_all r (i + 1) x h
structure CG (l : List α) where
  i : Nat
  h : i ≤ l.length
  e : cutG stop (l.drop i) i = cutG stop l 0
end
end Go.Proofs.YtjibchohkeljkaaDoor

/- The laws of layer 14: what is read, cut, Base. -/
-- @D
namespace Go.Proofs.YtjibchohkeljkaaDoor
set_option maxRecDepth 20000
open Go.Awp Tr
theorem strs_shp {a : AV} (h : Shp tab 8 22 a) : ∃ l : List (List UInt8), Sl .str a l ∧ (∀ x ∈ l, x.length ≤ Go.Awp.reach) ∧ l.length ≤ 140737488355328 :=
  shp_one .str _ h rfl rfl rfl rfl (by decide) fun y hy => by
    obtain ⟨l, rfl, hl⟩ := hy.str rfl
    exact ⟨l, rfl, hl⟩
theorem rgs_shp {a : AV} (h : Shp tab 8 68 a) : ∃ l : List Rg, Sl rgV a l ∧ (∀ x ∈ l, x.1.length ≤ Go.Awp.reach ∧ x.2.length ≤ Go.Awp.reach) ∧ l.length ≤ 140737488355328 :=
  shp_agg rgV _ h rfl rfl rfl rfl (by decide) fun cs hc => by
    obtain ⟨x, y, rfl, hx, hy⟩ := all2_2 hc
    obtain ⟨k, rfl, hk⟩ := hx.str rfl
    obtain ⟨v, rfl, hv⟩ := hy.str rfl
    exact ⟨(k, v), rfl, hk, hv⟩
/-- An operation of a view. -/
structure VOp where
  kind : Int
  key : List UInt8
  val : List UInt8
def vopV (o : VOp) : AV := .agg [.int .i64 o.kind, .str o.key, .str o.val]
def stop14 (i : Nat) (o : VOp) : Bool := decide (200 ≤ i) || (decide (100 < o.key.length) || decide (100 < o.val.length))
theorem stop14_eq (i : Nat) (o : VOp) : (decide ((i : Int) ≥ 200) || decide ((o.key.length : Int) > 100) || decide ((o.val.length : Int) > 100)) = stop14 i o := by
  unfold stop14
  rw [Bool.or_assoc]
  congr 1
  · exact decide_eq_decide.2 (by omega)
  · congr 1 <;> exact decide_eq_decide.2 (by omega)
/-! ### Base -/
def stopB (i : Nat) (o : Rg) : Bool := decide (60 ≤ i) || (decide (100 < o.1.length) || decide (100 < o.2.length))
theorem stopB_eq (i : Nat) (o : Rg) : (decide ((i : Int) ≥ 60) || decide ((o.1.length : Int) > 100) || decide ((o.2.length : Int) > 100)) = stopB i o := by
  unfold stopB
  rw [Bool.or_assoc]
  congr 1
  · exact decide_eq_decide.2 (by omega)
  · congr 1 <;> exact decide_eq_decide.2 (by omega)
def putB (t : Tr) (r : Rg) : Tr := t.set r.1 r.2
def baseT (l : List Rg) : Tr := (l.take (cutG stopB l 0)).foldl putB .nil
theorem putB_ok (l : List Rg) : ∀ t : Tr, Rises t.row → Rises (l.foldl putB t).row ∧ (l.foldl putB t).size ≤ t.size + l.length := by
  induction l with
  | nil => intro t h; exact ⟨h, Nat.le_refl _⟩
  | cons r l ih =>
    intro t h
    have h2 : Rises (putB t r).row := by unfold putB; rw [set_row _ _ _ h]; exact lset_rises h
    obtain ⟨a, b⟩ := ih _ h2
    have := set_size r.1 r.2 t
    refine ⟨a, ?_⟩
    rw [List.foldl_cons, List.length_cons]
    unfold putB at b ⊢
    omega
theorem baseT_ok (l : List Rg) : Rises (baseT l).row ∧ (baseT l).size ≤ 60 := by
  have := putB_ok (l.take (cutG stopB l 0)) .nil (by simp [row, Rises])
  have h2 := cutG_max stopB (n := 60) (fun i o h => by unfold stopB; rw [decide_eq_true h]; rfl) l 0 (by omega)
  refine ⟨this.1, Nat.le_trans this.2 ?_⟩
  simp [Tr.size]; omega
end Go.Proofs.YtjibchohkeljkaaDoor

/- Trees: how low they are, whatever is made of them. -/
namespace Go.Proofs.YtjibchohkeljkaaDoor
set_option maxRecDepth 20000
open Go.Awp
theorem lset_mem_iff {k v : List UInt8} : ∀ {l : List KV}, Rises l → ∀ y : KV, y ∈ lset k v l ↔ y = (k, v) ∨ (y ∈ l ∧ y.1 ≠ k)
  | [], _, y => by simp [lset]
  | x :: r, h, y => by
    have hr := List.pairwise_cons.1 h
    unfold lset
    split
    · rename_i hlt
      simp only [List.mem_cons]
      constructor
      · rintro (h1 | h1 | h1)
        · exact .inl h1
        · exact .inr ⟨.inl h1, by rw [h1]; exact fun e => lt_ne hlt e.symm⟩
        · exact .inr ⟨.inr h1, fun e => lt_ne (lt_trans hlt (hr.1 y h1)) e.symm⟩
      · rintro (h1 | ⟨h1 | h1, _⟩)
        · exact .inl h1
        · exact .inr (.inl h1)
        · exact .inr (.inr h1)
    · split
      · rename_i he
        simp only [List.mem_cons]
        constructor
        · rintro (h1 | h1)
          · exact .inl h1
          · exact .inr ⟨.inr h1, fun e => lt_ne (hr.1 y h1) (by rw [e, he])⟩
        · rintro (h1 | ⟨h1 | h1, h2⟩)
          · exact .inl h1
          · exact absurd (by rw [h1, he]) h2
          · exact .inr h1
      · rename_i he
        simp only [List.mem_cons, lset_mem_iff hr.2 y]
        constructor
        · rintro (h1 | h1 | ⟨h1, h2⟩)
          · exact .inr ⟨.inl h1, by rw [h1]; exact fun e => he e.symm⟩
          · exact .inl h1
          · exact .inr ⟨.inr h1, h2⟩
        · rintro (h1 | ⟨h1 | h1, h2⟩)
          · exact .inr (.inl h1)
          · exact .inl h1
          · exact .inr (.inr ⟨h1, h2⟩)
theorem rises_ext : ∀ {l m : List KV}, Rises l → Rises m → (∀ x, x ∈ l ↔ x ∈ m) → l = m
  | [], [], _, _, _ => rfl
  | [], b :: m, _, _, h => by simpa using (h b).2 (by simp)
  | a :: l, [], _, _, h => by simpa using (h a).1 (by simp)
  | a :: l, b :: m, hl, hm, h => by
    have h1 := List.pairwise_cons.1 hl
    have h2 := List.pairwise_cons.1 hm
    have e : a = b := by
      rcases List.mem_cons.1 ((h a).1 (by simp)) with e | ha
      · exact e
      · rcases List.mem_cons.1 ((h b).2 (by simp)) with e | hb
        · exact e.symm
        · exact absurd (h2.1 a ha) (lt_asymm (h1.1 b hb))
    subst e
    rw [rises_ext h1.2 h2.2 fun x => ?_]
    constructor
    · intro hx
      rcases List.mem_cons.1 ((h x).1 (by simp [hx])) with e | hx2
      · subst e; exact absurd (h1.1 x hx) (lt_irrefl _)
      · exact hx2
    · intro hx
      rcases List.mem_cons.1 ((h x).2 (by simp [hx])) with e | hx2
      · subst e; exact absurd (h2.1 x hx) (lt_irrefl _)
      · exact hx2
namespace Tr
/-- Nowhere do the sides' heights differ by more than one. -/
def Bal : Tr → Prop
  | nil => True
  | node _ _ l r => Bal l ∧ Bal r ∧ l.high ≤ r.high + 1 ∧ r.high ≤ l.high + 1
theorem mul_both {p a b : Nat} (h : p ≤ a * a) (k : p ≤ b * b) : p ≤ a * b := by
  rcases Nat.le_total a b with e | e
  · exact Nat.le_trans h (Nat.mul_le_mul_left a e)
  · exact Nat.le_trans k (Nat.mul_le_mul_right b e)
theorem pow_step {a b h : Nat} (ha : 2 ^ h ≤ a * a) (hb : 2 ^ (h - 1) ≤ b * b) (a1 : 1 ≤ a) (b1 : 1 ≤ b) : 2 ^ (1 + h) ≤ (a + b) * (a + b) := by
  have e : (a + b) * (a + b) = a * a + 2 * (a * b) + b * b := by rw [Nat.add_mul, Nat.mul_add, Nat.mul_add, Nat.mul_comm b a]; omega
  rw [e]
  cases h with
  | zero =>
    have := Nat.mul_le_mul a1 a1
    have := Nat.mul_le_mul a1 b1
    have := Nat.mul_le_mul b1 b1
    omega
  | succ h =>
    rw [Nat.add_sub_cancel] at hb
    rw [show 1 + (h + 1) = h + 1 + 1 by omega, Nat.pow_succ, Nat.pow_succ] at *
    have := mul_both (p := 2 ^ h) (a := a) (b := b) (by omega) hb
    omega
theorem bal_pow : ∀ (t : Tr), Bal t → 2 ^ t.high ≤ (t.size + 1) * (t.size + 1)
  | nil, _ => by simp [high, size]
  | node _ _ l r, ⟨h1, h2, h3, h4⟩ => by
    have a := bal_pow l h1
    have b := bal_pow r h2
    rcases Nat.le_total r.high l.high with e | e
    · have := pow_step (h := l.high) a (Nat.le_trans (Nat.pow_le_pow_right (by omega) (by omega)) b) (by omega) (by omega)
      simp only [high, size]
      rw [show max l.high r.high = l.high by omega, show 1 + l.size + r.size + 1 = l.size + 1 + (r.size + 1) by omega]
      exact this
    · have := pow_step (h := r.high) b (Nat.le_trans (Nat.pow_le_pow_right (by omega) (by omega)) a) (by omega) (by omega)
      simp only [high, size]
      rw [show max l.high r.high = r.high by omega, show 1 + l.size + r.size + 1 = r.size + 1 + (l.size + 1) by omega]
      exact this
theorem bal_log {t : Tr} (h : Bal t) : t.high ≤ ((t.size + 1) * (t.size + 1)).log2 := by
  have h0 : (t.size + 1) * (t.size + 1) ≠ 0 := by have := Nat.mul_pos (show 0 < t.size + 1 by omega) (show 0 < t.size + 1 by omega); omega
  exact (Nat.le_log2 h0).2 (bal_pow t h)
theorem join_bal {k v : List UInt8} {l r : Tr} (hl : Bal l) (hr : Bal r) (h1 : l.high ≤ r.high + 2) (h2 : r.high ≤ l.high + 2) :
    Bal (join k v l r) ∧ max l.high r.high ≤ (join k v l r).high ∧ (join k v l r).high ≤ max l.high r.high + 1 ∧ (l.high ≤ r.high + 1 → r.high ≤ l.high + 1 → (join k v l r).high = 1 + max l.high r.high) := by
  unfold join
  by_cases c1 : (node k v l r).lean > 1
  · rw [if_pos c1]
    cases l with
    | nil => simp only [lean, high] at c1; omega
    | node k2 v2 a b =>
      obtain ⟨p1, p2, p3, p4⟩ := hl
      by_cases c2 : (node k2 v2 a b).lean < 0
      · rw [if_pos c2]
        cases b with
        | nil => simp only [lean, high] at c2; omega
        | node k3 v3 b1 b2 =>
          obtain ⟨q1, q2, q3, q4⟩ := p2
          simp only [lean, high] at c1 c2 h1 h2 p3 p4
          simp only [rotL, rotR, Bal, high]
          and_intros <;> first | assumption | trivial | omega | (intros; trivial) | (intros; omega)
      · rw [if_neg c2]
        simp only [lean, high] at c1 c2 h1 h2 p3 p4
        simp only [rotR, Bal, high]
        and_intros <;> first | assumption | trivial | omega | (intros; trivial) | (intros; omega)
  · rw [if_neg c1]
    by_cases c3 : (node k v l r).lean < -1
    · rw [if_pos c3]
      cases r with
      | nil => simp only [lean, high] at c3; omega
      | node k2 v2 a b =>
        obtain ⟨p1, p2, p3, p4⟩ := hr
        by_cases c2 : (node k2 v2 a b).lean > 0
        · rw [if_pos c2]
          cases a with
          | nil => simp only [lean, high] at c2; omega
          | node k3 v3 b1 b2 =>
            obtain ⟨q1, q2, q3, q4⟩ := p1
            simp only [lean, high] at c1 c2 c3 h1 h2 p3 p4
            simp only [rotL, rotR, Bal, high]
            and_intros <;> first | assumption | trivial | omega | (intros; trivial) | (intros; omega)
        · rw [if_neg c2]
          simp only [lean, high] at c1 c2 c3 h1 h2 p3 p4
          simp only [rotL, Bal, high]
          and_intros <;> first | assumption | trivial | omega | (intros; trivial) | (intros; omega)
    · rw [if_neg c3]
      simp only [lean] at c1 c3
      simp only [Bal, high]
      and_intros <;> first | assumption | trivial | omega | (intros; trivial) | (intros; omega)
theorem set_bal (k v : List UInt8) : ∀ (t : Tr), Bal t → Bal (t.set k v) ∧ t.high ≤ (t.set k v).high ∧ (t.set k v).high ≤ t.high + 1
  | nil, _ => by simp [set, Bal, high]
  | node k0 v0 l r, ⟨h1, h2, h3, h4⟩ => by
    obtain ⟨a1, a2, a3⟩ := set_bal k v l h1
    obtain ⟨b1, b2, b3⟩ := set_bal k v r h2
    simp only [set]
    split
    · obtain ⟨j1, j2, j3, j4⟩ := join_bal (k := k0) (v := v0) a1 h2 (by omega) (by omega)
      refine ⟨j1, ?_, ?_⟩ <;> simp only [high] <;> omega
    · split
      · exact ⟨⟨h1, h2, h3, h4⟩, by simp only [high]; omega, by simp only [high]; omega⟩
      · obtain ⟨j1, j2, j3, j4⟩ := join_bal (k := k0) (v := v0) h1 b1 (by omega) (by omega)
        refine ⟨j1, ?_, ?_⟩ <;> simp only [high] <;> omega
theorem cut_bal : ∀ (t : Tr) (k : List UInt8), Bal t → Bal (t.cut k) ∧ (t.cut k).high ≤ t.high ∧ t.high ≤ (t.cut k).high + 1
  | nil, k, _ => by simp [cut, Bal, high]
  | node k0 v0 l r, k, ⟨h1, h2, h3, h4⟩ => by
    obtain ⟨a1, a2, a3⟩ := cut_bal l k h1
    obtain ⟨b1, b2, b3⟩ := cut_bal r k h2
    have h5 := fun k' => cut_bal r k' h2
    unfold cut
    split
    · exact ⟨⟨h1, h2, h3, h4⟩, by omega, by omega⟩
    · split
      · obtain ⟨j1, j2, j3, j4⟩ := join_bal (k := k0) (v := v0) a1 h2 (by omega) (by omega)
        refine ⟨j1, ?_, ?_⟩ <;> simp only [high] <;> omega
      · split
        · split
          · exact ⟨h2, by simp only [high]; omega, by simp only [high] at *; omega⟩
          · exact ⟨h1, by simp only [high]; omega, by simp only [high] at *; omega⟩
          · rename_i a b c d e f g h _
            obtain ⟨c1, c2, c3⟩ := h5 (node e f g h).min.1
            obtain ⟨j1, j2, j3, j4⟩ := join_bal (k := (node e f g h).min.1) (v := (node e f g h).min.2) h1 c1 (by omega) (by omega)
            refine ⟨j1, ?_, ?_⟩ <;> rw [high] <;> omega
        · obtain ⟨j1, j2, j3, j4⟩ := join_bal (k := k0) (v := v0) h1 b1 (by omega) (by omega)
          refine ⟨j1, ?_, ?_⟩ <;> simp only [high] <;> omega
end Tr
end Go.Proofs.YtjibchohkeljkaaDoor

/- view: what a view is; New, Look, Get, room, Set, Cut. -/
import Derived.Test.YtbdijekfplpnlaaGo
import Derived.Test.YtbdijekfplpnlaaF10q
-- @D
namespace Go.Proofs.Ytbdijekfplpnlaa
set_option maxRecDepth 20000
open Go.Awp Tr
abbrev Rg := List UInt8 × List UInt8
/-- A view. -/
structure VS where
  base : Tr
  shown : Tr
  writes : Tr
  reads : Tr
  ranges : List Rg
def rgV (r : Rg) : AV := .agg [.str r.1, .str r.2]
abbrev vB (h : Hd) (b s w r : Tr) (n : Nat) : AObj := .box 104 [W b, W s, W w, W r, .sl h n 0 n]
abbrev vR (l : List Rg) : AObj := .arr 102 true 2 (l.map rgV)
/-- What the view's caller has of it. -/
abbrev vH (s : VS) : List AObj := [vB (.o 1) s.base s.shown s.writes s.reads s.ranges.length, vR s.ranges]
abbrev vN (s : VS) : List AObj := [vB (.l 1) s.base s.shown s.writes s.reads s.ranges.length, vR s.ranges]
abbrev vP : TV := .ad (.o 0) 0
def VS.new (t : Tr) : VS := ⟨t, t, .nil, .nil, []⟩
theorem getT_tup (g : Option (List UInt8)) : getT g = .tup [.p (.str (g.getD [])), .p (.bool g.isSome)] := by cases g <;> rfl
theorem vnew_spec (t : Tr) : Con Try.prog 34 [W t] [] (.ad (.l 0) 0) [] (vN (VS.new t)) := by
  refine con_of Try.func34 rfl (by kernel_rfl) rfl fun F w0 β0 => ?_
  refine K_tell rfl ?_
  refine go ?_
  refine J_recell 0 2 (.p (.cell .nilp)) rfl rfl rep_nil_cell ?_
  refine J_recell 0 3 (.p (.cell .nilp)) rfl rfl rep_nil_cell ?_
  refine J_lazy 0 4 102 (e := 2) rfl rfl rfl (.inl rfl) ?_
  exact J_give hT rfl rfl
theorem vlook_spec (s : VS) (k : List UInt8) : Con Try.prog 45 [vP, .p (.str k)] (vH s) (getT (s.shown.get k)) (vH s) [] := by
  have c1 := tget_spec k s.shown
  rw [getT_tup] at c1 ⊢
  refine con_of Try.func45 rfl (by kernel_rfl) rfl fun F w0 β0 => ?_
  refine K_tell rfl ?_
  refine go ?_
  refine K_op rfl rfl (opr_callP rfl rfl (c1) rfl rfl rfl rfl) rfl ?_
  refine go ?_
  exact J_done hT rfl rfl rfl
theorem vget_spec (s : VS) (k : List UInt8) (hs : s.reads.size + 2 ≤ big40) : Con Try.prog 44 [vP, .p (.str k)] (vH s) (getT (s.shown.get k)) (vH { s with reads := s.reads.set k [] }) [] := by
  have c1 := tget_spec k s.shown
  rw [getT_tup] at c1 ⊢
  refine con_of Try.func44 rfl (by kernel_rfl) rfl fun F w0 β0 => ?_
  refine K_tell rfl ?_
  refine go ?_
  refine K_op rfl rfl (opr_callP rfl rfl (tset_spec k [] s.reads hs) rfl rfl rfl rfl) rfl ?_
  refine go ?_
  refine K_op rfl rfl (opr_callP rfl rfl (c1) rfl rfl rfl rfl) rfl ?_
  refine go ?_
  exact J_done hT rfl rfl rfl
/-- Whether a key may be written. -/
def VS.room (s : VS) (k : List UInt8) : Bool := (s.writes.get k).isSome || decide (s.writes.size < 48)
theorem vroom_spec (s : VS) (k : List UInt8) : Con Try.prog 61 [vP, .p (.str k)] (vH s) (.p (.bool (s.room k))) (vH s) [] := by
  have c1 := tget_spec k s.writes
  rw [getT_tup] at c1
  have e : s.room k = ((s.writes.get k).isSome || decide ((s.writes.size : Int) < 48)) := by
    unfold VS.room; congr 1; exact decide_eq_decide.2 (by omega)
  rw [e]
  refine con_of Try.func61 rfl (by kernel_rfl) rfl fun F w0 β0 => ?_
  refine K_tell rfl ?_
  refine go ?_
  refine K_op rfl rfl (opr_callP rfl rfl (c1) rfl rfl rfl rfl) rfl ?_
  refine go ?_
  refine K_opt rfl rfl rfl need1 (fun _ => opr_callP rfl rfl (tlen_spec s.writes) rfl rfl rfl rfl) rfl ?_
  refine go ?_
  exact J_done hT rfl rfl rfl
def VS.set (s : VS) (k v : List UInt8) : VS := { s with writes := s.writes.set k (61 :: v), shown := s.shown.set k v }
theorem vset_spec (s : VS) (k v : List UInt8) (hw : s.writes.size + 2 ≤ big40) (hs : s.shown.size + 2 ≤ big40) (hv : v.length ≤ 140737488355328) : Con Try.prog 35 [vP, .p (.str k), .p (.str v)] (vH s) (.p (.bool (s.room k))) (vH (if s.room k = true then s.set k v else s)) [] := by
  have c1 := vroom_spec s k
  generalize s.room k = b at c1
  cases b with
  | false =>
    refine con_of Try.func35 rfl (by kernel_rfl) rfl fun F w0 β0 => ?_
    refine K_tell rfl ?_
    refine go ?_
    refine K_op rfl rfl (opr_callS [.o 0, .o 1] rfl rfl (c1) rfl rfl rfl ⟨⟨rfl, rfl⟩, ⟨rfl, rfl⟩, trivial⟩ rfl rfl rfl rfl) rfl ?_
    refine go ?_
    exact J_done hT rfl rfl rfl
  | true =>
    refine con_of Try.func35 rfl (by kernel_rfl) rfl fun F w0 β0 => ?_
    refine K_tell rfl ?_
    refine go ?_
    refine K_op rfl rfl (opr_callS [.o 0, .o 1] rfl rfl (c1) rfl rfl rfl ⟨⟨rfl, rfl⟩, ⟨rfl, rfl⟩, trivial⟩ rfl rfl rfl rfl) rfl ?_
    refine go ?_
    refine K_op rfl rfl (opr_cat rfl rfl rfl (by simp; omega)) rfl ?_
    refine go ?_
    refine K_op rfl rfl (opr_callP rfl rfl (tset_spec k (61 :: v) s.writes hw) rfl rfl rfl rfl) rfl ?_
    refine go ?_
    refine K_op rfl rfl (opr_callP rfl rfl (tset_spec k v s.shown hs) rfl rfl rfl rfl) rfl ?_
    refine go ?_
    exact J_done hT rfl rfl rfl
def VS.cut (s : VS) (k : List UInt8) : VS := { s with writes := if (s.base.get k).isSome = true then s.writes.set k [] else s.writes.cut k, shown := s.shown.cut k }
theorem vcut_spec (s : VS) (k : List UInt8) (hw : s.writes.size + 2 ≤ big40) (hs : s.shown.size + 2 ≤ big40) : Con Try.prog 38 [vP, .p (.str k)] (vH s) (.p (.bool (s.room k))) (vH (if s.room k = true then s.cut k else s)) [] := by
  have c1 := vroom_spec s k
  have c2 := tget_spec k s.base
  rw [getT_tup] at c2
  unfold VS.cut
  generalize (s.base.get k).getD [] = g0 at c2
  generalize (s.base.get k).isSome = g at c2
  generalize s.room k = b at c1
  cases b with
  | false =>
    refine con_of Try.func38 rfl (by kernel_rfl) rfl fun F w0 β0 => ?_
    refine K_tell rfl ?_
    refine go ?_
    refine K_op rfl rfl (opr_callS [.o 0, .o 1] rfl rfl (c1) rfl rfl rfl ⟨⟨rfl, rfl⟩, ⟨rfl, rfl⟩, trivial⟩ rfl rfl rfl rfl) rfl ?_
    refine go ?_
    exact J_done hT rfl rfl rfl
  | true =>
    refine con_of Try.func38 rfl (by kernel_rfl) rfl fun F w0 β0 => ?_
    refine K_tell rfl ?_
    refine go ?_
    refine K_op rfl rfl (opr_callS [.o 0, .o 1] rfl rfl (c1) rfl rfl rfl ⟨⟨rfl, rfl⟩, ⟨rfl, rfl⟩, trivial⟩ rfl rfl rfl rfl) rfl ?_
    refine go ?_
    refine K_op rfl rfl (opr_callP rfl rfl (c2) rfl rfl rfl rfl) rfl ?_
    refine go ?_
    cases g with
    | true =>
      refine go ?_
      refine K_op rfl rfl (opr_callP rfl rfl (tset_spec k [] s.writes hw) rfl rfl rfl rfl) rfl ?_
      refine go ?_
      refine K_op rfl rfl (opr_callP rfl rfl (tcut_spec s.shown k hs) rfl rfl rfl rfl) rfl ?_
      refine go ?_
      exact J_done hT rfl rfl rfl
    | false =>
      refine go ?_
      refine K_op rfl rfl (opr_callP rfl rfl (tcut_spec s.writes k hw) rfl rfl rfl rfl) rfl ?_
      refine go ?_
      refine K_op rfl rfl (opr_callP rfl rfl (tcut_spec s.shown k hs) rfl rfl rfl rfl) rfl ?_
      refine go ?_
      exact J_done hT rfl rfl rfl
end Go.Proofs.Ytbdijekfplpnlaa

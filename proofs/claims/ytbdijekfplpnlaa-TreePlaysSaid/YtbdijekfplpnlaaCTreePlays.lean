/- The law TreePlays: its contract. -/
import Derived.Test.YtbdijekfplpnlaaGo
import Derived.Test.YtbdijekfplpnlaaCTreeStays
import Derived.Test.YtbdijekfplpnlaaF10q
-- @D
namespace Go.Proofs.Ytbdijekfplpnlaa
set_option maxRecDepth 20000
open Go.Awp Tr
theorem cellsOf_accV {d : AV} (hd : d = .nils ∨ d = .cz) (acc : List AV) : cellsOf (accV d acc) = [accV d acc] := by
  cases acc with
  | nil => rcases hd with rfl | rfl <;> rfl
  | cons r rs => rfl
theorem cl_accV {d : AV} (hd : d = .nils ∨ d = .cz) (acc : List AV) : cl (accV d acc) = true := by
  cases acc with
  | nil => rcases hd with rfl | rfl <;> rfl
  | cons r rs => rfl
/-- A version of a tree, as it stands in a row. -/
def wV (t : Tr) : AV := .cell t.av
theorem appT_row {t : Tr} (h : Rises t.row) (o : TOp) : Rises (appT t o).row := by
  unfold appT
  split
  · rw [set_row _ _ _ h]; exact lset_rises h
  · rw [cut_row _ _ h]; exact lcut_rises h
/-- What the row's element says. -/
def RowEl (t : Tr) (x : AV) : Prop := ∃ d, (d = .nils ∨ d = .cz) ∧ (x = accV d (kvs t.row) ∨ x = .cell (accV d (kvs t.row)))
theorem load_row {env : Env} {H L : List AObj} {o : Oper} {y : Operand} {s : TV} {i : Nat} {es : List AV} {d x : AV} {t : Tr} (ho : o.op = .load 37 y) (hy : evA env y = .el s 1 i 0) (hr : Rd H L s es) (hi : es[i]? = some x)
    (hd : d = .nils ∨ d = .cz) (hx : x = accV d (kvs t.row) ∨ x = .cell (accV d (kvs t.row))) : OpR Try.prog o env H L (R d t.row) H L := by
  rcases hx with rfl | rfl
  · exact opr_load_el hT ho hy hr hi (by rw [cellsOf_accV hd]; rfl) (by rw [cellsOf_accV hd]; rfl)
  · exact opr_open (opr_load_el hT ho hy hr hi rfl rfl)
structure PV (l : List TOp) where
  i : Nat
  vs : List Tr
  es : List AV
  h : i ≤ l.length
  hv : vs.length = i + 1
  he : es.length = i + 1
  ok : ∀ t ∈ vs, Rises t.row ∧ t.size ≤ i
  rel : ∀ (j : Nat) t x, vs[j]? = some t → es[j]? = some x → RowEl t x
structure PW (n : Nat) where
  i : Nat
  h : i ≤ n
theorem rowEl_one {vs : List Tr} {es : List AV} (he : es.length = vs.length) (rel : ∀ (j : Nat) t x, vs[j]? = some t → es[j]? = some x → RowEl t x) : ∀ x ∈ es, cl x = true ∧ cellsOf x = [x] := by
  intro x hx
  obtain ⟨j, hj⟩ := List.getElem?_of_mem hx
  have hlt := (List.getElem?_eq_some_iff.1 hj).1
  obtain ⟨d, hd, rfl | rfl⟩ := rel j (vs[j]'(by omega)) x (List.getElem?_eq_getElem _) hj
  · exact ⟨cl_accV hd _, cellsOf_accV hd _⟩
  · exact ⟨rfl, rfl⟩
theorem getT_eq (g : Option (List UInt8)) : getT g = .tup [.p (.str (g.getD [])), .p (.bool g.isSome)] := by cases g <;> rfl
namespace treePlays
set_option maxHeartbeats 8000000 in
theorem con {a0 a1 a2 : AV} (s0 : Shp tab 8 22 a0) (s1 : Shp tab 8 9 a1) (s2 : Shp tab 8 9 a2) : Con Try.prog 6 [.p a0, .p a1, .p a2] [] (.p (.bool true)) [] [] := by
  obtain ⟨la, ha, oka, la40⟩ := shp_ops s0
  obtain ⟨b0, hb0, c0⟩ := cut10_spec ha oka la40
  obtain ⟨from_, rfl, hfrom⟩ := s1.str rfl
  obtain ⟨to_, rfl, hto⟩ := s2.str rfl
  have n0 : (la.take (cutN la 0)).length ≤ 200 := by have := cutN_200 la 0 (by omega); simp; omega
  have hok0 : ∀ o ∈ la.take (cutN la 0), o.ok := fun o ho => oka o (List.mem_of_mem_take ho)
  generalize la.take (cutN la 0) = l at hb0 n0 hok0
  have hrd := hb0.rd []
  have hlen : (l.map opV).length = l.length := by simp
  have p6 := fixed10_spec
  refine con_of Try.func6 rfl (by kernel_rfl) rfl fun F w0 β0 => ?_
  refine K_tell rfl ?_
  refine go ?_
  by_cases h300 : (decide ((from_.length : Int) > 300) || decide ((to_.length : Int) > 300)) = true
  · refine K_condT rfl h300 ?_
    refine go ?_
    refine K_op rfl rfl (opr_callP rfl rfl (p6) rfl rfl rfl rfl) rfl ?_
    refine go ?_
    exact J_done hT rfl rfl rfl
  refine K_condF rfl (by simpa using h300) ?_
  refine go ?_
  refine K_op rfl rfl (opr_callP rfl rfl (tnew_spec) rfl rfl rfl rfl) rfl ?_
  refine K_op rfl rfl (opr_litO hT rfl rfl rfl rfl rfl) rfl ?_
  refine K_op rfl rfl (opr_litO hT rfl rfl rfl rfl rfl) rfl ?_
  refine go ?_
  refine K_op rfl rfl (opr_callP rfl rfl (c0) rfl rfl rfl rfl) rfl ?_
  refine go ?_
  refine K_op rfl rfl (opr_len_rd hT rfl rfl (hrd _)) rfl ?_
  rw [hlen]
  refine go ?_
  refine J_loop (fun q : PV l => [(1, .p (.str from_)), (2, .p (.str to_)), (6, .p (.bool false)), (7, .sl (.l 0) (q.i + 1) 0 (q.i + 1)), (8, .sl (.l 1) (q.i + 1) 0 (q.i + 1)), (33, .p b0), (34, .p (.int .i64 (l.length : Int))), (35, .p (.int .i64 (q.i : Int)))]) (fun _ => []) (fun q => [.arr 24 true 1 (q.vs.map wV), .arr 37 true 1 q.es]) (fun q => l.length - q.i) ⟨0, [.nil], [.nils], by omega, rfl, rfl, by simp [row, Tr.size, Rises], fun j t x h1 h2 => by
      cases j with
      | zero => simp at h1 h2; subst h1 h2; exact ⟨.nils, .inl rfl, .inl rfl⟩
      | succ j => simp at h1⟩ ⟨rfl, rfl, rfl, rfl, rfl, rfl, rfl, rfl, trivial⟩ rfl rfl (fun q => ?_)
  have hi := q.h
  refine go ?_
  by_cases h : q.i < l.length
  · have hx : l[q.i]? = some l[q.i] := List.getElem?_eq_getElem h
    have hxok := hok0 _ (List.getElem_mem h)
    generalize l[q.i] = x at hx hxok
    obtain ⟨⟨v0, v1⟩, _, _⟩ := hxok
    have hxk : (l.map opV)[((q.i : Nat) : Int).toNat]? = some (opV x) := ops_get hx
    have hver : (IntKind.i64.wrap x.ver).tmod ((q.i + 1 : Nat) : Int) = ((x.ver.toNat % (q.i + 1) : Nat) : Int) := by
      obtain ⟨m, hm⟩ : ∃ m : Nat, x.ver = (m : Int) := ⟨x.ver.toNat, by omega⟩
      rw [hm, IntWalk.i64_in _ (by omega), Int.toNat_natCast]
      exact Int.ofNat_tmod m (q.i + 1) ▸ rfl
    have hk : x.ver.toNat % (q.i + 1) < q.i + 1 := Nat.mod_lt _ (by omega)
    generalize x.ver.toNat % (q.i + 1) = k at hver hk
    have hvs : q.vs[k]? = some (q.vs[k]'(by rw [q.hv]; omega)) := List.getElem?_eq_getElem _
    have hes : q.es[k]? = some (q.es[k]'(by rw [q.he]; omega)) := List.getElem?_eq_getElem _
    generalize q.vs[k]'(by rw [q.hv]; omega) = t at hvs
    generalize q.es[k]'(by rw [q.he]; omega) = y at hes
    obtain ⟨d, hd, hyx⟩ := q.rel k t y hvs hes
    obtain ⟨hri, hts⟩ := q.ok t (List.mem_of_getElem? hvs)
    have hrdv : ∀ M, Rd [] (.arr 24 true 1 (q.vs.map wV) :: M) (.sl (.l 0) (q.i + 1) 0 (q.i + 1)) (q.vs.map wV) := fun M => Rd.full rfl (by simp [q.hv])
    have hrde : ∀ o M, Rd [] (o :: .arr 37 true 1 q.es :: M) (.sl (.l 1) (q.i + 1) 0 (q.i + 1)) q.es := fun o M => Rd.full rfl q.he
    have hvk : (q.vs.map wV)[((k : Nat) : Int).toNat]? = some (wV t) := by rw [Int.toNat_natCast, List.getElem?_map, hvs]; rfl
    have hek : q.es[((k : Nat) : Int).toNat]? = some y := by rw [Int.toNat_natCast, hes]
    refine K_condT rfl (decide_eq_true (by omega)) ?_
    refine go ?_
    refine K_op rfl rfl (opr_index hT rfl rfl rfl rfl rfl (hrd _) (by omega) (by rw [hlen]; omega)) rfl ?_
    refine go ?_
    refine K_op rfl rfl (opr_load_el hT rfl rfl (hrd _) hxk rfl rfl) rfl ?_
    refine go ?_
    refine K_op rfl rfl (opr_len_rd hT rfl rfl (hrdv _)) rfl ?_
    rw [show (q.vs.map wV).length = q.i + 1 by simp [q.hv]]
    refine go ?_
    rw [hver]
    refine go ?_
    refine J_draw [_] [] (by kernel_rfl) (by kernel_rfl) rfl ?_
    refine gd ?_
    refine T_opD rfl rfl rfl rfl rfl (opr_index hT rfl rfl rfl rfl rfl (hrdv _) (by omega) (by simp [q.hv]; omega)) rfl ?_
    refine T_opD rfl rfl rfl rfl rfl (opr_load_el hT rfl rfl (hrdv _) hvk rfl rfl) rfl ?_
    refine gd ?_
    refine T_opD rfl rfl rfl rfl rfl (opr_index hT rfl rfl rfl rfl rfl (hrde _ _) (by omega) (by rw [q.he]; omega)) rfl ?_
    refine T_opD rfl rfl rfl rfl rfl (load_row rfl rfl (hrde _ _) hek hd hyx) rfl ?_
    refine gd ?_
    refine J_weak [(10, .ad (.l 2) 0), (12, W t), (13, R d t.row), (1, .p (.str from_)), (2, .p (.str to_)), (6, .p (.bool false)), (7, .sl (.l 0) (q.i + 1) 0 (q.i + 1)), (8, .sl (.l 1) (q.i + 1) 0 (q.i + 1)), (33, .p b0), (34, .p (.int .i64 (l.length : Int))), (35, .p (.int .i64 (q.i : Int)))] ⟨rfl, rfl, rfl, rfl, rfl, rfl, rfl, rfl, rfl, rfl, rfl, trivial⟩ ?_
    refine go ?_
    have hts2 : t.size + 2 ≤ big40 := by unfold big40; omega
    have hrl : t.row.length ≤ big40 := by rw [row_len]; omega
    refine J_join [(10, .ad (.l 2) 0), (12, W (appT t x)), (13, R .cz (appT t x).row), (1, .p (.str from_)), (2, .p (.str to_)), (6, .p (.bool false)), (7, .sl (.l 0) (q.i + 1) 0 (q.i + 1)), (8, .sl (.l 1) (q.i + 1) 0 (q.i + 1)), (33, .p b0), (34, .p (.int .i64 (l.length : Int))), (35, .p (.int .i64 (q.i : Int)))] [] [.arr 24 true 1 (q.vs.map wV), .arr 37 true 1 q.es, .box 31 [.p (.int .i64 x.kind), .p (.int .u16 x.ver), .p (.str x.key), .p (.str x.val)]] ?_ ?_
    · by_cases hk0 : x.kind = 0
      · have e : appT t x = t.set x.key x.val := if_pos hk0
        have c2 := (rset10_acc d hd t.row x.key x.val hrl).frzAcc
        rw [rset_row hri, ← set_row _ _ _ hri, ← e] at c2
        have c1 := tset_spec x.key x.val t hts2
        rw [← e] at c1
        refine K_condT rfl (by simp [hk0]) ?_
        refine go ?_
        refine J_draw [_] [] (by kernel_rfl) (by kernel_rfl) rfl ?_
        refine gd ?_
        refine T_opD rfl rfl rfl rfl rfl (opr_call0P rfl rfl (c1) rfl rfl rfl) rfl ?_
        refine gd ?_
        refine T_opD rfl rfl rfl rfl rfl (opr_call0P rfl rfl (c2) rfl rfl rfl) rfl ?_
        refine gd ?_
        exact J_at ⟨rfl, rfl, rfl, rfl, rfl, rfl, rfl, rfl, rfl, rfl, rfl, trivial⟩ rfl rfl
      · have e : appT t x = t.cut x.key := if_neg hk0
        have c2 := (rcut10_acc d hd t.row x.key hrl).frzAcc
        rw [← cut_row _ _ hri, ← e] at c2
        have c1 := tcut_spec t x.key hts2
        rw [← e] at c1
        refine K_condF rfl (by simp [hk0]) ?_
        refine go ?_
        refine J_draw [_] [] (by kernel_rfl) (by kernel_rfl) rfl ?_
        refine gd ?_
        refine T_opD rfl rfl rfl rfl rfl (opr_call0P rfl rfl (c1) rfl rfl rfl) rfl ?_
        refine gd ?_
        refine T_opD rfl rfl rfl rfl rfl (opr_call0P rfl rfl (c2) rfl rfl rfl) rfl ?_
        refine gd ?_
        exact J_at ⟨rfl, rfl, rfl, rfl, rfl, rfl, rfl, rfl, rfl, rfl, rfl, trivial⟩ rfl rfl
    have hur := appT_row hri x
    have hus := appT_size t x
    generalize appT t x = u at hur hus
    refine go ?_
    refine K_op rfl rfl (opr_app_own hT rfl rfl rfl rfl (by simp [q.hv]) rfl rfl (.rd (.ps _)) hbs_ps (show clR [wV u] from by intro r hr x hx; simp at hr; subst hr; simp [cellsOf, wV] at hx; subst hx; rfl) (show ∀ r ∈ [wV u], (cellsOf r).length = 1 from by intro r hr; simp at hr; subst hr; rfl) (by decide) (by show (q.i + 1 + 1) * 8 ≤ _; omega)) rfl ?_
    refine go ?_
    refine J_wrap 81 rfl (cl_accV (.inr rfl) _) ?_
    refine go ?_
    refine K_op rfl rfl (opr_app_own hT rfl rfl rfl rfl q.he rfl rfl (.rd (.ps _)) hbs_ps (show clR [.cell (accV .cz (kvs u.row))] from by intro r hr x hx; simp at hr; subst hr; simp [cellsOf] at hx; subst hx; rfl) (show ∀ r ∈ [AV.cell (accV .cz (kvs u.row))], (cellsOf r).length = 1 from by intro r hr; simp at hr; subst hr; rfl) (by decide) (by show (q.i + 1 + 1) * 24 ≤ _; omega)) rfl ?_
    refine go ?_
    refine J_take 2 [(1, .p (.str from_)), (2, .p (.str to_)), (6, .p (.bool false)), (7, .sl (.l 0) (q.i + 1 + 1) 0 (q.i + 1 + 1)), (8, .sl (.l 1) (q.i + 1 + 1) 0 (q.i + 1 + 1)), (33, .p b0), (34, .p (.int .i64 (l.length : Int))), (35, .p (.int .i64 (IntKind.i64.wrap ((q.i : Int) + 1))))] ⟨rfl, rfl, rfl, rfl, rfl, rfl, rfl, rfl, trivial⟩ rfl rfl ?_
    refine J_again ⟨q.i + 1, q.vs ++ [u], q.es ++ [.cell (accV .cz (kvs u.row))], by omega, by simp [q.hv], by simp [q.he], ?_, ?_⟩ (by show l.length - (q.i + 1) < l.length - q.i; omega) ⟨rfl, rfl, rfl, rfl, rfl, rfl, rfl, congrArg (fun z => TV.p (.int .i64 z)) (by rw [IntWalk.i64_in _ (by omega)]; rfl), trivial⟩ rfl (by rw [List.map_append]; rfl)
    · intro v hv
      rcases List.mem_append.1 hv with hv | hv
      · have := q.ok v hv
        exact ⟨this.1, by omega⟩
      · simp at hv; subst hv; exact ⟨hur, by omega⟩
    · intro j v x' h1 h2
      by_cases hj : j < q.i + 1
      · rw [List.getElem?_append_left (by rw [q.hv]; exact hj)] at h1
        rw [List.getElem?_append_left (by rw [q.he]; exact hj)] at h2
        exact q.rel j v x' h1 h2
      · rw [List.getElem?_append_right (by rw [q.hv]; omega), q.hv] at h1
        rw [List.getElem?_append_right (by rw [q.he]; omega), q.he] at h2
        have hlt := (List.getElem?_eq_some_iff.1 h1).1
        simp at hlt
        rw [show j - (q.i + 1) = 0 by omega] at h1 h2
        simp at h1 h2
        subst h1 h2
        exact ⟨.cz, .inr rfl, .inr rfl⟩
  refine K_condF rfl (decide_eq_false (by omega)) ?_
  have hvl := q.hv
  have hel := q.he
  have hok := q.ok
  have hrel := q.rel
  generalize q.vs = vs at hvl hok hrel
  generalize q.es = es at hel hrel
  have hn : q.i ≤ 200 := by omega
  generalize q.i = n at hvl hel hok hn
  clear hi h
  have hrdv : ∀ M, Rd [] (.arr 24 true 1 (vs.map wV) :: M) (.sl (.l 0) (n + 1) 0 (n + 1)) (vs.map wV) := fun M => Rd.full rfl (by simp [hvl])
  have hrde : ∀ o M, Rd [] (o :: .arr 37 true 1 es :: M) (.sl (.l 1) (n + 1) 0 (n + 1)) es := fun o M => Rd.full rfl hel
  refine go ?_
  refine K_op rfl rfl (opr_len_rd hT rfl rfl (hrdv _)) rfl ?_
  rw [show (vs.map wV).length = n + 1 by simp [hvl]]
  refine go ?_
  refine J_loop (fun q : PW (n + 1) => [(1, .p (.str from_)), (2, .p (.str to_)), (6, .p (.bool false)), (8, .sl (.l 1) (n + 1) 0 (n + 1)), (85, .sl (.l 0) (n + 1) 0 (n + 1)), (86, .p (.int .i64 ((n + 1 : Nat) : Int))), (87, .p (.int .i64 (q.i : Int)))]) (fun _ => []) (fun _ => [.arr 24 true 1 (vs.map wV), .arr 37 true 1 es]) (fun q => n + 1 - q.i) ⟨0, by omega⟩ ⟨rfl, rfl, rfl, rfl, rfl, rfl, rfl, trivial⟩ rfl rfl (fun q => ?_)
  have hi := q.h
  refine go ?_
  by_cases h : q.i < n + 1
  · have hvs : vs[q.i]? = some (vs[q.i]'(by rw [hvl]; omega)) := List.getElem?_eq_getElem _
    have hes : es[q.i]? = some (es[q.i]'(by rw [hel]; omega)) := List.getElem?_eq_getElem _
    generalize vs[q.i]'(by rw [hvl]; omega) = t at hvs
    generalize es[q.i]'(by rw [hel]; omega) = y at hes
    obtain ⟨d, hd, hyx⟩ := hrel q.i t y hvs hes
    obtain ⟨hri, hts⟩ := hok t (List.mem_of_getElem? hvs)
    have hvk : (vs.map wV)[((q.i : Nat) : Int).toNat]? = some (wV t) := by rw [Int.toNat_natCast, List.getElem?_map, hvs]; rfl
    have hek : es[((q.i : Nat) : Int).toNat]? = some y := by rw [Int.toNat_natCast, hes]
    have hts2 : t.size ≤ big40 := by unfold big40; omega
    have hrl : t.row.length ≤ big40 := by rw [row_len]; omega
    have c1 := tget_spec from_ t
    have c2 := rget10_spec d hd t.row from_ (by unfold big40 at hrl; omega)
    rw [← get_row _ _ hri, getT_eq] at c2
    rw [getT_eq] at c1
    generalize (t.get from_).getD [] = gv at c1 c2
    generalize (t.get from_).isSome = gb at c1 c2
    refine K_condT rfl (decide_eq_true (by omega)) ?_
    refine go ?_
    refine K_op rfl rfl (opr_index hT rfl rfl rfl rfl rfl (hrdv _) (by omega) (by simp [hvl]; omega)) rfl ?_
    refine go ?_
    refine K_op rfl rfl (opr_load_el hT rfl rfl (hrdv _) hvk rfl rfl) rfl ?_
    refine go ?_
    refine K_op rfl rfl (opr_callP rfl rfl (c1) rfl rfl rfl rfl) rfl ?_
    refine go ?_
    refine K_op rfl rfl (opr_index hT rfl rfl rfl rfl rfl (hrde _ _) (by omega) (by rw [hel]; omega)) rfl ?_
    refine K_op rfl rfl (load_row rfl rfl (hrde _ _) hek hd hyx) rfl ?_
    refine go ?_
    refine K_op rfl rfl (opr_callP rfl rfl (c2) rfl rfl rfl rfl) rfl ?_
    have c3 := same10_spec t d hd hri hts2
    have c4 := trank_spec to_ t hts2
    have c5 := rrank10_spec d hd t.row to_ hrl
    rw [← rank_row _ _ hri] at c5
    have c6 := (trange_spec from_ to_ t hts2).frzAcc
    have c7 := (rrange10_acc d hd t.row from_ to_ hrl).frzAcc
    rw [← range_row _ _ _ hri] at c7
    have hrl2 : (t.range from_ to_).length ≤ big40 := Nat.le_trans (range_len ..) hts2
    have c8 := rsame10_spec .nils .cz (.inl rfl) (.inr rfl) (t.range from_ to_) (t.range from_ to_) hrl2 hrl2
    rw [decide_eq_true rfl] at c8
    generalize t.range from_ to_ = rg at c6 c7 c8
    refine go ?_
    refine J_draw [_] [] (by kernel_rfl) (by kernel_rfl) rfl ?_
    refine gd ?_
    refine T_opD rfl rfl rfl rfl rfl (opr_index hT rfl rfl rfl rfl rfl (hrde _ _) (by omega) (by rw [hel]; omega)) rfl ?_
    refine T_opD rfl rfl rfl rfl rfl (load_row rfl rfl (hrde _ _) hek hd hyx) rfl ?_
    refine gd ?_
    refine T_opD rfl rfl rfl rfl rfl (opr_call0P rfl rfl (c3) rfl rfl rfl) rfl ?_
    refine gd ?_
    rw [show (!(gv == gv)) = false by simp]
    refine gd ?_
    try rw [show (!(gb == gb)) = false by simp]
    refine gd ?_
    refine T_yesD rfl rfl rfl rfl rfl rfl (opr_call0P rfl rfl (c4) rfl rfl rfl) rfl ?_
    refine gd ?_
    refine T_yesD rfl rfl rfl rfl rfl rfl (opr_index hT rfl rfl rfl rfl rfl (hrde _ _) (by omega) (by rw [hel]; omega)) rfl ?_
    refine T_yesD rfl rfl rfl rfl rfl rfl (load_row rfl rfl (hrde _ _) hek hd hyx) rfl ?_
    refine gd ?_
    refine T_yesD rfl rfl rfl rfl rfl rfl (opr_call0P rfl rfl (c5) rfl rfl rfl) rfl ?_
    refine gd ?_
    rw [show ((t.rank to_ : Int) != (t.rank to_ : Int)) = false by simp]
    refine gd ?_
    refine T_yesD rfl rfl rfl rfl rfl rfl (opr_call0P rfl rfl (c6) rfl rfl rfl) rfl ?_
    refine gd ?_
    refine T_yesD rfl rfl rfl rfl rfl rfl (opr_index hT rfl rfl rfl rfl rfl (hrde _ _) (by omega) (by rw [hel]; omega)) rfl ?_
    refine T_yesD rfl rfl rfl rfl rfl rfl (load_row rfl rfl (hrde _ _) hek hd hyx) rfl ?_
    refine gd ?_
    refine T_yesD rfl rfl rfl rfl rfl rfl (opr_call0P rfl rfl (c7) rfl rfl rfl) rfl ?_
    refine gd ?_
    refine T_yesD rfl rfl rfl rfl rfl rfl (opr_call0P rfl rfl (c8) rfl rfl rfl) rfl ?_
    refine gd ?_
    refine J_weak [(150, .p (.bool false)), (1, .p (.str from_)), (2, .p (.str to_)), (6, .p (.bool false)), (8, .sl (.l 1) (n + 1) 0 (n + 1)), (85, .sl (.l 0) (n + 1) 0 (n + 1)), (86, .p (.int .i64 ((n + 1 : Nat) : Int))), (87, .p (.int .i64 (q.i : Int)))] ⟨rfl, rfl, rfl, rfl, rfl, rfl, rfl, rfl, trivial⟩ ?_
    refine go ?_
    refine J_again ⟨q.i + 1, by omega⟩ (by show n + 1 - (q.i + 1) < n + 1 - q.i; omega) ⟨rfl, rfl, rfl, rfl, rfl, rfl, congrArg (fun z => TV.p (.int .i64 z)) (by rw [IntWalk.i64_in _ (by omega)]; rfl), trivial⟩ rfl rfl
  refine K_condF rfl (decide_eq_false (by omega)) ?_
  refine go ?_
  refine K_op rfl rfl (opr_callP rfl rfl (p6) rfl rfl rfl rfl) rfl ?_
  refine go ?_
  exact J_done hT rfl rfl rfl
end treePlays
end Go.Proofs.Ytbdijekfplpnlaa

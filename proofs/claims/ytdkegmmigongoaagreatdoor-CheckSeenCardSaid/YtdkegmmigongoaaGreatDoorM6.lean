import Derived.Test.YtdkegmmigongoaaGreatDoorM4
import Derived.Test.YtdkegmmigongoaaGreatDoorM5
import Derived.Test.YtdkegmmigongoaaGreatDoorGo
namespace Go.Awp
open Go.RowKit
theorem remA {L : List AObj} {k : IntKind} {a b : Int} {d : TyD} (h : b ≠ 0) : binA L .rem (.p (.int k a)) (.p (.int k b)) d = some (.p (.int k (a.tmod b))) := by
 have e : kEq k k = true := by unfold kEq; rw [decide_eq_true rfl]
 simp only [binA, isShift, e, intA]
 rw [decide_eq_false h]
section
variable {Γ : Ctx} {env : Env} {H L : List AObj} {Φ : Act → World → Prop}
theorem J_recell (i k : Nat) {Tb : Nat} {cs : List TV} {x : TV} (y : TV) (hi : L[i]? = some (.box Tb cs)) (hk : cs[k]? = some x) (hxy : ∀ w β G v, RepT w β G x v → RepT w β G y v) (kk : J Γ env H (L.set i (.box Tb (cs.set k y))) Φ) : J Γ env H L Φ := fun a w β s => by
 have hlt : i < L.length := (List.getElem?_eq_some_iff.1 hi).1
 obtain ⟨s1, s2⟩ := upd (w' := w) (G' := ⟨H, L.set i (.box Tb (cs.set k y)), Γ.F⟩) (h := .l i) (o' := .box Tb (cs.set k y)) (b' := β (.l i)) s.sim hi rfl rfl rfl (Nat.le_refl _) (fun _ _ _ => rfl) rfl (.inl rfl) ⟨rfl, by simp, rfl⟩
  (fun q => by
   cases q with
   | o q => simp [Hp.get]
   | l j =>
    simp only [Hp.get, List.getElem?_set, Hd.l.injEq]
    by_cases e : i = j
    ·subst e; simp; omega
    ·rw [if_neg e, if_neg (fun q => e q.symm)]) rfl s.sim.ext
 have eβ : (fun q => if q = Hd.l i then β (.l i) else β q) = β := by
  funext q
  split
  ·rename_i e; rw [e]
  ·rfl
 rw [eβ] at s1 s2
 obtain ⟨arr, g1, g2, g3⟩ := s.sim.objs (.l i) _ hi
 refine kk a w β ⟨s2 ⟨arr, g1, by rw [List.length_set]; exact g2, fun j z hj => ?_⟩, s.step.trans s1, s.env.mono s1, s.size, s.defers⟩
 by_cases e : k = j
 ·subst e
  have hkl := (List.getElem?_eq_some_iff.1 hk).1
  rw [List.getElem?_set, if_pos rfl, if_pos hkl] at hj
  obtain rfl := Option.some.inj hj
  obtain ⟨v, hv, hr⟩ := g3 k _ hk
  exact ⟨v, hv, hxy _ _ _ _ (hr.mono s1)⟩
 ·rw [List.getElem?_set, if_neg e] at hj
  obtain ⟨v, hv, hr⟩ := g3 j z hj
  exact ⟨v, hv, hr.mono s1⟩
end
section
variable {P : Program} {ops : List Oper} {env0 : Env} {Hs Ls : List (List AObj)} {ss : List Nat} {xs : List TV}
theorem T_opH {K : List TV → Prop} {o : Oper} {rest : List Oper} {i k : Nat} {x : TV} {H L : List AObj} (hg : o.guard = none) (hp : posn ss 0 i = none) (hk : loK o ss 0 0 = k) (hk2 : Nat.beq (hiK ops i ss 0 - k) 0 = true) (hH : Hs.getD k [] = H) (hL : Ls.getD k [] = L)
  (h : OpR P o (RdE ops env0 xs o) H L x H L) {xs' : List TV} (hxs : snocD xs x = some xs') (kk : Tele P ops env0 (fun k => Hs.getD k []) Ls ss K rest (i + 1) xs') : Tele P ops env0 (fun k => Hs.getD k []) Ls ss K (o :: rest) i xs :=
 ⟨x, .inl ⟨fun g b hgb => (by rw [hg] at hgb; cases hgb), by
  subst hH hL
  unfold Obl
  rw [hp]
  simp only
  rw [hk, Nat.eq_of_beq_eq_true hk2]
  exact h⟩, by rw [snocN_eq (snocD_eq hxs)]; exact kk⟩
theorem T_op2H {K : List TV → Prop} {o : Oper} {rest : List Oper} {i k : Nat} {x : TV} {H L H2 L2 : List AObj} (hg : o.guard = none) (hp : posn ss 0 i = none) (hk : loK o ss 0 0 = k) (hk2 : Nat.beq (hiK ops i ss 0 - k) 1 = true) (hH : Hs.getD k [] = H) (hL : Ls.getD k [] = L) (hH2 : Hs.getD (k + 1) [] = H2) (hL2 : Ls.getD (k + 1) [] = L2)
  (h : OpR P o (RdE ops env0 xs o) H L x H L) (h2 : OpR P o (RdE ops env0 xs o) H2 L2 x H2 L2) {xs' : List TV} (hxs : snocD xs x = some xs') (kk : Tele P ops env0 (fun k => Hs.getD k []) Ls ss K rest (i + 1) xs') : Tele P ops env0 (fun k => Hs.getD k []) Ls ss K (o :: rest) i xs :=
 ⟨x, .inl ⟨fun g b hgb => (by rw [hg] at hgb; cases hgb), by
  subst hH hL hH2 hL2
  unfold Obl
  rw [hp]
  simp only
  rw [hk, Nat.eq_of_beq_eq_true hk2]
  exact ⟨h, h2⟩⟩, by rw [snocN_eq (snocD_eq hxs)]; exact kk⟩
theorem T_stH {K : List TV → Prop} {o : Oper} {rest : List Oper} {i q : Nat} {x : TV} {H L H' L' : List AObj} (hg : o.guard = none) (hp : posn ss 0 i = some q) (hH : Hs.getD q [] = H) (hL : Ls.getD q [] = L) (hH' : Hs.getD (q + 1) [] = H') (hL' : Ls.getD (q + 1) [] = L')
  (h : OpR P o (RdE ops env0 xs o) H L x H' L') {xs' : List TV} (hxs : snocD xs x = some xs') (kk : Tele P ops env0 (fun k => Hs.getD k []) Ls ss K rest (i + 1) xs') : Tele P ops env0 (fun k => Hs.getD k []) Ls ss K (o :: rest) i xs :=
 ⟨x, .inl ⟨fun g b hgb => (by rw [hg] at hgb; cases hgb), by
  subst hH hL hH' hL'
  unfold Obl
  rw [hp]
  simp only
  exact h⟩, by rw [snocN_eq (snocD_eq hxs)]; exact kk⟩
end
theorem T_gateF {P : Program} {ops : List Oper} {env0 : Env} {Hf : Nat → List AObj} {Ls : List (List AObj)} {ss : List Nat} {xs : List TV} {K : List TV → Prop} {d : Option Nat} {op : Op} {t : TypeId} {pos : String} {af : Array Edge} {rest : List Oper} {i : Nat} (h : Tele P ops env0 Hf Ls ss K ({ dst := d, op := op, type := t, pos := pos, after := af, guard := none } :: rest) i xs) : Tele P ops env0 Hf Ls ss K ({ dst := d, op := op, type := t, pos := pos, after := af, guard := none } :: rest) i xs := h
theorem T_stD {P : Program} {ops : List Oper} {env0 : Env} {H : List AObj} {Ls : List (List AObj)} {ss : List Nat} {xs : List TV} {K : List TV → Prop} {o : Oper} {rest : List Oper} {i q : Nat} {x : TV} {L L' : List AObj} (hg : o.guard = none) (hp : posn ss 0 i = some q) (hL : Ls.getD q [] = L) (hL' : Ls.getD (q + 1) [] = L') (h : OpR P o (RdE ops env0 xs o) H L x H L') {xs' : List TV} (hxs : snocD xs x = some xs') (kk : Tele P ops env0 (fun _ => H) Ls ss K rest (i + 1) xs') : Tele P ops env0 (fun _ => H) Ls ss K (o :: rest) i xs :=
 T_st hg hp hL hL' h (snocD_eq hxs) kk
theorem J_drawS {P : Program} {Γ : Ctx} {env0 : Env} {H L : List AObj} {Q : Exit → Act → World → Prop} {id : Nat} {ops : List Oper} (n : Nat) (hm : P.follows .mixedOrders = true) (hreg : regOk Γ.N ops [n] = true)
  (h : ∃ L2, Tele P ops env0 (fun _ => H) [L, L2] [n] (fun xs => J Γ (finE ops xs env0) H L2 (Q .normal)) ops 0 []) : J Γ env0 H L ((Code.region id ops.toArray true).wp P Q) :=
 h.elim fun L2 h => J_draw [L, L2] [n] hm hreg rfl h
theorem J_drawH2 {P : Program} {Γ : Ctx} {env0 : Env} {H L : List AObj} {Q : Exit → Act → World → Prop} {id : Nat} {ops : List Oper} (n m : Nat) (H2 : List AObj) (hm : P.follows .mixedOrders = true) (hreg : regOk Γ.N ops [n, m] = true)
  (h : ∃ L2, Tele P ops env0 (fun k => [H, H2, H2].getD k []) [L, L, L2] [n, m] (fun xs => J Γ (finE ops xs env0) H2 L2 (Q .normal)) ops 0 []) : J Γ env0 H L ((Code.region id ops.toArray true).wp P Q) :=
 h.elim fun L2 h => J_drawH [H, H2, H2] [L, L, L2] [n, m] hm hreg rfl rfl h
theorem gdW {φ ψ : Prop} (k : ψ) (h : ψ → φ := by
 intro k
 repeat (first
  | with_reducible refine T_nil ?_
  | ((with_reducible refine T_gateG ?_); first | refine T_no rfl rfl rfl rfl ?_ | refine T_yesD rfl rfl rfl rfl rfl rfl (stepN_ok hT rfl) rfl ?_ | refine T_yesD rfl rfl rfl rfl rfl rfl (stepW_ok hT rfl) rfl ?_ | refine T_yesD rfl rfl rfl rfl rfl rfl (stepG_ok hT rfl) rfl ?_ | refine T_yesD rfl rfl rfl rfl rfl rfl (stepA_ok hT rfl) rfl ?_)
  | ((with_reducible refine T_gate ?_); first | refine T_opD rfl rfl rfl rfl rfl (stepN_ok hT rfl) rfl ?_ | refine T_opD rfl rfl rfl rfl rfl (stepW_ok hT rfl) rfl ?_ | refine T_opD rfl rfl rfl rfl rfl (stepG_ok hT rfl) rfl ?_ | refine T_opD rfl rfl rfl rfl rfl (stepA_ok hT rfl) rfl ?_ | refine T_opD rfl rfl rfl rfl rfl (opr_lit0 hT rfl rfl rfl) rfl ?_ | refine T_stD rfl rfl rfl rfl (stepN_ok hT rfl) rfl ?_ | refine T_op2D rfl rfl rfl rfl rfl rfl (stepN_ok hT rfl) (stepN_ok hT rfl) rfl ?_ | refine T_op2D rfl rfl rfl rfl rfl rfl (stepA_ok hT rfl) (stepA_ok hT rfl) rfl ?_))
 exact k) : φ := h k
theorem gdH {φ ψ : Prop} (k : ψ) (h : ψ → φ := by
 intro k
 repeat (first
  | with_reducible refine T_nil ?_
  | ((with_reducible refine T_gateF ?_); first | refine T_opH rfl rfl rfl rfl rfl rfl (stepN_ok hT rfl) rfl ?_ | refine T_opH rfl rfl rfl rfl rfl rfl (stepG_ok hT rfl) rfl ?_ | refine T_opH rfl rfl rfl rfl rfl rfl (stepA_ok hT rfl) rfl ?_ | refine T_opH rfl rfl rfl rfl rfl rfl (opr_lit hT rfl rfl rfl rfl) rfl ?_ | refine T_op2H rfl rfl rfl rfl rfl rfl rfl rfl (stepN_ok hT rfl) (stepN_ok hT rfl) rfl ?_ | refine T_op2H rfl rfl rfl rfl rfl rfl rfl rfl (stepG_ok hT rfl) (stepG_ok hT rfl) rfl ?_ | refine T_op2H rfl rfl rfl rfl rfl rfl rfl rfl (stepA_ok hT rfl) (stepA_ok hT rfl) rfl ?_ | refine T_stH rfl rfl rfl rfl rfl rfl (stepG_ok hT rfl) rfl ?_ | refine T_stH rfl rfl rfl rfl rfl rfl (stepN_ok hT rfl) rfl ?_))
 exact k) : φ := h k
section
variable {P : Program} {T : Tab} {Γ : Ctx} {env : Env} {H L : List AObj} {Q : Exit → Act → World → Prop} {ops : Array Oper} {rest : List Oper} {o : Oper}
end
theorem rep_nil_cell (w : World) (β : Hd → Nat) (G : Hp) (v : Value) (h : RepT w β G (.p .nilp) v) : RepT w β G (.p (.cell .nilp)) v := rep_wrap rfl h
theorem nils_ps : AVLe .nils (.ps []) := fun _ _ _ h => by cases h; exact .psE ..
theorem cz_ps : AVLe .cz (.ps []) := fun _ _ _ h => by cases h; exact .psE ..
theorem Con.le {P : Program} {f : FuncId} {args : List TV} {H H' news : List AObj} {x y : AV} (h : Con P f args H (.p x) H' news) (hxy : AVLe x y) : Con P f args H (.p y) H' news :=
 ⟨h.can, fun F w β vs hS hr => (h.run F w β vs hS hr).mono fun _ _ ⟨β', v, he, hS', hst, hv⟩ => ⟨β', v, he, hS', hst, by cases hv with | p hv => exact .p (hxy _ _ _ hv)⟩⟩
theorem Con.toPs {P : Program} {f : FuncId} {args : List TV} {H H' : List AObj} {e sz : Nat} {d : AV} {acc : List AV} (hd : d = .nils ∨ d = .cz) (h : Con P f args H (accT 0 d acc) H' (accL e sz acc)) : Con P f args H (.p (.ps acc)) H' [] := by
 cases acc with
 | nil => rcases hd with rfl | rfl; exact h.le nils_ps; exact h.le cz_ps
 | cons r rs => exact Con.freeze h rfl
theorem Rd.own {H L : List AObj} {i : Nat} {Ty : TypeId} {b : Bool} {e n : Nat} {rows : List AV} (hi : L[i]? = some (.arr Ty b e rows)) (hn : rows.length = n) : Rd H L (.sl (.l i) n 0 n) rows := Rd.full hi hn
end Go.Awp
namespace Go.Proofs.YtdkegmmigongoaaGreatDoor
set_option maxRecDepth 20000
open Go.Awp Tr
structure MI (l : List KV) where
 i : Nat
 h : i ≤ l.length
abbrev Rg := List UInt8 × List UInt8
structure VS where
 base : Tr
 shown : Tr
 writes : Tr
 reads : Tr
 ranges : List Rg
def rgV (r : Rg) : AV := .agg [.str r.1, .str r.2]
abbrev vB (h : Hd) (b s w r : Tr) (n : Nat) : AObj := .box 83 [W b, W s, W w, W r, .sl h n 0 n]
abbrev vR (l : List Rg) : AObj := .arr 89 true 2 (l.map rgV)
abbrev vH (s : VS) : List AObj := [vB (.o 1) s.base s.shown s.writes s.reads s.ranges.length, vR s.ranges]
abbrev vN (s : VS) : List AObj := [vB (.l 1) s.base s.shown s.writes s.reads s.ranges.length, vR s.ranges]
abbrev vP : TV := .ad (.o 0) 0
def VS.new (t : Tr) : VS := ⟨t, t, .nil, .nil, []⟩
theorem getT_tup (g : Option (List UInt8)) : getT g = .tup [.p (.str (g.getD [])), .p (.bool g.isSome)] := by cases g <;> rfl
theorem vnew_spec (t : Tr) : Con Tryz.prog 12 [W t] [] (.ad (.l 0) 0) [] (vN (VS.new t)) := by
 refine con_of Tryz.func12 rfl (by kernel_rfl) rfl fun F w0 β0 => ?_
 refine K_tell rfl ?_
 refine go ?_
 refine J_recell 0 2 (.p (.cell .nilp)) rfl rfl rep_nil_cell ?_
 refine J_recell 0 3 (.p (.cell .nilp)) rfl rfl rep_nil_cell ?_
 refine J_lazy 0 4 89 (e := 2) rfl rfl rfl (.inl rfl) ?_
 exact J_give hT rfl rfl
theorem vlook_spec (s : VS) (k : List UInt8) : Con Tryz.prog 137 [vP, .p (.str k)] (vH s) (getT (s.shown.get k)) (vH s) [] := by
 have c1 := tget_spec k s.shown
 rw [getT_tup] at c1 ⊢
 refine con_of Tryz.func137 rfl (by kernel_rfl) rfl fun F w0 β0 => ?_
 refine K_tell rfl ?_
 refine go ?_
 refine K_op rfl rfl (opr_callP rfl rfl (c1) rfl rfl rfl rfl) rfl ?_
 refine go ?_
 exact J_done hT rfl rfl rfl
theorem vget_spec (s : VS) (k : List UInt8) (hs : s.reads.size + 2 ≤ big40) : Con Tryz.prog 162 [vP, .p (.str k)] (vH s) (getT (s.shown.get k)) (vH { s with reads := s.reads.set k [] }) [] := by
 have c1 := tget_spec k s.shown
 rw [getT_tup] at c1 ⊢
 refine con_of Tryz.func162 rfl (by kernel_rfl) rfl fun F w0 β0 => ?_
 refine K_tell rfl ?_
 refine go ?_
 refine K_op rfl rfl (opr_callP rfl rfl (tset_spec k [] s.reads hs) rfl rfl rfl rfl) rfl ?_
 refine go ?_
 refine K_op rfl rfl (opr_callP rfl rfl (c1) rfl rfl rfl rfl) rfl ?_
 refine go ?_
 exact J_done hT rfl rfl rfl
def VS.room (s : VS) (k : List UInt8) : Bool := (s.writes.get k).isSome || decide (s.writes.size < 48)
theorem vroom_spec (s : VS) (k : List UInt8) : Con Tryz.prog 179 [vP, .p (.str k)] (vH s) (.p (.bool (s.room k))) (vH s) [] := by
 have c1 := tget_spec k s.writes
 rw [getT_tup] at c1
 have e : s.room k = ((s.writes.get k).isSome || decide ((s.writes.size : Int) < 48)) := by
  unfold VS.room; congr 1; exact decide_eq_decide.2 (by omega)
 rw [e]
 refine con_of Tryz.func179 rfl (by kernel_rfl) rfl fun F w0 β0 => ?_
 refine K_tell rfl ?_
 refine go ?_
 refine K_op rfl rfl (opr_callP rfl rfl (c1) rfl rfl rfl rfl) rfl ?_
 refine go ?_
 refine K_opt rfl rfl rfl need1 (fun _ => opr_callP rfl rfl (tlen_spec s.writes) rfl rfl rfl rfl) rfl ?_
 refine go ?_
 exact J_done hT rfl rfl rfl
def VS.set (s : VS) (k v : List UInt8) : VS := { s with writes := s.writes.set k (61 :: v), shown := s.shown.set k v }
theorem vset_spec (s : VS) (k v : List UInt8) (hw : s.writes.size + 2 ≤ big40) (hs : s.shown.size + 2 ≤ big40) (hv : v.length ≤ 140737488355328) : Con Tryz.prog 169 [vP, .p (.str k), .p (.str v)] (vH s) (.p (.bool (s.room k))) (vH (if s.room k = true then s.set k v else s)) [] := by
 have c1 := vroom_spec s k
 generalize s.room k = b at c1
 cases b with
 | false =>
  refine con_of Tryz.func169 rfl (by kernel_rfl) rfl fun F w0 β0 => ?_
  refine K_tell rfl ?_
  refine go ?_
  refine K_op rfl rfl (opr_callS [.o 0, .o 1] rfl rfl (c1) rfl rfl rfl ⟨⟨rfl, rfl⟩, ⟨rfl, rfl⟩, trivial⟩ rfl rfl rfl rfl) rfl ?_
  refine go ?_
  exact J_done hT rfl rfl rfl
 | true =>
  refine con_of Tryz.func169 rfl (by kernel_rfl) rfl fun F w0 β0 => ?_
  refine K_tell rfl ?_
  refine go ?_
  refine K_op rfl rfl (opr_callS [.o 0, .o 1] rfl rfl (c1) rfl rfl rfl ⟨⟨rfl, rfl⟩, ⟨rfl, rfl⟩, trivial⟩ rfl rfl rfl rfl) rfl ?_
  refine go ?_
  refine K_op rfl rfl (opr_cat rfl rfl rfl (by simp; omega)) rfl ?_
  refine go ?_
  refine K_op rfl rfl (opr_callP rfl rfl (tset_spec k (61 :: v) s.writes hw) rfl rfl rfl rfl) rfl ?_
  refine go ?_
  refine K_op rfl rfl (opr_callP rfl rfl (tset_spec k v s.shown hs) rfl rfl rfl rfl) rfl ?_
  refine go ?_
  exact J_done hT rfl rfl rfl
def VS.cut (s : VS) (k : List UInt8) : VS := { s with writes := if (s.base.get k).isSome = true then s.writes.set k [] else s.writes.cut k, shown := s.shown.cut k }
theorem vcut_spec (s : VS) (k : List UInt8) (hw : s.writes.size + 2 ≤ big40) (hs : s.shown.size + 2 ≤ big40) : Con Tryz.prog 172 [vP, .p (.str k)] (vH s) (.p (.bool (s.room k))) (vH (if s.room k = true then s.cut k else s)) [] := by
 have c1 := vroom_spec s k
 have c2 := tget_spec k s.base
 rw [getT_tup] at c2
 unfold VS.cut
 generalize (s.base.get k).getD [] = g0 at c2
 generalize (s.base.get k).isSome = g at c2
 generalize s.room k = b at c1
 cases b with
 | false =>
  refine con_of Tryz.func172 rfl (by kernel_rfl) rfl fun F w0 β0 => ?_
  refine K_tell rfl ?_
  refine go ?_
  refine K_op rfl rfl (opr_callS [.o 0, .o 1] rfl rfl (c1) rfl rfl rfl ⟨⟨rfl, rfl⟩, ⟨rfl, rfl⟩, trivial⟩ rfl rfl rfl rfl) rfl ?_
  refine go ?_
  exact J_done hT rfl rfl rfl
 | true =>
  refine con_of Tryz.func172 rfl (by kernel_rfl) rfl fun F w0 β0 => ?_
  refine K_tell rfl ?_
  refine go ?_
  refine K_op rfl rfl (opr_callS [.o 0, .o 1] rfl rfl (c1) rfl rfl rfl ⟨⟨rfl, rfl⟩, ⟨rfl, rfl⟩, trivial⟩ rfl rfl rfl rfl) rfl ?_
  refine go ?_
  refine K_op rfl rfl (opr_callP rfl rfl (c2) rfl rfl rfl rfl) rfl ?_
  refine go ?_
  cases g with
  | true =>
   refine go ?_
   refine K_op rfl rfl (opr_callP rfl rfl (tset_spec k [] s.writes hw) rfl rfl rfl rfl) rfl ?_
   refine go ?_
   refine K_op rfl rfl (opr_callP rfl rfl (tcut_spec s.shown k hs) rfl rfl rfl rfl) rfl ?_
   refine go ?_
   exact J_done hT rfl rfl rfl
  | false =>
   refine go ?_
   refine K_op rfl rfl (opr_callP rfl rfl (tcut_spec s.writes k hw) rfl rfl rfl rfl) rfl ?_
   refine go ?_
   refine K_op rfl rfl (opr_callP rfl rfl (tcut_spec s.shown k hs) rfl rfl rfl rfl) rfl ?_
   refine go ?_
   exact J_done hT rfl rfl rfl
def idxR : List Rg → Rg → Nat → Int
 | [], _, _ => -1
 | x :: t, r, i => if x = r then (i : Int) else idxR t r (i + 1)
theorem idxR_mem (r : Rg) : ∀ (l : List Rg) (i : Nat), (0 ≤ idxR l r i ↔ r ∈ l) ∧ -1 ≤ idxR l r i
 | [], i => by simp [idxR]
 | x :: t, i => by
  have := idxR_mem r t (i + 1)
  unfold idxR
  split
  ·rename_i e
   exact ⟨by simp [e], by omega⟩
  ·rename_i e
   refine ⟨?_, this.2⟩
   rw [this.1, List.mem_cons]
   exact ⟨.inr, fun h => h.resolve_left fun h => e h.symm⟩
structure IxR (l : List Rg) (r : Rg) where
 i : Nat
 h : i ≤ l.length
 e : idxR (l.drop i) r i = idxR l r 0
theorem rg_eq (r x : Rg) : (decide (r.1 = x.1) && (decide (r.2 = x.2) && true)) = decide (x = r) := by
 by_cases h : x = r
 ·subst h; simp
 ·rw [decide_eq_false h]
  have : ¬ (r.1 = x.1 ∧ r.2 = x.2) := fun ⟨h1, h2⟩ => h (Prod.ext h1.symm h2.symm)
  simp only [Bool.and_true, Bool.and_eq_false_iff, decide_eq_false_iff_not]
  exact Decidable.not_and_iff_or_not.1 this
set_option maxHeartbeats 4000000 in
theorem rgIndex_spec (l : List Rg) (r : Rg) (hl : l.length ≤ big40) : Con Tryz.prog 84 [.sl (.o 0) l.length 0 l.length, .p (rgV r)] [vR l] (.p (.int .i64 (idxR l r 0))) [vR l] [] := by
 have hlen : (l.map rgV).length = l.length := by simp
 have hrd : ∀ L, Rd [vR l] L (.sl (.o 0) l.length 0 l.length) (l.map rgV) := fun L => Rd.full rfl hlen
 unfold big40 at hl
 refine con_of Tryz.func84 rfl (by kernel_rfl) rfl fun F w0 β0 => ?_
 refine K_tell rfl ?_
 refine go ?_
 refine K_op rfl rfl (opr_len_rd hT rfl rfl (hrd _)) rfl ?_
 rw [hlen]
 refine go ?_
 refine J_loop (fun q : IxR l r => [(0, .sl (.o 0) l.length 0 l.length), (3, .ad (.l 0) 0), (7, .p (.int .i64 (l.length : Int))), (8, .p (.int .i64 (q.i : Int)))]) (fun _ => [vR l]) (fun _ => [.box 89 [.p (.str r.1), .p (.str r.2)]]) (fun q => l.length - q.i) ⟨0, by omega, rfl⟩ ⟨rfl, rfl, rfl, rfl, trivial⟩ rfl rfl (fun q => ?_)
 have hi := q.h
 have he := q.e
 refine go ?_
 by_cases h : q.i < l.length
 ·have hx : l[q.i]? = some l[q.i] := List.getElem?_eq_getElem h
  have hdr : l.drop q.i = l[q.i] :: l.drop (q.i + 1) := List.drop_eq_getElem_cons h
  rw [hdr] at he
  generalize l[q.i] = x at hx he
  have hxk : (l.map rgV)[((q.i : Nat) : Int).toNat]? = some (rgV x) := by rw [Int.toNat_natCast, List.getElem?_map, hx]; rfl
  refine K_condT rfl (decide_eq_true (by omega)) ?_
  refine go ?_
  refine J_draw [_] [] (by kernel_rfl) (by kernel_rfl) rfl ?_
  refine gd ?_
  refine T_opD rfl rfl rfl rfl rfl (opr_index hT rfl rfl rfl rfl rfl (hrd _) (by omega) (by rw [hlen]; omega)) rfl ?_
  refine T_opD rfl rfl rfl rfl rfl (opr_load_el hT rfl rfl (hrd _) hxk rfl rfl) rfl ?_
  refine T_opD rfl rfl rfl rfl rfl (opr_eqAgg hT rfl (by kernel_rfl) rfl rfl rfl rfl rfl) rfl ?_
  refine J_weak [(0, .sl (.o 0) l.length 0 l.length), (3, .ad (.l 0) 0), (5, .p (.int .i64 (q.i : Int))), (7, .p (.int .i64 (l.length : Int))), (8, .p (.int .i64 (q.i : Int))), (16, .p (.bool (decide (x = r))))] ⟨rfl, rfl, rfl, rfl, rfl, (by rw [← rg_eq r x]; rfl), trivial⟩ ?_
  by_cases hk : x = r
  ·rw [← he, idxR, if_pos hk]
   refine K_condT rfl (by simp [hk]) ?_
   refine go ?_
   exact J_done hT rfl rfl rfl
  ·rw [idxR, if_neg hk] at he
   refine K_condF rfl (by simp [hk]) ?_
   refine go ?_
   refine J_again ⟨q.i + 1, by omega, he⟩ (by show l.length - (q.i + 1) < l.length - q.i; omega) ⟨rfl, rfl, rfl, congrArg (fun z => TV.p (.int .i64 z)) (by rw [IntWalk.i64_in _ (by omega)]; rfl), trivial⟩ rfl rfl
 ·rw [List.drop_eq_nil_of_le (by omega), idxR] at he
  rw [← he]
  refine K_condF rfl (decide_eq_false (by omega)) ?_
  refine go ?_
  exact J_done hT rfl rfl rfl
theorem rgContains_spec (l : List Rg) (r : Rg) (hl : l.length ≤ big40) : Con Tryz.prog 42 [.sl (.o 0) l.length 0 l.length, .p (rgV r)] [vR l] (.p (.bool (decide (r ∈ l)))) [vR l] [] := by
 have c1 := rgIndex_spec l r hl
 have e : decide (r ∈ l) = decide (idxR l r 0 ≥ 0) := decide_eq_decide.2 (idxR_mem r l 0).1.symm
 rw [e]
 generalize idxR l r 0 = z at c1
 refine con_of Tryz.func42 rfl (by kernel_rfl) rfl fun F w0 β0 => ?_
 refine K_tell rfl ?_
 refine go ?_
 refine K_op rfl rfl (opr_callS [.o 0] rfl rfl (c1) rfl rfl rfl ⟨⟨rfl, rfl⟩, trivial⟩ rfl rfl rfl rfl) rfl ?_
 refine go ?_
 exact J_done hT rfl rfl rfl
def VS.range (s : VS) (a b : List UInt8) : VS := if Op.bytesLess a b = true then { s with ranges := if (a, b) ∈ s.ranges then s.ranges else s.ranges ++ [(a, b)] } else s
def VS.rangeR (s : VS) (a b : List UInt8) : List KV := if Op.bytesLess a b = true then s.shown.range a b else []
set_option maxHeartbeats 4000000 in
theorem vrange_spec (s : VS) (a b : List UInt8) (hs : s.shown.size ≤ big40) (hr : s.ranges.length ≤ big40) : Con Tryz.prog 20 [vP, .p (.str a), .p (.str b)] (vH s) (accT 0 .nils (kvs (s.rangeR a b))) (vH (s.range a b)) (accL 50 3 (kvs (s.rangeR a b))) := by
 unfold VS.range VS.rangeR
 by_cases hab : Op.bytesLess a b = true
 ·rw [if_pos hab, if_pos hab]
  have c1 := rgContains_spec s.ranges (a, b) hr
  have c2 := trange_spec a b s.shown hs
  refine con_of Tryz.func20 rfl (by kernel_rfl) rfl fun F w0 β0 => ?_
  refine K_tell rfl ?_
  refine gx ?_
  rw [hab]
  refine go ?_
  refine J_draw [_] [] (by kernel_rfl) (by kernel_rfl) rfl ?_
  refine gd ?_
  refine T_opD rfl rfl rfl rfl rfl (opr_callS [.o 1] rfl rfl c1 rfl rfl rfl ⟨⟨rfl, rfl⟩, trivial⟩ rfl rfl rfl rfl) rfl ?_
  refine gd ?_
  refine J_weak [(0, vP), (1, .p (.str a)), (2, .p (.str b)), (7, .ad (.l 0) 0), (24, .p (.bool (!(decide ((a, b) ∈ s.ranges)))))] ⟨rfl, rfl, rfl, rfl, rfl, trivial⟩ ?_
  by_cases hm : (a, b) ∈ s.ranges
  ·rw [if_pos hm, decide_eq_true hm]
   refine go ?_
   refine J_take 0 [(38, W s.shown), (39, .p (.str a)), (40, .p (.str b))] ⟨rfl, rfl, rfl, trivial⟩ rfl rfl ?_
   refine K_opM rfl rfl (opr_callE rfl rfl c2 rfl rfl (accT_ren 0 0 0 _ _) (accL_ren ..)) rfl ?_
   refine K_opM rfl rfl (opr_mv (accT 0 .nils (kvs (s.shown.range a b))) (.inr rfl) rfl) rfl ?_
   refine go ?_
   exact J_give hT rfl rfl
  ·rw [if_neg hm, decide_eq_false hm]
   have e1 : vH { s with ranges := s.ranges ++ [(a, b)] } = [vB (.o 1) s.base s.shown s.writes s.reads (s.ranges.length + 1), .arr 89 true 2 (s.ranges.map rgV ++ [rgV (a, b)])] := by
    simp [vH, vB, vR]
   rw [e1]
   refine go ?_
   refine J_drawH [vH s, [vB (.o 1) s.base s.shown s.writes s.reads s.ranges.length, .arr 89 true 2 (s.ranges.map rgV ++ [rgV (a, b)])], [vB (.o 1) s.base s.shown s.writes s.reads (s.ranges.length + 1), .arr 89 true 2 (s.ranges.map rgV ++ [rgV (a, b)])]]
    [[.box 89 [.p (.str a), .p (.str b)]], [.box 89 [.p (.str a), .p (.str b)]], [.box 89 [.p (.str a), .p (.str b)]]] [7, 10] (by kernel_rfl) (by kernel_rfl) rfl rfl ?_
   refine gdH ?_
   refine T_stH rfl rfl rfl rfl rfl rfl (opr_app_ownH (i := 1) (n := s.ranges.length) (rows0 := s.ranges.map rgV) (rows := [rgV (a, b)]) (Ty := 89) (te := ⟨.array 2 9, 2, 32, [.str [], .str []]⟩) hT rfl rfl rfl rfl (by simp) rfl rfl (.rd (.ps _)) hbs_ps (show clR [rgV (a, b)] from by intro r hr x hx; simp at hr; subst hr; simp [cellsOf, rgV] at hx; rcases hx with rfl | rfl <;> rfl) (show ∀ r ∈ [rgV (a, b)], (cellsOf r).length = 2 from by intro r hr; simp at hr; subst hr; rfl) (by decide) (by show (s.ranges.length + 1) * 32 ≤ _; unfold big40 at hr; omega)) rfl ?_
   refine gdH ?_
   refine J_weak [(0, vP), (1, .p (.str a)), (2, .p (.str b))] ⟨rfl, rfl, rfl, trivial⟩ ?_
   refine go ?_
   refine J_take 0 [(38, W s.shown), (39, .p (.str a)), (40, .p (.str b))] ⟨rfl, rfl, rfl, trivial⟩ rfl rfl ?_
   refine K_opM rfl rfl (opr_callE rfl rfl c2 rfl rfl (accT_ren 0 0 0 _ _) (accL_ren ..)) rfl ?_
   refine K_opM rfl rfl (opr_mv (accT 0 .nils (kvs (s.shown.range a b))) (.inr rfl) rfl) rfl ?_
   refine go ?_
   exact J_give hT rfl rfl
 ·rw [if_neg hab, if_neg hab]
  simp only [Bool.not_eq_true] at hab
  refine con_of Tryz.func20 rfl (by kernel_rfl) rfl fun F w0 β0 => ?_
  refine K_tell rfl ?_
  refine gx ?_
  rw [hab]
  refine go ?_
  exact J_done hT rfl rfl rfl
structure Ix (n : Nat) where
 i : Nat
 h : i ≤ n
theorem map_take1 {α β : Type} (f : α → β) {l : List α} {i : Nat} {x : α} (hx : l[i]? = some x) : (l.take i).map f ++ [f x] = (l.take (i + 1)).map f := by
 obtain ⟨h, rfl⟩ := List.getElem?_eq_some_iff.1 hx
 rw [List.take_succ_eq_append_getElem h, List.map_append]
 rfl
end Go.Proofs.YtdkegmmigongoaaGreatDoor

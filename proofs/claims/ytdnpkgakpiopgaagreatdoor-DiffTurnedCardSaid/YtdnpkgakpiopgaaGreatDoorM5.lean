import Derived.Test.YtdnpkgakpiopgaaGreatDoorGo
import Derived.Test.YtdnpkgakpiopgaaGreatDoorM4
import Derived.Test.YtdnpkgakpiopgaaGreatDoorM3
namespace Go.Proofs.YtdnpkgakpiopgaaGreatDoor
set_option maxRecDepth 20000
open Go.Awp Tr
def atZ : Tr → Int → Option KV
 | .nil, _ => none
 | .node k v l r, i => if i < (l.size : Int) then atZ l i else if i > (l.size : Int) then atZ r (i - ((l.size : Int) + 1)) else some (k, v)
structure AtJ (g : Option KV) where
 t : Tr
 i : Int
 h : atZ t i = g
 b : t.size ≤ big40
 c : -9223372036854775808 ≤ i ∧ i ≤ 9223372036854775807
structure RankJ (k : List UInt8) (g : Nat) where
 t : Tr
 n : Nat
 h : n + t.rank k = g
theorem zM0 {l : List KV} {i : Nat} {x : KV} (h : l[i]? = some x) : (kvs l)[i]? = some (kvV x) := by simp [kvs, h]
structure RG (k : List UInt8) (l : List KV) (g : Option (List UInt8)) where
 i : Nat
 h : i ≤ l.length
 e : lget k (l.drop i) = g
abbrev R (d : AV) (l : List KV) : TV := .p (accV d (kvs l))
structure RI (l : List KV) where
 i : Nat
 h : i ≤ l.length
end Go.Proofs.YtdnpkgakpiopgaaGreatDoor
namespace Go.Proofs.YtdnpkgakpiopgaaGreatDoor
set_option maxRecDepth 20000
open Go.Awp
end Go.Proofs.YtdnpkgakpiopgaaGreatDoor
namespace Go.Proofs.YtdnpkgakpiopgaaGreatDoor
set_option maxRecDepth 20000
open Go.Awp Tr
abbrev PW := List UInt8 × List UInt8 × Bool
structure SI (l m : List PW) where
 i : Nat
 h : i ≤ l.length
 e : l.take i = m.take i
structure LI (n : Nat) where
 k : Nat
 h : 2 ^ k ≤ (n + 1) * (n + 1)
structure TOp where
 kind : Int
 ver : Int
 key : List UInt8
 val : List UInt8
def opV (o : TOp) : AV := .agg [.int .i64 o.kind, .int .u16 o.ver, .str o.key, .str o.val]
def TOp.ok (o : TOp) : Prop := (0 ≤ o.ver ∧ o.ver ≤ 65535) ∧ o.key.length ≤ Go.Awp.reach ∧ o.val.length ≤ Go.Awp.reach
inductive Ops : AV → List TOp → Prop
 | nils : Ops .nils []
 | ps (l : List TOp) : Ops (.ps (l.map opV)) l
theorem Ops.rd {s : AV} {l : List TOp} (h : Ops s l) (H L : List AObj) : Rd H L (.p s) (l.map opV) := by
 cases h with
 | nils => exact .nils
 | ps => exact .ps _
def stopAt (i : Nat) (o : TOp) : Bool := decide (200 ≤ i) || (decide (200 < o.key.length) || decide (200 < o.val.length))
def cutN : List TOp → Nat → Nat
 | [], i => i
 | o :: r, i => if stopAt i o = true then i else cutN r (i + 1)
structure CI (l : List TOp) where
 i : Nat
 h : i ≤ l.length
 e : cutN (l.drop i) i = cutN l 0
end Go.Proofs.YtdnpkgakpiopgaaGreatDoor
namespace Go.Awp
open Go.RowKit
section
variable {Γ : Ctx} {env : Env} {H L : List AObj} {Φ : Act → World → Prop}
theorem zO7 (i k : Nat) {Tb : Nat} {cs : List TV} {x : TV} (y : TV) (hi : L[i]? = some (.box Tb cs)) (hk : cs[k]? = some x) (hxy : ∀ w β G v, RepT w β G x v → RepT w β G y v) (kk : J Γ env H (L.set i (.box Tb (cs.set k y))) Φ) : J Γ env H L Φ := fun a w β s => by
 have hlt : i < L.length := (List.getElem?_eq_some_iff.1 hi).1
 obtain ⟨s1, s2⟩ := upd (w' := w) (G' := ⟨H, L.set i (.box Tb (cs.set k y)), Γ.F⟩) (h := .l i) (o' := .box Tb (cs.set k y)) (b' := β (.l i)) s.sim hi rfl rfl rfl (Nat.le_refl _) (fun _ _ _ => rfl) rfl (.inl rfl) ⟨rfl, by simp, rfl⟩
  (fun q => by
   cases q with
   | o q => simp [Hp.get]
   | l j =>
    simp only [Hp.get, List.getElem?_set, Hd.l.injEq]
    by_cases e : i = j
    ·subst e; simp; omega
    ·rw [if_neg e, if_neg (fun q => e q.symm)]) rfl s.sim.ext
 have eβ : (fun q => if q = Hd.l i then β (.l i) else β q) = β := by
  funext q
  split
  ·rename_i e; rw [e]
  ·rfl
 rw [eβ] at s1 s2
 obtain ⟨arr, g1, g2, g3⟩ := s.sim.objs (.l i) _ hi
 refine kk a w β ⟨s2 ⟨arr, g1, by rw [List.length_set]; exact g2, fun j z hj => ?_⟩, s.step.trans s1, s.env.mono s1, s.size, s.defers⟩
 by_cases e : k = j
 ·subst e
  have hkl := (List.getElem?_eq_some_iff.1 hk).1
  rw [List.getElem?_set, if_pos rfl, if_pos hkl] at hj
  obtain rfl := Option.some.inj hj
  obtain ⟨v, hv, hr⟩ := g3 k _ hk
  exact ⟨v, hv, hxy _ _ _ _ (hr.mono s1)⟩
 ·rw [List.getElem?_set, if_neg e] at hj
  obtain ⟨v, hv, hr⟩ := g3 j z hj
  exact ⟨v, hv, hr.mono s1⟩
end
section
variable {P : Program} {ops : List Oper} {env0 : Env} {Hs Ls : List (List AObj)} {ss : List Nat} {xs : List TV}
theorem yJ {K : List TV → Prop} {o : Oper} {rest : List Oper} {i k : Nat} {x : TV} {H L : List AObj} (hg : o.guard = none) (hp : posn ss 0 i = none) (hk : loK o ss 0 0 = k) (hk2 : Nat.beq (hiK ops i ss 0 - k) 0 = true) (hH : Hs.getD k [] = H) (hL : Ls.getD k [] = L)
  (h : OpR P o (RdE ops env0 xs o) H L x H L) {xs' : List TV} (hxs : snocD xs x = some xs') (kk : Tele P ops env0 (fun k => Hs.getD k []) Ls ss K rest (i + 1) xs') : Tele P ops env0 (fun k => Hs.getD k []) Ls ss K (o :: rest) i xs :=
 ⟨x, .inl ⟨fun g b hgb => (by rw [hg] at hgb; cases hgb), by
  subst hH hL
  unfold Obl
  rw [hp]
  simp only
  rw [hk, Nat.eq_of_beq_eq_true hk2]
  exact h⟩, by rw [yG (yL hxs)]; exact kk⟩
theorem zBs {K : List TV → Prop} {o : Oper} {rest : List Oper} {i k : Nat} {x : TV} {H L H2 L2 : List AObj} (hg : o.guard = none) (hp : posn ss 0 i = none) (hk : loK o ss 0 0 = k) (hk2 : Nat.beq (hiK ops i ss 0 - k) 1 = true) (hH : Hs.getD k [] = H) (hL : Ls.getD k [] = L) (hH2 : Hs.getD (k + 1) [] = H2) (hL2 : Ls.getD (k + 1) [] = L2)
  (h : OpR P o (RdE ops env0 xs o) H L x H L) (h2 : OpR P o (RdE ops env0 xs o) H2 L2 x H2 L2) {xs' : List TV} (hxs : snocD xs x = some xs') (kk : Tele P ops env0 (fun k => Hs.getD k []) Ls ss K rest (i + 1) xs') : Tele P ops env0 (fun k => Hs.getD k []) Ls ss K (o :: rest) i xs :=
 ⟨x, .inl ⟨fun g b hgb => (by rw [hg] at hgb; cases hgb), by
  subst hH hL hH2 hL2
  unfold Obl
  rw [hp]
  simp only
  rw [hk, Nat.eq_of_beq_eq_true hk2]
  exact ⟨h, h2⟩⟩, by rw [yG (yL hxs)]; exact kk⟩
theorem yI {K : List TV → Prop} {o : Oper} {rest : List Oper} {i q : Nat} {x : TV} {H L H' L' : List AObj} (hg : o.guard = none) (hp : posn ss 0 i = some q) (hH : Hs.getD q [] = H) (hL : Ls.getD q [] = L) (hH' : Hs.getD (q + 1) [] = H') (hL' : Ls.getD (q + 1) [] = L')
  (h : OpR P o (RdE ops env0 xs o) H L x H' L') {xs' : List TV} (hxs : snocD xs x = some xs') (kk : Tele P ops env0 (fun k => Hs.getD k []) Ls ss K rest (i + 1) xs') : Tele P ops env0 (fun k => Hs.getD k []) Ls ss K (o :: rest) i xs :=
 ⟨x, .inl ⟨fun g b hgb => (by rw [hg] at hgb; cases hgb), by
  subst hH hL hH' hL'
  unfold Obl
  rw [hp]
  simp only
  exact h⟩, by rw [yG (yL hxs)]; exact kk⟩
end
theorem zTx {P : Program} {ops : List Oper} {env0 : Env} {Hf : Nat → List AObj} {Ls : List (List AObj)} {ss : List Nat} {xs : List TV} {K : List TV → Prop} {d : Option Nat} {op : Op} {t : TypeId} {pos : String} {af : Array Edge} {rest : List Oper} {i : Nat} (h : Tele P ops env0 Hf Ls ss K ({ dst := d, op := op, type := t, pos := pos, after := af, guard := none } :: rest) i xs) : Tele P ops env0 Hf Ls ss K ({ dst := d, op := op, type := t, pos := pos, after := af, guard := none } :: rest) i xs := h
theorem T_stD {P : Program} {ops : List Oper} {env0 : Env} {H : List AObj} {Ls : List (List AObj)} {ss : List Nat} {xs : List TV} {K : List TV → Prop} {o : Oper} {rest : List Oper} {i q : Nat} {x : TV} {L L' : List AObj} (hg : o.guard = none) (hp : posn ss 0 i = some q) (hL : Ls.getD q [] = L) (hL' : Ls.getD (q + 1) [] = L') (h : OpR P o (RdE ops env0 xs o) H L x H L') {xs' : List TV} (hxs : snocD xs x = some xs') (kk : Tele P ops env0 (fun _ => H) Ls ss K rest (i + 1) xs') : Tele P ops env0 (fun _ => H) Ls ss K (o :: rest) i xs :=
 T_st hg hp hL hL' h (yL hxs) kk
theorem J_drawS {P : Program} {Γ : Ctx} {env0 : Env} {H L : List AObj} {Q : Exit → Act → World → Prop} {id : Nat} {ops : List Oper} (n : Nat) (hm : P.follows .mixedOrders = true) (hreg : regOk Γ.N ops [n] = true)
  (h : ∃ L2, Tele P ops env0 (fun _ => H) [L, L2] [n] (fun xs => J Γ (finE ops xs env0) H L2 (Q .normal)) ops 0 []) : J Γ env0 H L ((Code.region id ops.toArray true).wp P Q) :=
 h.elim fun L2 h => yE [L, L2] [n] hm hreg rfl h
theorem j1 {P : Program} {Γ : Ctx} {env0 : Env} {H L : List AObj} {Q : Exit → Act → World → Prop} {id : Nat} {ops : List Oper} (n m : Nat) (H2 : List AObj) (hm : P.follows .mixedOrders = true) (hreg : regOk Γ.N ops [n, m] = true)
  (h : ∃ L2, Tele P ops env0 (fun k => [H, H2, H2].getD k []) [L, L, L2] [n, m] (fun xs => J Γ (finE ops xs env0) H2 L2 (Q .normal)) ops 0 []) : J Γ env0 H L ((Code.region id ops.toArray true).wp P Q) :=
 h.elim fun L2 h => zG0 [H, H2, H2] [L, L, L2] [n, m] hm hreg rfl rfl h
theorem gdW {φ ψ : Prop} (k : ψ) (h : ψ → φ := by
 intro k
 repeat (first
  | with_reducible refine zJf ?_
  | ((with_reducible refine zN4 ?_); first | refine T_no rfl rfl rfl rfl ?_ | refine yT rfl rfl rfl rfl rfl rfl (zK hT rfl) rfl ?_ | refine yT rfl rfl rfl rfl rfl rfl (z8 hT rfl) rfl ?_ | refine yT rfl rfl rfl rfl rfl rfl (zO hT rfl) rfl ?_ | refine yT rfl rfl rfl rfl rfl rfl (zN hT rfl) rfl ?_)
  | ((with_reducible refine zO0 ?_); first | refine zS rfl rfl rfl rfl rfl (zK hT rfl) rfl ?_ | refine zS rfl rfl rfl rfl rfl (z8 hT rfl) rfl ?_ | refine zS rfl rfl rfl rfl rfl (zO hT rfl) rfl ?_ | refine zS rfl rfl rfl rfl rfl (zN hT rfl) rfl ?_ | refine zS rfl rfl rfl rfl rfl (j3 hT rfl rfl rfl) rfl ?_ | refine T_stD rfl rfl rfl rfl (zK hT rfl) rfl ?_ | refine zDs rfl rfl rfl rfl rfl rfl (zK hT rfl) (zK hT rfl) rfl ?_ | refine zDs rfl rfl rfl rfl rfl rfl (zN hT rfl) (zN hT rfl) rfl ?_))
 exact k) : φ := h k
theorem gdH {φ ψ : Prop} (k : ψ) (h : ψ → φ := by
 intro k
 repeat (first
  | with_reducible refine zJf ?_
  | ((with_reducible refine zTx ?_); first | refine yJ rfl rfl rfl rfl rfl rfl (zK hT rfl) rfl ?_ | refine yJ rfl rfl rfl rfl rfl rfl (zO hT rfl) rfl ?_ | refine yJ rfl rfl rfl rfl rfl rfl (zN hT rfl) rfl ?_ | refine yJ rfl rfl rfl rfl rfl rfl (yS hT rfl rfl rfl rfl) rfl ?_ | refine zBs rfl rfl rfl rfl rfl rfl rfl rfl (zK hT rfl) (zK hT rfl) rfl ?_ | refine zBs rfl rfl rfl rfl rfl rfl rfl rfl (zO hT rfl) (zO hT rfl) rfl ?_ | refine zBs rfl rfl rfl rfl rfl rfl rfl rfl (zN hT rfl) (zN hT rfl) rfl ?_ | refine yI rfl rfl rfl rfl rfl rfl (zO hT rfl) rfl ?_ | refine yI rfl rfl rfl rfl rfl rfl (zK hT rfl) rfl ?_))
 exact k) : φ := h k
section
variable {P : Program} {T : Tab} {Γ : Ctx} {env : Env} {H L : List AObj} {Q : Exit → Act → World → Prop} {ops : Array Oper} {rest : List Oper} {o : Oper}
end
theorem zCb (w : World) (β : Hd → Nat) (G : Hp) (v : Value) (h : RepT w β G (.p .nilp) v) : RepT w β G (.p (.cell .nilp)) v := zPl rfl h
theorem zFy : AVLe .nils (.ps []) := fun _ _ _ h => by cases h; exact .psE ..
theorem cz_ps : AVLe .cz (.ps []) := fun _ _ _ h => by cases h; exact .psE ..
theorem Con.le {P : Program} {f : FuncId} {args : List TV} {H H' news : List AObj} {x y : AV} (h : Con P f args H (.p x) H' news) (hxy : AVLe x y) : Con P f args H (.p y) H' news :=
 ⟨h.can, fun F w β vs hS hr => (h.run F w β vs hS hr).mono fun _ _ ⟨β', v, he, hS', hst, hv⟩ => ⟨β', v, he, hS', hst, by cases hv with | p hv => exact .p (hxy _ _ _ hv)⟩⟩
theorem Con.toPs {P : Program} {f : FuncId} {args : List TV} {H H' : List AObj} {e sz : Nat} {d : AV} {acc : List AV} (hd : d = .nils ∨ d = .cz) (h : Con P f args H (accT 0 d acc) H' (accL e sz acc)) : Con P f args H (.p (.ps acc)) H' [] := by
 cases acc with
 | nil => rcases hd with rfl | rfl; exact h.le zFy; exact h.le cz_ps
 | cons r rs => exact Con.freeze h rfl
theorem Rd.own {H L : List AObj} {i : Nat} {Ty : TypeId} {b : Bool} {e n : Nat} {rows : List AV} (hi : L[i]? = some (.arr Ty b e rows)) (hn : rows.length = n) : Rd H L (.sl (.l i) n 0 n) rows := Rd.full hi hn
end Go.Awp
namespace Go.Proofs.YtdnpkgakpiopgaaGreatDoor
set_option maxRecDepth 20000
open Go.Awp Tr
structure MI (l : List KV) where
 i : Nat
 h : i ≤ l.length
abbrev Rg := List UInt8 × List UInt8
structure VS where
 base : Tr
 shown : Tr
 writes : Tr
 reads : Tr
 ranges : List Rg
def rgV (r : Rg) : AV := .agg [.str r.1, .str r.2]
abbrev vB (h : Hd) (b s w r : Tr) (n : Nat) : AObj := .box 100 [W b, W s, W w, W r, .sl h n 0 n]
abbrev vR (l : List Rg) : AObj := .arr 105 true 2 (l.map rgV)
abbrev vH (s : VS) : List AObj := [vB (.o 1) s.base s.shown s.writes s.reads s.ranges.length, vR s.ranges]
abbrev vN (s : VS) : List AObj := [vB (.l 1) s.base s.shown s.writes s.reads s.ranges.length, vR s.ranges]
abbrev vP : TV := .ad (.o 0) 0
def VS.new (t : Tr) : VS := ⟨t, t, .nil, .nil, []⟩
theorem zAk (g : Option (List UInt8)) : getT g = .tup [.p (.str (g.getD [])), .p (.bool g.isSome)] := by cases g <;> rfl
theorem zL2 (t : Tr) : Con Tryz.prog 17 [W t] [] (.ad (.l 0) 0) [] (vN (VS.new t)) := by
 refine zD Tryz.func17 rfl (by kernel_rfl) rfl fun F w0 β0 => ?_
 refine zE rfl ?_
 refine go ?_
 refine zO7 0 2 (.p (.cell .nilp)) rfl rfl zCb ?_
 refine zO7 0 3 (.p (.cell .nilp)) rfl rfl zCb ?_
 refine zWe 0 4 105 (e := 2) rfl rfl rfl (.inl rfl) ?_
 exact zBr hT rfl rfl
theorem zHx (s : VS) (k : List UInt8) : Con Tryz.prog 183 [vP, .p (.str k)] (vH s) (getT (s.shown.get k)) (vH s) [] := by
 have c1 := zA7 k s.shown
 rw [zAk] at c1 ⊢
 refine zD Tryz.func183 rfl (by kernel_rfl) rfl fun F w0 β0 => ?_
 refine zE rfl ?_
 refine go ?_
 refine zH rfl rfl (zB rfl rfl (c1) rfl rfl rfl rfl) rfl ?_
 refine go ?_
 exact zC hT rfl rfl rfl
theorem zLb (s : VS) (k : List UInt8) (hs : s.reads.size + 2 ≤ big40) : Con Tryz.prog 109 [vP, .p (.str k)] (vH s) (getT (s.shown.get k)) (vH { s with reads := s.reads.set k [] }) [] := by
 have c1 := zA7 k s.shown
 rw [zAk] at c1 ⊢
 refine zD Tryz.func109 rfl (by kernel_rfl) rfl fun F w0 β0 => ?_
 refine zE rfl ?_
 refine go ?_
 refine zH rfl rfl (zB rfl rfl (zAg k [] s.reads hs) rfl rfl rfl rfl) rfl ?_
 refine go ?_
 refine zH rfl rfl (zB rfl rfl (c1) rfl rfl rfl rfl) rfl ?_
 refine go ?_
 exact zC hT rfl rfl rfl
def VS.room (s : VS) (k : List UInt8) : Bool := (s.writes.get k).isSome || decide (s.writes.size < 48)
theorem zIc (s : VS) (k : List UInt8) : Con Tryz.prog 196 [vP, .p (.str k)] (vH s) (.p (.bool (s.room k))) (vH s) [] := by
 have c1 := zA7 k s.writes
 rw [zAk] at c1
 have e : s.room k = ((s.writes.get k).isSome || decide ((s.writes.size : Int) < 48)) := by
  unfold VS.room; congr 1; exact decide_eq_decide.2 (by omega)
 rw [e]
 refine zD Tryz.func196 rfl (by kernel_rfl) rfl fun F w0 β0 => ?_
 refine zE rfl ?_
 refine go ?_
 refine zH rfl rfl (zB rfl rfl (c1) rfl rfl rfl rfl) rfl ?_
 refine go ?_
 refine yZ rfl rfl rfl need1 (fun _ => zB rfl rfl (zGl s.writes) rfl rfl rfl rfl) rfl ?_
 refine go ?_
 exact zC hT rfl rfl rfl
def VS.set (s : VS) (k v : List UInt8) : VS := { s with writes := s.writes.set k (61 :: v), shown := s.shown.set k v }
theorem zGb (s : VS) (k v : List UInt8) (hw : s.writes.size + 2 ≤ big40) (hs : s.shown.size + 2 ≤ big40) (hv : v.length ≤ 140737488355328) : Con Tryz.prog 181 [vP, .p (.str k), .p (.str v)] (vH s) (.p (.bool (s.room k))) (vH (if s.room k = true then s.set k v else s)) [] := by
 have c1 := zIc s k
 generalize s.room k = b at c1
 cases b with
 | false =>
  refine zD Tryz.func181 rfl (by kernel_rfl) rfl fun F w0 β0 => ?_
  refine zE rfl ?_
  refine go ?_
  refine zH rfl rfl (zA [.o 0, .o 1] rfl rfl (c1) rfl rfl rfl ⟨⟨rfl, rfl⟩, ⟨rfl, rfl⟩, trivial⟩ rfl rfl rfl rfl) rfl ?_
  refine go ?_
  exact zC hT rfl rfl rfl
 | true =>
  refine zD Tryz.func181 rfl (by kernel_rfl) rfl fun F w0 β0 => ?_
  refine zE rfl ?_
  refine go ?_
  refine zH rfl rfl (zA [.o 0, .o 1] rfl rfl (c1) rfl rfl rfl ⟨⟨rfl, rfl⟩, ⟨rfl, rfl⟩, trivial⟩ rfl rfl rfl rfl) rfl ?_
  refine go ?_
  refine zH rfl rfl (zB3 rfl rfl rfl (by simp; omega)) rfl ?_
  refine go ?_
  refine zH rfl rfl (zB rfl rfl (zAg k (61 :: v) s.writes hw) rfl rfl rfl rfl) rfl ?_
  refine go ?_
  refine zH rfl rfl (zB rfl rfl (zAg k v s.shown hs) rfl rfl rfl rfl) rfl ?_
  refine go ?_
  exact zC hT rfl rfl rfl
def VS.cut (s : VS) (k : List UInt8) : VS := { s with writes := if (s.base.get k).isSome = true then s.writes.set k [] else s.writes.cut k, shown := s.shown.cut k }
theorem zEa (s : VS) (k : List UInt8) (hw : s.writes.size + 2 ≤ big40) (hs : s.shown.size + 2 ≤ big40) : Con Tryz.prog 186 [vP, .p (.str k)] (vH s) (.p (.bool (s.room k))) (vH (if s.room k = true then s.cut k else s)) [] := by
 have c1 := zIc s k
 have c2 := zA7 k s.base
 rw [zAk] at c2
 unfold VS.cut
 generalize (s.base.get k).getD [] = g0 at c2
 generalize (s.base.get k).isSome = g at c2
 generalize s.room k = b at c1
 cases b with
 | false =>
  refine zD Tryz.func186 rfl (by kernel_rfl) rfl fun F w0 β0 => ?_
  refine zE rfl ?_
  refine go ?_
  refine zH rfl rfl (zA [.o 0, .o 1] rfl rfl (c1) rfl rfl rfl ⟨⟨rfl, rfl⟩, ⟨rfl, rfl⟩, trivial⟩ rfl rfl rfl rfl) rfl ?_
  refine go ?_
  exact zC hT rfl rfl rfl
 | true =>
  refine zD Tryz.func186 rfl (by kernel_rfl) rfl fun F w0 β0 => ?_
  refine zE rfl ?_
  refine go ?_
  refine zH rfl rfl (zA [.o 0, .o 1] rfl rfl (c1) rfl rfl rfl ⟨⟨rfl, rfl⟩, ⟨rfl, rfl⟩, trivial⟩ rfl rfl rfl rfl) rfl ?_
  refine go ?_
  refine zH rfl rfl (zB rfl rfl (c2) rfl rfl rfl rfl) rfl ?_
  refine go ?_
  cases g with
  | true =>
   refine go ?_
   refine zH rfl rfl (zB rfl rfl (zAg k [] s.writes hw) rfl rfl rfl rfl) rfl ?_
   refine go ?_
   refine zH rfl rfl (zB rfl rfl (zA4 s.shown k hs) rfl rfl rfl rfl) rfl ?_
   refine go ?_
   exact zC hT rfl rfl rfl
  | false =>
   refine go ?_
   refine zH rfl rfl (zB rfl rfl (zA4 s.writes k hw) rfl rfl rfl rfl) rfl ?_
   refine go ?_
   refine zH rfl rfl (zB rfl rfl (zA4 s.shown k hs) rfl rfl rfl rfl) rfl ?_
   refine go ?_
   exact zC hT rfl rfl rfl
end Go.Proofs.YtdnpkgakpiopgaaGreatDoor

/- More rules of the walk. No program is named here. -/
import Derived.Test.YtbdijekfplpnlaaGo2
namespace Go.Awp
open Go.RowKit
/-- The remainder by what isn't 0. -/
theorem remA {L : List AObj} {k : IntKind} {a b : Int} {d : TyD} (h : b ≠ 0) : binA L .rem (.p (.int k a)) (.p (.int k b)) d = some (.p (.int k (a.tmod b))) := by
  have e : kEq k k = true := by unfold kEq; rw [decide_eq_true rfl]
  simp only [binA, isShift, e, intA]
  rw [decide_eq_false h]
theorem quoA {L : List AObj} {k : IntKind} {a b : Int} {d : TyD} (h : b ≠ 0) : binA L .quo (.p (.int k a)) (.p (.int k b)) d = some (.p (.int k (k.wrap (a.tdiv b)))) := by
  have e : kEq k k = true := by unfold kEq; rw [decide_eq_true rfl]
  simp only [binA, isShift, e, intA]
  rw [decide_eq_false h]
/-- A whole number as a byte. -/
theorem u8_byte (n : Int) : ∃ b : UInt8, IntKind.u8.wrap n = (b.toNat : Int) := by
  refine ⟨UInt8.ofNat (IntKind.u8.wrap n).toNat, ?_⟩
  have h : 0 ≤ IntKind.u8.wrap n ∧ IntKind.u8.wrap n < 256 := by
    unfold IntKind.wrap
    simp [IntKind.signed, IntKind.bits]
    omega
  simp
  omega
section
variable {Γ : Ctx} {env : Env} {H L : List AObj} {Φ : Act → World → Prop}
/-- A cell of an own variable, read otherwise. -/
theorem J_recell (i k : Nat) {Tb : Nat} {cs : List TV} {x : TV} (y : TV) (hi : L[i]? = some (.box Tb cs)) (hk : cs[k]? = some x) (hxy : ∀ w β G v, RepT w β G x v → RepT w β G y v) (kk : J Γ env H (L.set i (.box Tb (cs.set k y))) Φ) : J Γ env H L Φ := fun a w β s => by
  have hlt : i < L.length := (List.getElem?_eq_some_iff.1 hi).1
  obtain ⟨s1, s2⟩ := upd (w' := w) (G' := ⟨H, L.set i (.box Tb (cs.set k y)), Γ.F⟩) (h := .l i) (o' := .box Tb (cs.set k y)) (b' := β (.l i)) s.sim hi rfl rfl rfl (Nat.le_refl _) (fun _ _ _ => rfl) rfl (.inl rfl) ⟨rfl, by simp, rfl⟩
    (fun q => by
      cases q with
      | o q => simp [Hp.get]
      | l j =>
        simp only [Hp.get, List.getElem?_set, Hd.l.injEq]
        by_cases e : i = j
        · subst e; simp; omega
        · rw [if_neg e, if_neg (fun q => e q.symm)]) rfl s.sim.ext
  have eβ : (fun q => if q = Hd.l i then β (.l i) else β q) = β := by
    funext q
    split
    · rename_i e; rw [e]
    · rfl
  rw [eβ] at s1 s2
  obtain ⟨arr, g1, g2, g3⟩ := s.sim.objs (.l i) _ hi
  refine kk a w β ⟨s2 ⟨arr, g1, by rw [List.length_set]; exact g2, fun j z hj => ?_⟩, s.step.trans s1, s.env.mono s1, s.size, s.defers⟩
  by_cases e : k = j
  · subst e
    have hkl := (List.getElem?_eq_some_iff.1 hk).1
    rw [List.getElem?_set, if_pos rfl, if_pos hkl] at hj
    obtain rfl := Option.some.inj hj
    obtain ⟨v, hv, hr⟩ := g3 k _ hk
    exact ⟨v, hv, hxy _ _ _ _ (hr.mono s1)⟩
  · rw [List.getElem?_set, if_neg e] at hj
    obtain ⟨v, hv, hr⟩ := g3 j z hj
    exact ⟨v, hv, hr.mono s1⟩
end
section
variable {P : Program} {ops : List Oper} {env0 : Env} {Hs Ls : List (List AObj)} {ss : List Nat} {xs : List TV}
theorem T_opH {K : List TV → Prop} {o : Oper} {rest : List Oper} {i k : Nat} {x : TV} {H L : List AObj} (hg : o.guard = none) (hp : posn ss 0 i = none) (hk : loK o ss 0 0 = k) (hk2 : Nat.beq (hiK ops i ss 0 - k) 0 = true) (hH : Hs.getD k [] = H) (hL : Ls.getD k [] = L)
    (h : OpR P o (RdE ops env0 xs o) H L x H L) {xs' : List TV} (hxs : snocD xs x = some xs') (kk : Tele P ops env0 (fun k => Hs.getD k []) Ls ss K rest (i + 1) xs') : Tele P ops env0 (fun k => Hs.getD k []) Ls ss K (o :: rest) i xs :=
  ⟨x, .inl ⟨fun g b hgb => (by rw [hg] at hgb; cases hgb), by
    subst hH hL
    unfold Obl
    rw [hp]
    simp only
    rw [hk, Nat.eq_of_beq_eq_true hk2]
    exact h⟩, by rw [snocN_eq (snocD_eq hxs)]; exact kk⟩
theorem T_op2H {K : List TV → Prop} {o : Oper} {rest : List Oper} {i k : Nat} {x : TV} {H L H2 L2 : List AObj} (hg : o.guard = none) (hp : posn ss 0 i = none) (hk : loK o ss 0 0 = k) (hk2 : Nat.beq (hiK ops i ss 0 - k) 1 = true) (hH : Hs.getD k [] = H) (hL : Ls.getD k [] = L) (hH2 : Hs.getD (k + 1) [] = H2) (hL2 : Ls.getD (k + 1) [] = L2)
    (h : OpR P o (RdE ops env0 xs o) H L x H L) (h2 : OpR P o (RdE ops env0 xs o) H2 L2 x H2 L2) {xs' : List TV} (hxs : snocD xs x = some xs') (kk : Tele P ops env0 (fun k => Hs.getD k []) Ls ss K rest (i + 1) xs') : Tele P ops env0 (fun k => Hs.getD k []) Ls ss K (o :: rest) i xs :=
  ⟨x, .inl ⟨fun g b hgb => (by rw [hg] at hgb; cases hgb), by
    subst hH hL hH2 hL2
    unfold Obl
    rw [hp]
    simp only
    rw [hk, Nat.eq_of_beq_eq_true hk2]
    exact ⟨h, h2⟩⟩, by rw [snocN_eq (snocD_eq hxs)]; exact kk⟩
theorem T_stH {K : List TV → Prop} {o : Oper} {rest : List Oper} {i q : Nat} {x : TV} {H L H' L' : List AObj} (hg : o.guard = none) (hp : posn ss 0 i = some q) (hH : Hs.getD q [] = H) (hL : Ls.getD q [] = L) (hH' : Hs.getD (q + 1) [] = H') (hL' : Ls.getD (q + 1) [] = L')
    (h : OpR P o (RdE ops env0 xs o) H L x H' L') {xs' : List TV} (hxs : snocD xs x = some xs') (kk : Tele P ops env0 (fun k => Hs.getD k []) Ls ss K rest (i + 1) xs') : Tele P ops env0 (fun k => Hs.getD k []) Ls ss K (o :: rest) i xs :=
  ⟨x, .inl ⟨fun g b hgb => (by rw [hg] at hgb; cases hgb), by
    subst hH hL hH' hL'
    unfold Obl
    rw [hp]
    simp only
    exact h⟩, by rw [snocN_eq (snocD_eq hxs)]; exact kk⟩
end
theorem T_gateF {P : Program} {ops : List Oper} {env0 : Env} {Hf : Nat → List AObj} {Ls : List (List AObj)} {ss : List Nat} {xs : List TV} {K : List TV → Prop} {d : Option Nat} {op : Op} {t : TypeId} {pos : String} {af : Array Edge} {rest : List Oper} {i : Nat} (h : Tele P ops env0 Hf Ls ss K ({ dst := d, op := op, type := t, pos := pos, after := af, guard := none } :: rest) i xs) : Tele P ops env0 Hf Ls ss K ({ dst := d, op := op, type := t, pos := pos, after := af, guard := none } :: rest) i xs := h
theorem T_stD {P : Program} {ops : List Oper} {env0 : Env} {H : List AObj} {Ls : List (List AObj)} {ss : List Nat} {xs : List TV} {K : List TV → Prop} {o : Oper} {rest : List Oper} {i q : Nat} {x : TV} {L L' : List AObj} (hg : o.guard = none) (hp : posn ss 0 i = some q) (hL : Ls.getD q [] = L) (hL' : Ls.getD (q + 1) [] = L') (h : OpR P o (RdE ops env0 xs o) H L x H L') {xs' : List TV} (hxs : snocD xs x = some xs') (kk : Tele P ops env0 (fun _ => H) Ls ss K rest (i + 1) xs') : Tele P ops env0 (fun _ => H) Ls ss K (o :: rest) i xs :=
  T_st hg hp hL hL' h (snocD_eq hxs) kk
/-- A drawn region of which one operation writes. -/
theorem J_drawS {P : Program} {Γ : Ctx} {env0 : Env} {H L : List AObj} {Q : Exit → Act → World → Prop} {id : Nat} {ops : List Oper} (n : Nat) (hm : P.follows .mixedOrders = true) (hreg : regOk Γ.N ops [n] = true)
    (h : ∃ L2, Tele P ops env0 (fun _ => H) [L, L2] [n] (fun xs => J Γ (finE ops xs env0) H L2 (Q .normal)) ops 0 []) : J Γ env0 H L ((Code.region id ops.toArray true).wp P Q) :=
  h.elim fun L2 h => J_draw [L, L2] [n] hm hreg rfl h
/-- A drawn region of which one operation writes the caller's objects, a later one own ones. -/
theorem J_drawH2 {P : Program} {Γ : Ctx} {env0 : Env} {H L : List AObj} {Q : Exit → Act → World → Prop} {id : Nat} {ops : List Oper} (n m : Nat) (H2 : List AObj) (hm : P.follows .mixedOrders = true) (hreg : regOk Γ.N ops [n, m] = true)
    (h : ∃ L2, Tele P ops env0 (fun k => [H, H2, H2].getD k []) [L, L, L2] [n, m] (fun xs => J Γ (finE ops xs env0) H2 L2 (Q .normal)) ops 0 []) : J Γ env0 H L ((Code.region id ops.toArray true).wp P Q) :=
  h.elim fun L2 h => J_drawH [H, H2, H2] [L, L, L2] [n, m] hm hreg rfl rfl h
/-- A drawn region that writes own objects. -/
theorem gdW {φ ψ : Prop} (k : ψ) (h : ψ → φ := by
  intro k
  repeat (first
    | with_reducible refine T_nil ?_
    | ((with_reducible refine T_gateG ?_); first | refine T_no rfl rfl rfl rfl ?_ | refine T_yesD rfl rfl rfl rfl rfl rfl (stepN_ok hT rfl) rfl ?_ | refine T_yesD rfl rfl rfl rfl rfl rfl (stepW_ok hT rfl) rfl ?_ | refine T_yesD rfl rfl rfl rfl rfl rfl (stepG_ok hT rfl) rfl ?_ | refine T_yesD rfl rfl rfl rfl rfl rfl (stepA_ok hT rfl) rfl ?_)
    | ((with_reducible refine T_gate ?_); first | refine T_opD rfl rfl rfl rfl rfl (stepN_ok hT rfl) rfl ?_ | refine T_opD rfl rfl rfl rfl rfl (stepW_ok hT rfl) rfl ?_ | refine T_opD rfl rfl rfl rfl rfl (stepG_ok hT rfl) rfl ?_ | refine T_opD rfl rfl rfl rfl rfl (stepA_ok hT rfl) rfl ?_ | refine T_opD rfl rfl rfl rfl rfl (opr_lit0 hT rfl rfl rfl) rfl ?_ | refine T_stD rfl rfl rfl rfl (stepN_ok hT rfl) rfl ?_ | refine T_op2D rfl rfl rfl rfl rfl rfl (stepN_ok hT rfl) (stepN_ok hT rfl) rfl ?_ | refine T_op2D rfl rfl rfl rfl rfl rfl (stepA_ok hT rfl) (stepA_ok hT rfl) rfl ?_))
  exact k) : φ := h k
/-- A drawn region that writes the caller's objects, as far as the environment tells. -/
theorem gdH {φ ψ : Prop} (k : ψ) (h : ψ → φ := by
  intro k
  repeat (first
    | with_reducible refine T_nil ?_
    | ((with_reducible refine T_gateF ?_); first | refine T_opH rfl rfl rfl rfl rfl rfl (stepN_ok hT rfl) rfl ?_ | refine T_opH rfl rfl rfl rfl rfl rfl (stepG_ok hT rfl) rfl ?_ | refine T_opH rfl rfl rfl rfl rfl rfl (stepA_ok hT rfl) rfl ?_ | refine T_opH rfl rfl rfl rfl rfl rfl (opr_lit hT rfl rfl rfl rfl) rfl ?_ | refine T_op2H rfl rfl rfl rfl rfl rfl rfl rfl (stepN_ok hT rfl) (stepN_ok hT rfl) rfl ?_ | refine T_op2H rfl rfl rfl rfl rfl rfl rfl rfl (stepG_ok hT rfl) (stepG_ok hT rfl) rfl ?_ | refine T_op2H rfl rfl rfl rfl rfl rfl rfl rfl (stepA_ok hT rfl) (stepA_ok hT rfl) rfl ?_ | refine T_stH rfl rfl rfl rfl rfl rfl (stepG_ok hT rfl) rfl ?_ | refine T_stH rfl rfl rfl rfl rfl rfl (stepN_ok hT rfl) rfl ?_))
  exact k) : φ := h k
section
variable {P : Program} {T : Tab} {Γ : Ctx} {env : Env} {H L : List AObj} {Q : Exit → Act → World → Prop} {ops : Array Oper} {rest : List Oper} {o : Oper}
/-- An operation of which not all is known beforehand. -/
theorem J_any {ι : Type} {x : ι → TV} (hg : o.guard = none) (hd : dstOk Γ.N o.dst = true) (h : ∀ F w β a, Sim w β ⟨H, L, F⟩ → EnvR w β ⟨H, L, F⟩ env a → ∃ i u, (execOp a.eval o).run P w = .ok (.value u) w ∧ RepT w β ⟨H, L, F⟩ (x i) u)
    (k : ∀ i, J Γ (putE env o.dst (x i)) H L (wpList P ops Q rest)) : J Γ env H L (wpList P ops Q (o :: rest)) := by
  intro a w β s
  obtain ⟨i, u, hr, hx⟩ := h Γ.F w β a s.sim s.env
  unfold wpList
  rw [if_pos (by simp [Region.wanted, hg])]
  refine .inl ?_
  unfold Oper.wp
  rw [hr]
  exact k i _ _ _ (s.next hd s.sim (Step.refl ..) hx)
theorem run_eqSl2 {w : World} {t : TypeId} {e : TypeId} (hu : P.underlying t = some (.slice e)) (a : Option Addr) (n c m k : Nat) : (Op.equal t (.slice a n c) (.slice none m k)).run P w = .ok a.isNone w := by
  have key : ∀ d, (Op.equalIn (d + 1) t (.slice a n c) (.slice none m k)).run P w = .ok a.isNone w := by
    intro d; cases a <;> simp [Op.equalIn, run_underlying hu]
  exact key 9999
theorem eqSl_val {t t2 : TypeId} {e : TypeId} {y z : Operand} {a : Act} {w : World} {ao : Option Addr} {n c : Nat} (hu : P.underlying t = some (.slice e)) (ho : o.op = .binOp .eql t y z t2) (hy : a.eval y = .slice ao n c) (hz : a.eval z = .slice none 0 0) : (execOp a.eval o).run P w = .ok (.value (.bool ao.isNone)) w := by
  simp only [execOp, ho, hy, hz, Sem.run_bind]
  have := run_eqSl2 (P := P) (w := w) hu ao n c 0 0
  have h2 : (Go.binOp .eql t (.slice ao n c) (.slice none 0 0)).run P w = .ok (.bool ao.isNone) w := by rw [bin_eq_sl]; simp [this]
  simp [eqGuard_at_slice, h2]
end
theorem rep_nil_cell (w : World) (β : Hd → Nat) (G : Hp) (v : Value) (h : RepT w β G (.p .nilp) v) : RepT w β G (.p (.cell .nilp)) v := rep_wrap rfl h
/-! ### What a callee gathered -/
theorem nils_ps : AVLe .nils (.ps []) := fun _ _ _ h => by cases h; exact .psE ..
theorem cz_ps : AVLe .cz (.ps []) := fun _ _ _ h => by cases h; exact .psE ..
theorem Con.le {P : Program} {f : FuncId} {args : List TV} {H H' news : List AObj} {x y : AV} (h : Con P f args H (.p x) H' news) (hxy : AVLe x y) : Con P f args H (.p y) H' news :=
  ⟨h.can, fun F w β vs hS hr => (h.run F w β vs hS hr).mono fun _ _ ⟨β', v, he, hS', hst, hv⟩ => ⟨β', v, he, hS', hst, by cases hv with | p hv => exact .p (hxy _ _ _ hv)⟩⟩
/-- As a value that stays. -/
theorem Con.toPs {P : Program} {f : FuncId} {args : List TV} {H H' : List AObj} {e sz : Nat} {d : AV} {acc : List AV} (hd : d = .nils ∨ d = .cz) (h : Con P f args H (accT 0 d acc) H' (accL e sz acc)) : Con P f args H (.p (.ps acc)) H' [] := by
  cases acc with
  | nil => rcases hd with rfl | rfl; exact h.le nils_ps; exact h.le cz_ps
  | cons r rs => exact Con.freeze h rfl
/-- As an array that may have no element yet. -/
theorem Con.toLz {P : Program} {f : FuncId} {args : List TV} {H H' : List AObj} {e sz : Nat} {d : AV} {acc : List AV} (hd : d = .nils ∨ d = .cz) (h0 : 0 < sz) (h : Con P f args H (accT 0 d acc) H' (accL e sz acc)) : Con P f args H (.sl (.l 0) acc.length 0 acc.length) H' [.arr e true sz acc] := by
  cases acc with
  | cons r rs => exact h
  | nil =>
    exact ⟨h.can, fun F w β vs hS hr => (h.run F w β vs hS hr).mono fun ed w' ⟨β', v, he, hS', hst, hv⟩ => by
      obtain ⟨k1, k2⟩ := sim_lazy e h0 hS'
      exact ⟨β', v, he, k1, hst.trans k2, rep_lazy e sz hd hv⟩⟩
/-- What may have no element, read. -/
theorem Rd.own {H L : List AObj} {i : Nat} {Ty : TypeId} {b : Bool} {e n : Nat} {rows : List AV} (hi : L[i]? = some (.arr Ty b e rows)) (hn : rows.length = n) : Rd H L (.sl (.l i) n 0 n) rows := Rd.full hi hn
/-- A slice that surely is, held against nil. -/
theorem opr_slNe {P : Program} {T : Tab} {env : Env} {H L : List AObj} {o : Oper} {t t2 : TypeId} {y z : Operand} {h : Hd} {n e0 e : Nat} {Ty : TypeId} {b : Bool} {rows : List AV} (hT : TabOk P T) (ho : o.op = .binOp .eql t y z t2) (hd : tyD T t = .slice e0) (hy : evA env y = .sl h n 0 n) (hz : evA env z = .p .nils)
    (hg : (⟨H, L, noF⟩ : Hp).get h = some (.arr Ty b e rows)) (hn : rows.length = n) (h0 : 0 < n) : OpR P o env H L (.p (.bool false)) H L :=
  opr_pure fun F w β a hS he => by
    have hv := evA_ok he y
    rw [hy] at hv
    have hw := evA_ok he z
    rw [hz] at hw
    obtain ⟨u, h1, h2⟩ := tyD_und hT (t := t) (by rw [hd]; simp)
    rw [hd] at h2
    obtain rfl := chkD_slice h2
    have hzv : a.eval z = .slice none 0 0 := by
      generalize a.eval z = q at hw
      cases hw with | p hw => cases hw; rfl
    have hg' : (⟨H, L, F⟩ : Hp).get h = some (.arr Ty b e rows) := by cases h <;> exact hg
    generalize hq : a.eval y = q at hv
    cases hv with | sl _ _ _ _ _ _ _ hv =>
    obtain ⟨ao, cap, rfl, _, _, hao⟩ := (hv _ _ _ _ hg' hn).val
    obtain rfl := hao h0
    exact ⟨_, eqSl_val h1 ho hq hzv, .p (.bool ..)⟩
/-- One that may have no element. -/
theorem J_slNil {P : Program} {T : Tab} {Γ : Ctx} {env : Env} {H L : List AObj} {Q : Exit → Act → World → Prop} {ops : Array Oper} {rest : List Oper} {o : Oper} {t t2 : TypeId} {y z : Operand} {h : Hd} {e0 e : Nat} {Ty : TypeId} (hT : TabOk P T) (hgd : o.guard = none) (hdd : dstOk Γ.N o.dst = true) (ho : o.op = .binOp .eql t y z t2) (hd : tyD T t = .slice e0) (hy : evA env y = .sl h 0 0 0) (hz : evA env z = .p .nils)
    (hg : (⟨H, L, noF⟩ : Hp).get h = some (.arr Ty true e [])) (k : ∀ b, J Γ (putE env o.dst (.p (.bool b))) H L (wpList P ops Q rest)) : J Γ env H L (wpList P ops Q (o :: rest)) :=
  J_any (x := fun b => .p (.bool b)) hgd hdd (fun F w β a hS he => by
    have hv := evA_ok he y
    rw [hy] at hv
    have hw := evA_ok he z
    rw [hz] at hw
    obtain ⟨u, h1, h2⟩ := tyD_und hT (t := t) (by rw [hd]; simp)
    rw [hd] at h2
    obtain rfl := chkD_slice h2
    have hzv : a.eval z = .slice none 0 0 := by
      generalize a.eval z = q at hw
      cases hw with | p hw => cases hw; rfl
    have hg' : (⟨H, L, F⟩ : Hp).get h = some (.arr Ty true e []) := by cases h <;> exact hg
    generalize hq : a.eval y = q at hv
    cases hv with | sl _ _ _ _ _ _ _ hv =>
    obtain ⟨ao, rfl⟩ := (hv _ _ _ _ hg' rfl).off rfl rfl
    exact ⟨ao.isNone, _, eqSl_val h1 ho hq hzv, .p (.bool ..)⟩) k
end Go.Awp

/- 'stepA': the rest, and all in one. No program is named here. -/
import Derived.Test.YtfkibkfjebppdaaAwpG
namespace Go.Awp
open Go.RowKit

section
variable {P : Program} {T : Tab} {env : Env} {H L : List AObj} {o : Oper} {x : TV}

def nilA (L : List AObj) : TV → Option TV
  | .p (.pp cs) => some (.p (.pp cs))
  | .ad (.l i) off => match L[i]? with
    | some (.box ..) => some (.ad (.l i) off)
    | _ => none
  | .el s e i off => some (.el s e i off)
  | .fn f l => some (.fn f l)
  | _ => none
theorem nilA_ok {w : World} {β : Hd → Nat} {F : Nat → Prop} {y : TV} {v : Value} (h : RepT w β ⟨H, L, F⟩ y v) (hc : nilA L y = some x) : x = y ∧ ((∃ a, v = .pointer (some a)) ∨ ∃ f vs, v = .func (.func f) #[] vs) := by
  unfold nilA at hc
  split at hc
  · obtain rfl := Option.some.inj hc
    cases h with | p h => cases h with | pp _ a => exact ⟨rfl, .inl ⟨a, rfl⟩⟩
  · split at hc
    · rename_i hi
      obtain rfl := Option.some.inj hc
      cases h with | ad _ _ _ _ _ hv => exact ⟨rfl, .inl ⟨_, hv _ hi rfl⟩⟩
    · cases hc
  · obtain rfl := Option.some.inj hc
    cases h with | el => exact ⟨rfl, .inl ⟨_, rfl⟩⟩
  · obtain rfl := Option.some.inj hc
    cases h with | fn f xs vs => exact ⟨rfl, .inr ⟨_, vs.toArray, rfl⟩⟩
  · cases hc
theorem opr_nil {y : Operand} (ho : o.op = .nilCheck y) (hc : nilA L (evA env y) = some x) : OpR P o env H L x H L :=
  opr_pure fun F w β a _ he => by
    have h := evA_ok he y
    obtain ⟨rfl, h2⟩ := nilA_ok h hc
    refine ⟨a.eval y, ?_, h⟩
    rcases h2 with ⟨ad, hv⟩ | ⟨f, vs, hv⟩ <;> simp [execOp, ho, hv]

def tyD (T : Tab) (t : Nat) : TyD := match tlk T t with
  | some i => i.d
  | none => .other
theorem tyD_und (hT : TabOk P T) {t : Nat} (h : tyD T t ≠ .other) : ∃ u, P.underlying t = some u ∧ chkD (tyD T t) u = true := by
  unfold tyD at h ⊢
  split
  · rename_i i hi
    obtain ⟨inf, u, ok⟩ := hT.get hi
    exact ⟨u, ok.und, ok.d⟩
  · rename_i hi; rw [hi] at h; simp at h

theorem und_ptr (hT : TabOk P T) {t : Nat} (h : tyD T t = .ptr) : ∃ e, P.underlying t = some (.pointer e) := by
  obtain ⟨ud, h1, h2⟩ := tyD_und hT (t := t) (by rw [h]; simp)
  rw [h] at h2
  cases ud <;> simp_all [chkD]
theorem run_eqPtr {w : World} {t : TypeId} {e : TypeId} (hu : P.underlying t = some (.pointer e)) {a b : Option Addr} (h : a = none ∨ b = none) : (Op.equal t (.pointer a) (.pointer b)).run P w = .ok (a.isNone && b.isNone) w := by
  have key : ∀ d, (Op.equalIn (d + 1) t (.pointer a) (.pointer b)).run P w = .ok (a.isNone && b.isNone) w := by
    intro d
    rcases h with rfl | rfl
    · cases b <;> simp [Op.equalIn, run_underlying hu]
    · cases a <;> simp [Op.equalIn, run_underlying hu]
  exact key 9999
theorem run_eqBool {w : World} {t : TypeId} (hu : P.underlying t = some .bool) (a b : Bool) : (Op.equal t (.bool a) (.bool b)).run P w = .ok (a == b) w := by
  have key : ∀ d, (Op.equalIn (d + 1) t (.bool a) (.bool b)).run P w = .ok (a == b) w := by
    intro d; simp [Op.equalIn, run_underlying hu]
  exact key 9999
theorem run_eqSl {w : World} {t : TypeId} {e : TypeId} (hu : P.underlying t = some (.slice e)) (b : Option Addr) (n c m k : Nat) : (Op.equal t (.slice none n c) (.slice b m k)).run P w = .ok b.isNone w := by
  have key : ∀ d, (Op.equalIn (d + 1) t (.slice none n c) (.slice b m k)).run P w = .ok b.isNone w := by
    intro d; simp [Op.equalIn, run_underlying hu]
  exact key 9999

theorem eqA_ok {op : BinOp} {b : Bool} {x : TV} (h : eqA op b = some x) : (op = .eql ∧ x = .p (.bool b)) ∨ (op = .neq ∧ x = .p (.bool !b)) := by
  unfold eqA at h
  split at h
  · exact .inl ⟨rfl, (Option.some.inj h).symm⟩
  · exact .inr ⟨rfl, (Option.some.inj h).symm⟩
  · cases h
theorem run_eq_of {w : World} {t : TypeId} {op : BinOp} {b : Bool} {u v : Value} (h : eqA op b = some x) (hr : (Op.equal t u v).run P w = .ok b w) (he : Go.binOp .eql t u v = (do pure (.bool (← Op.equal t u v)))) (hn : Go.binOp .neq t u v = (do pure (.bool (!(← Op.equal t u v))))) :
    ∃ c, x = .p (.bool c) ∧ (Go.binOp op t u v).run P w = .ok (.bool c) w := by
  rcases eqA_ok h with ⟨rfl, rfl⟩ | ⟨rfl, rfl⟩
  · exact ⟨b, rfl, by rw [he]; simp [hr]⟩
  · exact ⟨!b, rfl, by rw [hn]; simp [hr]⟩
theorem kEq_eq {k k' : IntKind} (h : kEq k k' = true) : k = k' := by
  unfold kEq at h
  by_cases e : k = k'
  · exact e
  · simp [e] at h
theorem bin_eq_ptr (t : TypeId) (a b : Option Addr) : Go.binOp .eql t (.pointer a) (.pointer b) = (do pure (.bool (← Op.equal t (.pointer a) (.pointer b)))) := by simp [Go.binOp]
theorem bin_ne_ptr (t : TypeId) (a b : Option Addr) : Go.binOp .neq t (.pointer a) (.pointer b) = (do pure (.bool (!(← Op.equal t (.pointer a) (.pointer b))))) := by simp [Go.binOp]
theorem bin_eq_bool (t : TypeId) (a b : Bool) : Go.binOp .eql t (.bool a) (.bool b) = (do pure (.bool (← Op.equal t (.bool a) (.bool b)))) := by simp [Go.binOp]
theorem bin_ne_bool (t : TypeId) (a b : Bool) : Go.binOp .neq t (.bool a) (.bool b) = (do pure (.bool (!(← Op.equal t (.bool a) (.bool b))))) := by simp [Go.binOp]
theorem bin_eq_sl (t : TypeId) (a b : Option Addr) (n c m k : Nat) : Go.binOp .eql t (.slice a n c) (.slice b m k) = (do pure (.bool (← Op.equal t (.slice a n c) (.slice b m k)))) := by simp [Go.binOp]
theorem bin_ne_sl (t : TypeId) (a b : Option Addr) (n c m k : Nat) : Go.binOp .neq t (.slice a n c) (.slice b m k) = (do pure (.bool (!(← Op.equal t (.slice a n c) (.slice b m k))))) := by simp [Go.binOp]

theorem opr_bin {op : BinOp} {t t2 : TypeId} {y z : Operand} (hT : TabOk P T) (ho : o.op = .binOp op t y z t2) (hb : binA L op (evA env y) (evA env z) (tyD T t) = some x) : OpR P o env H L x H L :=
  opr_pure fun F w β a hS he => by
    have hy := evA_ok he y
    have hz := evA_ok he z
    generalize hev : a.eval y = u at hy
    generalize hev2 : a.eval z = v at hz
    have fin : ∀ r, (eqGuard op t y z u v).run P w = .ok () w → (Go.binOp op t u v).run P w = .ok r w → (execOp a.eval o).run P w = .ok (.value r) w := by
      intro r h1 h2
      simp only [execOp, ho, hev, hev2, Sem.run_bind, h1, h2, Result.andThen_ok, Sem.run_pure]
    generalize hx1 : evA env y = x1 at hb hy
    generalize hx2 : evA env z = x2 at hb hz
    unfold binA at hb
    split at hb
    · have e1 := hy.int_inv; have e2 := hz.int_inv; subst e1 e2
      split at hb
      · rename_i k a1 k' b1 _ _
        obtain ⟨q, rfl, r, h1, h2⟩ := run_shift P w t (k' := k') hb
        exact ⟨r, fin r (by simp [eqGuard_at_int]) h1, .p (h2 _)⟩
      · rename_i hs
        split at hb
        · rename_i hk
          have hk := kEq_eq hk
          subst hk
          obtain ⟨q, rfl, r, h1, h2⟩ := run_intBin P w t hs hb
          exact ⟨r, fin r (by simp [eqGuard_at_int]) h1, .p (h2 _)⟩
        · cases hb
    · have e1 := hy.str_inv; have e2 := hz.str_inv; subst e1 e2
      obtain ⟨c, rfl, h1⟩ := run_strBin P w t hb
      exact ⟨_, fin _ (by simp [eqGuard_at_string]) h1, .p (.bool ..)⟩
    · have e1 := hy.bool_inv; have e2 := hz.bool_inv; subst e1 e2
      split at hb
      · rename_i hd
        obtain ⟨ud, h1, h2⟩ := tyD_und hT (t := t) (by rw [hd]; simp)
        rw [hd] at h2
        have : ud = .bool := by cases ud <;> simp_all [chkD]
        subst this
        obtain ⟨c, rfl, h3⟩ := run_eq_of (P := P) (w := w) (t := t) hb (run_eqBool h1 _ _) (bin_eq_bool ..) (bin_ne_bool ..)
        exact ⟨_, fin _ (by simp [eqGuard_at_bool]) h3, .p (.bool ..)⟩
      · cases hb
    · have e1 : u = .pointer none := by cases hy with | p h => cases h; rfl
      have e2 : v = .pointer none := by cases hz with | p h => cases h; rfl
      subst e1 e2
      split at hb
      · rename_i hd
        obtain ⟨e, h1⟩ := und_ptr hT hd
        obtain ⟨c, rfl, h3⟩ := run_eq_of (P := P) (w := w) (t := t) hb (run_eqPtr h1 (.inl rfl)) (bin_eq_ptr t none none) (bin_ne_ptr ..)
        exact ⟨_, fin _ (by simp [eqGuard_at_pointer]) h3, .p (.bool ..)⟩
      · cases hb
    · obtain ⟨ad, e1⟩ : ∃ ad, u = .pointer (some ad) := by cases hy with | p h => cases h; exact ⟨_, rfl⟩
      have e2 : v = .pointer none := by cases hz with | p h => cases h; rfl
      subst e1 e2
      split at hb
      · rename_i hd
        obtain ⟨e, h1⟩ := und_ptr hT hd
        obtain ⟨c, rfl, h3⟩ := run_eq_of (P := P) (w := w) (t := t) hb (run_eqPtr h1 (.inr rfl)) (bin_eq_ptr t (some ad) none) (bin_ne_ptr ..)
        exact ⟨_, fin _ (by simp [eqGuard_at_pointer]) h3, .p (.bool ..)⟩
      · cases hb
    · have e2 : v = .pointer none := by cases hz with | p h => cases h; rfl
      split at hb
      · rename_i hd hi
        obtain ⟨ad, e1⟩ : ∃ ad, u = .pointer (some ad) := by cases hy with | ad _ _ _ _ _ hv => exact ⟨_, hv _ hi rfl⟩
        subst e1 e2
        obtain ⟨e, h1⟩ := und_ptr hT hd
        obtain ⟨c, rfl, h3⟩ := run_eq_of (P := P) (w := w) (t := t) hb (run_eqPtr h1 (.inr rfl)) (bin_eq_ptr t (some ad) none) (bin_ne_ptr ..)
        exact ⟨_, fin _ (by simp [eqGuard_at_pointer]) h3, .p (.bool ..)⟩
      · cases hb
    · have e1 : u = .slice none 0 0 := by cases hy with | p h => cases h; rfl
      have e2 : v = .slice none 0 0 := by cases hz with | p h => cases h; rfl
      subst e1 e2
      split at hb
      · rename_i hd
        obtain ⟨ud, h1, h2⟩ := tyD_und hT (t := t) (by rw [hd]; simp)
        rw [hd] at h2
        obtain rfl := chkD_slice h2
        obtain ⟨c, rfl, h3⟩ := run_eq_of (P := P) (w := w) (t := t) hb (run_eqSl h1 none 0 0 0 0) (bin_eq_sl ..) (bin_ne_sl ..)
        exact ⟨_, fin _ (by simp [eqGuard_at_slice]) h3, .p (.bool ..)⟩
      · cases hb
    · cases hb

/-! ### Fields, tuples, conversions -/
def fieldOf (T : Tab) (s f : Nat) : Option (Nat × TyI) := match tlk T s with
  | some i => match i.d with
    | .struct fs => match fs[f]? with
      | some (off, ft) => match tlk T ft with
        | some j => match Nat.beq j.size 0 with
          | true => none
          | false => some (off, j)
        | none => none
      | none => none
    | _ => none
  | none => none
theorem fieldOf_ok (hT : TabOk P T) {s f off : Nat} {j : TyI} (h : fieldOf T s f = some (off, j)) :
    ∃ fs fd inf u, P.underlying s = some (.struct fs) ∧ fs[f]? = some fd ∧ fd.offset = off ∧ TyOk P fd.type j inf u ∧ j.size ≠ 0 := by
  unfold fieldOf at h
  split at h
  · rename_i i hi
    obtain ⟨inf, u, ok⟩ := hT.get hi
    split at h
    · rename_i fs hd
      have h2 := ok.d
      rw [hd] at h2
      obtain ⟨gs, rfl, h3⟩ := chkD_struct h2
      split at h
      · rename_i off' ft hf
        split at h
        · rename_i j' hj
          split at h
          · cases h
          · rename_i hz
            simp only [Option.some.injEq, Prod.mk.injEq] at h
            obtain ⟨rfl, rfl⟩ := h
            rw [h3] at hf
            simp only [List.getElem?_map, Option.map_eq_some_iff, Array.getElem?_toList] at hf
            obtain ⟨fd, hfd, he⟩ := hf
            simp only [Prod.mk.injEq] at he
            obtain ⟨rfl, rfl⟩ := he
            obtain ⟨inf', u', ok'⟩ := hT.get hj
            exact ⟨gs, fd, inf', u', ok.und, hfd, rfl, ok', Nat.ne_of_beq_eq_false hz⟩
        · cases h
      · cases h
    · cases h
  · cases h
def fadA (L : List AObj) (off : Nat) : TV → Option TV
  | .p (.pp cs) => some (.p (.pp (cs.drop off)))
  | .ad (.l i) o => match L[i]? with
    | some (.box ..) => some (.ad (.l i) (o + off))
    | _ => none
  | .el s e i o => some (.el s e i (o + off))
  | _ => none
theorem opr_fieldAddr {s f off : Nat} {j : TyI} {y : Operand} (hT : TabOk P T) (ho : o.op = .fieldAddr s y f) (hf : fieldOf T s f = some (off, j)) (hc : fadA L off (evA env y) = some x) : OpR P o env H L x H L :=
  opr_pure fun F w β a _ he => by
    obtain ⟨fs, fd, inf, u, h1, h2, rfl, ok, hne⟩ := fieldOf_ok hT hf
    have h := evA_ok he y
    have run : ∀ ad : Addr, a.eval y = .pointer (some ad) → (execOp a.eval o).run P w = .ok (.value (.pointer (some (ad.add fd.offset)))) w := by
      intro ad hv
      simp [execOp, ho, Instr.fieldAt, run_underlying h1, h2, Instr.sureAddr, hv, fieldPlace, ok.run_size, hne]
    unfold fadA at hc
    split at hc
    · rename_i cs hx
      obtain rfl := Option.some.inj hc
      rw [hx] at h
      generalize hv : a.eval y = v at h
      cases h with | p h =>
      cases h with | pp _ ad vs hN hb hcl hr =>
      refine ⟨_, run ad hv, .p (.pp _ _ (fun i => vs (fd.offset + i)) (by rw [add_block]; exact hN) (by rw [add_block]; exact hb) (fun i hi => ?_) fun i x hx => ?_)⟩
      · rw [add_add]; exact hcl _ (by simp at hi; omega)
      · rw [List.getElem?_drop] at hx; exact hr _ x hx
    · rename_i i o' hx
      split at hc
      · rename_i hi
        obtain rfl := Option.some.inj hc
        rw [hx] at h
        generalize hv : a.eval y = v at h
        cases h with | ad _ _ _ _ hl hvv =>
        have e := hvv _ hi rfl
        subst e
        exact ⟨_, run _ hv, .ad _ _ _ rfl hl fun _ _ _ => by rw [Addr.add_lit]⟩
      · cases hc
    · rename_i s' e i o' hx
      obtain rfl := Option.some.inj hc
      rw [hx] at h
      generalize hv : a.eval y = v at h
      cases h with | el _ _ _ ad len c hs hi =>
      refine ⟨_, run _ hv, ?_⟩
      rw [add_add, Nat.add_assoc]
      exact .el _ _ _ _ _ _ hs hi
    · cases hc

def fldA (off : Nat) (j : TyI) : TV → Option TV
  | .agg l => match isAggD j.d with
    | some true => match Nat.ble (off + j.size) l.length with
      | true => some (.agg ((l.drop off).take j.size))
      | false => none
    | some false => l[off]?
    | none => none
  | _ => none
theorem opr_field {s f off : Nat} {j : TyI} {y : Operand} (hT : TabOk P T) (ho : o.op = .field s y f) (hf : fieldOf T s f = some (off, j)) (hc : fldA off j (evA env y) = some x) : OpR P o env H L x H L :=
  opr_pure fun F w β a _ he => by
    obtain ⟨fs, fd, inf, u, h1, h2, rfl, ok, hne⟩ := fieldOf_ok hT hf
    have h := evA_ok he y
    unfold fldA at hc
    split at hc
    · rename_i l hx
      rw [hx] at h
      generalize hv : a.eval y = v at h
      cases h with | agg _ vs hl hr =>
      split at hc
      · rename_i hb
        split at hc
        · rename_i hle
          have hle := Nat.le_of_ble_eq_true hle
          obtain rfl := Option.some.inj hc
          refine ⟨.agg ((vs.drop fd.offset).take j.size).toArray, ?_, .agg _ _ (by simp [hl]) fun i x v hx hv => ?_⟩
          · simp [execOp, ho, Instr.field, run_underlying h1, h2, hv, asAgg, part, ok.run_agg w hb, ok.run_size]
          · rw [List.getElem?_take] at hx hv
            split at hx
            · rename_i hi
              rw [if_pos hi] at hv
              rw [List.getElem?_drop] at hx hv
              exact hr _ x v hx hv
            · cases hx
        · cases hc
      · rename_i hb
        have hlt : fd.offset < vs.length := by rw [hl]; exact (List.getElem?_eq_some_iff.1 hc).1
        exact ⟨vs[fd.offset], by simp [execOp, ho, Instr.field, run_underlying h1, h2, hv, asAgg, part, ok.run_agg w hb, hlt], hr _ x _ hc (List.getElem?_eq_getElem hlt)⟩
      · cases hc
    · cases hc

theorem opr_extract {y : Operand} {i : Nat} {l : List TV} (ho : o.op = .extract y i) (hy : evA env y = .tup l) (hx : l[i]? = some x) : OpR P o env H L x H L :=
  opr_pure fun F w β a _ he => by
    have h := evA_ok he y
    rw [hy] at h
    generalize hv : a.eval y = v at h
    cases h with | tup _ vs hl hr =>
    have hlt : i < vs.length := by rw [hl]; exact (List.getElem?_eq_some_iff.1 hx).1
    exact ⟨vs[i], by simp [execOp, ho, Instr.extract, hv, hlt], hr _ x _ hx (List.getElem?_eq_getElem hlt)⟩

theorem opr_conv_int {s d : TypeId} {y : Operand} {k k' : IntKind} {n : Int} {si : TyI} (hT : TabOk P T) (ho : o.op = .convert s d y) (hs : tlk T s = some si) (hd : tyD T d = .int k) (hy : evA env y = .p (.int k' n)) : OpR P o env H L (.p (.int k (k.wrap n))) H L :=
  opr_pure fun F w β a _ he => by
    have h := evA_ok he y
    rw [hy] at h
    obtain ⟨inf, us, ok⟩ := hT.get hs
    obtain ⟨u, h1, h2⟩ := tyD_und hT (t := d) (by rw [hd]; simp)
    rw [hd] at h2
    obtain rfl := chkD_int h2
    refine ⟨.int k (k.wrap n), ?_, .p (.int ..)⟩
    simp only [execOp, ho, h.int_inv, Sem.run_bind, convert, run_underlying ok.und, run_underlying h1, Result.andThen_ok]
    cases us <;> rfl
theorem opr_not {t : TypeId} {y : Operand} {b : Bool} (ho : o.op = .unOp .not t y) (hy : evA env y = .p (.bool b)) : OpR P o env H L (.p (.bool !b)) H L :=
  opr_pure fun F w β a _ he => by
    have h := evA_ok he y
    rw [hy] at h
    exact ⟨.bool !b, by simp [execOp, ho, h.bool_inv, Op.unary], .p (.bool ..)⟩
theorem opr_neg {t : TypeId} {y : Operand} {k : IntKind} {n : Int} (ho : o.op = .unOp .neg t y) (hy : evA env y = .p (.int k n)) : OpR P o env H L (.p (.int k (k.wrap (0 - n)))) H L :=
  opr_pure fun F w β a _ he => by
    have h := evA_ok he y
    rw [hy] at h
    exact ⟨.int k (k.wrap (0 - n)), by simp only [execOp, ho, h.int_inv, Op.unary, Op.intArith, Sem.run_bind, Sem.run_pure, Result.andThen_ok], .p (.int ..)⟩
theorem opr_func {f : FuncId} {cs : List Operand} (ho : o.op = .makeFunc (.func f) #[] cs.toArray) : OpR P o env H L (.fn f (evL env cs)) H L :=
  opr_pure fun F w β a _ he => by
    obtain ⟨h1, h2⟩ := evL_ok he cs
    exact ⟨.func (.func f) #[] (cs.map a.eval).toArray, by simp [execOp, ho, Instr.makeFunc], .fn f _ _ (by omega) h2⟩
end
end Go.Awp

/- '==' of structs and arrays whose parts are plain; places in an array. No program is named here. -/
import Derived.Test.YtfkibkfjebppdaaAwpN
import Derived.Laws.StructEq
namespace Go.Awp
open Go.RowKit

def eqChk (P : Program) (t : Nat) : Bool := !(P.eqGuardType P.depth t) && (match P.underlying t with
  | some (.struct gs) => gs.toList.all (fun f => f.name != "_") && !(P.stoodInHeld t)
  | some (.array _ _) => true
  | _ => false)
def eqFs (T : Tab) (t : Nat) : Option (List (Nat × Nat)) := match tyD T t with
  | .struct fs => some fs
  | .array n e => match tlk T e with
    | some te => some (arrF e te.size n 0)
    | none => none
  | _ => none
def eq1 (T : Tab) (t : Nat) (a b : AV) : Option Bool := match tyD T t with
  | .int k => match a, b with
    | .int k1 n, .int k2 m => match kEq k k1 && kEq k k2 with
      | true => some (decide (n = m))
      | false => none
    | _, _ => none
  | .bool => match a, b with
    | .bool x, .bool y => some (decide (x = y))
    | _, _ => none
  | .str => match a, b with
    | .str x, .str y => some (decide (x = y))
    | _, _ => none
  | _ => none
def eqF (T : Tab) : List (Nat × Nat) → List AV → List AV → Option Bool
  | [], _, _ => some true
  | (o, t) :: r, xs, ys => match xs[o]?, ys[o]? with
    | some a, some b => match eq1 T t a b, eqF T r xs ys with
      | some c, some d => some (c && d)
      | _, _ => none
    | _, _ => none

section
variable {P : Program} {T : Tab} {env : Env} {H L : List AObj} {o : Oper} {x : TV} {w : World}

theorem listBeq (x y : List UInt8) : (x == y) = decide (x = y) := by
  by_cases e : x = y <;> simp [e]
theorem run_eq1 (hT : TabOk P T) {N : Nat → Prop} {t : Nat} {a b : AV} {u v : Value} {c : Bool} (h : eq1 T t a b = some c) (ha : RepA w N a u) (hb : RepA w N b v) (d : Nat) :
    (Op.equalIn (d + 1) t u v).run P w = .ok c w ∧ ∀ (xs : Array Value) (off : Nat) (z : Value), xs[off]? = some z → (part t xs off).run P w = .ok z w := by
  unfold eq1 at h
  have part_ok : ∀ {u : TypeDesc}, P.underlying t = some u → (match u with | .struct _ => False | .array _ _ => False | _ => True) → ∀ (xs : Array Value) (off : Nat) (z : Value), xs[off]? = some z → (part t xs off).run P w = .ok z w := by
    intro u hu hn xs off z hz
    cases u <;> simp only at hn <;> simp [part, isAgg, run_underlying hu, hz]
  split at h
  all_goals try (rename_i hd; obtain ⟨ud, h1, h2⟩ := tyD_und hT (t := t) (by rw [hd]; simp); rw [hd] at h2)
  · obtain rfl := chkD_int h2
    split at h
    · split at h
      · rename_i hk
        simp only [Bool.and_eq_true] at hk
        have e1 := kEq_eq hk.1
        have e2 := kEq_eq hk.2
        obtain rfl := Option.some.inj h
        cases ha; cases hb
        subst e1 e2
        exact ⟨by rw [run_equalIn_int w d t _ _ _ _ h1]; congr 1, part_ok h1 trivial⟩
      · cases h
    · cases h
  · cases ud <;> simp only [chkD, Bool.false_eq_true] at h2
    split at h
    · obtain rfl := Option.some.inj h
      cases ha; cases hb
      refine ⟨?_, part_ok h1 trivial⟩
      rw [run_equalIn_bool w d t _ _ h1]
      congr 1
    · cases h
  · obtain rfl := chkD_str h2
    split at h
    · obtain rfl := Option.some.inj h
      cases ha; cases hb
      refine ⟨?_, part_ok h1 trivial⟩
      rw [run_equalIn_string w d t _ _ h1]
      congr 1
      simp only [ByteArray.toList_eq]
      exact listBeq _ _
    · cases h
  · cases h

theorem run_eqFields (hT : TabOk P T) {N : Nat → Prop} {xs ys : List AV} {us vs : List Value} (hx : us.length = xs.length) (hxr : ∀ (i : Nat) x v, xs[i]? = some x → us[i]? = some v → RepA w N x v) (hy : vs.length = ys.length) (hyr : ∀ (i : Nat) x v, ys[i]? = some x → vs[i]? = some v → RepA w N x v) (d : Nat) :
    ∀ (fs : List Field) {c : Bool}, (∀ f ∈ fs, f.name ≠ "_") → eqF T (fs.map fun f => (f.offset, f.type)) xs ys = some c → (Op.eqFields (d + 1) us.toArray vs.toArray fs).run P w = .ok c w
  | [], c, _, h => by
    simp only [List.map_nil, eqF, Option.some.injEq] at h
    subst h
    simp [Op.eqFields]
  | f :: fs, c, hn, h => by
    simp only [List.map_cons, eqF] at h
    split at h
    · rename_i a b ha hb
      split at h
      · rename_i c1 c2 h1 h2
        obtain rfl := Option.some.inj h
        have hau : f.offset < us.length := by rw [hx]; exact (List.getElem?_eq_some_iff.1 ha).1
        have hbu : f.offset < vs.length := by rw [hy]; exact (List.getElem?_eq_some_iff.1 hb).1
        have hua := List.getElem?_eq_getElem hau
        have hvb := List.getElem?_eq_getElem hbu
        obtain ⟨e1, e2⟩ := run_eq1 hT h1 (hxr _ a _ ha hua) (hyr _ b _ hb hvb) d
        have ih := run_eqFields hT hx hxr hy hyr d fs (fun f hf => hn f (by simp [hf])) h2
        have p1 := e2 us.toArray f.offset us[f.offset] (by rw [List.getElem?_toArray]; exact hua)
        have p2 := e2 vs.toArray f.offset vs[f.offset] (by rw [List.getElem?_toArray]; exact hvb)
        simp only [Op.eqFields, if_pos (hn f (by simp)), Sem.run_bind, p1, p2, Result.andThen_ok, e1]
        cases c1
        · simp
        · simpa using ih
      · cases h
    · cases h

theorem run_eqElems (hT : TabOk P T) {N : Nat → Prop} {xs ys : List AV} {us vs : List Value} (hx : us.length = xs.length) (hxr : ∀ (i : Nat) x v, xs[i]? = some x → us[i]? = some v → RepA w N x v) (hy : vs.length = ys.length) (hyr : ∀ (i : Nat) x v, ys[i]? = some x → vs[i]? = some v → RepA w N x v) (d e n : Nat) :
    ∀ (k off : Nat) {c : Bool}, eqF T (arrF e n k (off * n)) xs ys = some c →
      (do
        let r ← forIn (List.range' off k) ((none : Option Bool), ()) fun i _ => do
          let a ← part e us.toArray (i * n)
          let b ← part e vs.toArray (i * n)
          let q ← Op.equalIn (d + 1) e a b
          if (!q) = true then pure (ForInStep.done (some false, ())) else pure (ForInStep.yield (none, ()))
        Break.runK r.1 (fun _ => pure true) (fun b => pure b) : Sem Bool).run P w = .ok c w
  | 0, off, c, h => by
    simp only [arrF, eqF, Option.some.injEq] at h
    subst h
    simp
  | k + 1, off, c, h => by
    simp only [arrF, eqF] at h
    split at h
    · rename_i a b ha hb
      split at h
      · rename_i c1 c2 h1 h2
        obtain rfl := Option.some.inj h
        have hau : off * n < us.length := by rw [hx]; exact (List.getElem?_eq_some_iff.1 ha).1
        have hbu : off * n < vs.length := by rw [hy]; exact (List.getElem?_eq_some_iff.1 hb).1
        have hua := List.getElem?_eq_getElem hau
        have hvb := List.getElem?_eq_getElem hbu
        obtain ⟨e1, e2⟩ := run_eq1 hT h1 (hxr _ a _ ha hua) (hyr _ b _ hb hvb) d
        rw [show off * n + n = (off + 1) * n by rw [Nat.add_mul]; omega] at h2
        have ih := run_eqElems hT hx hxr hy hyr d e n k (off + 1) h2
        have p1 := e2 us.toArray (off * n) us[off * n] (by rw [List.getElem?_toArray]; exact hua)
        have p2 := e2 vs.toArray (off * n) vs[off * n] (by rw [List.getElem?_toArray]; exact hvb)
        simp only [Sem.run_bind] at ih
        simp only [List.range'_succ, List.forIn_cons, Sem.run_bind, p1, p2, Result.andThen_ok, e1]
        cases c1
        · simp
        · simpa using ih
      · cases h
    · cases h

/-- '==' of structs or arrays of plain parts. -/
theorem run_eqAgg (hT : TabOk P T) {N : Nat → Prop} {t : Nat} {fs : List (Nat × Nat)} {xs ys : List AV} {us vs : List Value} {c : Bool} (hq : eqChk P t = true) (hf : eqFs T t = some fs) (h : eqF T fs xs ys = some c)
    (hx : us.length = xs.length) (hxr : ∀ (i : Nat) x v, xs[i]? = some x → us[i]? = some v → RepA w N x v) (hy : vs.length = ys.length) (hyr : ∀ (i : Nat) x v, ys[i]? = some x → vs[i]? = some v → RepA w N x v) :
    (Op.equalIn 10000 t (.agg us.toArray) (.agg vs.toArray)).run P w = .ok c w := by
  unfold eqChk at hq
  simp only [Bool.and_eq_true, Bool.not_eq_true'] at hq
  obtain ⟨_, hq⟩ := hq
  unfold eqFs at hf
  split at hf
  · rename_i fs' hd
    obtain ⟨u, h1, h2⟩ := tyD_und hT (t := t) (by rw [hd]; simp)
    rw [hd] at h2
    obtain ⟨gs, rfl, hfs⟩ := chkD_struct h2
    rw [h1] at hq
    simp only [Bool.and_eq_true, List.all_eq_true, bne_iff_ne, Bool.not_eq_true'] at hq
    obtain rfl := Option.some.inj hf
    rw [hfs] at h
    have hfo : P.fieldsOf t = gs := by simp [Program.fieldsOf, h1]
    rw [run_equalIn_struct w 9999 t _ _ (by rw [hfo]; exact h1) hq.2, hfo]
    exact run_eqFields hT hx hxr hy hyr 9998 gs.toList hq.1 h
  · rename_i n e hd
    obtain ⟨u, h1, h2⟩ := tyD_und hT (t := t) (by rw [hd]; simp)
    rw [hd] at h2
    obtain rfl := chkD_array h2
    split at hf
    · rename_i te hte
      obtain rfl := Option.some.inj hf
      obtain ⟨inf, ue, ok⟩ := hT.get hte
      have key : ∀ d D, D = d + 1 → (Op.equalIn (D + 1) t (.agg us.toArray) (.agg vs.toArray)).run P w = .ok c w := fun d D hD => by
        have hb := run_eqElems hT hx hxr hy hyr d e te.size n 0 (by simpa using h)
        rw [← hD] at hb
        simp only [Op.equalIn, Sem.run_bind, run_underlying h1, Result.andThen_ok, ok.run_size]
        simp only [Sem.run_bind] at hb
        simp at hb ⊢
        exact hb
      exact key 9998 9999 rfl
    · cases hf
  · cases hf

def aggOf (x : TV) : Option (List AV) := match x with
  | .p (.agg l) => some l
  | .agg l => unpL l
  | _ => none
theorem aggOf_ok {β : Hd → Nat} {G : Hp} {x : TV} {l : List AV} {v : Value} (h : aggOf x = some l) (hr : RepT w β G x v) : ∃ vs : List Value, v = .agg vs.toArray ∧ vs.length = l.length ∧ ∀ (i : Nat) a u, l[i]? = some a → vs[i]? = some u → RepA w (Free β G) a u := by
  unfold aggOf at h
  split at h
  · obtain rfl := Option.some.inj h
    cases hr with | p hr =>
    cases hr with | agg _ vs hl hr => exact ⟨vs, rfl, hl, hr⟩
  · cases hr with | agg _ vs hl hr =>
    obtain ⟨h1, h2⟩ := unpL_ok (w := w) (β := β) (G := G) _ h
    refine ⟨vs, rfl, by omega, fun i a u ha hu => ?_⟩
    obtain ⟨z, hz, hz2⟩ := h2 i a ha
    exact hz2 u (hr i z u hz hu)
  · cases h
def eqR (op : BinOp) (b : Bool) : Option TV := match op with
  | .eql => some (.p (.bool b))
  | .neq => some (.p (.bool !b))
  | _ => none
theorem opr_eqAgg (hT : TabOk P T) {op : BinOp} {t t2 : TypeId} {y z : Operand} {xs ys : List AV} {fs : List (Nat × Nat)} {c : Bool} (ho : o.op = .binOp op t y z t2) (hq : eqChk P t = true) (hy : aggOf (evA env y) = some xs) (hz : aggOf (evA env z) = some ys) (hf : eqFs T t = some fs) (h : eqF T fs xs ys = some c) (hr : eqR op c = some x) : OpR P o env H L x H L :=
  opr_pure fun F w β a hS he => by
    obtain ⟨us, e1, hx, hxr⟩ := aggOf_ok hy (evA_ok he y)
    obtain ⟨vs, e2, hy', hyr⟩ := aggOf_ok hz (evA_ok he z)
    have hrun := run_eqAgg (w := w) hT hq hf h hx hxr hy' hyr
    have hg : P.eqGuardType P.depth t = false := by
      unfold eqChk at hq
      simp only [Bool.and_eq_true, Bool.not_eq_true'] at hq
      exact hq.1
    unfold eqR at hr
    split at hr
    · obtain rfl := Option.some.inj hr
      refine ⟨.bool c, ?_, .p (.bool _)⟩
      simp only [execOp, ho, e1, e2, Sem.run_bind, run_eqGuard_agg w _ t y z _ _ hg, Result.andThen_ok, run_eql_struct, hrun, Sem.run_pure]
    · obtain rfl := Option.some.inj hr
      refine ⟨.bool (!c), ?_, .p (.bool _)⟩
      simp only [execOp, ho, e1, e2, Sem.run_bind, run_eqGuard_agg w _ t y z _ _ hg, Result.andThen_ok, run_neq_struct, hrun, Sem.run_pure]
    · cases hr

/-- A place in an array. -/
def idxA (n e : Nat) (L : List AObj) (j : Int) : TV → Option TV
  | .ad (.l i) off => match L[i]? with
    | some (.box _ _) => match decide (0 ≤ j) && decide (j < n) with
      | true => some (.ad (.l i) (off + j.toNat * e))
      | false => none
    | _ => none
  | .el s e0 i off => match decide (0 ≤ j) && decide (j < n) with
      | true => some (.el s e0 i (off + j.toNat * e))
      | false => none
  | .p (.pp cells) => match decide (0 ≤ j) && decide (j < n) with
      | true => match Nat.ble (j.toNat * e) cells.length with
        | true => some (.p (.pp (cells.drop (j.toNat * e))))
        | false => none
      | false => none
  | _ => none
theorem idxA_ok {β : Hd → Nat} {F : Nat → Prop} {n e : Nat} {j : Int} {y : TV} {v : Value} (h : idxA n e L j y = some x) (hr : RepT w β ⟨H, L, F⟩ y v) : (0 ≤ j ∧ j < n) ∧ ∃ ad, v = .pointer (some ad) ∧ RepT w β ⟨H, L, F⟩ x (.pointer (some (ad.add (j.toNat * e)))) := by
  unfold idxA at h
  split at h
  · rename_i i off
    split at h
    · rename_i Ty cs hi
      split at h
      · rename_i hj
        simp only [Bool.and_eq_true, decide_eq_true_eq] at hj
        obtain rfl := Option.some.inj h
        cases hr with | ad _ _ _ h1 hl hv =>
        have e1 := hv _ hi rfl
        refine ⟨hj, _, e1, ?_⟩
        rw [Addr.add_lit]
        exact .ad _ _ _ rfl ⟨_, hi⟩ fun o ho hb => rfl
      · cases h
    · cases h
  · split at h
    · rename_i hj
      simp only [Bool.and_eq_true, decide_eq_true_eq] at hj
      obtain rfl := Option.some.inj h
      cases hr with | el _ _ _ a len c hs hi =>
      refine ⟨hj, _, rfl, ?_⟩
      rw [add_add, Nat.add_assoc]
      exact .el _ _ _ _ _ _ hs hi
    · cases h
  · split at h
    · rename_i hj
      simp only [Bool.and_eq_true, decide_eq_true_eq] at hj
      split at h
      · rename_i hle
        obtain rfl := Option.some.inj h
        cases hr with | p hr =>
        cases hr with | pp cells a vs hN hb hc hrr =>
        have hle := Nat.le_of_ble_eq_true hle
        refine ⟨hj, _, rfl, .p (.pp _ _ (fun i => vs (j.toNat * e + i)) (by rw [add_block]; exact hN) (by rw [add_block]; exact hb) (fun i hi => ?_) fun i x hx => ?_)⟩
        · rw [add_add]
          simp at hi
          exact hc _ (by omega)
        · rw [List.getElem?_drop] at hx
          exact hrr _ x hx
      · cases h
    · cases h
  · cases h
theorem opr_idxArr (hT : TabOk P T) {t : TypeId} {y z : Operand} {n e : Nat} {te : TyI} {k : IntKind} {j : Int} (ho : o.op = .indexAddr t y z) (hd : tyD T t = .array n e) (he : tlk T e = some te) (hz : evA env z = .p (.int k j)) (hx : idxA n te.size L j (evA env y) = some x) : OpR P o env H L x H L :=
  opr_pure fun F w β a hS hen => by
    have hzz := evA_ok hen z
    rw [hz] at hzz
    obtain ⟨hj, ad, hv, hr⟩ := idxA_ok hx (evA_ok hen y)
    obtain ⟨u, h1, h2⟩ := tyD_und hT (t := t) (by rw [hd]; simp)
    rw [hd] at h2
    obtain rfl := chkD_array h2
    obtain ⟨inf, ue, ok⟩ := hT.get he
    refine ⟨_, ?_, hr⟩
    simp only [execOp, ho, hzz.int_inv, hv, Instr.indexAt, asIntOf, Instr.sureAddr, Sem.run_bind, Sem.run_pure, run_underlying h1, Result.andThen_ok]
    simp [hj, ok.run_size]
end
end Go.Awp

/- 'stepA' in one; letting go of objects; a function's contract from its body. No program is named here. -/
import Derived.Test.YtfkibkfjebppdaaAwpI
namespace Go.Awp
open Go.RowKit

section
variable {P : Program} {T : Tab} {env : Env} {H L : List AObj} {o : Oper} {x : TV}

def lenA : TV → Option Int
  | .p (.str l) => some l.length
  | .p (.ps l) => some l.length
  | .p .nils => some 0
  | .p .cz => some 0
  | _ => none
def isSS : TyD → Bool
  | .str => true
  | .slice _ => true
  | _ => false
theorem isSS_or {d : TyD} (h : isSS d = true) : d = .str ∨ ∃ e, d = .slice e := by
  cases d <;> simp [isSS] at h ⊢
theorem opr_len {t : TypeId} {y : Operand} {n : Int} (hT : TabOk P T) (ho : o.op = .call { callee := .builtin .len, args := #[y], argTypes := #[t] }) (hs : isSS (tyD T t) = true) (hok : (tyD T t = .str) = (∃ l, evA env y = .p (.str l))) (hy : lenA (evA env y) = some n) : OpR P o env H L (.p (.int .i64 n)) H L :=
  opr_pure fun F w β a _ he => by
    have h := evA_ok he y
    obtain ⟨u, h1, h2⟩ := tyD_und hT (t := t) (by intro e; rw [e] at hs; cases hs)
    have fin : ∀ v, a.eval y = v → (Builtin.len_ #[t] o.type #[v]).run P w = .ok (.int .i64 n) w → (execOp a.eval o).run P w = .ok (.value (.int .i64 n)) w := by
      intro v hv hr
      simp only [execOp, ho, resolve, invoke, builtin, Sem.run_bind, Sem.run_pure, Result.andThen_ok, List.map_toArray, List.map_cons, List.map_nil, hv, hr]
    refine ⟨_, ?_, .p (.int ..)⟩
    unfold lenA at hy
    split at hy
    · rename_i l hx
      rw [hx] at h
      have hstr : tyD T t = .str := by rw [hok]; exact ⟨l, hx⟩
      rw [hstr] at h2
      obtain rfl := chkD_str h2
      obtain rfl := Option.some.inj hy
      exact fin _ h.str_inv (by rw [run_len_string w t _ _ h1]; rfl)
    case h_5 => cases hy
    all_goals
      rename_i hx
      have hns : tyD T t ≠ .str := by rw [ne_eq, hok]; rintro ⟨l, hl⟩; rw [hl] at hx; cases hx
      obtain ⟨e, hd⟩ := (isSS_or hs).resolve_left hns
      rw [hd] at h2
      obtain rfl := chkD_slice h2
      obtain rfl := Option.some.inj hy
      rw [hx] at h
      generalize hv : a.eval y = v at h
      cases h with | p h =>
      cases h <;> exact fin _ hv (by simp [Builtin.len_, run_underlying h1, goInt])

def isMM : Builtin → Bool
  | .min | .max => true
  | _ => false
def mmA (b : Builtin) (x y : Int) : Int := match b with
  | .min => if y < x then y else x
  | _ => if y > x then y else x
theorem opr_mm {b : Builtin} {y z : Operand} {ts : Array TypeId} {k k' : IntKind} {m n : Int} (ho : o.op = .call { callee := .builtin b, args := #[y, z], argTypes := ts }) (hb : isMM b = true) (hy : evA env y = .p (.int k m)) (hz : evA env z = .p (.int k' n)) : OpR P o env H L (.p (.int k (mmA b m n))) H L :=
  opr_pure fun F w β a _ he => by
    have h1 := evA_ok he y
    have h2 := evA_ok he z
    rw [hy] at h1
    rw [hz] at h2
    refine ⟨_, ?_, .p (.int ..)⟩
    cases b <;> simp only [isMM, Bool.false_eq_true] at hb
    · simp [execOp, ho, resolve, invoke, builtin, h1.int_inv, h2.int_inv, Builtin.max_, Builtin.max2, mmA]
    · simp [execOp, ho, resolve, invoke, builtin, h1.int_inv, h2.int_inv, Builtin.min_, Builtin.min2, mmA]

/-! ### All in one -/
def stepB (T : Tab) (env : Env) (b : Builtin) (as : List Operand) (ts : List TypeId) : Option TV :=
  match b, as with
  | .len, [y] => match ts with
    | [t] => match tyD T t, evA env y with
      | .str, .p (.str l) => some (.p (.int .i64 l.length))
      | .slice _, .p (.str _) => none
      | .slice _, v => match lenA v with
        | some n => some (.p (.int .i64 n))
        | none => none
      | _, _ => none
    | _ => none
  | b, [y, z] => match isMM b, evA env y, evA env z with
    | true, .p (.int k m), .p (.int _ n) => some (.p (.int k (mmA b m n)))
    | _, _, _ => none
  | _, _ => none

def stepA (T : Tab) (env : Env) (L : List AObj) : Op → Option (TV × List AObj)
  | .move y => some (evA env y, L)
  | .assign y => some (evA env y, L)
  | .pick c a b => match evA env c with
    | .p (.bool v) => some (pickA v (evA env a) (evA env b), L)
    | _ => none
  | .alloc t => match tlk T t with
    | some i => some (.ad (.l L.length) 0, L ++ [.box t (i.zero.map .p)])
    | none => none
  | .box t y => match tcells (evA env y) with
    | some cs => some (.ad (.l L.length) 0, L ++ [.box t cs])
    | none => none
  | .build t ps => match buildA T t (evP env ps.toList) with
    | some x => some (x, L)
    | none => none
  | .load t y => match cells? L (evA env y) with
    | some cs => match loadC T t cs with
      | some x => some (x, L)
      | none => none
    | none => none
  | .store t y z => match evA env y, tlk T t, tcells (evA env z) with
    | .ad (.l i) off, some ti, some ns => match L[i]? with
      | some (.box b cs) => match Nat.beq ns.length ti.size, Nat.ble (off + ns.length) cs.length, allCell ns with
        | true, true, true => some (.p .top, L.set i (.box b (spl cs off ns)))
        | _, _, _ => none
      | _ => none
    | _, _, _ => none
  | .nilCheck y => match nilA L (evA env y) with
    | some x => some (x, L)
    | none => none
  | .binOp op t y z _ => match binA L op (evA env y) (evA env z) (tyD T t) with
    | some x => some (x, L)
    | none => none
  | .fieldAddr s y f => match fieldOf T s f with
    | some (off, _) => match fadA L off (evA env y) with
      | some x => some (x, L)
      | none => none
    | none => none
  | .field s y f => match fieldOf T s f with
    | some (off, j) => match fldA off j (evA env y) with
      | some x => some (x, L)
      | none => none
    | none => none
  | .extract y i => match evA env y with
    | .tup l => match l[i]? with
      | some x => some (x, L)
      | none => none
    | _ => none
  | .convert s d y => match tyD T d, evA env y, tlk T s with
    | .int k, .p (.int _ n), some _ => some (.p (.int k (k.wrap n)), L)
    | _, _, _ => none
  | .unOp .not _ y => match evA env y with
    | .p (.bool b) => some (.p (.bool !b), L)
    | _ => none
  | .unOp .neg _ y => match evA env y with
    | .p (.int k n) => some (.p (.int k (k.wrap (0 - n))), L)
    | _ => none
  | .call { callee := .builtin b, args := as, argTypes := ts } => match stepB T env b as.toList ts.toList with
    | some x => some (x, L)
    | none => none
  | _ => none

theorem stepB_ok (hT : TabOk P T) {b : Builtin} {as : Array Operand} {ts : Array TypeId} (ho : o.op = .call { callee := .builtin b, args := as, argTypes := ts }) (h : stepB T env b as.toList ts.toList = some x) : OpR P o env H L x H L := by
  obtain ⟨as⟩ := as
  obtain ⟨ts⟩ := ts
  unfold stepB at h
  split at h
  · rename_i y has
    obtain rfl : as = [y] := has
    split at h
    · rename_i t hts
      obtain rfl : ts = [t] := hts
      split at h
      · rename_i l hd hl
        obtain rfl := Option.some.inj h
        exact opr_len hT ho (by rw [hd]; rfl) (by rw [hd, hl]; simp) (by rw [hl]; rfl)
      · cases h
      · rename_i e v hd hne
        split at h
        · rename_i n hn
          obtain rfl := Option.some.inj h
          exact opr_len hT ho (by rw [hd]; rfl) (by rw [hd]; simp; exact fun l hl => hne l hl) hn
        · cases h
      · cases h
    · cases h
  · rename_i y z has
    obtain rfl : as = [y, z] := has
    split at h
    · rename_i hm hy hz
      obtain rfl := Option.some.inj h
      exact opr_mm ho hm hy hz
    · cases h
  · cases h

theorem stepA_ok (hT : TabOk P T) {L' : List AObj} (h : stepA T env L o.op = some (x, L')) : OpR P o env H L x H L' := by
  have same : ∀ {y : TV}, some (y, L) = some (x, L') → y = x ∧ L = L' := fun h => by simpa using h
  unfold stepA at h
  split at h
  · rename_i ho; obtain ⟨rfl, rfl⟩ := same h; exact opr_move (.inl ho)
  · rename_i ho; obtain ⟨rfl, rfl⟩ := same h; exact opr_move (.inr ho)
  · rename_i ho
    split at h
    · rename_i hv; obtain ⟨rfl, rfl⟩ := same h; exact opr_pick ho hv
    · cases h
  · rename_i ho
    split at h
    · rename_i hi
      simp only [Option.some.injEq, Prod.mk.injEq] at h
      obtain ⟨rfl, rfl⟩ := h
      exact opr_zero hT ho hi
    · cases h
  · rename_i ho
    split at h
    · rename_i hi
      simp only [Option.some.injEq, Prod.mk.injEq] at h
      obtain ⟨rfl, rfl⟩ := h
      exact opr_box ho hi
    · cases h
  · rename_i t ps ho
    obtain ⟨ps⟩ := ps
    split at h
    · rename_i hb; obtain ⟨rfl, rfl⟩ := same h; exact opr_build hT ho hb
    · cases h
  · rename_i ho
    split at h
    · rename_i hc
      split at h
      · rename_i hl; obtain ⟨rfl, rfl⟩ := same h; exact opr_load hT ho hc hl
      · cases h
    · cases h
  · rename_i ho
    split at h
    · rename_i h1 h2 h3
      split at h
      · rename_i hi
        split at h
        · rename_i h4 h5 h6
          simp only [Option.some.injEq, Prod.mk.injEq] at h
          obtain ⟨rfl, rfl⟩ := h
          exact opr_store hT ho h1 hi h2 h3 h4 h5 h6
        · cases h
      · cases h
    · cases h
  · rename_i ho
    split at h
    · rename_i hb; obtain ⟨rfl, rfl⟩ := same h; exact opr_nil ho hb
    · cases h
  · rename_i ho
    split at h
    · rename_i hb; obtain ⟨rfl, rfl⟩ := same h; exact opr_bin hT ho hb
    · cases h
  · rename_i ho
    split at h
    · rename_i hf
      split at h
      · rename_i hb; obtain ⟨rfl, rfl⟩ := same h; exact opr_fieldAddr hT ho hf hb
      · cases h
    · cases h
  · rename_i ho
    split at h
    · rename_i hf
      split at h
      · rename_i hb; obtain ⟨rfl, rfl⟩ := same h; exact opr_field hT ho hf hb
      · cases h
    · cases h
  · rename_i ho
    split at h
    · rename_i hv
      split at h
      · rename_i hi; obtain ⟨rfl, rfl⟩ := same h; exact opr_extract ho hv hi
      · cases h
    · cases h
  · rename_i ho
    split at h
    · rename_i hd hv hs; obtain ⟨rfl, rfl⟩ := same h; exact opr_conv_int hT ho hs hd hv
    · cases h
  · rename_i ho
    split at h
    · rename_i hv; obtain ⟨rfl, rfl⟩ := same h; exact opr_not ho hv
    · cases h
  · rename_i ho
    split at h
    · rename_i hv; obtain ⟨rfl, rfl⟩ := same h; exact opr_neg ho hv
    · cases h
  · rename_i ho
    split at h
    · rename_i hb; obtain ⟨rfl, rfl⟩ := same h; exact stepB_ok hT ho hb
    · cases h
  · cases h
end

/-! ### Letting go of objects -/
section
variable {P : Program} {Γ : Ctx} {env : Env} {H L : List AObj} {Φ : Act → World → Prop}
theorem kill {w : World} {β : Hd → Nat} {F : Nat → Prop} (i : Nat) (hS : Sim w β ⟨H, L, F⟩) : Sim w β ⟨H, L.set i .dead, F⟩ ∧ Step w β ⟨H, L, F⟩ w β ⟨H, L.set i .dead, F⟩ := by
  have hget : ∀ k o, (⟨H, L.set i .dead, F⟩ : Hp).get k = some o → o = .dead ∨ (⟨H, L, F⟩ : Hp).get k = some o := by
    intro k o ho
    cases k with
    | o k => exact .inr ho
    | l j =>
      simp only [Hp.get, List.getElem?_set] at ho
      split at ho
      · split at ho
        · exact .inl (Option.some.inj ho).symm
        · cases ho
      · exact .inr ho
  have hlv : ∀ k, (⟨H, L.set i .dead, F⟩ : Hp).live k → (⟨H, L, F⟩ : Hp).live k := by
    rintro k ⟨o, ho, hne⟩
    rcases hget k o ho with h | h
    · exact absurd h hne
    · exact ⟨o, h, hne⟩
  have hst : Step w β ⟨H, L, F⟩ w β ⟨H, L.set i .dead, F⟩ := by
    refine ⟨rfl, rfl, rfl, Nat.le_refl _, fun b _ hf => ⟨rfl, hf.1, fun k hk => hf.2 k (hlv k hk)⟩, fun _ _ => rfl, rfl, fun k o ho => ?_⟩
    cases k with
    | o k => exact ⟨o, ho, ObjGo.refl ..⟩
    | l j =>
      by_cases e : i = j
      · subst e
        have hlt : i < L.length := (List.getElem?_eq_some_iff.1 ho).1
        exact ⟨.dead, by simp [Hp.get, hlt], by cases o <;> simp [ObjGo]⟩
      · exact ⟨o, by simpa [Hp.get, List.getElem?_set, e] using ho, ObjGo.refl ..⟩
  refine ⟨⟨fun k o ho => ?_, fun k j hk hj => hS.inj k j (hlv k hk) (hlv j hj), hS.ext, fun k hk => hS.disj k (hlv k hk), hS.flt⟩, hst⟩
  rcases hget k o ho with rfl | h
  · trivial
  · exact (hS.objs k o h).mono hst rfl
theorem J_kill (i : Nat) (k : J Γ env H (L.set i .dead) Φ) : J Γ env H L Φ := fun a w β s => by
  obtain ⟨h1, h2⟩ := kill i s.sim
  exact k a w β ⟨h1, s.step.trans h2, s.env.mono h2, s.size, s.defers⟩

/-- A slice that this call filled: from now on nobody writes it. -/
theorem J_freeze (t i : Nat) {Ty : TypeId} {b : Bool} {e n st len : Nat} {rows : List AV} (ht : lk env t = .sl (.l i) n st len) (hi : L[i]? = some (.arr Ty b e rows)) (hn : rows.length = n)
    (k : J Γ ((t, .p (.ps ((rows.drop st).take len))) :: env) H (L.set i .dead) Φ) : J Γ env H L Φ := fun a w β s => by
  obtain ⟨h1, h2⟩ := kill i s.sim
  have he := s.env.mono h2
  refine k a w β ⟨h1, s.step.trans h2, fun q => ?_, s.size, s.defers⟩
  rw [lk_cons]
  split
  · rename_i hq
    subst hq
    have hr := s.env q
    rw [ht] at hr
    generalize a.tmps.getD q undef = v at hr
    cases hr with | sl _ _ _ _ _ _ _ hv =>
    obtain ⟨hle, ao, cap, rfl, hc1, hc2, hao, _⟩ := hv _ _ _ _ hi hn
    obtain ⟨cs, fr, g1, g2, g3, g4, g5, g6, g7⟩ := s.sim.objs (.l i) _ hi
    have hlen : ((rows.drop st).take len).length = len := by simp; omega
    by_cases h0 : len = 0
    · subst h0
      simpa using RepT.p (RepA.psE ao cap)
    · have hao := hao (.inr (by omega))
      subst hao
      have hlive : (⟨H, L, Γ.F⟩ : Hp).live (.l i) := ⟨_, hi, by simp⟩
      have hfree : Free β ⟨H, L.set i .dead, Γ.F⟩ (β (.l i)) := by
        refine ⟨s.sim.disj _ hlive, fun k hk e => ?_⟩
        have hne : k ≠ .l i := by
          rintro rfl
          obtain ⟨o, ho, hd⟩ := hk
          simp only [Hp.get, List.getElem?_set, if_true] at ho
          split at ho
          · exact hd (Option.some.inj ho).symm
          · cases ho
        have hk' : (⟨H, L, Γ.F⟩ : Hp).live k := by
          obtain ⟨o, ho, hd⟩ := hk
          refine ⟨o, ?_, hd⟩
          cases k with
          | o k => exact ho
          | l j =>
            have : i ≠ j := fun e => hne (by rw [e])
            simpa [Hp.get, List.getElem?_set, this] using ho
        exact hne (s.sim.inj k (.l i) hk' hlive e)
      have key := RepA.ps (w := w) (N := Free β ⟨H, L.set i .dead, Γ.F⟩) ((rows.drop st).take len) ⟨β (.l i), st * e, none⟩ cap e (fun p q => cs.getD ((st + p) * e + q) undef) hfree (s.sim.lt hlive)
        (fun r hr => g6 r (List.mem_of_mem_drop (List.mem_of_mem_take hr)))
        (fun p q hp hq => by
          rw [hlen] at hp
          have hr : (rows[st + p]?) = some rows[st + p] := List.getElem?_eq_getElem (by omega)
          have hq' : q < (cellsOf rows[st + p]).length := by rw [g6 _ (List.getElem_mem _)]; exact hq
          obtain ⟨v, hv, _⟩ := g7 (st + p) q _ _ hr (List.getElem?_eq_getElem hq')
          rw [Addr.add_lit, cell_of_row _ _ _ _ _ _ g1, show st * e + (p * e + q) = (st + p) * e + q by rw [Nat.add_mul]; omega]
          simp only [Array.getD_eq_getD_getElem?, hv, Option.getD_some])
        (fun p q r x hp hq => by
          rw [List.getElem?_take] at hp
          split at hp
          · rw [List.getElem?_drop] at hp
            obtain ⟨v, hv, hr⟩ := g7 (st + p) q r x hp hq
            simp only [Array.getD_eq_getD_getElem?, hv, Option.getD_some]
            exact hr.mono h2.size h2.frame
          · cases hp) (by rw [hlen]; exact hc1)
      rw [hlen] at key
      exact .p key
  · exact he q

theorem cells_live {w : World} {β : Hd → Nat} {F : Nat → Prop} {i : Nat} {ob : AObj} (hS : Sim w β ⟨H, L, F⟩) (hi : L[i]? = some ob) (hne : ob ≠ .dead) : Free β ⟨H, L.set i .dead, F⟩ (β (.l i)) := by
  have hlive : (⟨H, L, F⟩ : Hp).live (.l i) := ⟨_, hi, hne⟩
  refine ⟨hS.disj _ hlive, fun k hk e => ?_⟩
  have hne : k ≠ .l i := by
    rintro rfl
    obtain ⟨o, ho, hd⟩ := hk
    simp only [Hp.get, List.getElem?_set, if_true] at ho
    split at ho
    · exact hd (Option.some.inj ho).symm
    · cases ho
  have hk' : (⟨H, L, F⟩ : Hp).live k := by
    obtain ⟨o, ho, hd⟩ := hk
    refine ⟨o, ?_, hd⟩
    cases k with
    | o k => exact ho
    | l j =>
      have : i ≠ j := fun e => hne (by rw [e])
      simpa [Hp.get, List.getElem?_set, this] using ho
  exact hne (hS.inj k (.l i) hk' hlive e)

/-- A variable that this call made: from now on nobody writes it. -/
theorem J_freeze_box (t i : Nat) {Ty : TypeId} {cs : List TV} {xs : List AV} (ht : lk env t = .ad (.l i) 0) (hi : L[i]? = some (.box Ty cs)) (hx : unpL cs = some xs)
    (k : J Γ ((t, .p (.pp xs)) :: env) H (L.set i .dead) Φ) : J Γ env H L Φ := fun a w β s => by
  obtain ⟨h1, h2⟩ := kill i s.sim
  have he := s.env.mono h2
  refine k a w β ⟨h1, s.step.trans h2, fun q => ?_, s.size, s.defers⟩
  rw [lk_cons]
  split
  · rename_i hq
    subst hq
    have hr := s.env q
    rw [ht] at hr
    generalize a.tmps.getD q undef = v at hr
    cases hr with | ad _ _ _ _ _ hv =>
    have hv := hv _ hi rfl
    subst hv
    obtain ⟨arr, g1, g2, g3⟩ := s.sim.objs (.l i) _ hi
    obtain ⟨u1, u2⟩ := unpL_ok (w := w) (β := β) (G := ⟨H, L, Γ.F⟩) cs hx
    have hlive : (⟨H, L, Γ.F⟩ : Hp).live (.l i) := ⟨_, hi, by simp⟩
    refine .p (.pp xs _ (fun j => arr.getD j undef) (cells_live s.sim hi (by simp)) (s.sim.lt hlive) (fun j hj => ?_) fun j x hj => ?_)
    · obtain ⟨z, hz, _⟩ := u2 j _ (List.getElem?_eq_getElem hj)
      obtain ⟨v, hv, _⟩ := g3 j z hz
      rw [Addr.add_lit, cell_of_row _ _ _ _ _ _ g1]
      simp only [Nat.zero_add, Array.getD_eq_getD_getElem?, hv, Option.getD_some]
    · obtain ⟨z, hz, hz2⟩ := u2 j x hj
      obtain ⟨v, hv, hr⟩ := g3 j z hz
      simp only [Array.getD_eq_getD_getElem?, hv, Option.getD_some]
      exact (hz2 v hr).mono h2.size h2.frame
  · exact he q
end

/-! ### A function's body -/
section
variable {P : Program} {T : Tab} {Γ : Ctx} {env : Env} {H L : List AObj}
def resOne (T : Tab) (env : Env) (L : List AObj) : ResultVar → Option TV
  | .tmp t => some (lk env t)
  | .cell p t => match cells? L (lk env p) with
    | some cs => loadC T t cs
    | none => none
def resL (T : Tab) (env : Env) (L : List AObj) : List ResultVar → Option (List TV)
  | [] => some []
  | r :: rs => match resOne T env L r, resL T env L rs with
    | some x, some xs => some (x :: xs)
    | _, _ => none
def resA (T : Tab) (env : Env) (L : List AObj) (rs : List ResultVar) : Option TV :=
  match resL T env L rs with
  | some [x] => some x
  | some xs => some (.tup xs)
  | none => none

def Post (w0 : World) (β0 : Hd → Nat) (H0 : List AObj) (F : Nat → Prop) (r : TV) (H' news : List AObj) (e : Ending) (w' : World) : Prop :=
  ∃ β' v, e = .returned v ∧ Sim w' β' ⟨H', news, F⟩ ∧ Step w0 β0 ⟨H0, [], F⟩ w' β' ⟨H', news, F⟩ ∧ RepT w' β' ⟨H', news, F⟩ r v

def rsem (tmps : Array Value) (r : ResultVar) : Sem Value := match r with
  | .tmp t => pure (tmps.getD t undef)
  | .cell p t => do loadVar t (← asAddr (tmps.getD p undef))
theorem results_eq (fn : Func) (tmps : Array Value) : results fn tmps = (do
    let vs ← fn.results.mapM (rsem tmps)
    pure (if h : vs.size = 1 then vs[0] else .tuple vs)) := rfl
theorem resL_ok (hT : TabOk P T) {w : World} {β : Hd → Nat} {F : Nat → Prop} {a : Act} (hS : Sim w β ⟨H, L, F⟩) (he : EnvR w β ⟨H, L, F⟩ env a) : ∀ (rs : List ResultVar) {xs : List TV}, resL T env L rs = some xs →
    ∃ vs : List Value, (rs.mapM (rsem a.tmps)).run P w = .ok vs w ∧ RepL w β ⟨H, L, F⟩ xs vs
  | [], xs, h => by simp [resL] at h; subst h; exact ⟨[], by simp, rfl, by simp⟩
  | r :: rs, xs, h => by
    simp only [resL] at h
    split at h
    · rename_i x xs' hx hxs
      obtain rfl := Option.some.inj h
      obtain ⟨vs, h1, h2⟩ := resL_ok hT hS he rs hxs
      have hone : ∃ v, (rsem a.tmps r).run P w = .ok v w ∧ RepT w β ⟨H, L, F⟩ x v := by
        cases r with
        | tmp t => simp only [resOne, Option.some.injEq] at hx; subst hx; exact ⟨_, rfl, he t⟩
        | cell p t =>
          simp only [resOne] at hx
          split at hx
          · rename_i cs hc
            obtain ⟨ad, hv, hcs⟩ := cells?_ok hS (he p) hc
            obtain ⟨u, hu, hr⟩ := loadC_ok (P := P) hT hcs hx
            exact ⟨u, by simp only [rsem, Sem.run_bind, hv, asAddr, Sem.run_pure, Result.andThen_ok, hu], hr⟩
          · cases hx
      obtain ⟨v, hv, hr⟩ := hone
      refine ⟨v :: vs, ?_, by simp [h2.1], fun i y u hy hu => ?_⟩
      · simp only [List.mapM_cons, Sem.run_bind, hv, h1, Result.andThen_ok, Sem.run_pure]
      · cases i with
        | zero => simp at hy hu; subst hy hu; exact hr
        | succ i => exact h2.2 i y u (by simpa using hy) (by simpa using hu)
    · cases h

theorem resA_ok (hT : TabOk P T) {fn : Func} {rs : List ResultVar} (hfn : fn.results = rs.toArray) {w : World} {β : Hd → Nat} {F : Nat → Prop} {a : Act} (hS : Sim w β ⟨H, L, F⟩) (he : EnvR w β ⟨H, L, F⟩ env a) {x : TV} (h : resA T env L rs = some x) :
    ∃ v, (results fn a.tmps).run P w = .ok v w ∧ RepT w β ⟨H, L, F⟩ x v := by
  unfold resA at h
  have run : ∀ vs : List Value, (rs.mapM (rsem a.tmps)).run P w = .ok vs w →
      (results fn a.tmps).run P w = .ok (match vs with | [v] => v | _ => .tuple vs.toArray) w := by
    intro vs hvs
    simp only [results_eq, hfn, Array.mapM_eq_mapM_toList, Sem.run_bind, Sem.run_map]
    rw [hvs]
    simp only [Result.andThen_ok, Sem.run_pure]
    congr 1
    match vs with
    | [] => simp
    | [v] => simp
    | _ :: _ :: _ => simp
  split at h
  · rename_i y hxs
    obtain rfl := Option.some.inj h
    obtain ⟨vs, h1, h2⟩ := resL_ok hT hS he rs hxs
    obtain ⟨v, rfl⟩ : ∃ v, vs = [v] := by
      match vs, h2.1 with
      | [v], _ => exact ⟨v, rfl⟩
    exact ⟨v, run _ h1, h2.2 0 _ v rfl rfl⟩
  · rename_i xs hne hxs
    obtain rfl := Option.some.inj h
    obtain ⟨vs, h1, h2⟩ := resL_ok hT hS he rs hxs
    refine ⟨.tuple vs.toArray, ?_, .tup _ vs h2.1 h2.2⟩
    rw [run _ h1]
    match vs, h2.1 with
    | [], _ => rfl
    | [v], hl =>
      obtain ⟨y, rfl⟩ : ∃ y, xs = [y] := by
        match xs, hl with
        | [y], _ => exact ⟨y, rfl⟩
      exact absurd rfl (hne y)
    | _ :: _ :: _, _ => rfl
  · cases h

theorem drop_l {w : World} {β : Hd → Nat} {F : Nat → Prop} {x : TV} {v : Value} (h : RepT w β ⟨H, L, F⟩ x v) (hx : x.ext = true) : RepT w β ⟨H, [], F⟩ x v := by
  have hfree : ∀ b, Free β ⟨H, L, F⟩ b → Free β ⟨H, [], F⟩ b := fun b hb => ⟨hb.1, fun k hk => by
    cases k with
    | o k => exact hb.2 _ hk
    | l i => obtain ⟨o, ho, _⟩ := hk; simp [Hp.get] at ho⟩
  induction h with
  | p h => exact .p (h.mono (Nat.le_refl _) fun b _ hb => ⟨rfl, hfree b hb⟩)
  | ad h off v h1 hl hv => cases h with
    | o k => exact .ad _ off v h1 hl hv
    | l i => simp [TV.ext] at hx
  | sl h n st len v h1 hl hv => cases h with
    | o k => exact .sl _ n st len v h1 hl hv
    | l i => simp [TV.ext] at hx
  | el => simp [TV.ext] at hx
  | agg xs vs hl hr ih => exact .agg xs vs hl fun i x v h1 h2 => ih i x v h1 h2 (extL_get (by simpa [TV.ext] using hx) h1)
  | tup xs vs hl hr ih => exact .tup xs vs hl fun i x v h1 h2 => ih i x v h1 h2 (extL_get (by simpa [TV.ext] using hx) h1)
  | fn f xs vs hl hr ih => exact .fn f xs vs hl fun i x v h1 h2 => ih i x v h1 h2 (extL_get (by simpa [TV.ext] using hx) h1)
  | opt g x v h1 h2 ih => exact .opt g x v (fun hg => ih hg (by simpa [TV.ext] using hx)) h2
theorem drop_sim {w : World} {β : Hd → Nat} {F : Nat → Prop} (h : Sim w β ⟨H, L, F⟩) : Sim w β ⟨H, [], F⟩ := by
  have hlv : ∀ k, (⟨H, [], F⟩ : Hp).live k → (⟨H, L, F⟩ : Hp).live k := fun k hk => by
    cases k with
    | o k => exact hk
    | l i => obtain ⟨o, ho, _⟩ := hk; simp [Hp.get] at ho
  refine ⟨fun k o ho => ?_, fun k j hk hj => h.inj k j (hlv k hk) (hlv j hj), h.ext, fun k hk => h.disj k (hlv k hk), h.flt⟩
  cases k with
  | l i => simp [Hp.get] at ho
  | o k =>
    have hx : o.ext = true := h.ext o (List.mem_of_getElem? ho)
    have := h.objs (.o k) o ho
    cases o with
    | dead => trivial
    | box T cells =>
      obtain ⟨cs, h1, h2, h4⟩ := this
      exact ⟨cs, h1, h2, fun i x hi => let ⟨v, hv, hr⟩ := h4 i x hi; ⟨v, hv, drop_l hr (extL_get (by simpa [AObj.ext] using hx) hi)⟩⟩
    | arr T app e rows =>
      obtain ⟨cs, fr, h1, h2, h3, h4, h5, h6, h7⟩ := this
      exact ⟨cs, fr, h1, h2, h3, h4, h5, h6, fun i j r x hr hx => let ⟨v, hv, hr'⟩ := h7 i j r x hr hx; ⟨v, hv, hr'.mono (Nat.le_refl _) fun b _ hb => ⟨rfl, hb.1, fun k hk => hb.2 k (hlv k hk)⟩⟩⟩
    | iter s pos => exact this

/-- The end: what is handed back leads to none of this call's own objects. -/
theorem J_done {fn : Func} {rs : List ResultVar} {r : TV} (hT : TabOk P T) (hfn : fn.results = rs.toArray) (hr : resA T env L rs = some r) (hx : r.ext = true) : J Γ env H L (bodyPost P fn (Post Γ.w0 Γ.β0 Γ.H0 Γ.F r H []) .ret) := by
  intro a w β s
  obtain ⟨v, h1, h2⟩ := resA_ok hT hfn s.sim s.env hr
  refine ⟨s.defers, v, h1, β, v, rfl, drop_sim s.sim, ?_, drop_l h2 hx⟩
  have hlv : ∀ k, (⟨H, [], Γ.F⟩ : Hp).live k → (⟨H, L, Γ.F⟩ : Hp).live k := fun k hk => by
    cases k with
    | o k => exact hk
    | l i => obtain ⟨o, ho, _⟩ := hk; simp [Hp.get] at ho
  exact ⟨s.step.os, s.step.tape, s.step.output, s.step.size, fun b hb hf => ⟨(s.step.frame b hb hf).1, (s.step.frame b hb hf).2.1, fun k hk => (s.step.frame b hb hf).2.2 k (hlv k hk)⟩, s.step.fr, rfl, fun k o ho => by
    cases k with
    | o k => exact s.step.obj (.o k) o ho
    | l i => simp [Hp.get] at ho⟩
/-- The end: this call's own objects go to the caller. -/
theorem J_give {fn : Func} {rs : List ResultVar} {r : TV} (hT : TabOk P T) (hfn : fn.results = rs.toArray) (hr : resA T env L rs = some r) : J Γ env H L (bodyPost P fn (Post Γ.w0 Γ.β0 Γ.H0 Γ.F r H L) .ret) := by
  intro a w β s
  obtain ⟨v, h1, h2⟩ := resA_ok hT hfn s.sim s.env hr
  exact ⟨s.defers, v, h1, β, v, rfl, s.sim, s.step, h2⟩

def argE : Nat → List TV → Env
  | _, [] => []
  | i, x :: r => (i, x) :: argE (i + 1) r
theorem argE_lk : ∀ (l : List TV) (i t : Nat), lk (argE i l) t = if i ≤ t then (l[t - i]?).getD (.p .top) else .p .top
  | [], i, t => by simp [argE, lk]
  | x :: r, i, t => by
    rw [argE, lk_cons, argE_lk r (i + 1) t]
    by_cases h : t = i
    · subst h; simp
    · rw [if_neg h]
      by_cases h2 : i + 1 ≤ t
      · rw [if_pos h2, if_pos (by omega), show t - i = (t - (i + 1)) + 1 by omega]; simp
      · rw [if_neg h2, if_neg (by omega)]

theorem con_of {f : FuncId} {fn : Func} {c : Code} {args : List TV} {r : TV} {H' news : List AObj} (hf : P.funcs[f]? = some fn) (hb : fn.body = some c) (hc : callable P f = true) (hn : Nat.ble args.length fn.ntmps = true)
    (h : ∀ F w0 β0, J ⟨fn.ntmps, w0, β0, H, F⟩ (argE 0 args) H [] (c.wp P (bodyPost P fn (Post w0 β0 H F r H' news)))) : Con P f args H r H' news :=
  ⟨hc, fun F w β vs hS ha => by
    refine calls_of_wp hf hb (h F w β _ w β ⟨hS, Step.refl .., fun t => ?_, ?_, rfl⟩)
    · rw [argE_lk]
      simp only [Nat.zero_le, if_true, Nat.sub_zero]
      by_cases ht : t < args.length
      · have hv : t < vs.length := by rw [ha.1]; exact ht
        rw [List.getElem?_eq_getElem ht]
        have := ha.2 t _ _ (List.getElem?_eq_getElem ht) (List.getElem?_eq_getElem hv)
        simpa [Array.getD_eq_getD_getElem?, Array.getElem?_append, hv] using this
      · rw [List.getElem?_eq_none (by omega)]
        exact .p (.top _)
    · have := Nat.le_of_ble_eq_true hn
      simp [ha.1]; omega⟩
end
end Go.Awp

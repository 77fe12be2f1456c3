/- Operations on the caller's objects. No program is named here. -/
import Derived.Test.YtfkibkfjebppdaaAwpBA
import Derived.Test.YtfkibkfjebppdaaAwpO
namespace Go.Awp
open Go.RowKit

section
variable {P : Program} {T : Tab} {env : Env} {H L : List AObj} {o : Oper} {x : TV}
def boxH (H : List AObj) (i : Nat) : Option (Nat × List TV) := match H[i]? with
  | some (.box t cs) => some (t, cs)
  | _ => none
theorem boxH_ok {i t : Nat} {cs : List TV} (h : boxH H i = some (t, cs)) : H[i]? = some (.box t cs) := by
  unfold boxH at h
  split at h
  · rename_i hi
    simp only [Option.some.injEq, Prod.mk.injEq] at h
    obtain ⟨rfl, rfl⟩ := h
    exact hi
  · cases h
theorem adH_val {w : World} {β : Hd → Nat} {F : Nat → Prop} {i off t : Nat} {cs : List TV} {v : Value} (hi : H[i]? = some (.box t cs)) (h : RepT w β ⟨H, L, F⟩ (.ad (.o i) off) v) : v = .pointer (some ⟨β (.o i), off, none⟩) := by
  cases h with | ad _ _ _ _ _ hv => exact hv _ hi rfl
theorem cellsH {w : World} {β : Hd → Nat} {F : Nat → Prop} {i t : Nat} {cs : List TV} (off : Nat) (hS : Sim w β ⟨H, L, F⟩) (hi : H[i]? = some (.box t cs)) : Cells w β ⟨H, L, F⟩ ⟨β (.o i), off, none⟩ (cs.drop off) := by
  obtain ⟨arr, h1, h2, h3⟩ := hS.objs (.o i) _ hi
  intro j y hj
  rw [List.getElem?_drop] at hj
  obtain ⟨u, hu, hr⟩ := h3 _ y hj
  exact ⟨u, by rw [Addr.add_lit, cell_of_row w _ _ _ _ _ h1]; exact hu, hr⟩

/-- One of the caller's objects is written where it lies. -/
theorem opr_setH {i : Nat} {ob ob' : AObj} (hi : H[i]? = some ob) (hne : ob ≠ .dead) (hx : ob'.ext = true) (h : ∀ F w β a, Sim w β ⟨H, L, F⟩ → EnvR w β ⟨H, L, F⟩ env a → ∃ u w', ((execOp a.eval o).run P w = .ok (.value u) w' ∨ (execOp a.eval o).run P w = .ok .skip w' ∧ u = undef) ∧
    w'.os = w.os ∧ w'.tape = w.tape ∧ w'.output = w.output ∧ w'.heap.size = w.heap.size ∧ (∀ b, b ≠ β (.o i) → w'.heap[b]? = w.heap[b]?) ∧ ObjGo w w' (β (.o i)) (β (.o i)) ob ob' ∧
      (Step w β ⟨H, L, F⟩ w' β ⟨H.set i ob', L, F⟩ → ObjOk w' β ⟨H.set i ob', L, F⟩ (β (.o i)) ob' ∧ RepT w' β ⟨H.set i ob', L, F⟩ x u)) : OpR P o env H L x (H.set i ob') L := by
  intro F w β a next Q hS he hn
  obtain ⟨u, w', h1, h2, h3, h4, h5, h6, h7, h8⟩ := h F w β a hS he
  have hlt : i < H.length := (List.getElem?_eq_some_iff.1 hi).1
  obtain ⟨s1, s2⟩ := upd (w' := w') (G' := ⟨H.set i ob', L, F⟩) (h := .o i) (o' := ob') (b' := β (.o i)) hS hi h2 h3 h4 (by omega) (fun b _ hb => h6 b hb) hne (.inl rfl) h7
    (fun k => by
      cases k with
      | l k => simp [Hp.get]
      | o j =>
        simp only [Hp.get, List.getElem?_set, Hd.o.injEq]
        by_cases e : i = j
        · subst e; simp [hlt]
        · rw [if_neg e, if_neg (fun q => e q.symm)]) rfl (fun q hq => by
          rcases List.mem_or_eq_of_mem_set hq with hq | rfl
          · exact hS.ext q hq
          · exact hx)
  have eβ : (fun k => if k = Hd.o i then β (.o i) else β k) = β := by
    funext k
    split
    · rename_i e; rw [e]
    · rfl
  rw [eβ] at s1 s2
  obtain ⟨h9, h10⟩ := h8 s1
  unfold Oper.wp
  rcases h1 with h1 | ⟨h1, rfl⟩
  · rw [h1]; exact hn _ _ u (s2 h9) s1 h10
  · rw [h1]; exact hn _ _ undef (s2 h9) s1 h10

theorem oprH_load {t : TypeId} {y : Operand} {i off b : Nat} {cs : List TV} (hT : TabOk P T) (ho : o.op = .load t y) (hy : evA env y = .ad (.o i) off) (hi : H[i]? = some (.box b cs)) (hl : loadC T t (cs.drop off) = some x) : OpR P o env H L x H L :=
  opr_pure fun F w β a hS he => by
    have hp := evA_ok he y
    rw [hy] at hp
    have hv := adH_val hi hp
    obtain ⟨u, hu, hr⟩ := loadC_ok (P := P) hT (cellsH off hS hi) hl
    exact ⟨u, by simp [execOp, ho, Instr.loadAt, Instr.sureAddr, hv, hu], hr⟩
theorem oprH_store {t : TypeId} {y z : Operand} {i off : Nat} {b : TypeId} {cs ns : List TV} {ti : TyI} (hT : TabOk P T) (ho : o.op = .store t y z) (hy : evA env y = .ad (.o i) off) (hi : H[i]? = some (.box b cs)) (ht : tlk T t = some ti)
    (hz : tcells (evA env z) = some ns) (hn : Nat.beq ns.length ti.size = true) (hf : Nat.ble (off + ns.length) cs.length = true) (ha : allCell ns = true) (hx : (AObj.box b (spl cs off ns)).ext = true) : OpR P o env H L (.p .top) (H.set i (.box b (spl cs off ns))) L :=
  opr_setH hi (by simp) hx fun F w β a hS he => by
    obtain ⟨inf, u, ok⟩ := hT.get ht
    have hn := Nat.eq_of_beq_eq_true hn
    have hf := Nat.le_of_ble_eq_true hf
    have hv := tcells_ok (evA_ok he z) hz
    have hp := evA_ok he y
    rw [hy] at hp
    obtain ⟨arr, h1, h2, h3⟩ := hS.objs (.o i) _ hi
    have hpv := adH_val hi hp
    have hsz : (a.eval z).cells.size = ns.length := by rw [← hv.1]; simp
    have hrun := run_storeVar (w := w) (off := off) ok h1 (v := a.eval z) (by omega) (by omega) (fun c hc => by
      obtain ⟨j, hj⟩ := List.getElem?_of_mem hc
      have hlt : j < ns.length := by rw [← hv.1]; exact (List.getElem?_eq_some_iff.1 hj).1
      exact cellLike_ok (hv.2 j _ c (List.getElem?_eq_getElem hlt) hj) (allCell_get ha (List.getElem?_eq_getElem hlt)))
    refine ⟨undef, w.setRow (β (.o i)) (arr.toList.take off ++ (a.eval z).cells.toList ++ arr.toList.drop (off + (a.eval z).cells.toList.length)).toArray, .inr ⟨by simp only [execOp, ho, Instr.storeAt, Instr.sureAddr, hpv, Sem.run_bind, Sem.run_pure, Result.andThen_ok]; rw [hrun]; rfl, rfl⟩, rfl, rfl, rfl, by simp, fun b hb => setRow_other w _ b _ hb, ?_, fun hst => ⟨?_, .p (.top _)⟩⟩
    · simp [ObjGo, spl]; omega
    · have hcs : RepL w β ⟨H, L, F⟩ cs arr.toList := ⟨by simp [h2], fun j x v hx hv => by
        obtain ⟨v', hv', hr⟩ := h3 j x hx
        simp at hv
        rw [hv] at hv'
        obtain rfl := Option.some.inj hv'
        exact hr⟩
      have := (spl_rep off hcs hv).mono hst
      refine objOk_box (vs := arr.toList.take off ++ ((a.eval z).cells.toList ++ arr.toList.drop (off + (a.eval z).cells.toList.length))) ?_ this
      rw [setRow_heap w _ _ _ _ _ h1]
      simp
theorem oprH_nil {y : Operand} {i off b : Nat} {cs : List TV} (ho : o.op = .nilCheck y) (hy : evA env y = .ad (.o i) off) (hi : H[i]? = some (.box b cs)) : OpR P o env H L (.ad (.o i) off) H L :=
  opr_pure fun F w β a hS he => by
    have hp := evA_ok he y
    rw [hy] at hp
    exact ⟨a.eval y, by simp [execOp, ho, adH_val hi hp], hp⟩
theorem oprH_fieldAddr {s f off o1 i b : Nat} {cs : List TV} {j : TyI} {y : Operand} (hT : TabOk P T) (ho : o.op = .fieldAddr s y f) (hf : fieldOf T s f = some (off, j)) (hy : evA env y = .ad (.o i) o1) (hi : H[i]? = some (.box b cs)) : OpR P o env H L (.ad (.o i) (o1 + off)) H L :=
  opr_pure fun F w β a hS he => by
    obtain ⟨fs, fd, inf, u, h1, h2, rfl, ok, hne⟩ := fieldOf_ok hT hf
    have hp := evA_ok he y
    rw [hy] at hp
    have hv := adH_val hi hp
    refine ⟨.pointer (some ((⟨β (.o i), o1, none⟩ : Addr).add fd.offset)), by simp [execOp, ho, Instr.fieldAt, run_underlying h1, h2, Instr.sureAddr, hv, fieldPlace, ok.run_size, hne], ?_⟩
    rw [Addr.add_lit]
    exact .ad _ _ _ rfl ⟨_, hi⟩ fun o ho hb => rfl
theorem oprH_idxArr (hT : TabOk P T) {t : TypeId} {y z : Operand} {n e i off b : Nat} {cs : List TV} {te : TyI} {k : IntKind} {j : Int} (ho : o.op = .indexAddr t y z) (hd : tyD T t = .array n e) (he : tlk T e = some te) (hz : evA env z = .p (.int k j))
    (hy : evA env y = .ad (.o i) off) (hi : H[i]? = some (.box b cs)) (h0 : 0 ≤ j) (hj : j < n) : OpR P o env H L (.ad (.o i) (off + j.toNat * te.size)) H L :=
  opr_pure fun F w β a hS hen => by
    obtain ⟨ud, h1, h2⟩ := tyD_und hT (t := t) (by rw [hd]; simp)
    rw [hd] at h2
    obtain rfl := chkD_array h2
    obtain ⟨inf, u, ok⟩ := hT.get he
    have hzv := evA_ok hen z
    rw [hz] at hzv
    have hzv := hzv.int_inv
    have hp := evA_ok hen y
    rw [hy] at hp
    have hv := adH_val hi hp
    refine ⟨.pointer (some ((⟨β (.o i), off, none⟩ : Addr).add (j.toNat * te.size))), ?_, ?_⟩
    · simp only [execOp, ho, hzv, hv, Instr.indexAt, asIntOf, Instr.sureAddr, Sem.run_bind, Sem.run_pure, run_underlying h1, Result.andThen_ok]
      simp [h0, hj, ok.run_size]
    · rw [Addr.add_lit]
      exact .ad _ _ _ rfl ⟨_, hi⟩ fun o ho hb => rfl
theorem oprH_eqNil {op : BinOp} {t t2 : TypeId} {y z : Operand} {i off b : Nat} {cs : List TV} (hT : TabOk P T) (ho : o.op = .binOp op t y z t2) (hd : tyD T t = .ptr) (hy : evA env y = .ad (.o i) off) (hi : H[i]? = some (.box b cs)) (hz : evA env z = .p .nilp) (hx : eqA op false = some x) : OpR P o env H L x H L :=
  opr_pure fun F w β a hS he => by
    have hp := evA_ok he y
    rw [hy] at hp
    have hv := adH_val hi hp
    have hq := evA_ok he z
    rw [hz] at hq
    have hv2 : a.eval z = .pointer none := by
      generalize a.eval z = q at hq
      cases hq with | p h => cases h; rfl
    obtain ⟨e, h1⟩ := und_ptr hT hd
    obtain ⟨c, rfl, h3⟩ := run_eq_of (P := P) (w := w) (t := t) hx (run_eqPtr h1 (.inr rfl)) (bin_eq_ptr t (some ⟨β (.o i), off, none⟩) none) (bin_ne_ptr ..)
    refine ⟨.bool c, ?_, .p (.bool ..)⟩
    simp only [execOp, ho, hv, hv2, Sem.run_bind]
    rw [eqGuard_at_pointer]
    simp [h3]

/-- The operations on the caller's objects that can be reckoned off the environment. -/
def stepH (T : Tab) (env : Env) (H : List AObj) : Op → Option (TV × List AObj)
  | .load t y => match evA env y with
    | .ad (.o i) off => match boxH H i with
      | some (_, cs) => match loadC T t (cs.drop off) with
        | some x => some (x, H)
        | none => none
      | none => none
    | _ => none
  | .store t y z => match evA env y, tlk T t, tcells (evA env z) with
    | .ad (.o i) off, some ti, some ns => match boxH H i with
      | some (b, cs) => match Nat.beq ns.length ti.size, Nat.ble (off + ns.length) cs.length, allCell ns, (AObj.box b (spl cs off ns)).ext with
        | true, true, true, true => some (.p .top, H.set i (.box b (spl cs off ns)))
        | _, _, _, _ => none
      | none => none
    | _, _, _ => none
  | .nilCheck y => match evA env y with
    | .ad (.o i) off => match boxH H i with
      | some _ => some (.ad (.o i) off, H)
      | none => none
    | _ => none
  | .fieldAddr s y f => match fieldOf T s f with
    | some (off, _) => match evA env y with
      | .ad (.o i) o1 => match boxH H i with
        | some _ => some (.ad (.o i) (o1 + off), H)
        | none => none
      | _ => none
    | none => none
  | .binOp op t y z _ => match evA env y, evA env z, tyD T t with
    | .ad (.o i) _, .p .nilp, .ptr => match boxH H i, eqA op false with
      | some _, some x => some (x, H)
      | _, _ => none
    | _, _, _ => none
  | .indexAddr t y z => match evA env y, evA env z, tyD T t with
    | .ad (.o i) off, .p (.int _ j), .array n e => match boxH H i, tlk T e, decide (0 ≤ j) && decide (j < n) with
      | some _, some te, true => some (.ad (.o i) (off + j.toNat * te.size), H)
      | _, _, _ => none
    | _, _, _ => none
  | _ => none
theorem stepH_ok (hT : TabOk P T) {H' : List AObj} (h : stepH T env H o.op = some (x, H')) : OpR P o env H L x H' L := by
  generalize ho : o.op = op at h
  unfold stepH at h
  split at h
  · split at h
    · rename_i hy
      split at h
      · rename_i hb
        split at h
        · rename_i hl
          simp only [Option.some.injEq, Prod.mk.injEq] at h
          obtain ⟨rfl, rfl⟩ := h
          exact oprH_load hT ho hy (boxH_ok hb) hl
        · cases h
      · cases h
    · cases h
  · split at h
    · rename_i hy ht hz
      split at h
      · rename_i hb
        split at h
        · rename_i h1 h2 h3 h4
          simp only [Option.some.injEq, Prod.mk.injEq] at h
          obtain ⟨rfl, rfl⟩ := h
          exact oprH_store hT ho hy (boxH_ok hb) ht hz h1 h2 h3 h4
        · cases h
      · cases h
    · cases h
  · split at h
    · rename_i hy
      split at h
      · rename_i hb
        simp only [Option.some.injEq, Prod.mk.injEq] at h
        obtain ⟨rfl, rfl⟩ := h
        exact oprH_nil ho hy (boxH_ok hb)
      · cases h
    · cases h
  · split at h
    · rename_i hf
      split at h
      · rename_i hy
        split at h
        · rename_i hb
          simp only [Option.some.injEq, Prod.mk.injEq] at h
          obtain ⟨rfl, rfl⟩ := h
          exact oprH_fieldAddr hT ho hf hy (boxH_ok hb)
        · cases h
      · cases h
    · cases h
  · split at h
    · rename_i hy hz hd
      split at h
      · rename_i hb hx
        simp only [Option.some.injEq, Prod.mk.injEq] at h
        obtain ⟨rfl, rfl⟩ := h
        exact oprH_eqNil hT ho hd hy (boxH_ok hb) hz hx
      · cases h
    · cases h
  · split at h
    · rename_i hy hz hd
      split at h
      · rename_i hb he hj
        simp only [Option.some.injEq, Prod.mk.injEq] at h
        obtain ⟨rfl, rfl⟩ := h
        simp only [Bool.and_eq_true, decide_eq_true_eq] at hj
        exact oprH_idxArr hT ho hd he hz hy (boxH_ok hb) hj.1 hj.2
      · cases h
    · cases h
  · cases h
/-- Told out. -/
def stepG (T : Tab) (env : Env) (H : List AObj) (o : Op) : Option (TV × List AObj) := nrm (stepH T env H o)
theorem stepG_ok (hT : TabOk P T) {H' : List AObj} (h : stepG T env H o.op = some (x, H')) : OpR P o env H L x H' L := by
  unfold stepG at h
  rw [nrm_eq] at h
  exact stepH_ok hT h
end
end Go.Awp

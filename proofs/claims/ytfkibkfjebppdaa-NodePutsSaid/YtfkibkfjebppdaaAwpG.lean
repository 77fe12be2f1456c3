/- 'stepA', operation by operation. No program is named here. -/
import Derived.Test.YtfkibkfjebppdaaAwpF
namespace Go.Awp
open Go.RowKit

section
variable {P : Program} {T : Tab} {env : Env} {H L : List AObj} {o : Oper} {x : TV}

def cells? (L : List AObj) : TV → Option (List TV)
  | .ad (.l i) off => match L[i]? with
    | some (.box _ cs) => some (cs.drop off)
    | _ => none
  | .p (.pp cs) => some (cs.map .p)
  | _ => none
theorem cells?_ok {w : World} {β : Hd → Nat} {F : Nat → Prop} {y : TV} {v : Value} {cs : List TV} (hS : Sim w β ⟨H, L, F⟩) (h : RepT w β ⟨H, L, F⟩ y v) (hc : cells? L y = some cs) : ∃ a, v = .pointer (some a) ∧ Cells w β ⟨H, L, F⟩ a cs := by
  unfold cells? at hc
  split at hc
  · rename_i i off
    split at hc
    · rename_i T cs' hi
      obtain rfl := Option.some.inj hc
      cases h with | ad _ _ _ _ hl hv =>
      have hv := hv _ hi rfl
      obtain ⟨arr, h1, h2, h3⟩ := hS.objs (.l i) _ hi
      refine ⟨_, hv, fun j y hj => ?_⟩
      rw [List.getElem?_drop] at hj
      obtain ⟨u, hu, hr⟩ := h3 _ y hj
      exact ⟨u, by rw [Addr.add_lit, cell_of_row w _ _ _ _ _ h1]; exact hu, hr⟩
    · cases hc
  · rename_i cs'
    obtain rfl := Option.some.inj hc
    cases h with | p h =>
    cases h with | pp _ a vs hN hb hcl hr =>
    refine ⟨a, rfl, fun j y hj => ?_⟩
    simp only [List.getElem?_map, Option.map_eq_some_iff] at hj
    obtain ⟨z, hz, rfl⟩ := hj
    exact ⟨vs j, hcl j (List.getElem?_eq_some_iff.1 hz).1, .p (hr j z hz)⟩
  · cases hc

theorem opr_move {x : Operand} (ho : o.op = .move x ∨ o.op = .assign x) : OpR P o env H L (evA env x) H L :=
  opr_pure fun F w β a _ he => ⟨a.eval x, by rcases ho with ho | ho <;> simp [execOp, ho], evA_ok he x⟩

def pickA (v : Bool) (x y : TV) : TV := match x, y with
  | .p (.bool p), .p (.bool q) => .p (.bool (cond v p q))
  | x, y => cond v x y
theorem opr_pick {c a b : Operand} {v : Bool} (ho : o.op = .pick c a b) (hc : evA env c = .p (.bool v)) : OpR P o env H L (pickA v (evA env a) (evA env b)) H L :=
  opr_pure fun F w β ac _ he => by
    have h := evA_ok he c
    rw [hc] at h
    refine ⟨if v then ac.eval a else ac.eval b, by cases v <;> simp [execOp, ho, h.bool_inv, asBool], ?_⟩
    have ha := evA_ok he a
    have hb := evA_ok he b
    unfold pickA
    split
    · rename_i p q hp hq
      rw [hp] at ha
      rw [hq] at hb
      cases v
      · simpa using hb
      · simpa using ha
    · cases v
      · simpa using hb
      · simpa using ha

theorem objOk_box {w : World} {β : Hd → Nat} {G : Hp} {b : Nat} {t : TypeId} {cs : List TV} {vs : List Value} (hb : w.heap[b]? = some (.cells vs.toArray t (0, 0))) (h : RepL w β G cs vs) : ObjOk w β G b (.box t cs) :=
  ⟨vs.toArray, hb, by simp [h.1], fun i x hx => by
    have hlt : i < vs.length := by rw [h.1]; exact (List.getElem?_eq_some_iff.1 hx).1
    exact ⟨vs[i], by simp [hlt], h.2 i x _ hx (List.getElem?_eq_getElem hlt)⟩⟩
theorem RepL.mono {w w' : World} {β β' : Hd → Nat} {G G' : Hp} (hs : Step w β G w' β' G') {cs : List TV} {vs : List Value} (h : RepL w β G cs vs) : RepL w' β' G' cs vs := ⟨h.1, fun i x v h1 h2 => (h.2 i x v h1 h2).mono hs⟩

theorem ad_new {w : World} {β : Hd → Nat} {F : Nat → Prop} {ob : AObj} {n : Nat} (off : Nat) (hβ : β (.l L.length) = n) : RepT w β ⟨H, L ++ [ob], F⟩ (.ad (.l L.length) off) (.pointer (some ⟨n, off, none⟩)) :=
  .ad _ _ _ rfl ⟨ob, by simp [Hp.get]⟩ fun _ _ _ => by rw [hβ]

theorem opr_box {t : TypeId} {y : Operand} {cs : List TV} (ho : o.op = .box t y) (hc : tcells (evA env y) = some cs) : OpR P o env H L (.ad (.l L.length) 0) H (L ++ [.box t cs]) :=
  opr_new fun F w β a _ he => by
    have hv := tcells_ok (evA_ok he y) hc
    refine ⟨.pointer (some ⟨w.heap.size, 0, none⟩), .cells (a.eval y).cells t, by simp [execOp, ho, Instr.box, newVar, newRow], fun β' hβ hst => ⟨?_, ad_new 0 (by rw [hβ]; simp)⟩⟩
    refine objOk_box ?_ (hv.mono hst)
    rw [alloc_new]

theorem zero_rep {w : World} {β : Hd → Nat} {G : Hp} {xs : List AV} {vs : List Value} (h : chkZ xs vs = true) : RepL w β G (xs.map .p) vs := by
  obtain ⟨h1, h2⟩ := chkZ_ok h
  refine ⟨by simp [h1], fun i x v hx hv => ?_⟩
  simp only [List.getElem?_map, Option.map_eq_some_iff] at hx
  obtain ⟨y, hy, rfl⟩ := hx
  exact .p (h2 w _ i y v hy hv)
theorem opr_zero {t : TypeId} {i : TyI} (hT : TabOk P T) (ho : o.op = .alloc t) (hi : tlk T t = some i) : OpR P o env H L (.ad (.l L.length) 0) H (L ++ [.box t (i.zero.map .p)]) :=
  opr_new fun F w β a _ he => by
    obtain ⟨inf, u, ok⟩ := hT.get hi
    obtain ⟨z, hz, hzz⟩ := ok.run_zero w
    refine ⟨.pointer (some ⟨w.heap.size, 0, none⟩), .cells z.cells t, by simp [execOp, ho, Instr.alloc, hz, newVar, newRow], fun β' hβ hst => ⟨?_, ad_new 0 (by rw [hβ]; simp)⟩⟩
    refine objOk_box ?_ (zero_rep hzz)
    rw [alloc_new]

theorem opr_load {t : TypeId} {y : Operand} {cs : List TV} (hT : TabOk P T) (ho : o.op = .load t y) (hc : cells? L (evA env y) = some cs) (hl : loadC T t cs = some x) : OpR P o env H L x H L :=
  opr_pure fun F w β a hS he => by
    obtain ⟨ad, hv, hcs⟩ := cells?_ok hS (evA_ok he y) hc
    obtain ⟨u, hu, hr⟩ := loadC_ok (P := P) hT hcs hl
    exact ⟨u, by simp [execOp, ho, Instr.loadAt, Instr.sureAddr, hv, hu], hr⟩

theorem run_storeVar {w : World} {t : TypeId} {i : TyI} {inf : TypeInfo} {u : TypeDesc} (ok : TyOk P t i inf u) {g off : Nat} {cur : Array Value} {bt : TypeId} {v : Value} (hg : w.heap[g]? = some (.cells cur bt (0, 0))) (hsz : v.cells.size = i.size) (hfit : off + i.size ≤ cur.size) (h1 : ∀ c ∈ v.cells.toList, c.oneCell' = true) :
    (storeVar t ⟨g, off, none⟩ v).run P w = .ok () (w.setRow g (cur.toList.take off ++ v.cells.toList ++ cur.toList.drop (off + v.cells.toList.length)).toArray) := by
  have hst := run_storeCells_at P g off bt v.cells.toList 0 cur w hg (by simp; omega) h1
  simp only [Nat.add_zero] at hst
  simp [storeVar, ok.run_size, hsz, hst]

theorem opr_store {t : TypeId} {y z : Operand} {i off : Nat} {b : TypeId} {cs ns : List TV} {ti : TyI} (hT : TabOk P T) (ho : o.op = .store t y z) (hy : evA env y = .ad (.l i) off) (hi : L[i]? = some (.box b cs)) (ht : tlk T t = some ti)
    (hz : tcells (evA env z) = some ns) (hn : Nat.beq ns.length ti.size = true) (hf : Nat.ble (off + ns.length) cs.length = true) (ha : allCell ns = true) : OpR P o env H L (.p .top) H (L.set i (.box b (spl cs off ns))) :=
  opr_set hi (by simp) fun F w β a hS he => by
    obtain ⟨inf, u, ok⟩ := hT.get ht
    have hn := Nat.eq_of_beq_eq_true hn
    have hf := Nat.le_of_ble_eq_true hf
    have hv := tcells_ok (evA_ok he z) hz
    have hp := evA_ok he y
    rw [hy] at hp
    obtain ⟨arr, h1, h2, h3⟩ := hS.objs (.l i) _ hi
    have hpv : a.eval y = .pointer (some ⟨β (.l i), off, none⟩) := by
      generalize hu : a.eval y = u at hp
      cases hp with | ad _ _ _ _ _ hvv => exact hvv _ hi rfl
    have hsz : (a.eval z).cells.size = ns.length := by rw [← hv.1]; simp
    have hrun := run_storeVar (w := w) (off := off) ok h1 (v := a.eval z) (by omega) (by omega) (fun c hc => by
      obtain ⟨j, hj⟩ := List.getElem?_of_mem hc
      have hlt : j < ns.length := by rw [← hv.1]; exact (List.getElem?_eq_some_iff.1 hj).1
      exact cellLike_ok (hv.2 j _ c (List.getElem?_eq_getElem hlt) hj) (allCell_get ha (List.getElem?_eq_getElem hlt)))
    refine ⟨undef, w.setRow (β (.l i)) (arr.toList.take off ++ (a.eval z).cells.toList ++ arr.toList.drop (off + (a.eval z).cells.toList.length)).toArray, .inr ⟨by simp only [execOp, ho, Instr.storeAt, Instr.sureAddr, hpv, Sem.run_bind, Sem.run_pure, Result.andThen_ok]; rw [hrun]; rfl, rfl⟩, rfl, rfl, rfl, by simp, fun b hb => setRow_other w _ b _ hb, ?_, fun hst => ⟨?_, .p (.top _)⟩⟩
    · simp [ObjGo, spl]; omega
    · have hcs : RepL w β ⟨H, L, F⟩ cs arr.toList := ⟨by simp [h2], fun j x v hx hv => by
        obtain ⟨v', hv', hr⟩ := h3 j x hx
        simp at hv
        rw [hv] at hv'
        obtain rfl := Option.some.inj hv'
        exact hr⟩
      have := (spl_rep off hcs hv).mono hst
      refine objOk_box (vs := arr.toList.take off ++ ((a.eval z).cells.toList ++ arr.toList.drop (off + (a.eval z).cells.toList.length))) ?_ this
      rw [setRow_heap w _ _ _ _ _ h1]
      simp
end
end Go.Awp

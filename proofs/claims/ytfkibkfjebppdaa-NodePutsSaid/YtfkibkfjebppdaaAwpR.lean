/- make, storing into elements, copy. No program is named here. -/
import Derived.Test.YtfkibkfjebppdaaAwpQ
import Derived.Laws.OwnMore
namespace Go.Awp
open Go.RowKit

section
variable {P : Program} {T : Tab} {env : Env} {H L : List AObj} {o : Oper} {x : TV} {w : World} {β : Hd → Nat} {F : Nat → Prop}

def zrow (te : TyI) : AV := match isAggD te.d with
  | some true => .agg te.zero
  | _ => te.zero.headD .top

theorem zrow_cells {te : TyI} (hn : noAgg te.zero = true) (h1 : isAggD te.d = some false → te.size = 1) (hl : te.zero.length = te.size) (hd : (isAggD te.d).isSome = true) : cellsOf (zrow te) = te.zero := by
  unfold zrow
  cases hq : isAggD te.d with
  | none => simp [hq] at hd
  | some b =>
    cases b with
    | true => rfl
    | false =>
      have h1 := h1 hq
      rw [h1] at hl
      match hz : te.zero, hl with
      | [y], _ =>
        rw [hz] at hn
        have hy := noAgg_ok hn y (by simp)
        cases y <;> simp_all [cellsOf]

/-- make, of so many elements. -/
theorem opr_make {t : TypeId} {y z : Operand} {e : Nat} {te : TyI} {k k' : IntKind} {n : Nat} (hT : TabOk P T) (ho : o.op = .makeSlice t y z) (hd : tyD T t = .slice e) (he : tlk T e = some te) (hy : evA env y = .p (.int k n)) (hz : evA env z = .p (.int k' n)) (hna : noAgg te.zero = true) (hag : (isAggD te.d).isSome = true)
    (hpos : Nat.blt 0 te.size = true) (hb0 : Nat.blt 0 te.bytes = true) (hfit : n * te.bytes ≤ 140737488355328) : OpR P o env H L (.sl (.l L.length) n 0 n) H (L ++ [.arr e true te.size (List.replicate n (zrow te))]) :=
  opr_newD fun F w β a hS hen => by
    simp only [Nat.blt_eq] at hpos hb0
    have hvy := evA_ok hen y
    have hvz := evA_ok hen z
    rw [hy] at hvy
    rw [hz] at hvz
    obtain ⟨u, h1, h2⟩ := tyD_und hT (t := t) (by rw [hd]; simp)
    rw [hd] at h2
    obtain rfl := chkD_slice h2
    obtain ⟨inf, ue, ok⟩ := hT.get he
    obtain ⟨zv, hzv, hzz⟩ := ok.zero
    have hmax := len_max hb0 hfit
    have hb' : (inf.bytes : Int) * (n : Int) ≤ 281474976710656 := by
      have h : ((inf.bytes * n : Nat) : Int) ≤ 281474976710656 := by rw [ok.bytes, Nat.mul_comm]; omega
      rwa [Int.natCast_mul] at h
    have hr := run_make (P := P) w t e inf zv h1 ok.info hzv k k' n n (by omega) (Int.le_refl _) hb' (by omega)
    simp only [Int.toNat_natCast] at hr
    have hzl : zv.cells.size = te.size := by
      have := (chkZ_ok hzz).1
      simp at this
      rw [this, ok.zlen]
    have hzr := zero_rep (w := w) (β := β) (G := ⟨H, L, F⟩) hzz
    have hcells := zrow_cells hna (ok.one) ok.zlen hag
    have hsz : inf.size = te.size := ok.size
    rw [hsz] at hr
    refine ⟨.slice (some ⟨w.heap.size, 0, none⟩) n n, .cells (madeCells zv.cells (n * te.size)) e, w, by simp only [execOp, ho, hvy.int_inv, hvz.int_inv, Sem.run_bind, hr, Result.andThen_ok, Sem.run_pure], rfl, rfl, rfl, rfl, fun β' hβ hst => ⟨?_, ?_⟩⟩
    · refine objOk_arr (w := w) (N := Free β ⟨H, L, F⟩) (alloc_new w _) hpos ?_ (fun x v h => h.mono hst.size hst.frame)
      have hlen : (madeCells zv.cells (n * te.size)).toList.length = n * te.size := by simp [size_madeCells]
      rw [List.length_replicate, List.take_of_length_le (by rw [hlen]; exact Nat.le_refl _)]
      refine ⟨fun r hr => by rw [List.eq_of_mem_replicate hr, hcells, ok.zlen], by simp [size_madeCells], fun i j r x hi hj => ?_⟩
      have hil : i < n := by simpa using (List.getElem?_eq_some_iff.1 hi).1
      have hrr : r = zrow te := List.eq_of_mem_replicate (List.mem_of_getElem? hi)
      subst hrr
      rw [hcells] at hj
      have hjl : j < te.size := by rw [← ok.zlen]; exact (List.getElem?_eq_some_iff.1 hj).1
      have hlt : i * te.size + j < n * te.size := by
        have : (i + 1) * te.size ≤ n * te.size := Nat.mul_le_mul_right _ (by omega)
        rw [Nat.add_mul] at this; omega
      have hmod : (i * te.size + j) % te.size = j := by rw [Nat.mul_comm, Nat.mul_add_mod, Nat.mod_eq_of_lt hjl]
      have hjz : j < zv.cells.size := by omega
      refine ⟨zv.cells[j], ?_, ?_⟩
      · simp [madeCells, hlt, hzl, hmod]
        rw [getElem!_pos zv.cells j hjz]
      · have := hzr.2 j (.p x) zv.cells[j] (by simp [hj]) (by simp [hjz])
        cases this with | p h => exact h
    · refine .sl _ _ _ _ _ rfl ⟨_, get_new H L _ F, fun T' b' e' rows' h => by cases h; simp⟩ fun T' b' e' rows' h _ => ?_
      rw [get_new H L _ F] at h
      cases h
      refine ⟨by omega, _, _, rfl, Nat.le_refl _, by unfold maxLen; omega, fun _ => ?_, fun _ _ _ => ?_⟩
      · rw [hβ, if_pos rfl]; simp
      · rw [hβ, if_pos rfl]
        unfold csize
        rw [alloc_new w _]
        exact (size_madeCells _ _).symm

/-- Cells written into a row. -/
def rowSet (r : AV) (off : Nat) (ns : List AV) : AV := match r with
  | .agg cs => .agg (cs.take off ++ (ns ++ cs.drop (off + ns.length)))
  | r => ns.headD r
theorem rowSet_cells {r : AV} {off : Nat} {ns : List AV} (h : off + ns.length ≤ (cellsOf r).length) (h1 : (∀ cs, r ≠ .agg cs) → ns.length = 1 ∧ ∀ y ∈ ns, ∀ cs, y ≠ .agg cs) : cellsOf (rowSet r off ns) = (cellsOf r).take off ++ (ns ++ (cellsOf r).drop (off + ns.length)) := by
  by_cases ha : ∃ cs, r = .agg cs
  · obtain ⟨cs, rfl⟩ := ha
    rfl
  · have hne : ∀ cs, r ≠ .agg cs := fun cs e => ha ⟨cs, e⟩
    obtain ⟨h2, h3⟩ := h1 hne
    match ns, h2 with
    | [y], _ =>
      have hy := h3 y (by simp)
      have hr : cellsOf r = [r] := by cases r <;> first | rfl | exact absurd rfl (hne _)
      rw [hr] at h ⊢
      simp at h
      have : off = 0 := by omega
      subst this
      have e1 : rowSet r 0 [y] = y := by cases r <;> first | rfl | exact absurd rfl (hne _)
      rw [e1]
      cases y <;> first | rfl | exact absurd rfl (hy _)

theorem splice_get (cs : List Value) (p : Nat) (vs : List Value) (h : p + vs.length ≤ cs.length) (k : Nat) : (cs.take p ++ vs ++ cs.drop (p + vs.length))[k]? = if k < p then cs[k]? else if k < p + vs.length then vs[k - p]? else cs[k]? := by
  by_cases h1 : k < p
  · rw [if_pos h1, List.append_assoc, List.getElem?_append_left (by simp; omega), List.getElem?_take, if_pos h1]
  · rw [if_neg h1]
    by_cases h2 : k < p + vs.length
    · rw [if_pos h2, List.append_assoc, List.getElem?_append_right (by simp; omega)]
      simp only [List.length_take, Nat.min_eq_left (show p ≤ cs.length by omega)]
      rw [List.getElem?_append_left (by omega)]
    · rw [if_neg h2, List.getElem?_append_right (by simp; omega)]
      simp only [List.length_append, List.length_take, Nat.min_eq_left (show p ≤ cs.length by omega), List.getElem?_drop]
      congr 1; omega

/-- A value stored into an element, or a part of it, of an array of the call's own. -/
theorem opr_storeEl {t : TypeId} {y z : Operand} {e i n st len idx off : Nat} {ti : TyI} {Ty : TypeId} {rows : List AV} {r : AV} {zs : List TV} {ns : List AV} (hT : TabOk P T) (ho : o.op = .store t y z) (hy : evA env y = .el (.sl (.l i) n st len) e idx off) (hi : L[i]? = some (.arr Ty true e rows)) (hn : rows.length = n)
    (ht : tlk T t = some ti) (hz : tcells (evA env z) = some zs) (hu : unpL zs = some ns) (hr : rows[st + idx]? = some r) (hl : ns.length = ti.size) (hoff : off + ns.length ≤ e) (hcl : ∀ y ∈ ns, cl y = true) (hag : (∀ cs, r ≠ .agg cs) → ns.length = 1) :
    OpR P o env H L (.p .top) H (L.set i (.arr Ty true e (rows.set (st + idx) (rowSet r off ns)))) :=
  opr_set hi (by simp) fun F w β a hS hen => by
    obtain ⟨inf, u, ok⟩ := hT.get ht
    have hv := tcells_ok (evA_ok hen z) hz
    obtain ⟨u1, u2⟩ := unpL_ok (w := w) (β := β) (G := ⟨H, L, F⟩) zs hu
    have hp := evA_ok hen y
    rw [hy] at hp
    obtain ⟨cs, c1, c2, hpos, c3⟩ := objOk_news hS hi
    generalize hvy : a.eval y = vy at hp
    cases hp with | el _ _ _ ad len' c hs hlt =>
    cases hs with | sl _ _ _ _ _ _ _ hvv =>
    obtain ⟨hle, ao, cap, hq, q2, q3, q4, _⟩ := hvv _ _ _ _ hi hn
    simp only [Value.slice.injEq] at hq
    obtain ⟨hao, rfl, rfl⟩ := hq
    have hao2 := q4 (.inr (by omega))
    rw [← hao] at hao2
    obtain rfl := Option.some.inj hao2
    have hkl : st + idx < rows.length := (List.getElem?_eq_some_iff.1 hr).1
    have hre : (cellsOf r).length = e := c3.size r (List.mem_of_getElem? hr)
    have hbound : (st + idx) * e + e ≤ rows.length * e := by
      have : (st + idx + 1) * e ≤ rows.length * e := Nat.mul_le_mul_right _ (by omega)
      rw [Nat.add_mul, Nat.one_mul] at this; omega
    have hvl : (a.eval z).cells.toList.length = ns.length := by rw [hv.1, u1]
    have hadd : (⟨β (.l i), st * e, none⟩ : Addr).add (idx * e + off) = ⟨β (.l i), (st + idx) * e + off, none⟩ := by rw [Addr.add_lit, Nat.add_mul, Nat.add_assoc]
    rw [hadd] at hvy
    have hvs : (a.eval z).cells.size = ti.size := by rw [← hl, ← hvl]; simp
    have hrep : ∀ (j : Nat) (x : AV) (v : Value), ns[j]? = some x → (a.eval z).cells.toList[j]? = some v → RepA w (Free β ⟨H, L, F⟩) x v := fun j x v hx hv' => by
      obtain ⟨q, hq1, hq2⟩ := u2 j x hx
      exact hq2 v (hv.2 j q v hq1 hv')
    have hrun := run_storeVar (w := w) (off := (st + idx) * e + off) ok c1 (v := a.eval z) hvs (by omega) (fun c hc => by
      obtain ⟨j, hj⟩ := List.getElem?_of_mem hc
      have hlt : j < ns.length := by rw [← hvl]; exact (List.getElem?_eq_some_iff.1 hj).1
      exact cl_ok (hrep j _ c (List.getElem?_eq_getElem hlt) hj) (hcl _ (List.getElem_mem hlt)))
    have hblk := setRow_heap w (β (.l i)) cs (cs.toList.take ((st + idx) * e + off) ++ (a.eval z).cells.toList ++ cs.toList.drop ((st + idx) * e + off + (a.eval z).cells.toList.length)).toArray Ty (0, 0) c1
    have hlen : (cs.toList.take ((st + idx) * e + off) ++ (a.eval z).cells.toList ++ cs.toList.drop ((st + idx) * e + off + (a.eval z).cells.toList.length)).length = cs.size := by
      simp only [List.length_append, List.length_take, List.length_drop, Array.length_toList, hvl]; omega
    refine ⟨undef, w.setRow (β (.l i)) (cs.toList.take ((st + idx) * e + off) ++ (a.eval z).cells.toList ++ cs.toList.drop ((st + idx) * e + off + (a.eval z).cells.toList.length)).toArray, .inr ⟨by simp only [execOp, ho, Instr.storeAt, Instr.sureAddr, hvy, Sem.run_bind, Sem.run_pure, Result.andThen_ok]; rw [hrun]; rfl, rfl⟩, rfl, rfl, rfl, by simp, fun b hb => setRow_other w _ b _ hb, ?_, fun hst => ⟨?_, .p (.top _)⟩⟩
    · refine ⟨rfl, rfl, rfl, by simp, fun _ => ⟨rfl, ?_⟩⟩
      unfold csize
      rw [hblk, c1]
      simpa using hlen
    · refine objOk_arr (w := w) (N := Free β ⟨H, L, F⟩) hblk hpos ?_ (fun x v h => h.mono hst.size hst.frame)
      have hrc : cellsOf (rowSet r off ns) = (cellsOf r).take off ++ (ns ++ (cellsOf r).drop (off + ns.length)) := rowSet_cells (by omega) fun hne => ⟨hag hne, fun y hy cs e => by have := hcl y hy; rw [e] at this; simp [cl] at this⟩
      have hrl : (cellsOf (rowSet r off ns)).length = e := by rw [hrc]; simp; omega
      refine ⟨fun q hq => ?_, by rw [List.length_set, List.toList_toArray, List.length_take, hlen]; omega, fun p q rr x hp hq => ?_⟩
      · rcases List.mem_or_eq_of_mem_set hq with h | h
        · exact c3.size q h
        · rw [h]; exact hrl
      · rw [List.length_set, List.toList_toArray]
        have hpl : p < rows.length := by simpa using (List.getElem?_eq_some_iff.1 hp).1
        have hql : q < e := by
          rcases List.mem_or_eq_of_mem_set (List.mem_of_getElem? hp) with h | h
          · rw [← c3.size rr h]; exact (List.getElem?_eq_some_iff.1 hq).1
          · rw [h, ] at hq; rw [← hrl]; exact (List.getElem?_eq_some_iff.1 hq).1
        have hlt : p * e + q < rows.length * e := by
          have : (p + 1) * e ≤ rows.length * e := Nat.mul_le_mul_right _ (by omega)
          rw [Nat.add_mul, Nat.one_mul] at this; omega
        rw [List.getElem?_take, if_pos hlt, splice_get _ _ _ (by rw [hvl]; simp; omega), hvl]
        by_cases hpe : p = st + idx
        · subst hpe
          rw [List.getElem?_set_self (by omega)] at hp
          obtain rfl := Option.some.inj hp
          rw [hrc] at hq
          by_cases h1 : q < off
          · rw [if_pos (by omega)]
            rw [List.getElem?_append_left (by simp; omega), List.getElem?_take, if_pos h1] at hq
            obtain ⟨u, hu, hr'⟩ := c3.cell (st + idx) q r x hr hq
            rw [List.getElem?_take, if_pos hlt] at hu
            exact ⟨u, hu, hr'⟩
          · rw [if_neg (by omega)]
            rw [List.getElem?_append_right (by simp; omega)] at hq
            simp only [List.length_take, Nat.min_eq_left (show off ≤ (cellsOf r).length by omega)] at hq
            by_cases h2 : q < off + ns.length
            · rw [if_pos (by omega)]
              rw [List.getElem?_append_left (by omega)] at hq
              have hj : (st + idx) * e + q - ((st + idx) * e + off) = q - off := by omega
              rw [hj]
              have hvlt : q - off < (a.eval z).cells.toList.length := by omega
              exact ⟨_, List.getElem?_eq_getElem hvlt, hrep _ _ _ hq (List.getElem?_eq_getElem hvlt)⟩
            · rw [if_neg (by omega)]
              rw [List.getElem?_append_right (by omega), List.getElem?_drop, show off + ns.length + (q - off - ns.length) = q by omega] at hq
              obtain ⟨u, hu, hr'⟩ := c3.cell (st + idx) q r x hr hq
              rw [List.getElem?_take, if_pos hlt] at hu
              exact ⟨u, hu, hr'⟩
        · rw [List.getElem?_set_ne (fun e => hpe e.symm)] at hp
          obtain ⟨u, hu, hr'⟩ := c3.cell p q rr x hp hq
          rw [List.getElem?_take, if_pos hlt] at hu
          refine ⟨u, ?_, hr'⟩
          rcases Nat.lt_or_gt_of_ne hpe with h | h
          · have : (p + 1) * e ≤ (st + idx) * e := Nat.mul_le_mul_right _ (by omega)
            rw [Nat.add_mul, Nat.one_mul] at this
            rw [if_pos (by omega)]; exact hu
          · have : (st + idx + 1) * e ≤ p * e := Nat.mul_le_mul_right _ (by omega)
            rw [Nat.add_mul, Nat.one_mul] at this
            rw [if_neg (by omega), if_neg (by omega)]; exact hu

theorem run_copy_src (w : World) (dT tx ty elem : TypeId) (g o dLen dCap : Nat) (cur : Array Value) (t : TypeId) (i : TypeInfo) (x : Value) (n : Nat) (news : List Value) (hu : P.underlying dT = some (.slice elem)) (hi : P.info? elem = some i) (hs : Src P i.size tx x n news w)
    (hg : w.heap[g]? = some (.cells cur t (0, 0))) (hn : n ≤ dLen) (hfit : o + news.length ≤ cur.size) :
    (Builtin.copy_ #[dT, tx] ty #[.slice (some ⟨g, o, none⟩) dLen dCap, x]).run P w = .ok (goInt n) (w.setRow g (cur.toList.take o ++ news ++ cur.toList.drop (o + news.length)).toArray) := by
  have hst := run_storeCells_at P g o t news 0 cur w hg (by simpa using hfit) hs.one
  simp only [Nat.add_zero] at hst
  simp [Builtin.copy_, run_underlying hu, sizeOf, typeInfo, hi, hs.len, Nat.min_eq_left hn, hs.cells, hst]
theorem run_cp {t tx : TypeId} {y z : Operand} {a : Act} (ho : o.op = .call { callee := .builtin .copy, args := #[y, z], argTypes := #[t, tx] }) {v : Value} {w w' : World}
    (h : (Builtin.copy_ #[t, tx] o.type #[a.eval y, a.eval z]).run P w = .ok v w') : (execOp a.eval o).run P w = .ok (.value v) w' := by
  simp only [execOp, ho, resolve, invoke, builtin, Sem.run_bind, Sem.run_pure, Result.andThen_ok, List.map_toArray, List.map_cons, List.map_nil]
  simp [h]

/-- copy into an array of the call's own, of no more than there is room for. -/
theorem opr_copy {t tx : TypeId} {y z : Operand} {e n i st len : Nat} {te : TyI} {b : Bool} {rows0 rows : List AV} {s : TV} {Ty : TypeId} (hT : TabOk P T) (ho : o.op = .call { callee := .builtin .copy, args := #[y, z], argTypes := #[t, tx] })
    (ht : appT T t tx = some (e, te, b)) (hy : evA env y = .sl (.l i) n st len) (hi : L[i]? = some (.arr Ty true te.size rows0)) (hn : rows0.length = n) (hz : evA env z = s) (hs : SrcA H L s rows) (hbs : b = true ↔ ∃ l, s = .p (.str l)) (hc : clR rows) (he : ∀ r ∈ rows, (cellsOf r).length = te.size)
    (hle : rows.length ≤ len) (h0 : 0 < len ∨ st = 0 ∨ rows = []) : OpR P o env H L (.p (.int .i64 rows.length)) H (L.set i (.arr Ty true te.size (rows0.take st ++ rows ++ rows0.drop (st + rows.length)))) :=
  opr_set hi (by simp) fun F w β a hS hen => by
    obtain ⟨at', hb1, _⟩ := appT_ok hT ht
    obtain ⟨inf, zv, i1, i2, i3, i4, i5⟩ := at'.info
    have hvz := evA_ok hen z
    rw [hz] at hvz
    obtain ⟨news, n1, n2⟩ := hs.src' hS at' hb1 hvz hc he hbs
    obtain ⟨cs, c1, c2, hpos, c3⟩ := objOk_news hS hi
    have hvy := evA_ok hen y
    rw [hy] at hvy
    generalize hvv : a.eval y = vy at hvy
    cases hvy with | sl _ _ _ _ _ _ _ hv =>
    obtain ⟨hsl, ao, cap, rfl, hlc, hcm, hadd, _⟩ := hv _ _ _ _ hi hn
    by_cases hr0 : rows = []
    · subst hr0
      have hn0 : news = [] := List.eq_nil_of_length_eq_zero (by rw [n2.len]; simp)
      subst hn0
      have hrun : (Builtin.copy_ #[t, tx] o.type #[a.eval y, a.eval z]).run P w = .ok (goInt 0) w := by
        have hu := at'.ut
        have hsl := n1.len w
        have hsc := n1.cells
        rw [← i3] at hsc
        rw [hvv]
        simp only [List.length_nil] at hsl hsc
        cases ao <;> simp [Builtin.copy_, run_underlying hu, sizeOf, typeInfo, i1, hsl, Nat.min_eq_left (Nat.zero_le len), hsc, storeCells]
      have e : rows0.take st ++ [] ++ rows0.drop (st + ([] : List AV).length) = rows0 := by simp
      rw [e]
      refine ⟨goInt 0, w, .inl (run_cp (P := P) ho hrun), rfl, rfl, rfl, rfl, fun b hb => rfl, ObjGo.refl _ _ _, fun hst => ⟨(hS.objs (.l i) _ hi).mono hst rfl, .p (.int ..)⟩⟩
    obtain rfl := hadd (by rcases h0 with h | h | h <;> simp_all)
    have hnl := n2.len
    subst hn
    have hb1 : st * te.size + rows.length * te.size ≤ rows0.length * te.size := by rw [← Nat.add_mul]; exact Nat.mul_le_mul_right _ (by omega)
    have hrun := run_copy_src (P := P) w t tx o.type e (β (.l i)) (st * te.size) len cap cs Ty inf (a.eval z) rows.length news at'.ut i1 (by rw [i3]; exact n1) c1 hle (by omega)
    rw [← hvv] at hrun
    have hblk := setRow_heap w (β (.l i)) cs (cs.toList.take (st * te.size) ++ news ++ cs.toList.drop (st * te.size + news.length)).toArray Ty (0, 0) c1
    have hlen : (cs.toList.take (st * te.size) ++ news ++ cs.toList.drop (st * te.size + news.length)).length = cs.size := by simp; omega
    have hrl : (rows0.take st ++ rows ++ rows0.drop (st + rows.length)).length = rows0.length := by simp; omega
    have hrg : ∀ p : Nat, (rows0.take st ++ rows ++ rows0.drop (st + rows.length))[p]? = if p < st then rows0[p]? else if p < st + rows.length then rows[p - st]? else rows0[p]? := fun p => by
      by_cases h1 : p < st
      · rw [if_pos h1, List.append_assoc, List.getElem?_append_left (by simp; omega), List.getElem?_take, if_pos h1]
      · rw [if_neg h1]
        by_cases h2 : p < st + rows.length
        · rw [if_pos h2, List.append_assoc, List.getElem?_append_right (by simp; omega)]
          simp only [List.length_take, Nat.min_eq_left (show st ≤ rows0.length by omega)]
          rw [List.getElem?_append_left (by omega)]
        · rw [if_neg h2, List.getElem?_append_right (by simp; omega)]
          simp only [List.length_append, List.length_take, Nat.min_eq_left (show st ≤ rows0.length by omega), List.getElem?_drop]
          congr 1; omega
    refine ⟨goInt rows.length, _, .inl (run_cp (P := P) ho hrun), rfl, rfl, rfl, by simp, fun b hb => setRow_other w _ b _ hb, ?_, fun hst => ⟨?_, .p (.int ..)⟩⟩
    · refine ⟨rfl, rfl, rfl, by rw [hrl]; exact Nat.le_refl _, fun _ => ⟨rfl, ?_⟩⟩
      unfold csize
      rw [hblk, c1]
      simpa using hlen
    · refine objOk_arr (w := w) (N := Free β ⟨H, L, F⟩) hblk hpos ?_ (fun x v h => h.mono hst.size hst.frame)
      refine ⟨fun q hq => ?_, by rw [hrl, List.toList_toArray, List.length_take, hlen]; omega, fun p q rr x hp hq => ?_⟩
      · rcases List.mem_append.1 hq with h | h
        · rcases List.mem_append.1 h with h | h
          · exact c3.size q (List.mem_of_mem_take h)
          · exact he q h
        · exact c3.size q (List.mem_of_mem_drop h)
      · have hpl : p < rows0.length := by rw [← hrl]; exact (List.getElem?_eq_some_iff.1 hp).1
        rw [hrg] at hp
        have hql : q < te.size := by
          have hm : (cellsOf rr).length = te.size := by
            split at hp
            · exact c3.size rr (List.mem_of_getElem? hp)
            · split at hp
              · exact he rr (List.mem_of_getElem? hp)
              · exact c3.size rr (List.mem_of_getElem? hp)
          rw [← hm]; exact (List.getElem?_eq_some_iff.1 hq).1
        have hlt : p * te.size + q < rows0.length * te.size := by
          have : (p + 1) * te.size ≤ rows0.length * te.size := Nat.mul_le_mul_right _ (by omega)
          rw [Nat.add_mul, Nat.one_mul] at this; omega
        rw [hrl, List.toList_toArray, List.getElem?_take, if_pos hlt, splice_get _ _ _ (by simp; omega)]
        split at hp
        · rename_i h1
          have : (p + 1) * te.size ≤ st * te.size := Nat.mul_le_mul_right _ (by omega)
          rw [Nat.add_mul, Nat.one_mul] at this
          rw [if_pos (by omega)]
          obtain ⟨u, hu, hr'⟩ := c3.cell p q rr x hp hq
          rw [List.getElem?_take, if_pos hlt] at hu
          exact ⟨u, hu, hr'⟩
        · rename_i h1
          have h3 : st * te.size ≤ p * te.size := Nat.mul_le_mul_right _ (by omega)
          rw [if_neg (by omega)]
          split at hp
          · rename_i h2
            have : (p + 1) * te.size ≤ (st + rows.length) * te.size := Nat.mul_le_mul_right _ (by omega)
            rw [Nat.add_mul, Nat.one_mul, Nat.add_mul] at this
            rw [if_pos (by omega)]
            obtain ⟨u, hu, hr'⟩ := n2.cell (p - st) q rr x hp hq
            exact ⟨u, by rw [show p * te.size + q - st * te.size = (p - st) * te.size + q by rw [Nat.sub_mul]; omega]; exact hu, hr'⟩
          · rename_i h2
            have : (st + rows.length) * te.size ≤ p * te.size := Nat.mul_le_mul_right _ (by omega)
            rw [Nat.add_mul] at this
            rw [if_neg (by omega)]
            obtain ⟨u, hu, hr'⟩ := c3.cell p q rr x hp hq
            rw [List.getElem?_take, if_pos hlt] at hu
            exact ⟨u, hu, hr'⟩
end
end Go.Awp

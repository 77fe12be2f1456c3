/- Slices: reading, cutting, lengths; strings: bytes, cuts, sums. No program is named here. -/
import Derived.Test.YtfkibkfjebppdaaAwpK
import Derived.Laws.IdiomStrings
import Derived.Laws.BytesArg
namespace Go.Awp
open Go.RowKit

def noF : Nat → Prop := fun _ => False
/-- The slice s reads as these elements. -/
inductive Rd (H L : List AObj) : TV → List AV → Prop
  | ps (rows) : Rd H L (.p (.ps rows)) rows
  | nils : Rd H L (.p .nils) []
  | cz : Rd H L (.p .cz) []
  | sl {h n st len Ty b e rs} (hg : (⟨H, L, noF⟩ : Hp).get h = some (.arr Ty b e rs)) (hn : rs.length = n) : Rd H L (.sl h n st len) ((rs.drop st).take len)

section
variable {w : World} {β : Hd → Nat} {H L : List AObj} {F : Nat → Prop}
/-- Elements at an address. -/
structure Rows (w : World) (N : Nat → Prop) (a : Addr) (e : Nat) (rows : List AV) : Prop where
  size : ∀ r ∈ rows, (cellsOf r).length = e
  cell : ∀ (i j : Nat) (r x : AV), rows[i]? = some r → (cellsOf r)[j]? = some x → ∃ u, w.cell? (a.add (i * e + j)) = some u ∧ RepA w N x u

theorem Rd.val (hS : Sim w β ⟨H, L, F⟩) {s : TV} {v : Value} {rows : List AV} (h : RepT w β ⟨H, L, F⟩ s v) (hr : Rd H L s rows) :
    ∃ ao c, v = .slice ao rows.length c ∧ rows.length ≤ c ∧ (rows = [] ∨ ∃ a e, ao = some a ∧ Rows w (Free β ⟨H, L, F⟩) a e rows) := by
  cases hr with
  | ps =>
    cases h with | p h =>
    cases h with
    | psE ao c => exact ⟨ao, c, rfl, Nat.zero_le _, .inl rfl⟩
    | ps _ a c e vs hN hb he hc hr hlc => exact ⟨_, c, rfl, hlc, .inr ⟨a, e, rfl, he, fun i j r x h1 h2 => ⟨vs i j, hc i j (List.getElem?_eq_some_iff.1 h1).1 (by
        have hm := he r (List.mem_of_getElem? h1)
        rw [← hm]; exact (List.getElem?_eq_some_iff.1 h2).1), hr i j r x h1 h2⟩⟩⟩
  | nils => cases h with | p h => cases h; exact ⟨none, 0, rfl, Nat.zero_le _, .inl rfl⟩
  | cz => cases h with | p h => cases h with | cz ao => exact ⟨ao, 0, rfl, Nat.zero_le _, .inl rfl⟩
  | @sl hd n st len Ty b e rs hg hn =>
    have hg' : (⟨H, L, F⟩ : Hp).get hd = some (.arr Ty b e rs) := by cases hd <;> exact hg
    cases h with | sl _ _ _ _ _ _ _ hv =>
    obtain ⟨h1, ao, cap, rfl, h2, h3, h4, _⟩ := hv _ _ _ _ hg' hn
    have hlen : ((rs.drop st).take len).length = len := by simp; omega
    refine ⟨ao, cap, by rw [hlen], by rw [hlen]; exact h2, ?_⟩
    by_cases h0 : len = 0
    · subst h0; exact .inl (by simp)
    · obtain ⟨cs, fr, g1, g2, g3, g4, g5, g6, g7⟩ := hS.objs hd _ hg'
      refine .inr ⟨_, e, h4 (.inr (by omega)), fun r hr => g6 r (List.mem_of_mem_drop (List.mem_of_mem_take hr)), fun i j r x hi hj => ?_⟩
      rw [List.getElem?_take] at hi
      split at hi
      · rw [List.getElem?_drop] at hi
        obtain ⟨u, hu, hr⟩ := g7 (st + i) j r x hi hj
        refine ⟨u, ?_, hr⟩
        rw [Addr.add_lit, cell_of_row _ _ _ _ _ _ g1, show st * e + (i * e + j) = (st + i) * e + j by rw [Nat.add_mul]; omega]
        exact hu
      · cases hi
end

section
variable {P : Program} {T : Tab} {env : Env} {H L : List AObj} {o : Oper} {x : TV}

theorem opr_len_rd {t : TypeId} {y : Operand} {rows : List AV} {e : Nat} (hT : TabOk P T) (ho : o.op = .call { callee := .builtin .len, args := #[y], argTypes := #[t] }) (hd : tyD T t = .slice e) (hr : Rd H L (evA env y) rows) : OpR P o env H L (.p (.int .i64 rows.length)) H L :=
  opr_pure fun F w β a hS he => by
    obtain ⟨ao, c, hv, _, _⟩ := hr.val hS (evA_ok he y)
    obtain ⟨u, h1, h2⟩ := tyD_und hT (t := t) (by rw [hd]; simp)
    rw [hd] at h2
    obtain rfl := chkD_slice h2
    refine ⟨.int .i64 rows.length, ?_, .p (.int ..)⟩
    simp only [execOp, ho, resolve, invoke, builtin, Sem.run_bind, Sem.run_pure, Result.andThen_ok, List.map_toArray, List.map_cons, List.map_nil, hv]
    simp [Builtin.len_, run_underlying h1, goInt]

theorem opr_index {t : TypeId} {y z : Operand} {rows : List AV} {e : Nat} {te : TyI} {s : TV} {k : IntKind} {j : Int} (hT : TabOk P T) (ho : o.op = .indexAddr t y z) (hs : evA env y = s) (hz : evA env z = .p (.int k j)) (hd : tyD T t = .slice e) (he : tlk T e = some te)
    (hr : Rd H L s rows) (h0 : 0 ≤ j) (hj : j < rows.length) : OpR P o env H L (.el s te.size j.toNat 0) H L :=
  opr_pure fun F w β a hS hen => by
    have hy := evA_ok hen y
    have hzz := evA_ok hen z
    rw [hz] at hzz
    rw [hs] at hy
    obtain ⟨ao, c, hv, _, hor⟩ := hr.val hS hy
    obtain ⟨u, h1, h2⟩ := tyD_und hT (t := t) (by rw [hd]; simp)
    rw [hd] at h2
    obtain rfl := chkD_slice h2
    obtain ⟨inf, ue, ok⟩ := hT.get he
    rcases hor with rfl | ⟨ad, e', rfl, _⟩
    · simp at hj; omega
    · refine ⟨.pointer (some (ad.add (j.toNat * te.size))), ?_, ?_⟩
      · have hc : 0 ≤ j ∧ j < rows.length := ⟨h0, hj⟩
        simp only [execOp, ho, hzz.int_inv, hv, Instr.indexAt, asIntOf, Sem.run_bind, Sem.run_pure, run_underlying h1, Result.andThen_ok]
        simp [hc, ok.run_size]
      · rw [hv] at hy
        exact .el _ _ _ _ _ _ hy (by omega)

theorem opr_load_el {t : TypeId} {y : Operand} {s : TV} {e i off : Nat} {rows : List AV} {r : AV} (hT : TabOk P T) (ho : o.op = .load t y) (hy : evA env y = .el s e i off) (hr : Rd H L s rows) (hi : rows[i]? = some r) (he : (cellsOf r).length = e)
    (hl : loadC T t (((cellsOf r).drop off).map .p) = some x) : OpR P o env H L x H L :=
  opr_pure fun F w β a hS hen => by
    have h := evA_ok hen y
    rw [hy] at h
    generalize hv : a.eval y = v at h
    cases h with | el _ _ _ ad len c hs hlt =>
    obtain ⟨ao, c', h1, _, hor⟩ := hr.val hS hs
    simp only [Value.slice.injEq] at h1
    obtain ⟨rfl, rfl, rfl⟩ := h1
    rcases hor with rfl | ⟨a', e', h2, hrow⟩
    · simp at hlt
    · obtain rfl := Option.some.inj h2
      have hee : e' = e := by rw [← he]; exact (hrow.size r (List.mem_of_getElem? hi)).symm
      subst hee
      have hc : Cells w β ⟨H, L, F⟩ (ad.add (i * e' + off)) (((cellsOf r).drop off).map .p) := by
        intro j z hz
        simp only [List.getElem?_map, Option.map_eq_some_iff, List.getElem?_drop] at hz
        obtain ⟨q, hq, rfl⟩ := hz
        obtain ⟨u, hu, hru⟩ := hrow.cell i (off + j) r q hi hq
        exact ⟨u, by rw [add_add, Nat.add_assoc]; exact hu, .p hru⟩
      obtain ⟨u, hu, hru⟩ := loadC_ok (P := P) hT hc hl
      exact ⟨u, by simp [execOp, ho, Instr.loadAt, Instr.sureAddr, hv, hu], hru⟩

/-- A byte of a string. -/
theorem opr_byte {t : TypeId} {y z : Operand} {l : List UInt8} {k : IntKind} {j : Int} {b : UInt8} (hT : TabOk P T) (ho : o.op = .index t y z) (hy : evA env y = .p (.str l)) (hz : evA env z = .p (.int k j)) (hd : tyD T t = .str) (h0 : 0 ≤ j) (hj : l[j.toNat]? = some b) : OpR P o env H L (.p (.int .u8 b.toNat)) H L :=
  opr_pure fun F w β a hS hen => by
    have h1 := evA_ok hen y
    have h2 := evA_ok hen z
    rw [hy] at h1
    rw [hz] at h2
    obtain ⟨u, h3, h4⟩ := tyD_und hT (t := t) (by rw [hd]; simp)
    rw [hd] at h4
    obtain rfl := chkD_str h4
    refine ⟨.int .u8 b.toNat, ?_, .p (.int ..)⟩
    have hlt : j.toNat < l.length := (List.getElem?_eq_some_iff.1 hj).1
    have hb : (⟨l.toArray⟩ : ByteArray)[j.toNat]? = some b := by
      rw [ByteArray.getElem?_lt' _ _ (by simpa [ByteArray.size] using hlt)]
      congr 1
      obtain ⟨_, hg⟩ := List.getElem?_eq_some_iff.1 hj
      exact hg
    simp [execOp, ho, h1.str_inv, h2.int_inv, Instr.index, asIntOf, run_underlying h3, h0, hb]

/-- Bounds of a cut: what a missing one stands for. -/
def loA (env : Env) : Option Operand → Option Int
  | none => some 0
  | some y => match evA env y with
    | .p (.int _ n) => some n
    | _ => none
def hiA (env : Env) (len : Int) : Option Operand → Option Int
  | none => some len
  | some y => match evA env y with
    | .p (.int _ n) => some n
    | _ => none
theorem run_bounds {w : World} {β : Hd → Nat} {G : Hp} {a : Act} (he : EnvR w β G env a) {lo hi : Option Operand} {l h : Int} {b : Bool} {len cap : Nat} (hl : loA env lo = some l) (hh : hiA env len hi = some h) (h0 : 0 ≤ l) (h1 : l ≤ h) (h2 : h ≤ cap) :
    (Instr.sliceBounds b len cap (lo.map a.eval) (hi.map a.eval) none).run P w = .ok (l.toNat, h.toNat, cap) w := by
  have hhn : (h.toNat : Int) = h := Int.toNat_of_nonneg (by omega)
  cases hi with
  | none =>
    simp only [hiA, Option.some.injEq] at hh
    subst hh
    cases lo with
    | none =>
      simp only [loA, Option.some.injEq] at hl
      subst hl
      simp [Instr.sliceBounds]
    | some y =>
      simp only [loA] at hl
      split at hl
      · rename_i k n hy
        obtain rfl := Option.some.inj hl
        have hv := evA_ok he y
        rw [hy] at hv
        simp [Instr.sliceBounds, hv.int_inv, run_sliceBound, h0, h1]
      · cases hl
  | some z =>
    simp only [hiA] at hh
    split at hh
    · rename_i k' m hz
      obtain rfl := Option.some.inj hh
      have hvz := evA_ok he z
      rw [hz] at hvz
      have hm : 0 ≤ m := by omega
      cases lo with
      | none =>
        simp only [loA, Option.some.injEq] at hl
        subst hl
        simp [Instr.sliceBounds, hvz.int_inv, run_sliceBound, hm, h2]
      | some y =>
        simp only [loA] at hl
        split at hl
        · rename_i k n hy
          obtain rfl := Option.some.inj hl
          have hv := evA_ok he y
          rw [hy] at hv
          simp [Instr.sliceBounds, hv.int_inv, hvz.int_inv, run_sliceBound, hm, h0, h1, h2, hhn]
        · cases hl
    · cases hh

/-- A cut of a string. -/
theorem opr_cut_str {t : TypeId} {y : Operand} {lo hi : Option Operand} {l : List UInt8} {i j : Int} (hT : TabOk P T) (ho : o.op = .slice t y lo hi none) (hy : evA env y = .p (.str l)) (hd : tyD T t = .str) (hl : loA env lo = some i) (hh : hiA env l.length hi = some j)
    (h0 : 0 ≤ i) (h1 : i ≤ j) (h2 : j ≤ l.length) : OpR P o env H L (.p (.str ((l.drop i.toNat).take (j.toNat - i.toNat)))) H L :=
  opr_pure fun F w β a hS hen => by
    have hv := evA_ok hen y
    rw [hy] at hv
    obtain ⟨u, h3, h4⟩ := tyD_und hT (t := t) (by rw [hd]; simp)
    rw [hd] at h4
    obtain rfl := chkD_str h4
    have hsz : (⟨l.toArray⟩ : ByteArray).size = l.length := by simp [ByteArray.size]
    have hb := run_bounds (P := P) (w := w) hen (b := false) (len := l.length) (cap := l.length) hl hh h0 h1 h2
    refine ⟨.string ((⟨l.toArray⟩ : ByteArray).extract i.toNat j.toNat), ?_, by rw [ByteArray.extract_mk]; exact .p (.str _)⟩
    simp only [execOp, ho, hv.str_inv, Instr.sliceAt, Sem.run_bind, run_underlying h3, Result.andThen_ok, Instr.slice, Option.map_none, Option.isSome_none, Bool.false_eq_true, if_false, hsz, hb, Sem.run_pure]

/-- A cut of a slice. -/
def cutA (i j : Nat) : TV → TV
  | .p (.ps rows) => .p (.ps ((rows.drop i).take (j - i)))
  | .sl h n st _ => .sl h n (st + i) (j - i)
  | _ => .p (.ps [])
theorem opr_cut {t : TypeId} {y : Operand} {lo hi : Option Operand} {rows : List AV} {e : Nat} {te : TyI} {s : TV} {i j : Int} (hT : TabOk P T) (ho : o.op = .slice t y lo hi none) (hy : evA env y = s) (hd : tyD T t = .slice e) (hte : tlk T e = some te) (hr : Rd H L s rows) (hl : loA env lo = some i) (hh : hiA env rows.length hi = some j)
    (h0 : 0 ≤ i) (h1 : i ≤ j) (h2 : j ≤ rows.length) (hE : ∀ r ∈ rows, (cellsOf r).length = te.size) : OpR P o env H L (cutA i.toNat j.toNat s) H L :=
  opr_pure fun F w β a hS hen => by
    have hv := evA_ok hen y
    rw [hy] at hv
    obtain ⟨u, h3, h4⟩ := tyD_und hT (t := t) (by rw [hd]; simp)
    rw [hd] at h4
    obtain rfl := chkD_slice h4
    obtain ⟨inf, ue, ok⟩ := hT.get hte
    obtain ⟨ao, c, hval, hlc, _⟩ := hr.val hS hv
    have hb := run_bounds (P := P) (w := w) hen (b := true) (len := rows.length) (cap := c) hl hh h0 h1 (by omega)
    have hrun : (execOp a.eval o).run P w = .ok (.value (.slice (if c = i.toNat then ao else ao.map (·.add (i.toNat * te.size))) (j.toNat - i.toNat) (c - i.toNat))) w := by
      simp only [execOp, ho, hval, Instr.sliceAt, Sem.run_bind, run_underlying h3, Result.andThen_ok, Instr.slice, Option.map_none, hb, ok.run_size, Sem.run_pure]
    refine ⟨_, hrun, ?_⟩
    have hlen : ((rows.drop i.toNat).take (j.toNat - i.toNat)).length = j.toNat - i.toNat := by simp; omega
    cases hr with
    | ps =>
      simp only [cutA]
      rw [hval] at hv
      by_cases h0' : j.toNat - i.toNat = 0
      · rw [h0']; simpa using RepT.p (RepA.psE ..)
      · have hne : c ≠ i.toNat := by omega
        rw [if_neg hne]
        cases hv with | p hv =>
        generalize hq : rows.length = q at hv
        cases hv with
        | psE => simp at h2 hq; omega
        | ps _ ad _ e' vs hN hbk he hc hrr hlcc =>
          have he' : e' = te.size := by
            have hm : rows[0]'(by omega) ∈ rows := List.getElem_mem _
            rw [← he _ hm, hE _ hm]
          subst he'
          have key := RepA.ps (w := w) (N := Free β ⟨H, L, F⟩) ((rows.drop i.toNat).take (j.toNat - i.toNat)) (ad.add (i.toNat * te.size)) (c - i.toNat) te.size (fun p q => vs (i.toNat + p) q) (by rw [add_block]; exact hN) (by rw [add_block]; exact hbk)
            (fun r hr => he r (List.mem_of_mem_drop (List.mem_of_mem_take hr)))
            (fun p q hp hq => by
              rw [hlen] at hp
              rw [add_add, show i.toNat * te.size + (p * te.size + q) = (i.toNat + p) * te.size + q by rw [Nat.add_mul]; omega]
              exact hc _ _ (by omega) hq)
            (fun p q r x hp hq => by
              rw [List.getElem?_take] at hp
              split at hp
              · rw [List.getElem?_drop] at hp; exact hrr _ q r x hp hq
              · cases hp) (by rw [hlen]; omega)
          rw [hlen] at key
          exact .p key
    | nils =>
      have h2' : j ≤ 0 := by simpa using h2
      have hz : j.toNat - i.toNat = 0 := by omega
      rw [hz]; exact .p (.psE ..)
    | cz =>
      have h2' : j ≤ 0 := by simpa using h2
      have hz : j.toNat - i.toNat = 0 := by omega
      rw [hz]; exact .p (.psE ..)
    | @sl hd n st len Ty b e' rs hg hn =>
      have hg' : (⟨H, L, F⟩ : Hp).get hd = some (.arr Ty b e' rs) := by cases hd <;> exact hg
      simp only [cutA]
      rw [hval] at hv
      cases hv with | sl _ _ _ _ _ g1 gl gv =>
      refine .sl _ _ _ _ _ rfl gl fun T' b' e'' rows' hr' hl' => ?_
      obtain ⟨q1, ao', cap, hq, q2, q3, q4, q5⟩ := gv T' b' e'' rows' hr' hl'
      rw [hg'] at hr'
      simp only [Option.some.injEq, AObj.arr.injEq] at hr'
      obtain ⟨rfl, rfl, rfl, rfl⟩ := hr'
      simp only [Value.slice.injEq] at hq
      obtain ⟨rfl, hq2, rfl⟩ := hq
      rw [hq2] at h2 hlc
      obtain ⟨cs, fr, o1, o2, o3, o4, o5, o6, o7⟩ := hS.objs hd _ hg'
      refine ⟨by omega, _, _, rfl, by omega, by omega, fun hor => ?_, fun hb0 hs0 hl0 => ?_⟩
      · by_cases hst : st + i.toNat = 0
        · have e1 : st = 0 := by omega
          have e2 : i.toNat = 0 := by omega
          rw [q4 (.inl e1), e1, e2]
          simp
          intro _
          rfl
        · have hpos : 0 < j.toNat - i.toNat := by rcases hor with h | h <;> omega
          rw [if_neg (by omega), q4 (.inr (by omega))]
          have hee : e' = te.size := by
            have hm : rs[st]'(by omega) ∈ rs := List.getElem_mem _
            have hm2 : rs[st]'(by omega) ∈ (rs.drop st).take len := by
              rw [List.mem_iff_getElem?]
              exact ⟨0, by rw [List.getElem?_take, if_pos (by omega), List.getElem?_drop, Nat.add_zero, List.getElem?_eq_getElem]⟩
            rw [← o6 _ hm, hE _ hm2]
          subst hee
          rw [Option.map_some, Nat.add_mul, Addr.add_lit]
      · have e1 : st = 0 := by omega
        have e2 : i.toNat = 0 := by omega
        rw [e2, Nat.sub_zero]
        exact q5 hb0 e1 (by omega)
end
end Go.Awp

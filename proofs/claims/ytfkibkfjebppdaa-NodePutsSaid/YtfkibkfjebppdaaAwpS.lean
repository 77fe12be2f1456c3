/- Bytes and strings; an array's element; a loop's rounds one by one. No program is named here. -/
import Derived.Test.YtfkibkfjebppdaaAwpR
import Derived.Laws.Concat
namespace Go.Awp
open Go.RowKit

/-- Bytes as elements. -/
def bv (l : List UInt8) : List AV := l.map fun b => .int .u8 b.toNat
theorem bv_cl (l : List UInt8) : clR (bv l) := by
  intro r hr x hx
  obtain ⟨b, _, rfl⟩ := List.mem_map.1 hr
  simp [cellsOf] at hx
  subst hx
  rfl
theorem bv_size (l : List UInt8) : ∀ r ∈ bv l, (cellsOf r).length = 1 := by
  intro r hr
  obtain ⟨b, _, rfl⟩ := List.mem_map.1 hr
  rfl
@[simp] theorem bv_length (l : List UInt8) : (bv l).length = l.length := by simp [bv]
theorem bv_append (a b : List UInt8) : bv (a ++ b) = bv a ++ bv b := by simp [bv]
theorem bv_take (a : List UInt8) (n : Nat) : (bv a).take n = bv (a.take n) := by simp [bv]
theorem bv_drop (a : List UInt8) (n : Nat) : (bv a).drop n = bv (a.drop n) := by simp [bv]
theorem bv_set (a : List UInt8) (n : Nat) (b : UInt8) : (bv a).set n (.int .u8 b.toNat) = bv (a.set n b) := by simp [bv, List.map_set]
theorem bv_get (a : List UInt8) (n : Nat) : (bv a)[n]? = a[n]?.map fun b => .int .u8 b.toNat := by simp [bv]
theorem bv_replicate (n : Nat) (b : UInt8) : bv (List.replicate n b) = List.replicate n (.int .u8 b.toNat) := by simp [bv]

section
variable {P : Program} {T : Tab} {env : Env} {H L : List AObj} {o : Oper} {x : TV} {w : World} {β : Hd → Nat} {F : Nat → Prop}

theorem step_same {w w' : World} {β : Hd → Nat} {G : Hp} (hS : Sim w β G) (h1 : w'.heap = w.heap) (h2 : w'.os = w.os) (h3 : w'.tape = w.tape) (h4 : w'.output = w.output) : Step w β G w' β G ∧ Sim w' β G := by
  have hst : Step w β G w' β G := ⟨h2, h3, h4, by rw [h1]; exact Nat.le_refl _, fun b _ hf => ⟨by rw [h1], hf⟩, fun b _ => by rw [h1], rfl, fun k o ho => ⟨o, ho, ObjGo.same fun _ => by rw [h1]⟩⟩
  exact ⟨hst, fun k o ho => (hS.objs k o ho).mono hst (by rw [h1]), hS.inj, hS.ext, hS.disj, fun b h => by rw [h1]; exact hS.flt b h⟩

/-- A new block that nobody owns, in a world in which something may have been drawn. -/
theorem opr_allocD (h : ∀ F w β a, Sim w β ⟨H, L, F⟩ → EnvR w β ⟨H, L, F⟩ env a → ∃ (u : Value) (ob : Obj) (w0 : World), (execOp a.eval o).run P w = .ok (.value u) (w0.alloc ob) ∧ w0.heap = w.heap ∧ w0.os = w.os ∧ w0.tape = w.tape ∧ w0.output = w.output ∧
    (Step w β ⟨H, L, F⟩ (w0.alloc ob) β ⟨H, L, F⟩ → RepT (w0.alloc ob) β ⟨H, L, F⟩ x u)) : OpR P o env H L x H L := by
  intro F w β a next Q hS he hn
  obtain ⟨u, ob, w0, h1, g1, g2, g3, g4, h2⟩ := h F w β a hS he
  obtain ⟨t1, t2⟩ := step_same hS g1 g2 g3 g4
  obtain ⟨s1, s2⟩ := step_alloc t2 ob
  unfold Oper.wp
  rw [h1]
  exact hn _ β u s2 (t1.trans s1) (h2 (t1.trans s1))

/-- '[]byte(s)'. -/
theorem opr_to_bytes {s d e : TypeId} {y : Operand} {l : List UInt8} (hT : TabOk P T) (ho : o.op = .convert s d y) (hs : tyD T s = .str) (hd : tyD T d = .slice e) (he : tyD T e = .int .u8) (hy : evA env y = .p (.str l)) : OpR P o env H L (.p (.ps (bv l))) H L :=
  opr_allocD fun F w β a hS hen => by
    have hv := evA_ok hen y
    rw [hy] at hv
    obtain ⟨u1, a1, b1⟩ := tyD_und hT (t := s) (by rw [hs]; simp)
    rw [hs] at b1
    obtain rfl := chkD_str b1
    obtain ⟨u2, a2, b2⟩ := tyD_und hT (t := d) (by rw [hd]; simp)
    rw [hd] at b2
    obtain rfl := chkD_slice b2
    obtain ⟨u3, a3, b3⟩ := tyD_und hT (t := e) (by rw [he]; simp)
    rw [he] at b3
    obtain rfl := chkD_int b3
    have hr := run_bytes_of_string (P := P) w s d e ⟨l.toArray⟩ a1 a2 a3
    have hsz : (⟨l.toArray⟩ : ByteArray).size = (bv l).length := by simp [ByteArray.size]
    refine ⟨_, _, w.drew, by simp only [execOp, ho, hv.str_inv, Sem.run_bind, hr, Result.andThen_ok, Sem.run_pure]; rfl, rfl, rfl, rfl, rfl, fun hst => ?_⟩
    have hge := grownCap_ge w (⟨l.toArray⟩ : ByteArray).size 0 e
    rw [hsz] at hge ⊢
    have hblk := alloc_new w.drew (.cells (bytesRow ⟨l.toArray⟩ (grownCap w (bv l).length 0 e)) e ((bytesRow ⟨l.toArray⟩ (grownCap w (bv l).length 0 e)).size, (bytesRow ⟨l.toArray⟩ (grownCap w (bv l).length 0 e)).size + 1))
    refine .p (.ps (bv l) ⟨w.heap.size, 0, none⟩ _ 1 (fun i j => (bytesRow ⟨l.toArray⟩ (grownCap w (bv l).length 0 e)).getD (i * 1 + j) undef) (free_new hS) (by show w.drew.heap.size < _; simp) (bv_size l) (fun i j hi hj => ?_) (fun i j r x hi hj => ?_) hge)
    · have hc := cell_of_row _ _ (0 + (i * 1 + j)) _ _ _ hblk
      rw [Addr.add_lit]
      refine hc.trans ?_
      simp only [Nat.zero_add, Array.getD_eq_getD_getElem?]
      have hlt : i * 1 + j < (bytesRow ⟨l.toArray⟩ (grownCap w (bv l).length 0 e)).size := by
        simp [bytesRow]
        simp at hi
        omega
      rw [Array.getElem?_eq_getElem hlt]
      rfl
    · rw [bv_get] at hi
      simp only [Option.map_eq_some_iff] at hi
      obtain ⟨b, hb, rfl⟩ := hi
      match j with
      | 0 =>
        simp [cellsOf] at hj
        subst hj
        have hil : i < l.length := (List.getElem?_eq_some_iff.1 hb).1
        have : (bytesRow ⟨l.toArray⟩ (grownCap w (bv l).length 0 e)).getD (i * 1 + 0) undef = .int .u8 b.toNat := by
          simp only [Array.getD_eq_getD_getElem?, bytesRow]
          rw [Array.getElem?_append_left (by simp; omega)]
          simp [hb]
        rw [this]
        exact .int ..
      | j + 1 => simp [cellsOf] at hj

/-- 'string(b)'. -/
theorem opr_to_str {s d e : TypeId} {y : Operand} {l : List UInt8} {q : TV} (hT : TabOk P T) (ho : o.op = .convert s d y) (hs : tyD T s = .slice e) (hd : tyD T d = .str) (he : tyD T e = .int .u8) (hy : evA env y = q) (hr : Rd H L q (bv l)) : OpR P o env H L (.p (.str l)) H L :=
  opr_pure fun F w β a hS hen => by
    have hv := evA_ok hen y
    rw [hy] at hv
    obtain ⟨u1, a1, b1⟩ := tyD_und hT (t := s) (by rw [hs]; simp)
    rw [hs] at b1
    obtain rfl := chkD_slice b1
    obtain ⟨u2, a2, b2⟩ := tyD_und hT (t := d) (by rw [hd]; simp)
    rw [hd] at b2
    obtain rfl := chkD_str b2
    obtain ⟨u3, a3, b3⟩ := tyD_und hT (t := e) (by rw [he]; simp)
    rw [he] at b3
    obtain rfl := chkD_int b3
    obtain ⟨ao, c, hval, hlc, hor⟩ := hr.val hS hv
    refine ⟨.string ⟨l.toArray⟩, ?_, .p (.str l)⟩
    have key : (convert s d (.slice ao (bv l).length c)).run P w = .ok (.string ⟨l.toArray⟩) w := by
      rcases hor with h0 | ⟨ad, e', rfl, hrow⟩
      · have hl0 : l = [] := by simpa [bv] using h0
        subst hl0
        rw [run_convert_bytes_string w s d e ao _ c a1 a3 a2]
        cases ao <;> simp [Conv.bytesToString, loadCells]
        all_goals rfl
      · by_cases hl0 : l = []
        · subst hl0
          rw [run_convert_bytes_string w s d e _ _ c a1 a3 a2]
          simp [Conv.bytesToString, loadCells]
          rfl
        · have he1 : e' = 1 := by
            have hne : bv l ≠ [] := by simpa [bv] using hl0
            obtain ⟨r, hm⟩ := List.exists_mem_of_ne_nil _ hne
            rw [← hrow.size r hm, bv_size l r hm]
          subst he1
          rw [bv_length]
          refine run_convert_bytes_back w s d e ad c l a1 a3 a2 fun j hj => ?_
          obtain ⟨u, hu, hru⟩ := hrow.cell j 0 (.int .u8 l[j].toNat) (.int .u8 l[j].toNat) (by rw [bv_get, List.getElem?_eq_getElem hj]; rfl) rfl
          cases hru
          simpa using hu
    simp only [execOp, ho, hval, Sem.run_bind, key, Result.andThen_ok, Sem.run_pure]

/-- Two strings, one behind the other. -/
theorem opr_cat {t t2 : TypeId} {y z : Operand} {l m : List UInt8} (ho : o.op = .binOp .add t y z t2) (hy : evA env y = .p (.str l)) (hz : evA env z = .p (.str m)) (hb : l.length + m.length ≤ 9223372036854775807) : OpR P o env H L (.p (.str (l ++ m))) H L :=
  opr_pure fun F w β a hS hen => by
    have h1 := evA_ok hen y
    have h2 := evA_ok hen z
    rw [hy] at h1
    rw [hz] at h2
    refine ⟨.string ⟨(l ++ m).toArray⟩, ?_, .p (.str _)⟩
    have e : (⟨l.toArray⟩ ++ ⟨m.toArray⟩ : ByteArray) = ⟨(l ++ m).toArray⟩ := by
      apply ByteArray.ext
      simp
    have hs : (⟨l.toArray⟩ : ByteArray).size + (⟨m.toArray⟩ : ByteArray).size ≤ 9223372036854775807 := by simpa [ByteArray.size] using hb
    have hadd : (Go.binOp .add t (.string ⟨l.toArray⟩) (.string ⟨m.toArray⟩)).run P w = .ok (.string ⟨(l ++ m).toArray⟩) w := by
      rw [binOp_string_add, run_string_add_sum w _ _ (by simp [ByteArray.size]; omega), e]
    have hg : (eqGuard .add t y z (.string ⟨l.toArray⟩) (.string ⟨m.toArray⟩)).run P w = .ok () w := by simp [eqGuard_at_string]
    simp only [execOp, ho, h1.str_inv, h2.str_inv, Sem.run_bind, hg, hadd, Result.andThen_ok, Sem.run_pure]

/-- An element of an array. -/
def elA (j : Int) (n : Nat) (te : TyI) (x : TV) : Option TV := match decide (0 ≤ j) && decide (j < n), isAggD te.d, aggOf x with
  | true, some false, some l => match l[j.toNat]? with
    | some y => some (.p y)
    | none => none
  | _, _, _ => none
theorem opr_indexA {t : TypeId} {y z : Operand} {n e : Nat} {te : TyI} {k : IntKind} {j : Int} (hT : TabOk P T) (ho : o.op = .index t y z) (hd : tyD T t = .array n e) (he : tlk T e = some te) (hz : evA env z = .p (.int k j)) (hx : elA j n te (evA env y) = some x) : OpR P o env H L x H L :=
  opr_pure fun F w β a hS hen => by
    have h1 := evA_ok hen y
    have h2 := evA_ok hen z
    rw [hz] at h2
    obtain ⟨u, h3, h4⟩ := tyD_und hT (t := t) (by rw [hd]; simp)
    rw [hd] at h4
    obtain rfl := chkD_array h4
    obtain ⟨inf, ue, ok⟩ := hT.get he
    unfold elA at hx
    split at hx
    · rename_i l hj hag hl
      simp only [Bool.and_eq_true, decide_eq_true_eq] at hj
      split at hx
      · rename_i q hq
        obtain rfl := Option.some.inj hx
        obtain ⟨vs, hv, hlen, hr⟩ := aggOf_ok hl h1
        have hlt : j.toNat < vs.length := by rw [hlen]; exact (List.getElem?_eq_some_iff.1 hq).1
        have hs1 := ok.one hag
        refine ⟨vs[j.toNat], ?_, .p (hr _ _ _ hq (List.getElem?_eq_getElem hlt))⟩
        have hp : (part e vs.toArray (j.toNat * te.size)).run P w = .ok vs[j.toNat] w := by
          rw [hs1, Nat.mul_one]
          simp [part, ok.run_agg w hag, hlt]
        simp only [execOp, ho, h2.int_inv, hv, Instr.index, asIntOf, Sem.run_bind, Sem.run_pure, run_underlying h3, Result.andThen_ok]
        simp [hj, ok.run_size, hp]
      · cases hx
    · cases hx
end
end Go.Awp

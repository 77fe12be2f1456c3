/- Struct and array values, literals of slices, len, min, max; 'stepA' in one. No program is named here. -/
import Derived.Test.YtfkibkfjebppdaaAwpH
namespace Go.Awp
open Go.RowKit

section
variable {P : Program} {T : Tab} {env : Env} {H L : List AObj} {o : Oper} {x : TV}

def evP (env : Env) : List (Nat × Operand) → List (Nat × TV)
  | [] => []
  | (i, y) :: r => (i, evA env y) :: evP env r
theorem evP_ok {w : World} {β : Hd → Nat} {G : Hp} {a : Act} (he : EnvR w β G env a) : ∀ (l : List (Nat × Operand)),
    (l.map fun p => (p.1, a.eval p.2)).length = (evP env l).length ∧ ∀ (i : Nat) (p : Nat × TV) (q : Nat × Value), (evP env l)[i]? = some p → (l.map fun p => (p.1, a.eval p.2))[i]? = some q → q.1 = p.1 ∧ RepT w β G p.2 q.2
  | [] => by simp [evP]
  | (j, y) :: r => by
    obtain ⟨h1, h2⟩ := evP_ok he r
    refine ⟨by simpa [evP] using h1, fun i p q hp hq => ?_⟩
    cases i with
    | zero => simp [evP] at hp hq; subst hp hq; exact ⟨rfl, evA_ok he y⟩
    | succ i => exact h2 i p q (by simpa [evP] using hp) (by simpa using hq)

/-- The places of a struct's fields: all field types must be in the table. -/
def plc (T : Tab) : List (Nat × Nat) → Option (List (Nat × Nat))
  | [] => some []
  | (off, t) :: r => match tlk T t, plc T r with
    | some i, some l => some ((off, i.size) :: l)
    | _, _ => none
def lget : List (Nat × Nat) → Nat → Option (Nat × Nat)
  | [], _ => none
  | x :: _, 0 => some x
  | _ :: r, i + 1 => lget r i
theorem lget_eq : ∀ (l : List (Nat × Nat)) (i : Nat), lget l i = l[i]?
  | [], _ => by simp [lget]
  | _ :: _, 0 => by simp [lget]
  | _ :: r, i + 1 => by simpa [lget] using lget_eq r i
theorem plc_ok (hT : TabOk P T) : ∀ (fs : List Field) {l : List (Nat × Nat)}, plc T (fs.map fun f => (f.offset, f.type)) = some l → fs.mapM (fun f => (P.info? f.type).map fun i => (f.offset, i.size)) = some l
  | [], l, h => by simp [plc] at h; subst h; rfl
  | f :: fs, l, h => by
    simp only [List.map_cons, plc] at h
    split at h
    · rename_i i l' hi hl
      obtain rfl := Option.some.inj h
      obtain ⟨inf, u, ok⟩ := hT.get hi
      simp [List.mapM_cons, ok.info, ok.size, plc_ok hT fs hl]
    · cases h
def buildA (T : Tab) (t : Nat) (parts : List (Nat × TV)) : Option TV :=
  match tlk T t with
  | some i => match i.d with
    | .struct fs => match plc T fs with
      | some l => match fillA (lget l) (i.zero.map .p) parts with
        | some cs => some (.agg cs)
        | none => none
      | none => none
    | .array _ e => match tlk T e with
      | some j => match fillA (fun n => some (n * j.size, j.size)) (i.zero.map .p) parts with
        | some cs => some (.agg cs)
        | none => none
      | none => none
    | _ => none
  | none => none
theorem opr_build {t : TypeId} {parts : List (Nat × Operand)} (hT : TabOk P T) (ho : o.op = .build t parts.toArray) (hb : buildA T t (evP env parts) = some x) : OpR P o env H L x H L :=
  opr_pure fun F w β a _ he => by
    obtain ⟨e1, e2⟩ := evP_ok he parts
    have fin : ∀ (place : Nat → Option (Nat × Nat)) (i : TyI) (z : Value) (cs : List TV), chkZ i.zero z.cells.toList = true → fillA place (i.zero.map .p) (evP env parts) = some cs →
        (∀ out, Instr.fill place z.cells (parts.map fun p => (p.1, a.eval p.2)) = some out → P.built t (parts.map fun p => (p.1, a.eval p.2)) = some out) →
        ∃ u, (execOp a.eval o).run P w = .ok (.value u) w ∧ RepT w β ⟨H, L, F⟩ (.agg cs) u := by
      intro place i z cs hz hf hbt
      obtain ⟨out, h1, h2⟩ := fill_ok (w := w) (β := β) (G := ⟨H, L, F⟩) place (evP env parts) (parts.map fun p => (p.1, a.eval p.2)) (i.zero.map .p) z.cells e1 e2 (zero_rep hz) hf
      refine ⟨.agg out, ?_, ?_⟩
      · have hrun := run_build (P := P) w t (parts.map fun p => (p.1, a.eval p.2)).toArray out (by simpa using hbt out h1)
        simp only [execOp, ho, Sem.run_bind]
        rw [show (parts.toArray.map fun x => match x with | (i, y) => (i, a.eval y)) = (parts.map fun p => (p.1, a.eval p.2)).toArray by simp]
        rw [hrun]
        rfl
      · have := RepT.agg (w := w) (β := β) (G := ⟨H, L, F⟩) cs out.toList h2.1 h2.2
        simpa using this
    unfold buildA at hb
    split at hb
    · rename_i i hi
      obtain ⟨inf, u, ok⟩ := hT.get hi
      obtain ⟨z, hz, hzz⟩ := ok.zero
      split at hb
      · rename_i fs hd
        have h2 := ok.d
        rw [hd] at h2
        obtain ⟨gs, rfl, h3⟩ := chkD_struct h2
        split at hb
        · rename_i l hl
          split at hb
          · rename_i cs hf
            obtain rfl := Option.some.inj hb
            rw [h3] at hl
            have hm := plc_ok hT gs.toList hl
            refine fin _ i z cs hzz hf fun out hout => ?_
            have : (fun x => l[x]?) = lget l := funext fun j => (lget_eq l j).symm
            simp only [Program.built, ok.info, ok.und, hz, hm, List.getElem?_toArray, this, hout]
          · cases hb
        · cases hb
      · rename_i n e hd
        have h2 := ok.d
        rw [hd] at h2
        obtain rfl := chkD_array h2
        split at hb
        · rename_i j hj
          obtain ⟨inf', u', ok'⟩ := hT.get hj
          split at hb
          · rename_i cs hf
            obtain rfl := Option.some.inj hb
            refine fin _ i z cs hzz hf fun out hout => ?_
            simp only [Program.built, ok.info, ok.und, hz, ok'.info, ok'.size, hout]
          · cases hb
        · cases hb
      · cases hb
    · cases hb

/-! ### A slice's literal -/
def rep {α : Type} (xs : List α) : Nat → List α
  | 0 => []
  | n + 1 => xs ++ rep xs n
def chunk (agg : Bool) (e : Nat) : Nat → List AV → List AV
  | 0, _ => []
  | n + 1, l => (match agg with
    | true => .agg (l.take e)
    | false => l.headD .top) :: chunk agg e n (l.drop e)
def bsl (T : Tab) (t n : Nat) (parts : List (Nat × TV)) : Option (Nat × List TV × List AV) :=
  match tlk T t with
  | some i => match i.d with
    | .slice e => match tlk T e with
      | some j => match isAggD j.d, Nat.ble 1 n && Nat.ble (n * j.size) 65536 && Nat.ble 1 j.size with
        | some ag, true => match fillA (fun m => some (m * j.size, j.size)) (rep (j.zero.map .p) n) parts with
          | some cs => match unpL cs with
            | some ys => some (e, cs, chunk ag j.size n ys)
            | none => none
          | none => none
        | _, _ => none
      | none => none
    | _ => none
  | none => none

theorem rep_len {α : Type} (xs : List α) : ∀ n, (rep xs n).length = n * xs.length
  | 0 => by simp [rep]
  | n + 1 => by simp [rep, rep_len xs n, Nat.add_mul, Nat.add_comm]
theorem rep_get {α : Type} (xs : List α) (hx : 0 < xs.length) : ∀ n i, i < n * xs.length → (rep xs n)[i]? = xs[i % xs.length]?
  | 0, i, h => by simp at h
  | n + 1, i, h => by
    simp only [rep, List.getElem?_append]
    split
    · rename_i h; rw [Nat.mod_eq_of_lt h]
    · rename_i h'
      rw [Nat.add_mul, Nat.one_mul] at h
      have e : i % xs.length = (i - xs.length) % xs.length := Nat.mod_eq_sub_mod (by omega)
      rw [rep_get xs hx n (i - xs.length) (by omega), e]

theorem chunk_len (b : Bool) (e : Nat) : ∀ n l, (chunk b e n l).length = n
  | 0, _ => rfl
  | n + 1, l => by simp [chunk, chunk_len b e n]
/-- What stands in a row of a literal. -/
theorem chunk_get (b : Bool) (e : Nat) (he : b = false → e = 1) : ∀ (n : Nat) (l : List AV), n * e ≤ l.length → (b = false → ∀ x ∈ l, ∀ cs, x ≠ .agg cs) →
    ∀ (i : Nat) (r : AV), (chunk b e n l)[i]? = some r → (cellsOf r).length = e ∧ ∀ j, j < e → (cellsOf r)[j]? = l[i * e + j]?
  | 0, l, _, _, i, r, h => by simp [chunk] at h
  | n + 1, l, hl, hb, 0, r, h => by
    rw [Nat.add_mul] at hl
    simp only [chunk, List.getElem?_cons_zero, Option.some.injEq] at h
    subst h
    cases b with
    | true => exact ⟨by simp [cellsOf]; omega, fun j hj => by simp [cellsOf, hj]⟩
    | false =>
      obtain rfl := he rfl
      cases l with
      | nil => simp at hl
      | cons y l =>
        have hy : cellsOf y = [y] := by
          have := hb rfl y (by simp)
          cases y <;> first | rfl | exact absurd rfl (this _)
        exact ⟨by simp [hy], fun j hj => by obtain rfl : j = 0 := by omega
                                            simp [hy]⟩
  | n + 1, l, hl, hb, i + 1, r, h => by
    rw [Nat.add_mul] at hl
    obtain ⟨h1, h2⟩ := chunk_get b e he n (l.drop e) (by simp; omega) (fun hf x hx => hb hf x (List.mem_of_mem_drop hx)) i r (by simpa [chunk] using h)
    exact ⟨h1, fun j hj => by rw [h2 j hj, List.getElem?_drop, show e + (i * e + j) = (i + 1) * e + j by rw [Nat.add_mul]; omega]⟩

def noAgg : List AV → Bool
  | [] => true
  | .agg _ :: _ => false
  | _ :: r => noAgg r
theorem noAgg_ok : ∀ {l : List AV}, noAgg l = true → ∀ x ∈ l, ∀ cs, x ≠ .agg cs
  | x :: r, h, y, hy, cs => by
    rcases List.mem_cons.1 hy with rfl | hy
    · intro e; subst e; simp [noAgg] at h
    · refine noAgg_ok ?_ y hy cs
      cases x <;> simp_all [noAgg]

theorem spl_len {cs ns : List TV} {off : Nat} (h : off + ns.length ≤ cs.length) : (spl cs off ns).length = cs.length := by simp [spl]; omega
theorem fillA_len (place : Nat → Option (Nat × Nat)) : ∀ (parts : List (Nat × TV)) (cells : List TV) {res : List TV}, fillA place cells parts = some res → res.length = cells.length
  | [], cells, res, h => by simp only [fillA, Option.some.injEq] at h; rw [h]
  | (i, v) :: rest, cells, res, h => by
    simp only [fillA] at h
    split at h
    · cases h
    · split at h
      · cases h
      · split at h
        · rename_i e1 e2
          rw [fillA_len place rest _ h, spl_len (Nat.le_of_ble_eq_true e2)]
        · cases h
/-- A slice's literal that nobody will write into: 'n' elements. -/
theorem opr_lit {t n e : Nat} {parts : List (Nat × Operand)} {cs : List TV} {rows ys : List AV} (hT : TabOk P T) (ho : o.op = .buildSlice t n parts.toArray) (hb : bsl T t n (evP env parts) = some (e, cs, rows)) (hu : unpL cs = some ys) (hn : noAgg ys = true) : OpR P o env H L (.p (.ps rows)) H L :=
  opr_alloc fun F w β a hS he => by
    obtain ⟨e1, e2⟩ := evP_ok he parts
    unfold bsl at hb
    split at hb
    · rename_i i hi
      obtain ⟨inf, u, ok⟩ := hT.get hi
      split at hb
      · rename_i e' hd
        have h2 := ok.d
        rw [hd] at h2
        obtain rfl := chkD_slice h2
        split at hb
        · rename_i j hj
          obtain ⟨inf', u', ok'⟩ := hT.get hj
          split at hb
          · rename_i ag hag hsz
            simp only [Bool.and_eq_true] at hsz
            obtain ⟨⟨hn1, hsz⟩, hj1⟩ := hsz
            have hn1 := Nat.le_of_ble_eq_true hn1
            have hj1 := Nat.le_of_ble_eq_true hj1
            have hsz := Nat.le_of_ble_eq_true hsz
            split at hb
            · rename_i cs' hf
              split at hb
              · rename_i ys' hys
                simp only [Option.some.injEq, Prod.mk.injEq] at hb
                obtain ⟨rfl, rfl, rfl⟩ := hb
                rw [hys] at hu
                obtain rfl := Option.some.inj hu
                obtain ⟨z, hz, hzz⟩ := ok'.run_zero w
                have hzr := zero_rep (w := w) (β := β) (G := ⟨H, L, F⟩) hzz
                have hzl : z.cells.size = j.size := by
                  have := hzr.1
                  simp at this
                  rw [this, ok'.zlen]
                have hz0 : RepL w β ⟨H, L, F⟩ (rep (j.zero.map .p) n) ((Array.range (n * j.size)).map (fun k => z.cells[k % z.cells.size]!)).toList := by
                  refine ⟨by simp [rep_len, ok'.zlen], fun k y v hy hv => ?_⟩
                  have hlt : k < n * j.size := by
                    have := (List.getElem?_eq_some_iff.1 hy).1
                    simpa [rep_len, ok'.zlen] using this
                  rw [rep_get _ (by simp [ok'.zlen]; omega) n k (by simpa [ok'.zlen] using hlt)] at hy
                  simp only [List.length_map, ok'.zlen] at hy
                  have hm : k % j.size < z.cells.size := by rw [hzl]; exact Nat.mod_lt _ (by omega)
                  refine hzr.2 (k % j.size) y v hy ?_
                  simp [hlt, hzl] at hv
                  rw [← hv]
                  rw [hzl] at hm
                  simp [hzl, hm]
                obtain ⟨out, ho1, ho2⟩ := fill_ok (w := w) (β := β) (G := ⟨H, L, F⟩) (fun m => some (m * j.size, j.size)) (evP env parts) (parts.map fun p => (p.1, a.eval p.2)) _ _ e1 e2 hz0 hf
                refine ⟨.slice (some ⟨w.heap.size, 0, none⟩) n n, .cells out e', ?_, fun hst => ?_⟩
                · simp only [execOp, ho, Sem.run_bind, Instr.buildSlice, run_underlying ok.und, Result.andThen_ok, ok'.run_size]
                  rw [if_neg (by omega), if_neg (by rw [Nat.mul_eq_zero]; omega)]
                  simp only [Sem.run_bind, hz, Result.andThen_ok, Sem.run_pure]
                  rw [show (parts.toArray.map fun x => match x with | (i, y) => (i, a.eval y)).toList = parts.map fun p => (p.1, a.eval p.2) by simp, ho1]
                  simp [newRow]
                · obtain ⟨u1, u2⟩ := unpL_ok (w := w) (β := β) (G := ⟨H, L, F⟩) cs' hys
                  have hclen : cs'.length = n * j.size := by
                    have := fillA_len _ _ _ hf
                    rw [this, rep_len]; simp [ok'.zlen]
                  have h1 : ag = false → j.size = 1 := by
                    intro hf
                    subst hf
                    exact ok'.one hag
                  have hlen : (chunk ag j.size n ys').length = n := chunk_len ..
                  have hcg := chunk_get ag j.size h1 n ys' (by omega) (fun _ => noAgg_ok hn)
                  have hcell : ∀ (k : Nat) (x : AV), ys'[k]? = some x → ∃ v, out[k]? = some v ∧ RepA w (Free β ⟨H, L, F⟩) x v := by
                    intro k x hk
                    obtain ⟨zz, h3, h4⟩ := u2 k x hk
                    have hlt : k < out.toList.length := by rw [ho2.1]; exact (List.getElem?_eq_some_iff.1 h3).1
                    exact ⟨out.toList[k], by simp at hlt; simp [hlt], h4 _ (ho2.2 k zz _ h3 (List.getElem?_eq_getElem hlt))⟩
                  have hps := RepA.ps (w := w.alloc (.cells out e')) (N := Free β ⟨H, L, F⟩) (chunk ag j.size n ys') ⟨w.heap.size, 0, none⟩ n j.size (fun p q => out.getD (p * j.size + q) undef) (free_new hS) (by simp)
                    (fun r hr => by obtain ⟨p, hp⟩ := List.getElem?_of_mem hr; exact (hcg p r hp).1)
                    (fun p q hp hq => by
                      rw [hlen] at hp
                      have hlt : p * j.size + q < n * j.size := by
                        have : (p + 1) * j.size ≤ n * j.size := Nat.mul_le_mul_right _ (by omega)
                        rw [Nat.add_mul] at this; omega
                      obtain ⟨v, hv, _⟩ := hcell (p * j.size + q) _ (List.getElem?_eq_getElem (by omega))
                      rw [Addr.add_lit, cell_of_row _ _ _ _ _ _ (alloc_new w _)]
                      simp only [Nat.zero_add, Array.getD_eq_getD_getElem?, hv, Option.getD_some])
                    (fun p q r x hp hq => by
                      have hq' : q < j.size := by rw [← (hcg p r hp).1]; exact (List.getElem?_eq_some_iff.1 hq).1
                      rw [(hcg p r hp).2 q hq'] at hq
                      obtain ⟨v, hv, hr⟩ := hcell _ x hq
                      simp only [Array.getD_eq_getD_getElem?, hv, Option.getD_some]
                      exact hr.mono hst.size hst.frame) (by rw [hlen]; exact Nat.le_refl _)
                  rw [hlen] at hps
                  exact .p hps
              · cases hb
            · cases hb
          · cases hb
        · cases hb
      · cases hb
    · cases hb
end
end Go.Awp

/- Contracts and plain laws, several texts joined: RelR, RelT, F18l, Map. -/
import Derived.Test.YtfnpelogfcnanaaGreatDoorGo
import Derived.Test.YtfnpelogfcnanaaGreatDoorM21
import Derived.Test.YtfnpelogfcnanaaGreatDoorM20
import Derived.Test.YtfnpelogfcnanaaGreatDoorM5
import Derived.MapKept
/- There and back again: Rename twice, Link and Unlink. -/
-- @D
namespace Go.Proofs.YtfnpelogfcnanaaGreatDoor
set_option maxRecDepth 20000
open Go.Awp Tr
end Go.Proofs.YtfnpelogfcnanaaGreatDoor

/- There and back again: Link and Unlink. -/
-- @D
namespace Go.Proofs.YtfnpelogfcnanaaGreatDoor
set_option maxRecDepth 20000
open Go.Awp Tr
end Go.Proofs.YtfnpelogfcnanaaGreatDoor

/- flintlaw18: alike. -/
-- @D
namespace Go.Proofs.YtfnpelogfcnanaaGreatDoor
set_option maxRecDepth 20000
open Go.Awp Tr
/-- All that a view shows. -/
theorem range_all {s : VS} {n : Nat} (h : VJ s n) (hn : n ≤ 900000) {m : MF} {par : Int → Int} (R : Rel s.shown.row m par) : Con Tryz.prog 19 [vP, .p (.str []), .p (.str [255])] (vH s) (.p (.ps (kvs s.shown.row))) (vH (s.range [] [255])) [] := by
  have c := (vrange_spec s [] [255] (by have := h.zs; unfold big40; omega) (by have := h.zg; unfold big40; omega)).toPs (.inl rfl)
  rw [(based_row h R.ff).1] at c
  exact c
theorem range_sh (s : VS) (a b : List UInt8) : (s.range a b).shown = s.shown ∧ (s.range a b).writes = s.writes := by unfold VS.range; split <;> exact ⟨rfl, rfl⟩
end Go.Proofs.YtfnpelogfcnanaaGreatDoor

/- Maps of the call's own: made, read, written. No program is named here. -/
-- @D
namespace Go.Proofs.YtfnpelogfcnanaaGreatDoor
set_option maxRecDepth 20000
open Go.Awp Go.RowKit Go.MapKept
/-- A plain value. -/
def pl1 : AV → Option Value
  | .int k n => some (.int k n)
  | .bool b => some (.bool b)
  | .str l => some (.string ⟨l.toArray⟩)
  | _ => none
def pl1L : List AV → Option (List Value)
  | [] => some []
  | x :: r => match pl1 x, pl1L r with
    | some v, some vs => some (v :: vs)
    | _, _ => none
def plV : AV → Option Value
  | .agg xs => match pl1L xs with
    | some vs => some (.agg vs.toArray)
    | none => none
  | x => pl1 x
def plD (x : AV) : Value := (plV x).getD undef
def plOk (x : AV) : Bool := (plV x).isSome
section
variable {w : World} {N : Nat → Prop}
theorem pl1_rep {x : AV} {u : Value} (h : pl1 x = some u) : RepA w N x u := by
  cases x <;> simp [pl1] at h <;> subst h
  · exact .int ..
  · exact .bool ..
  · exact .str ..
theorem pl1_inv {x : AV} {u v : Value} (h : pl1 x = some u) (hr : RepA w N x v) : v = u := by
  cases x <;> simp [pl1] at h <;> subst h <;> cases hr <;> rfl
theorem pl1L_len : ∀ {xs : List AV} {vs : List Value}, pl1L xs = some vs → vs.length = xs.length ∧ ∀ (i : Nat) (x : AV) (v : Value), xs[i]? = some x → vs[i]? = some v → pl1 x = some v
  | [], vs, h => by simp [pl1L] at h; subst h; simp
  | x :: r, vs, h => by
    simp only [pl1L] at h
    split at h
    · rename_i v ws h1 h2
      obtain rfl := Option.some.inj h
      obtain ⟨a, b⟩ := pl1L_len h2
      refine ⟨by simp [a], fun i y u hy hu => ?_⟩
      cases i with
      | zero => simp at hy hu; subst hy hu; exact h1
      | succ i => exact b i y u (by simpa using hy) (by simpa using hu)
    · cases h
theorem plV_rep {x : AV} {u : Value} (h : plV x = some u) : RepA w N x u := by
  cases x with
  | agg xs =>
    simp only [plV] at h
    split at h
    · rename_i vs hv
      obtain rfl := Option.some.inj h
      obtain ⟨a, b⟩ := pl1L_len hv
      exact .agg xs vs a fun i x v hx hv => pl1_rep (b i x v hx hv)
    · cases h
  | _ => exact pl1_rep h
theorem plV_inv {x : AV} {u v : Value} (h : plV x = some u) (hr : RepA w N x v) : v = u := by
  cases x with
  | agg xs =>
    simp only [plV] at h
    split at h
    · rename_i vs hv
      obtain rfl := Option.some.inj h
      obtain ⟨a, b⟩ := pl1L_len hv
      cases hr with | agg _ us hl hr =>
      have e : us = vs := by
        refine List.ext_getElem? fun i => ?_
        by_cases hi : i < xs.length
        · have h1 := List.getElem?_eq_getElem (l := us) (i := i) (by omega)
          have h2 := List.getElem?_eq_getElem (l := vs) (i := i) (by omega)
          have h3 := List.getElem?_eq_getElem (l := xs) (i := i) hi
          rw [h1, h2, pl1_inv (b i _ _ h3 h2) (hr i _ _ h3 h1)]
        · rw [List.getElem?_eq_none (by omega), List.getElem?_eq_none (by omega)]
      rw [e]
    · cases h
  | _ => simp only [plV] at h; exact pl1_inv h hr
theorem plD_rep {x : AV} (h : plOk x = true) : RepA w N x (plD x) := by
  unfold plOk at h
  unfold plD
  cases hp : plV x with
  | none => rw [hp] at h; cases h
  | some u => exact plV_rep hp
theorem plD_inv {x : AV} {v : Value} (h : plOk x = true) (hr : RepA w N x v) : v = plD x := by
  unfold plOk at h
  unfold plD
  cases hp : plV x with
  | none => rw [hp] at h; cases h
  | some u => exact plV_inv hp hr
end
/-- The keys' type: its values, one for each key. -/
structure KeyTy (P : Program) (κ : Type) (kt : TypeId) (ka : κ → AV) where
  d : TypeDesc
  und : P.underlying kt = some d
  pl : ∀ k, plOk (ka k) = true
  isK : ∀ k, IsKey d (plD (ka k))
  inj : ∀ k k', plD (ka k) = plD (ka k') → k = k'
section
variable {κ : Type} (ka : κ → AV)
def mpE : List (κ × AV) → Nat → List MapEntry
  | [], _ => []
  | r :: rs, i => ⟨plD (ka r.1), plD r.2, i⟩ :: mpE rs (i + 1)
/-- A map in memory, its rows in the order in which they came. -/
def mpO (rows : List (κ × AV)) : AObj := .raw (.map (mpE ka rows 0).toArray rows.length)
theorem mpE_get : ∀ (rows : List (κ × AV)) (b i : Nat), (mpE ka rows b)[i]? = (rows[i]?).map fun r => ⟨plD (ka r.1), plD r.2, b + i⟩
  | [], b, i => rfl
  | r :: rs, b, i => by
    cases i with
    | zero => rfl
    | succ i =>
      simp only [mpE, List.getElem?_cons_succ]
      rw [mpE_get rs (b + 1) i]
      congr 1
      funext r
      rw [show b + 1 + i = b + (i + 1) by omega]
theorem mpE_len : ∀ (rows : List (κ × AV)) (b : Nat), (mpE ka rows b).length = rows.length
  | [], _ => rfl
  | r :: rs, b => by simp [mpE, mpE_len rs]
variable [DecidableEq κ]
def look (k : κ) : List (κ × AV) → Nat → Option (Nat × AV)
  | [], _ => none
  | r :: rs, j => if r.1 = k then some (j, r.2) else look k rs (j + 1)
def mget (k : κ) (rows : List (κ × AV)) : Option AV := (look k rows 0).map (·.2)
def mput (k : κ) (v : AV) (rows : List (κ × AV)) : List (κ × AV) := match look k rows 0 with
  | some (i, _) => rows.set i (k, v)
  | none => rows ++ [(k, v)]
theorem look_some {k : κ} : ∀ {rows : List (κ × AV)} {j i : Nat} {v : AV}, look k rows j = some (i, v) → j ≤ i ∧ rows[i - j]? = some (k, v)
  | [], j, i, v, h => by simp [look] at h
  | r :: rs, j, i, v, h => by
    simp only [look] at h
    split at h
    · rename_i e
      obtain ⟨rfl, rfl⟩ := Prod.mk.inj (Option.some.inj h)
      subst e
      exact ⟨Nat.le_refl _, by rw [Nat.sub_self]; rfl⟩
    · obtain ⟨h1, h2⟩ := look_some h
      exact ⟨by omega, by rw [show i - j = (i - (j + 1)) + 1 by omega, List.getElem?_cons_succ]; exact h2⟩
theorem look_app {k : κ} {v : AV} : ∀ {rows : List (κ × AV)} {j : Nat} (k' : κ), look k' (rows ++ [(k, v)]) j = (look k' rows j).or (if k = k' then some (j + rows.length, v) else none)
  | [], j, k' => by simp [look]
  | r :: rs, j, k' => by
    simp only [List.cons_append, look]
    split
    · simp
    · rw [look_app k']
      congr 1
      simp only [List.length_cons]
      rw [show j + 1 + rs.length = j + (rs.length + 1) by omega]
theorem look_set {k : κ} {v : AV} : ∀ {rows : List (κ × AV)} {j i : Nat} {u : AV} (k' : κ), look k rows j = some (i, u) → look k' (rows.set (i - j) (k, v)) j = if k' = k then some (i, v) else look k' rows j
  | [], j, i, u, k', h => by simp [look] at h
  | r :: rs, j, i, u, k', h => by
    simp only [look] at h
    split at h
    · rename_i e
      obtain ⟨rfl, rfl⟩ := Prod.mk.inj (Option.some.inj h)
      rw [Nat.sub_self, List.set_cons_zero]
      simp only [look]
      by_cases e2 : k = k'
      · rw [if_pos e2, if_pos e2.symm]
      · rw [if_neg e2, if_neg (Ne.symm e2), if_neg (by rw [e]; exact e2)]
    · rename_i e
      have h1 := (look_some h).1
      rw [show i - j = (i - (j + 1)) + 1 by omega, List.set_cons_succ]
      simp only [look]
      rw [look_set k' h]
      by_cases e2 : r.1 = k'
      · rw [if_pos e2, if_neg (by rw [← e2]; exact e), if_pos e2]
      · rw [if_neg e2, if_neg e2]
theorem mget_mput {k k' : κ} {v : AV} {rows : List (κ × AV)} : mget k' (mput k v rows) = if k' = k then some v else mget k' rows := by
  unfold mput mget
  cases h : look k rows 0 with
  | some p =>
    obtain ⟨i, u⟩ := p
    have := look_set (v := v) k' h
    rw [Nat.sub_zero] at this
    dsimp only
    rw [this]
    split <;> rfl
  | none =>
    dsimp only
    rw [look_app]
    by_cases e : k = k'
    · subst e
      rw [h]; simp
    · rw [if_neg e, if_neg (Ne.symm e), Option.or_none]
theorem mput_mem {k : κ} {v : AV} {rows : List (κ × AV)} {r : κ × AV} (h : r ∈ mput k v rows) : r = (k, v) ∨ r ∈ rows := by
  unfold mput at h
  split at h
  · exact (List.mem_or_eq_of_mem_set h).symm
  · rcases List.mem_append.1 h with h | h
    · exact .inr h
    · exact .inl (by simpa using h)
end
section
variable {P : Program} {T : Tab} {env : Env} {H L : List AObj} {o : Oper} {x : TV} {κ : Type} {ka : κ → AV}
theorem findNow_look [DecidableEq κ] {kt : TypeId} (K : KeyTy P κ kt ka) (k : κ) : ∀ (rows : List (κ × AV)) (b j : Nat), Instr.findNow K.d (plD (ka k)) (mpE ka rows b) j = some ((look k rows j).map fun p => (p.1, plD p.2))
  | [], b, j => rfl
  | r :: rs, b, j => by
    obtain ⟨c, hc, hiff⟩ := sameNow_of_keys (K.isK k) (K.isK r.1)
    simp only [mpE, Instr.findNow, hc, look]
    cases c with
    | true =>
      have e : k = r.1 := K.inj _ _ (hiff.1 rfl)
      rw [if_pos e.symm]; rfl
    | false =>
      have e : r.1 ≠ k := fun e => by
        subst e
        have := hiff.2 rfl
        cases this
      rw [if_neg e]
      exact findNow_look K k rs (b + 1) (j + 1)
/-- 'make(map[..]..)'. -/
theorem opr_makeMap {t : TypeId} (ka : κ → AV) (ho : o.op = .makeMap t none) : OpR P o env H L (.ad (.l L.length) 0) H (L ++ [mpO ka []]) :=
  opr_new fun F w β a hS he => ⟨.map (some w.heap.size), .map #[] 0, by simp only [execOp, ho]; rfl, fun β' hβ hst => ⟨alloc_new .., .ad _ _ _ rfl ⟨mpO ka [], by simp [Hp.get]⟩ fun o2 h2 _ => by
    obtain rfl : mpO ka [] = o2 := by simpa [Hp.get] using h2
    rw [hβ]; simp [adV, mpO, AObj.isMap]⟩⟩
theorem map_at {w : World} {β : Hd → Nat} {F : Nat → Prop} {h : Hd} {rows : List (κ × AV)} {v : Value} (hS : Sim w β ⟨H, L, F⟩) (hi : (⟨H, L, F⟩ : Hp).get h = some (mpO ka rows)) (hr : RepT w β ⟨H, L, F⟩ (.ad h 0) v) :
    v = .map (some (β h)) ∧ w.heap[β h]? = some (.map (mpE ka rows 0).toArray rows.length) := by
  cases hr with | ad _ _ _ _ _ hv =>
  exact ⟨hv _ hi rfl, hS.objs h _ hi⟩
theorem key_at {kt : TypeId} (K : KeyTy P κ kt ka) {w : World} {β : Hd → Nat} {G : Hp} {k : κ} {v : Value} (hr : RepT w β G (.p (ka k)) v) : v = plD (ka k) := by
  cases hr with | p h => exact plD_inv (K.pl k) h
/-- 'm[k]'. -/
theorem opr_lookup [DecidableEq κ] {kt t e : TypeId} (K : KeyTy P κ kt ka) {y z : Operand} {h : Hd} {rows : List (κ × AV)} {k : κ} {x0 : AV} (ho : o.op = .lookup t y z false) (ht : P.underlying t = some (.map kt e)) (hz0 : (P.info? e).bind (·.zero) = some (plD x0)) (h0 : plOk x0 = true) (hy : evA env y = .ad h 0) (hi : ∀ F, (⟨H, L, F⟩ : Hp).get h = some (mpO ka rows))
    (hz : evA env z = .p (ka k)) (hv : ∀ r ∈ rows, plOk r.2 = true) : OpR P o env H L (.p ((mget k rows).getD x0)) H L :=
  opr_pure fun F w β a hS he => by
    have h1 := evA_ok he y
    have h2 := evA_ok he z
    rw [hy] at h1
    rw [hz] at h2
    obtain ⟨e1, hb⟩ := map_at hS (hi F) h1
    have e2 := key_at K h2
    have hf := findNow_look K k rows 0 0
    have hzr : (zeroValue e).run P w = .ok (plD x0) w := by
      cases hq : P.info? e with
      | none => rw [hq] at hz0; cases hz0
      | some inf =>
        rw [hq] at hz0
        have hz1 : inf.zero = some (plD x0) := hz0
        simp [zeroValue, typeInfo, hq, hz1]
    refine ⟨plD ((mget k rows).getD x0), ?_, .p (plD_rep ?_)⟩
    · simp only [execOp, ho, e1, e2, Instr.lookup, Sem.run_bind, run_underlying ht, Result.andThen_ok, Go.MapKept.run_getObj_map hb, Sem.run_pure, Go.MapKept.run_checkKey K.und (K.isK k)]
      rw [Go.MapKept.run_findKey K.und hf]
      unfold mget
      cases hl : look k rows 0 with
      | none => simp [hzr]
      | some p => simp
    · unfold mget
      cases hl : look k rows 0 with
      | none => exact h0
      | some p => exact hv _ (List.mem_of_getElem? (look_some hl).2)
theorem mpE_push (rows : List (κ × AV)) (k : κ) (v : AV) : (mpE ka rows 0).toArray.push ⟨plD (ka k), plD v, rows.length⟩ = (mpE ka (rows ++ [(k, v)]) 0).toArray := by
  rw [List.push_toArray]
  congr 1
  refine List.ext_getElem? fun i => ?_
  rw [mpE_get]
  rcases Nat.lt_trichotomy i rows.length with h | h | h
  · rw [List.getElem?_append_left (by rw [mpE_len]; exact h), List.getElem?_append_left h, mpE_get]
  · subst h
    rw [List.getElem?_append_right (by rw [mpE_len]; exact Nat.le_refl _), List.getElem?_append_right (Nat.le_refl _), mpE_len]
    simp
  · rw [List.getElem?_eq_none (by simp [mpE_len]; omega), List.getElem?_eq_none (by simp; omega)]
    rfl
theorem mpE_set (rows : List (κ × AV)) (i : Nat) (k : κ) (v : AV) (f : MapEntry → MapEntry) (hf : ∀ r b, rows[i]? = some r → f ⟨plD (ka r.1), plD r.2, b⟩ = ⟨plD (ka k), plD v, b⟩) : (mpE ka rows 0).toArray.modify i f = (mpE ka (rows.set i (k, v)) 0).toArray := by
  apply Array.toList_inj.1
  rw [Array.toList_modify]
  refine List.ext_getElem? fun j => ?_
  rw [List.getElem?_modify, mpE_get, mpE_get, List.getElem?_set]
  by_cases e : i = j
  · subst e
    cases hr : rows[i]? with
    | none =>
      have := List.getElem?_eq_none_iff.1 hr
      simp [Nat.not_lt.2 this]
    | some r =>
      have := (List.getElem?_eq_some_iff.1 hr).1
      simp [this, hf r _ hr]
  · simp [e]
theorem set_other {w : World} {r : Nat} {ob : Obj} : ∀ b, b ≠ r → ({ w with heap := w.heap.setIfInBounds r ob } : World).heap[b]? = w.heap[b]? := fun b hb => by
  simp [Array.getElem?_setIfInBounds_ne (Ne.symm hb)]
theorem set_here {w : World} {r : Nat} {ob ob' : Obj} (h : w.heap[r]? = some ob') : ({ w with heap := w.heap.setIfInBounds r ob } : World).heap[r]? = some ob := by
  have hlt : r < w.heap.size := (Array.getElem?_eq_some_iff.1 h).1
  simp [hlt]
/-- What 'm[k] = v' makes in memory. -/
theorem run_mapUpdate [DecidableEq κ] {kt t e : TypeId} (K : KeyTy P κ kt ka) (ht : P.underlying t = some (.map kt e)) {w : World} {r : Nat} {rows : List (κ × AV)} (hb : w.heap[r]? = some (.map (mpE ka rows 0).toArray rows.length)) (k : κ) (x : AV) :
    (Instr.mapUpdate t (.map (some r)) (plD (ka k)) (plD x)).run P w = .ok () { w with heap := w.heap.setIfInBounds r (.map (mpE ka (mput k x rows) 0).toArray (mput k x rows).length) } := by
  have hf := findNow_look K k rows 0 0
  simp only [Instr.mapUpdate, Sem.run_bind, run_underlying ht, Result.andThen_ok, Go.MapKept.run_getObj_map hb, Sem.run_pure, Go.MapKept.run_checkKey K.und (K.isK k)]
  rw [Go.MapKept.run_findKey K.und hf]
  unfold mput
  cases hl : look k rows 0 with
  | none =>
    simp only [Option.map_none, Result.andThen_ok]
    rw [Go.MapKept.run_setObj_map _ hb, mpE_push, List.length_append]
    rfl
  | some p =>
    obtain ⟨i, u⟩ := p
    have h1 := (look_some hl).2
    rw [Nat.sub_zero] at h1
    have h2 : (mpE ka rows 0).toArray[i]? = some ⟨plD (ka k), plD u, 0 + i⟩ := by rw [List.getElem?_toArray, mpE_get, h1]; rfl
    simp only [Option.map_some, Result.andThen_ok, Sem.run_bind, h2, Option.getD_some, Go.MapKept.run_keyThatStays (K.isK k)]
    rw [Go.MapKept.run_setObj_map _ hb, mpE_set (ka := ka) rows i k x _ (fun _ _ _ => rfl), List.length_set]
/-- 'm[k] = v'. -/
theorem opr_mapUpdate [DecidableEq κ] {kt t e : TypeId} (K : KeyTy P κ kt ka) {m y z : Operand} {i : Nat} {rows : List (κ × AV)} {k : κ} {x : AV} (ho : o.op = .mapUpdate t m y z) (ht : P.underlying t = some (.map kt e)) (hm : evA env m = .ad (.l i) 0) (hi : L[i]? = some (mpO ka rows)) (hy : evA env y = .p (ka k))
    (hz : unp (evA env z) = some x) (hx : plOk x = true) : OpR P o env H L (.p .top) H (L.set i (mpO ka (mput k x rows))) :=
  opr_set hi rfl fun F w β a hS he => by
    have h1 := evA_ok he m
    have h2 := evA_ok he y
    have h3 := unp_ok _ hz (evA_ok he z)
    rw [hm] at h1
    rw [hy] at h2
    obtain ⟨e1, hb⟩ := map_at (h := .l i) hS hi h1
    have e2 := key_at K h2
    have e3 := plD_inv hx h3
    have hrun := run_mapUpdate K ht hb k x
    refine ⟨undef, { w with heap := w.heap.setIfInBounds (β (.l i)) (.map (mpE ka (mput k x rows) 0).toArray (mput k x rows).length) }, .inr ⟨?_, rfl⟩, rfl, rfl, rfl, by simp, fun b hb => set_other b hb, ⟨rfl, rfl⟩, fun hst => ⟨set_here hb, .p (.top _)⟩⟩
    simp only [execOp, ho, e1, e2, e3, Sem.run_bind]
    rw [hrun]
    rfl
end
def u32Key {P : Program} {kt : TypeId} (h : P.underlying kt = some (.int .u32)) : KeyTy P Int kt (.int .u32) :=
  ⟨.int .u32, h, fun _ => rfl, fun _ => rfl, fun k k' h => by
    have h : Value.int .u32 k = Value.int .u32 k' := h
    simpa using h⟩
end Go.Proofs.YtfnpelogfcnanaaGreatDoor

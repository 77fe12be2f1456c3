import Derived.Test.YtdkegmmigongoaaGreatDoorM6
import Derived.MapKept
import Derived.Test.YtdkegmmigongoaaGreatDoorGo
import Derived.Test.YtdkegmmigongoaaGreatDoorM22
namespace Go.Proofs.YtdkegmmigongoaaGreatDoor
set_option maxRecDepth 20000
open Go.Awp Go.RowKit Go.MapKept
def pl1 : AV → Option Value
 | .int k n => some (.int k n)
 | .bool b => some (.bool b)
 | .str l => some (.string ⟨l.toArray⟩)
 | _ => none
def pl1L : List AV → Option (List Value)
 | [] => some []
 | x :: r => match pl1 x, pl1L r with
  | some v, some vs => some (v :: vs)
  | _, _ => none
def plV : AV → Option Value
 | .agg xs => match pl1L xs with
  | some vs => some (.agg vs.toArray)
  | none => none
 | x => pl1 x
def plD (x : AV) : Value := (plV x).getD undef
def plOk (x : AV) : Bool := (plV x).isSome
section
variable {w : World} {N : Nat → Prop}
theorem pl1_rep {x : AV} {u : Value} (h : pl1 x = some u) : RepA w N x u := by
 cases x <;> simp [pl1] at h <;> subst h
 ·exact .int ..
 ·exact .bool ..
 ·exact .str ..
theorem pl1_inv {x : AV} {u v : Value} (h : pl1 x = some u) (hr : RepA w N x v) : v = u := by
 cases x <;> simp [pl1] at h <;> subst h <;> cases hr <;> rfl
theorem pl1L_len : ∀ {xs : List AV} {vs : List Value}, pl1L xs = some vs → vs.length = xs.length ∧ ∀ (i : Nat) (x : AV) (v : Value), xs[i]? = some x → vs[i]? = some v → pl1 x = some v
 | [], vs, h => by simp [pl1L] at h; subst h; simp
 | x :: r, vs, h => by
  simp only [pl1L] at h
  split at h
  ·rename_i v ws h1 h2
   obtain rfl := Option.some.inj h
   obtain ⟨a, b⟩ := pl1L_len h2
   refine ⟨by simp [a], fun i y u hy hu => ?_⟩
   cases i with
   | zero => simp at hy hu; subst hy hu; exact h1
   | succ i => exact b i y u (by simpa using hy) (by simpa using hu)
  ·cases h
theorem plV_rep {x : AV} {u : Value} (h : plV x = some u) : RepA w N x u := by
 cases x with
 | agg xs =>
  simp only [plV] at h
  split at h
  ·rename_i vs hv
   obtain rfl := Option.some.inj h
   obtain ⟨a, b⟩ := pl1L_len hv
   exact .agg xs vs a fun i x v hx hv => pl1_rep (b i x v hx hv)
  ·cases h
 | _ => exact pl1_rep h
theorem plV_inv {x : AV} {u v : Value} (h : plV x = some u) (hr : RepA w N x v) : v = u := by
 cases x with
 | agg xs =>
  simp only [plV] at h
  split at h
  ·rename_i vs hv
   obtain rfl := Option.some.inj h
   obtain ⟨a, b⟩ := pl1L_len hv
   cases hr with | agg _ us hl hr =>
   have e : us = vs := by
    refine List.ext_getElem? fun i => ?_
    by_cases hi : i < xs.length
    ·have h1 := List.getElem?_eq_getElem (l := us) (i := i) (by omega)
     have h2 := List.getElem?_eq_getElem (l := vs) (i := i) (by omega)
     have h3 := List.getElem?_eq_getElem (l := xs) (i := i) hi
     rw [h1, h2, pl1_inv (b i _ _ h3 h2) (hr i _ _ h3 h1)]
    ·rw [List.getElem?_eq_none (by omega), List.getElem?_eq_none (by omega)]
   rw [e]
  ·cases h
 | _ => simp only [plV] at h; exact pl1_inv h hr
theorem plD_rep {x : AV} (h : plOk x = true) : RepA w N x (plD x) := by
 unfold plOk at h
 unfold plD
 cases hp : plV x with
 | none => rw [hp] at h; cases h
 | some u => exact plV_rep hp
theorem plD_inv {x : AV} {v : Value} (h : plOk x = true) (hr : RepA w N x v) : v = plD x := by
 unfold plOk at h
 unfold plD
 cases hp : plV x with
 | none => rw [hp] at h; cases h
 | some u => exact plV_inv hp hr
end
structure KeyTy (P : Program) (κ : Type) (kt : TypeId) (ka : κ → AV) where
 d : TypeDesc
 und : P.underlying kt = some d
 pl : ∀ k, plOk (ka k) = true
 isK : ∀ k, IsKey d (plD (ka k))
 inj : ∀ k k', plD (ka k) = plD (ka k') → k = k'
section
variable {κ : Type} (ka : κ → AV)
def mpE : List (κ × AV) → Nat → List MapEntry
 | [], _ => []
 | r :: rs, i => ⟨plD (ka r.1), plD r.2, i⟩ :: mpE rs (i + 1)
def mpO (rows : List (κ × AV)) : AObj := .raw (.map (mpE ka rows 0).toArray rows.length)
theorem mpE_get : ∀ (rows : List (κ × AV)) (b i : Nat), (mpE ka rows b)[i]? = (rows[i]?).map fun r => ⟨plD (ka r.1), plD r.2, b + i⟩
 | [], b, i => rfl
 | r :: rs, b, i => by
  cases i with
  | zero => rfl
  | succ i =>
   simp only [mpE, List.getElem?_cons_succ]
   rw [mpE_get rs (b + 1) i]
   congr 1
   funext r
   rw [show b + 1 + i = b + (i + 1) by omega]
theorem mpE_len : ∀ (rows : List (κ × AV)) (b : Nat), (mpE ka rows b).length = rows.length
 | [], _ => rfl
 | r :: rs, b => by simp [mpE, mpE_len rs]
variable [DecidableEq κ]
def look (k : κ) : List (κ × AV) → Nat → Option (Nat × AV)
 | [], _ => none
 | r :: rs, j => if r.1 = k then some (j, r.2) else look k rs (j + 1)
def mget (k : κ) (rows : List (κ × AV)) : Option AV := (look k rows 0).map (·.2)
def mput (k : κ) (v : AV) (rows : List (κ × AV)) : List (κ × AV) := match look k rows 0 with
 | some (i, _) => rows.set i (k, v)
 | none => rows ++ [(k, v)]
theorem look_some {k : κ} : ∀ {rows : List (κ × AV)} {j i : Nat} {v : AV}, look k rows j = some (i, v) → j ≤ i ∧ rows[i - j]? = some (k, v)
 | [], j, i, v, h => by simp [look] at h
 | r :: rs, j, i, v, h => by
  simp only [look] at h
  split at h
  ·rename_i e
   obtain ⟨rfl, rfl⟩ := Prod.mk.inj (Option.some.inj h)
   subst e
   exact ⟨Nat.le_refl _, by rw [Nat.sub_self]; rfl⟩
  ·obtain ⟨h1, h2⟩ := look_some h
   exact ⟨by omega, by rw [show i - j = (i - (j + 1)) + 1 by omega, List.getElem?_cons_succ]; exact h2⟩
theorem look_app {k : κ} {v : AV} : ∀ {rows : List (κ × AV)} {j : Nat} (k' : κ), look k' (rows ++ [(k, v)]) j = (look k' rows j).or (if k = k' then some (j + rows.length, v) else none)
 | [], j, k' => by simp [look]
 | r :: rs, j, k' => by
  simp only [List.cons_append, look]
  split
  ·simp
  ·rw [look_app k']
   congr 1
   simp only [List.length_cons]
   rw [show j + 1 + rs.length = j + (rs.length + 1) by omega]
theorem look_set {k : κ} {v : AV} : ∀ {rows : List (κ × AV)} {j i : Nat} {u : AV} (k' : κ), look k rows j = some (i, u) → look k' (rows.set (i - j) (k, v)) j = if k' = k then some (i, v) else look k' rows j
 | [], j, i, u, k', h => by simp [look] at h
 | r :: rs, j, i, u, k', h => by
  simp only [look] at h
  split at h
  ·rename_i e
   obtain ⟨rfl, rfl⟩ := Prod.mk.inj (Option.some.inj h)
   rw [Nat.sub_self, List.set_cons_zero]
   simp only [look]
   by_cases e2 : k = k'
   ·rw [if_pos e2, if_pos e2.symm]
   ·rw [if_neg e2, if_neg (Ne.symm e2), if_neg (by rw [e]; exact e2)]
  ·rename_i e
   have h1 := (look_some h).1
   rw [show i - j = (i - (j + 1)) + 1 by omega, List.set_cons_succ]
   simp only [look]
   rw [look_set k' h]
   by_cases e2 : r.1 = k'
   ·rw [if_pos e2, if_neg (by rw [← e2]; exact e), if_pos e2]
   ·rw [if_neg e2, if_neg e2]
theorem mget_mput {k k' : κ} {v : AV} {rows : List (κ × AV)} : mget k' (mput k v rows) = if k' = k then some v else mget k' rows := by
 unfold mput mget
 cases h : look k rows 0 with
 | some p =>
  obtain ⟨i, u⟩ := p
  have := look_set (v := v) k' h
  rw [Nat.sub_zero] at this
  dsimp only
  rw [this]
  split <;> rfl
 | none =>
  dsimp only
  rw [look_app]
  by_cases e : k = k'
  ·subst e
   rw [h]; simp
  ·rw [if_neg e, if_neg (Ne.symm e), Option.or_none]
theorem mput_mem {k : κ} {v : AV} {rows : List (κ × AV)} {r : κ × AV} (h : r ∈ mput k v rows) : r = (k, v) ∨ r ∈ rows := by
 unfold mput at h
 split at h
 ·exact (List.mem_or_eq_of_mem_set h).symm
 ·rcases List.mem_append.1 h with h | h
  ·exact .inr h
  ·exact .inl (by simpa using h)
end
section
variable {P : Program} {T : Tab} {env : Env} {H L : List AObj} {o : Oper} {x : TV} {κ : Type} {ka : κ → AV}
theorem findNow_look [DecidableEq κ] {kt : TypeId} (K : KeyTy P κ kt ka) (k : κ) : ∀ (rows : List (κ × AV)) (b j : Nat), Instr.findNow K.d (plD (ka k)) (mpE ka rows b) j = some ((look k rows j).map fun p => (p.1, plD p.2))
 | [], b, j => rfl
 | r :: rs, b, j => by
  obtain ⟨c, hc, hiff⟩ := sameNow_of_keys (K.isK k) (K.isK r.1)
  simp only [mpE, Instr.findNow, hc, look]
  cases c with
  | true =>
   have e : k = r.1 := K.inj _ _ (hiff.1 rfl)
   rw [if_pos e.symm]; rfl
  | false =>
   have e : r.1 ≠ k := fun e => by
    subst e
    have := hiff.2 rfl
    cases this
   rw [if_neg e]
   exact findNow_look K k rs (b + 1) (j + 1)
theorem opr_makeMap {t : TypeId} (ka : κ → AV) (ho : o.op = .makeMap t none) : OpR P o env H L (.ad (.l L.length) 0) H (L ++ [mpO ka []]) :=
 opr_new fun F w β a hS he => ⟨.map (some w.heap.size), .map #[] 0, by simp only [execOp, ho]; rfl, fun β' hβ hst => ⟨alloc_new .., .ad _ _ _ rfl ⟨mpO ka [], by simp [Hp.get]⟩ fun o2 h2 _ => by
  obtain rfl : mpO ka [] = o2 := by simpa [Hp.get] using h2
  rw [hβ]; simp [adV, mpO, AObj.isMap]⟩⟩
theorem map_at {w : World} {β : Hd → Nat} {F : Nat → Prop} {h : Hd} {rows : List (κ × AV)} {v : Value} (hS : Sim w β ⟨H, L, F⟩) (hi : (⟨H, L, F⟩ : Hp).get h = some (mpO ka rows)) (hr : RepT w β ⟨H, L, F⟩ (.ad h 0) v) :
  v = .map (some (β h)) ∧ w.heap[β h]? = some (.map (mpE ka rows 0).toArray rows.length) := by
 cases hr with | ad _ _ _ _ _ hv =>
 exact ⟨hv _ hi rfl, hS.objs h _ hi⟩
theorem key_at {kt : TypeId} (K : KeyTy P κ kt ka) {w : World} {β : Hd → Nat} {G : Hp} {k : κ} {v : Value} (hr : RepT w β G (.p (ka k)) v) : v = plD (ka k) := by
 cases hr with | p h => exact plD_inv (K.pl k) h
theorem opr_lookup [DecidableEq κ] {kt t e : TypeId} (K : KeyTy P κ kt ka) {y z : Operand} {h : Hd} {rows : List (κ × AV)} {k : κ} {x0 : AV} (ho : o.op = .lookup t y z false) (ht : P.underlying t = some (.map kt e)) (hz0 : (P.info? e).bind (·.zero) = some (plD x0)) (h0 : plOk x0 = true) (hy : evA env y = .ad h 0) (hi : ∀ F, (⟨H, L, F⟩ : Hp).get h = some (mpO ka rows))
  (hz : evA env z = .p (ka k)) (hv : ∀ r ∈ rows, plOk r.2 = true) : OpR P o env H L (.p ((mget k rows).getD x0)) H L :=
 opr_pure fun F w β a hS he => by
  have h1 := evA_ok he y
  have h2 := evA_ok he z
  rw [hy] at h1
  rw [hz] at h2
  obtain ⟨e1, hb⟩ := map_at hS (hi F) h1
  have e2 := key_at K h2
  have hf := findNow_look K k rows 0 0
  have hzr : (zeroValue e).run P w = .ok (plD x0) w := by
   cases hq : P.info? e with
   | none => rw [hq] at hz0; cases hz0
   | some inf =>
    rw [hq] at hz0
    have hz1 : inf.zero = some (plD x0) := hz0
    simp [zeroValue, typeInfo, hq, hz1]
  refine ⟨plD ((mget k rows).getD x0), ?_, .p (plD_rep ?_)⟩
  ·simp only [execOp, ho, e1, e2, Instr.lookup, Sem.run_bind, run_underlying ht, Result.andThen_ok, Go.MapKept.run_getObj_map hb, Sem.run_pure, Go.MapKept.run_checkKey K.und (K.isK k)]
   rw [Go.MapKept.run_findKey K.und hf]
   unfold mget
   cases hl : look k rows 0 with
   | none => simp [hzr]
   | some p => simp
  ·unfold mget
   cases hl : look k rows 0 with
   | none => exact h0
   | some p => exact hv _ (List.mem_of_getElem? (look_some hl).2)
theorem mpE_push (rows : List (κ × AV)) (k : κ) (v : AV) : (mpE ka rows 0).toArray.push ⟨plD (ka k), plD v, rows.length⟩ = (mpE ka (rows ++ [(k, v)]) 0).toArray := by
 rw [List.push_toArray]
 congr 1
 refine List.ext_getElem? fun i => ?_
 rw [mpE_get]
 rcases Nat.lt_trichotomy i rows.length with h | h | h
 ·rw [List.getElem?_append_left (by rw [mpE_len]; exact h), List.getElem?_append_left h, mpE_get]
 ·subst h
  rw [List.getElem?_append_right (by rw [mpE_len]; exact Nat.le_refl _), List.getElem?_append_right (Nat.le_refl _), mpE_len]
  simp
 ·rw [List.getElem?_eq_none (by simp [mpE_len]; omega), List.getElem?_eq_none (by simp; omega)]
  rfl
theorem mpE_set (rows : List (κ × AV)) (i : Nat) (k : κ) (v : AV) (f : MapEntry → MapEntry) (hf : ∀ r b, rows[i]? = some r → f ⟨plD (ka r.1), plD r.2, b⟩ = ⟨plD (ka k), plD v, b⟩) : (mpE ka rows 0).toArray.modify i f = (mpE ka (rows.set i (k, v)) 0).toArray := by
 apply Array.toList_inj.1
 rw [Array.toList_modify]
 refine List.ext_getElem? fun j => ?_
 rw [List.getElem?_modify, mpE_get, mpE_get, List.getElem?_set]
 by_cases e : i = j
 ·subst e
  cases hr : rows[i]? with
  | none =>
   have := List.getElem?_eq_none_iff.1 hr
   simp [Nat.not_lt.2 this]
  | some r =>
   have := (List.getElem?_eq_some_iff.1 hr).1
   simp [this, hf r _ hr]
 ·simp [e]
theorem set_other {w : World} {r : Nat} {ob : Obj} : ∀ b, b ≠ r → ({ w with heap := w.heap.setIfInBounds r ob } : World).heap[b]? = w.heap[b]? := fun b hb => by
 simp [Array.getElem?_setIfInBounds_ne (Ne.symm hb)]
theorem set_here {w : World} {r : Nat} {ob ob' : Obj} (h : w.heap[r]? = some ob') : ({ w with heap := w.heap.setIfInBounds r ob } : World).heap[r]? = some ob := by
 have hlt : r < w.heap.size := (Array.getElem?_eq_some_iff.1 h).1
 simp [hlt]
theorem run_mapUpdate [DecidableEq κ] {kt t e : TypeId} (K : KeyTy P κ kt ka) (ht : P.underlying t = some (.map kt e)) {w : World} {r : Nat} {rows : List (κ × AV)} (hb : w.heap[r]? = some (.map (mpE ka rows 0).toArray rows.length)) (k : κ) (x : AV) :
  (Instr.mapUpdate t (.map (some r)) (plD (ka k)) (plD x)).run P w = .ok () { w with heap := w.heap.setIfInBounds r (.map (mpE ka (mput k x rows) 0).toArray (mput k x rows).length) } := by
 have hf := findNow_look K k rows 0 0
 simp only [Instr.mapUpdate, Sem.run_bind, run_underlying ht, Result.andThen_ok, Go.MapKept.run_getObj_map hb, Sem.run_pure, Go.MapKept.run_checkKey K.und (K.isK k)]
 rw [Go.MapKept.run_findKey K.und hf]
 unfold mput
 cases hl : look k rows 0 with
 | none =>
  simp only [Option.map_none, Result.andThen_ok]
  rw [Go.MapKept.run_setObj_map _ hb, mpE_push, List.length_append]
  rfl
 | some p =>
  obtain ⟨i, u⟩ := p
  have h1 := (look_some hl).2
  rw [Nat.sub_zero] at h1
  have h2 : (mpE ka rows 0).toArray[i]? = some ⟨plD (ka k), plD u, 0 + i⟩ := by rw [List.getElem?_toArray, mpE_get, h1]; rfl
  simp only [Option.map_some, Result.andThen_ok, Sem.run_bind, h2, Option.getD_some, Go.MapKept.run_keyThatStays (K.isK k)]
  rw [Go.MapKept.run_setObj_map _ hb, mpE_set (ka := ka) rows i k x _ (fun _ _ _ => rfl), List.length_set]
theorem opr_mapUpdate [DecidableEq κ] {kt t e : TypeId} (K : KeyTy P κ kt ka) {m y z : Operand} {i : Nat} {rows : List (κ × AV)} {k : κ} {x : AV} (ho : o.op = .mapUpdate t m y z) (ht : P.underlying t = some (.map kt e)) (hm : evA env m = .ad (.l i) 0) (hi : L[i]? = some (mpO ka rows)) (hy : evA env y = .p (ka k))
  (hz : unp (evA env z) = some x) (hx : plOk x = true) : OpR P o env H L (.p .top) H (L.set i (mpO ka (mput k x rows))) :=
 opr_set hi rfl fun F w β a hS he => by
  have h1 := evA_ok he m
  have h2 := evA_ok he y
  have h3 := unp_ok _ hz (evA_ok he z)
  rw [hm] at h1
  rw [hy] at h2
  obtain ⟨e1, hb⟩ := map_at (h := .l i) hS hi h1
  have e2 := key_at K h2
  have e3 := plD_inv hx h3
  have hrun := run_mapUpdate K ht hb k x
  refine ⟨undef, { w with heap := w.heap.setIfInBounds (β (.l i)) (.map (mpE ka (mput k x rows) 0).toArray (mput k x rows).length) }, .inr ⟨?_, rfl⟩, rfl, rfl, rfl, by simp, fun b hb => set_other b hb, ⟨rfl, rfl⟩, fun hst => ⟨set_here hb, .p (.top _)⟩⟩
  simp only [execOp, ho, e1, e2, e3, Sem.run_bind]
  rw [hrun]
  rfl
end
def u32Key {P : Program} {kt : TypeId} (h : P.underlying kt = some (.int .u32)) : KeyTy P Int kt (.int .u32) :=
 ⟨.int .u32, h, fun _ => rfl, fun _ => rfl, fun k k' h => by
  have h : Value.int .u32 k = Value.int .u32 k' := h
  simpa using h⟩
end Go.Proofs.YtdkegmmigongoaaGreatDoor
namespace Go.Proofs.YtdkegmmigongoaaGreatDoor
set_option maxRecDepth 20000
open Go.Awp Tr
def RA (m : MF) : Prop := ∀ j x, m.at j = some x → x.k = 2 → ∃ N, Reach m N j
theorem RA.new : RA newM := fun j x h _ => by
 have h1 := at_mem h
 have : x = ⟨1, 2, 2, [], []⟩ := by simpa [newM] using h1.1
 subst this
 obtain rfl : (1 : Int) = j := h1.2
 exact ⟨[], .nil⟩
def OldK (m m' : MF) : Prop := ∀ j x', m'.at j = some x' → ∃ x, m.at j = some x ∧ x.k = x'.k
theorem OldK.refl (m : MF) : OldK m m := fun _ x h => ⟨x, h, rfl⟩
theorem OldK.trans {a b c : MF} (h : OldK a b) (h2 : OldK b c) : OldK a c := fun j x hx => by
 obtain ⟨y, h3, h4⟩ := h2 j x hx
 obtain ⟨z, h5, h6⟩ := h j y h3
 exact ⟨z, h5, h6.trans h4⟩
theorem OldK.linked (m : MF) (j b : Int) : OldK m (m.linked j b) := fun i x' h => by
 rw [at_linked] at h
 split at h
 ·rename_i e; subst e
  cases hm : m.at i with
  | none => rw [hm] at h; cases h
  | some y => rw [hm] at h; obtain rfl := Option.some.inj h; exact ⟨y, rfl, rfl⟩
 ·exact ⟨x', h, rfl⟩
theorem OldK.named (m : MF) (d : Int) (nm : List UInt8) (j : Int) : OldK m (m.named d nm j) := fun i x' h => by
 rw [at_named] at h
 split at h
 ·rename_i e; subst e
  cases hm : m.at i with
  | none => rw [hm] at h; cases h
  | some y => rw [hm] at h; obtain rfl := Option.some.inj h; exact ⟨y, rfl, rfl⟩
 ·exact ⟨x', h, rfl⟩
theorem OldK.without (m : MF) (j : Int) : OldK m (m.without j) := fun i x' h => by
 rw [at_without] at h
 split at h
 ·cases h
 ·exact ⟨x', h, rfl⟩
theorem OldK.moved (m : MF) (a b : MS) (dir : Bool) : OldK m (m.moved a b dir) := by
 unfold MF.moved
 have h := (OldK.named m a.d a.m 0).trans (OldK.named _ b.d b.m a.i)
 split
 ·exact (h.trans (OldK.linked _ _ _)).trans (OldK.linked _ _ _)
 ·exact h
theorem RA_ind {m m' : MF} (L : Int → Prop) (hL : ∀ d xd x v, m.at d = some xd → lget x xd.e = some v → L d)
  (hs : ∀ d xd x i z N', m.at d = some xd → xd.k = 2 → lget x xd.e = some (beB 4 i) → m.at i = some z → z.k = 2 → U32 i → L i → Reach m' N' d → ∃ N'', Reach m' N'' i)
  {N : List (List UInt8)} {j : Int} (h : Reach m N j) : (∃ x, m.at j = some x ∧ x.k = 2) → L j → ∃ N', Reach m' N' j := by
 induction h with
 | nil => intro _ _; exact ⟨[], .nil⟩
 | @snoc N d i xd x h hd hk hg hi ih =>
  intro ⟨z, hz, hzk⟩ hl
  obtain ⟨N', hN'⟩ := ih ⟨xd, hd, hk⟩ (hL d xd x _ hd hg)
  exact hs d xd x i z N' hd hk hg hz hzk hi hl hN'
theorem RA.keep {m m' : MF} {P : Int → List UInt8 → Prop} (h : RA m) (hK : Keep m m' P) (hO : OldK m m') (hP : ∀ d xd x i z, m.at d = some xd → xd.k = 2 → lget x xd.e = some (beB 4 i) → m.at i = some z → z.k = 2 → ¬ P d x) : RA m' := fun j x' hx hk => by
 obtain ⟨x, h1, h2⟩ := hO j x' hx
 obtain ⟨N, hN⟩ := h j x h1 (h2.trans hk)
 refine RA_ind (fun _ => True) (fun _ _ _ _ _ _ => trivial) (fun d xd y i z N' g1 g2 g3 g4 g5 g6 _ g8 => ?_) hN ⟨x, h1, h2.trans hk⟩ trivial
 obtain ⟨xd', a1, a2, a3⟩ := hK d xd g1 g2
 exact ⟨N' ++ [y], .snoc g8 a1 a2 (by rw [a3 y (hP d xd y i z g1 g2 g3 g4 g5)]; exact g3) g6⟩
theorem Keep.with_new {m : MF} {x : MN} (hx : m.at x.i = none) : Keep m (m.with x) (fun _ _ => False) := fun d y h k => by
 rw [at_with, if_neg]
 ·exact ⟨y, h, k, fun _ _ => rfl⟩
 ·intro e; rw [← e, h] at hx; cases hx
theorem make_ra {l : List KV} {m : MF} {par : Int → Int} (R : Rel l m par) {c : Nat} (hw : m.wk c) (hc : 2 ≤ c) (h : RA m) (p : List UInt8) {k i : Int} (hk : k = 1 ∨ k = 2) (hiu : U32 i) (hi0 : i ≠ 0) (hi : m.at i = none) : RA (m.make p k i).2 := by
 unfold MF.make
 by_cases h0 : (m.findP p).2 ≠ 0
 ·rw [if_pos h0]; exact h
 rw [if_neg h0]
 by_cases h1 : (m.findP p).1.i ≠ 0
 ·rw [if_pos h1]; exact h
 rw [if_neg h1]
 have h0 : (m.findP p).2 = 0 := by simpa using h0
 rcases R.fnd h0 with e | ⟨xd, hx, _⟩ | ⟨xd, z, hx⟩
 ·rw [e] at h1; exact absurd (by decide) h1
 ·have hdi : (m.findP p).1.d ≠ i := fun e => by have := hx.hd; rw [e, hi] at this; cases this
  generalize hm2 : (if k = 1 then m.with ⟨i, 1, 1, [], []⟩ else (m.with ⟨i, 2, 2, [], []⟩).linked (m.findP p).1.d 1) = m2
  dsimp only
  have hK2 : Keep m m2 (fun _ _ => False) ∧ m2.wk (c + 2) ∧ (∀ j x', m2.at j = some x' → (j = i ∧ x'.k = k) ∨ ∃ x, m.at j = some x ∧ x.k = x'.k) ∧ ∃ y, m2.at (m.findP p).1.d = some y ∧ y.k = 2 := by
   rcases hk with rfl | rfl
   ·rw [if_pos rfl] at hm2
    subst hm2
    have hK := Keep.with_new (m := m) (x := ⟨i, 1, 1, [], []⟩) hi
    obtain ⟨y, y1, y2, _⟩ := hK _ xd hx.hd hx.hk
    refine ⟨hK, (hw.with _ (by simp) (by dsimp only; omega) (by simp [Rises])).mono (by omega), fun j x' hj => ?_, y, y1, y2⟩
    rw [at_with] at hj
    split at hj
    ·rename_i e; obtain rfl := Option.some.inj hj; exact .inl ⟨e, rfl⟩
    ·exact .inr ⟨x', hj, rfl⟩
   ·rw [if_neg (by decide)] at hm2
    subst hm2
    have hK := (Keep.with_new (m := m) (x := ⟨i, 2, 2, [], []⟩) hi).trans (Keep.linked _ (m.findP p).1.d 1)
    have hK' : Keep m ((m.with ⟨i, 2, 2, [], []⟩).linked (m.findP p).1.d 1) (fun _ _ => False) := fun d x a b => by
     obtain ⟨x', b1, b2, b3⟩ := hK d x a b
     exact ⟨x', b1, b2, fun nm q => b3 nm (by rintro (h | h) <;> exact h)⟩
    obtain ⟨y, y1, y2, _⟩ := hK' _ xd hx.hd hx.hk
    refine ⟨hK', (hw.with _ (by simp) (by dsimp only; omega) (by simp [Rises])).linked _ _ (by omega), fun j x' hj => ?_, y, y1, y2⟩
    obtain ⟨x2, g1, g2⟩ := OldK.linked _ _ _ j x' hj
    rw [at_with] at g1
    split at g1
    ·rename_i e; obtain rfl := Option.some.inj g1; exact .inl ⟨e, g2.symm⟩
    ·exact .inr ⟨x2, g1, g2⟩
  obtain ⟨hK2, hw2, hO2, y, y1, y2⟩ := hK2
  have hK := hK2.trans (Keep.named hw2 (m.findP p).1.d (m.findP p).1.m i)
  have hstep : ∀ {N : List (List UInt8)} {j : Int}, Reach m N j → (∃ x, m.at j = some x ∧ x.k = 2) → ∃ N', Reach (m2.named (m.findP p).1.d (m.findP p).1.m i) N' j := fun hN hj =>
   RA_ind (fun _ => True) (fun _ _ _ _ _ _ => trivial) (fun d xd2 y2 i2 z N' g1 g2 g3 g4 g5 g6 _ g8 => by
    obtain ⟨xd', a1, a2, a3⟩ := hK d xd2 g1 g2
    refine ⟨N' ++ [y2], .snoc g8 a1 a2 ?_ g6⟩
    rw [a3 y2, g3]
    rintro (q | ⟨rfl, rfl⟩)
    ·exact q
    ·rw [hx.hd] at g1
     obtain rfl := Option.some.inj g1
     rw [hx.hg] at g3; cases g3) hN hj trivial
  intro j x' hj hjk
  obtain ⟨x2, f1, f2⟩ := OldK.named m2 _ _ _ j x' hj
  rcases hO2 j x2 f1 with ⟨rfl, f3⟩ | ⟨x3, f3, f4⟩
  ·
   obtain ⟨N, hN⟩ := h _ xd hx.hd hx.hk
   obtain ⟨N', hN'⟩ := hstep hN ⟨xd, hx.hd, hx.hk⟩
   refine ⟨N' ++ [(m.findP p).1.m], .snoc (xd := { y with e := nmE y.e (m.findP p).1.m j }) hN' (by rw [at_named, if_pos rfl, y1]; rfl) y2 ?_ hiu⟩
   dsimp only
   rw [nmE_set hi0, lget_lset (hw2.r y (at_mem y1).1), if_pos rfl]
  ·obtain ⟨N, hN⟩ := h j x3 f3 (by rw [f4, f2, hjk])
   exact hstep hN ⟨x3, f3, by rw [f4, f2, hjk]⟩
 ·exact absurd hx.h0 h1
theorem rmv_ra {m : MF} {c : Nat} (hw : m.wk c) (h : RA m) {b : MS} {z xd : MN} (hi : m.at b.i = some z) (hz : z.k = 2) (he : z.e = []) (hd : m.at b.d = some xd) (hg : lget b.m xd.e = some (beB 4 b.i)) (hiu : U32 b.i) : RA (m.rmv b).2 := by
 unfold MF.rmv
 rw [hi]
 dsimp only
 rw [if_neg (by omega), if_neg (by rw [he]; simp)]
 dsimp only
 have hw1 := (hw.without b.i).linked b.d (-1) (by omega)
 intro j x' hj hjk
 obtain ⟨x1, g1, g2⟩ := OldK.named _ b.d b.m 0 j x' hj
 obtain ⟨x2, g3, g4⟩ := OldK.linked _ b.d (-1) j x1 g1
 rw [at_without] at g3
 split at g3
 ·cases g3
 rename_i hne
 have hjk2 : x2.k = 2 := by rw [g4, g2, hjk]
 obtain ⟨N, hN⟩ := h j x2 g3 hjk2
 refine RA_ind (fun d => d ≠ b.i) (fun d xd x v q1 q2 q => by
  rw [q, hi] at q1
  obtain rfl := Option.some.inj q1
  rw [he] at q2; cases q2) (fun d xd2 y i z2 N' q1 q2 q3 q4 q5 q6 q7 q8 => ?_) hN ⟨x2, g3, hjk2⟩ hne
 have hdne : d ≠ b.i := fun q => by
  rw [q, hi] at q1
  obtain rfl := Option.some.inj q1
  rw [he] at q3; cases q3
 obtain ⟨x3, a1, a2, a3⟩ := (Keep.linked (m.without b.i) b.d (-1)).trans (Keep.named hw1 b.d b.m 0) d xd2 (by rw [at_without, if_neg hdne]; exact q1) q2
 refine ⟨N' ++ [y], .snoc q8 a1 a2 ?_ q6⟩
 rw [a3 y, q3]
 rintro (q | ⟨rfl, rfl⟩)
 ·exact q
 ·rw [hd] at q1
  obtain rfl := Option.some.inj q1
  rw [hg] at q3
  exact q7 ((be4_inj hiu q6).1 (Option.some.inj q3)).symm
theorem unl_ra {m : MF} {c : Nat} (hw : m.wk c) (h : RA m) {b : MS} {z xd : MN} (hi : m.at b.i = some z) (hd : m.at b.d = some xd) (hg : lget b.m xd.e = some (beB 4 b.i)) (hiu : U32 b.i) : RA (m.unl b).2 := by
 unfold MF.unl
 rw [hi]
 dsimp only
 by_cases hz : z.k = 2
 ·rw [if_pos hz]; exact h
 rw [if_neg hz]
 dsimp only
 have hP : ∀ d xd2 x i z2, m.at d = some xd2 → xd2.k = 2 → lget x xd2.e = some (beB 4 i) → m.at i = some z2 → z2.k = 2 → U32 i → ¬ (d = b.d ∧ x = b.m) := fun d xd2 x i z2 q1 _ q3 q4 q5 q6 ⟨e1, e2⟩ => by
  subst e1 e2
  rw [hd] at q1
  obtain rfl := Option.some.inj q1
  rw [hg] at q3
  have := (be4_inj hiu q6).1 (Option.some.inj q3)
  rw [← this, hi] at q4
  obtain rfl := Option.some.inj q4
  exact hz q5
 have hkind : m.kind b.i ≠ 2 := by unfold MF.kind; rw [hi]; exact hz
 have main : ∀ m1 : MF, Keep m m1 (fun _ _ => False) → OldK m m1 → m1.wk (c + 1) → RA (m1.named b.d b.m 0) := fun m1 k1 o1 w1 j x' hj hjk => by
  obtain ⟨x2, f1, f2⟩ := (o1.trans (OldK.named m1 b.d b.m 0)) j x' hj
  obtain ⟨N, hN⟩ := h j x2 f1 (f2.trans hjk)
  refine RA_ind (fun _ => True) (fun _ _ _ _ _ _ => trivial) (fun d xd2 y i z2 N' q1 q2 q3 q4 q5 q6 _ q8 => ?_) hN ⟨x2, f1, f2.trans hjk⟩ trivial
  obtain ⟨x3, a1, a2, a3⟩ := (k1.trans (Keep.named w1 b.d b.m 0)) d xd2 q1 q2
  refine ⟨N' ++ [y], .snoc q8 a1 a2 ?_ q6⟩
  rw [a3 y, q3]
  rintro (q | q)
  ·exact q
  ·exact hP d xd2 y i z2 q1 q2 q3 q4 q5 q6 q
 split
 ·exact main _ (Keep.without hkind) (OldK.without m b.i) ((hw.without _).mono (by omega))
 ·exact main _ (Keep.linked m b.i (-1)) (OldK.linked m b.i (-1)) (hw.linked _ _ (by omega))
theorem remove_ra {l : List KV} {m : MF} {par : Int → Int} (R : Rel l m par) {c : Nat} (hw : m.wk c) (h : RA m) (p : List UInt8) : RA (m.remove p).2 := by
 unfold MF.remove
 by_cases h0 : (m.findP p).2 ≠ 0
 ·rw [if_pos h0]; exact h
 rw [if_neg h0]
 by_cases h1 : (m.findP p).1.i = 1
 ·rw [if_pos h1]; exact h
 rw [if_neg h1]
 by_cases h2 : (m.findP p).1.i = 0
 ·rw [if_pos h2]; exact h
 rw [if_neg h2]
 obtain ⟨xd, z, hx⟩ := R.ind (by simpa using h0) h2 h1
 by_cases hk : z.k = 2
 ·by_cases he : z.e = []
  ·exact rmv_ra hw h hx.hi hk he hx.hd hx.hg (R.u _ _ hx.hi).1
  ·have : (m.rmv (m.findP p).1).2 = m := rmv_stay (by
    unfold MF.rmv
    rw [hx.hi]
    dsimp only
    rw [if_neg (by omega), if_pos (List.length_pos_iff.2 he)]
    exact (by decide : (14 : Int) ≠ 0))
   rw [this]; exact h
 ·have : (m.rmv (m.findP p).1).2 = m := rmv_stay (by
   unfold MF.rmv
   rw [hx.hi]
   dsimp only
   rw [if_pos hk]
   exact (by decide : (12 : Int) ≠ 0))
  rw [this]; exact h
theorem unlink_ra {l : List KV} {m : MF} {par : Int → Int} (R : Rel l m par) {c : Nat} (hw : m.wk c) (h : RA m) (p : List UInt8) : RA (m.unlink p).2 := by
 unfold MF.unlink
 by_cases h0 : (m.findP p).2 ≠ 0
 ·rw [if_pos h0]; exact h
 rw [if_neg h0]
 by_cases h2 : (m.findP p).1.i = 0
 ·rw [if_pos h2]; exact h
 rw [if_neg h2]
 by_cases h1 : (m.findP p).1.i = 1
 ·have : (m.unl (m.findP p).1).2 = m := unl_stay (by
   obtain ⟨y, f1, f2⟩ := R.root
   unfold MF.unl
   rw [h1, f1]
   dsimp only
   rw [if_pos f2]
   exact (by decide : (13 : Int) ≠ 0))
  rw [this]; exact h
 obtain ⟨xd, z, hx⟩ := R.ind (by simpa using h0) h2 h1
 exact unl_ra hw h hx.hi hx.hd hx.hg (R.u _ _ hx.hi).1
theorem link_ra {l : List KV} {m : MF} {par : Int → Int} (R : Rel l m par) {c : Nat} (hw : m.wk c) (h : RA m) (o p : List UInt8) : RA (m.link o p).2 := by
 unfold MF.link
 by_cases h0 : (m.findP o).2 ≠ 0
 ·rw [if_pos h0]; exact h
 rw [if_neg h0]
 by_cases h1 : (m.findP o).1.i = 0
 ·rw [if_pos h1]; exact h
 rw [if_neg h1]
 cases hi : m.at (m.findP o).1.i with
 | none => exact h
 | some z =>
  dsimp only
  by_cases hk : z.k = 2
  ·rw [if_pos hk]; exact h
  rw [if_neg hk]
  by_cases h4 : (m.findP p).2 ≠ 0
  ·rw [if_pos h4]; exact h
  rw [if_neg h4]
  by_cases h5 : (m.findP p).1.i ≠ 0
  ·rw [if_pos h5]; exact h
  rw [if_neg h5]
  by_cases h6 : z.n ≥ 1000
  ·rw [if_pos h6]; exact h
  rw [if_neg h6]
  have h4 : (m.findP p).2 = 0 := by simpa using h4
  rcases R.fnd h4 with e | ⟨xd, hx, _⟩ | ⟨xd, z2, hx⟩
  ·rw [e] at h5; exact absurd (by decide) h5
  ·have w1 := hw.linked (m.findP o).1.i 1 (by omega)
   refine h.keep ((Keep.linked m (m.findP o).1.i 1).trans (Keep.named w1 (m.findP p).1.d (m.findP p).1.m (m.findP o).1.i)) ((OldK.linked _ _ _).trans (OldK.named _ _ _ _)) fun d xd2 x i z2 q1 _ q3 _ _ q => ?_
   rcases q with q | ⟨rfl, rfl⟩
   ·exact q
   ·rw [hx.hd] at q1
    obtain rfl := Option.some.inj q1
    rw [hx.hg] at q3; cases q3
  ·exact absurd hx.h0 h5
end Go.Proofs.YtdkegmmigongoaaGreatDoor

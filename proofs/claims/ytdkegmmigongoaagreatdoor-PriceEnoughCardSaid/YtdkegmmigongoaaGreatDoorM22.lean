import Derived.Test.YtdkegmmigongoaaGreatDoorM6
import Derived.Test.YtdkegmmigongoaaGreatDoorM3
import Derived.Test.YtdkegmmigongoaaGreatDoorGo
import Derived.Test.YtdkegmmigongoaaGreatDoorM17
import Derived.Test.YtdkegmmigongoaaGreatDoorM16
namespace Go.Proofs.YtdkegmmigongoaaGreatDoor
set_option maxRecDepth 20000
open Go.Awp Go.RowKit
section
variable {P : Program} {T : Tab} {env : Env} {H L : List AObj} {o : Oper} {x : TV} {w : World} {β : Hd → Nat} {F : Nat → Prop}
theorem News.take {N : Nat → Prop} {e : Nat} {rows : List AV} {news : List Value} (h : News w N e rows news) {m : Nat} (hm : m ≤ rows.length) : News w N e (rows.take m) (news.take (m * e)) := by
 have hl := h.len
 have hle : m * e ≤ rows.length * e := Nat.mul_le_mul_right _ hm
 refine ⟨fun r hr => h.size r (List.mem_of_mem_take hr), by simp [Nat.min_eq_left hm]; omega, fun i j r x hi hj => ?_⟩
 rw [List.getElem?_take] at hi
 split at hi
 ·rename_i him
  obtain ⟨u, hu, hr⟩ := h.cell i j r x hi hj
  have hjl : j < e := by rw [← h.size r (List.mem_of_getElem? hi)]; exact (List.getElem?_eq_some_iff.1 hj).1
  refine ⟨u, ?_, hr⟩
  rw [List.getElem?_take, if_pos]
  ·exact hu
  ·have : (i + 1) * e ≤ m * e := Nat.mul_le_mul_right _ (by omega)
   rw [Nat.add_mul] at this; omega
 ·cases hi
theorem SrcA.pre (hS : Sim w β ⟨H, L, F⟩) {s : TV} {v : Value} {rows : List AV} {e : Nat} (h : RepT w β ⟨H, L, F⟩ s v) (hs : SrcA H L s rows) (he : ∀ r ∈ rows, (cellsOf r).length = e)
  (hks : (∃ l, s = .p (.str l)) → e = 1) {m : Nat} (hm : m ≤ rows.length) :
  ∃ news, (∀ w' : World, (Builtin.lenOf v).run P w' = .ok rows.length w') ∧ (Builtin.firstCells e m v).run P w = .ok news.toArray w ∧ News w (Free β ⟨H, L, F⟩) e (rows.take m) news := by
 cases hs with
 | rd hr =>
  obtain ⟨ao, c, rfl, hlc, hor⟩ := hr.val hS h
  by_cases hz : rows = []
  ·subst hz
   obtain rfl : m = 0 := by simpa using hm
   refine ⟨[], fun _ => rfl, ?_, ⟨by simp, by simp, fun i j r x hi => by simp at hi⟩⟩
   cases ao with
   | none => exact run_firstCells_none w e 0 _ c
   | some a => exact run_firstCells_some w e 0 a _ c [] (by simp) (by simp)
  ·rcases hor with h0 | ⟨a, e1, rfl, hrow⟩
   ·exact absurd h0 hz
   ·have hee : e1 = e := by
     obtain ⟨r, hm⟩ := List.exists_mem_of_ne_nil rows hz
     rw [← hrow.size r hm, he r hm]
    subst hee
    obtain ⟨news, n1, n2⟩ := hrow.news
    have n3 := News.take n1 hm
    refine ⟨news.take (m * e1), fun _ => rfl, ?_, n3⟩
    refine run_firstCells_some w e1 m a rows.length c _ ?_ fun j u hu => ?_
    ·rw [n3.len, List.length_take, Nat.min_eq_left hm]
    ·rw [List.getElem?_take] at hu
     split at hu
     ·exact n2 j u hu
     ·cases hu
 | str l =>
  obtain rfl := hks ⟨l, rfl⟩
  obtain rfl := h.str_inv
  have hb := News.take (bytes_news (w := w) l (Free β ⟨H, L, F⟩)) hm
  refine ⟨(byteCells ⟨l.toArray⟩).take (m * 1), fun _ => by simp [Builtin.lenOf, ByteArray.size], ?_, hb⟩
  have hml : m ≤ l.length := by simpa using hm
  simp only [Builtin.firstCells, Sem.run_pure]
  congr 1
  apply Array.ext'
  simp [byteCells, ByteArray.extract, ByteArray.copySlice, List.map_take]
theorem run_copy_m (w : World) (dT tx ty elem : TypeId) (g o dLen dCap : Nat) (cur : Array Value) (t : TypeId) (i : TypeInfo) (x : Value) (n : Nat) (news : List Value) (hu : P.underlying dT = some (.slice elem)) (hi : P.info? elem = some i)
  (hl : ∀ w' : World, (Builtin.lenOf x).run P w' = .ok n w') (hc : (Builtin.firstCells i.size (Nat.min n dLen) x).run P w = .ok news.toArray w) (h1 : ∀ u ∈ news, u.oneCell' = true)
  (hg : w.heap[g]? = some (.cells cur t (0, 0))) (hfit : o + news.length ≤ cur.size) :
  (Builtin.copy_ #[dT, tx] ty #[.slice (some ⟨g, o, none⟩) dLen dCap, x]).run P w = .ok (goInt ((Nat.min n dLen : Nat) : Int)) (w.setRow g (cur.toList.take o ++ news ++ cur.toList.drop (o + news.length)).toArray) := by
 have hst := run_storeCells_at P g o t news 0 cur w hg (by simpa using hfit) h1
 simp only [Nat.add_zero] at hst
 simp [Builtin.copy_, run_underlying hu, sizeOf, typeInfo, hi, hl, hc, hst]
theorem opr_splice {i st e : Nat} {Ty : TypeId} {rows0 rows : List AV} (hi : L[i]? = some (.arr Ty true e rows0)) (hne : rows0.length ≠ 0) (hle : st + rows.length ≤ rows0.length)
  (h : ∀ F w β a, Sim w β ⟨H, L, F⟩ → EnvR w β ⟨H, L, F⟩ env a → ∀ cs : Array Value, w.heap[β (.l i)]? = some (.cells cs Ty (0, 0)) → rows0.length * e ≤ cs.size → ∃ (u : Value) (news : List Value), News w (Free β ⟨H, L, F⟩) e rows news ∧ (∀ w', RepT w' β ⟨H, L, F⟩ x u) ∧ (∀ w' β', RepT w' β' ⟨H, L.set i (.arr Ty true e (rows0.take st ++ rows ++ rows0.drop (st + rows.length))), F⟩ x u) ∧
   ((rows = [] ∧ (execOp a.eval o).run P w = .ok (.value u) w) ∨ (execOp a.eval o).run P w = .ok (.value u) (w.setRow (β (.l i)) (cs.toList.take (st * e) ++ news ++ cs.toList.drop (st * e + news.length)).toArray))) :
  OpR P o env H L x H (L.set i (.arr Ty true e (rows0.take st ++ rows ++ rows0.drop (st + rows.length)))) :=
 opr_set hi (AObj.off_arr.2 fun _ => hne) fun F w β a hS hen => by
  obtain ⟨cs, c1, c2, hpos, c3⟩ := objOk_news hS hi hne
  obtain ⟨u, news, n2, hx1, hx2, hor⟩ := h F w β a hS hen cs c1 c2
  rcases hor with ⟨rfl, hrun⟩ | hrun
  ·have e : rows0.take st ++ [] ++ rows0.drop (st + ([] : List AV).length) = rows0 := by simp
   rw [e] at hx2 ⊢
   exact ⟨u, w, .inl hrun, rfl, rfl, rfl, rfl, fun b hb => rfl, ObjGo.refl _ _ _, fun hst => ⟨(hS.objs (.l i) _ hi).mono hst rfl, hx2 _ _⟩⟩
  have hnl := n2.len
  have he := n2.size
  have hb1 : st * e + rows.length * e ≤ rows0.length * e := by rw [← Nat.add_mul]; exact Nat.mul_le_mul_right _ hle
  have hblk := setRow_heap w (β (.l i)) cs (cs.toList.take (st * e) ++ news ++ cs.toList.drop (st * e + news.length)).toArray Ty (0, 0) c1
  have hlen : (cs.toList.take (st * e) ++ news ++ cs.toList.drop (st * e + news.length)).length = cs.size := by simp; omega
  have hrl : (rows0.take st ++ rows ++ rows0.drop (st + rows.length)).length = rows0.length := by simp; omega
  have hrg : ∀ p : Nat, (rows0.take st ++ rows ++ rows0.drop (st + rows.length))[p]? = if p < st then rows0[p]? else if p < st + rows.length then rows[p - st]? else rows0[p]? := fun p => by
   by_cases h1 : p < st
   ·rw [if_pos h1, List.append_assoc, List.getElem?_append_left (by simp; omega), List.getElem?_take, if_pos h1]
   ·rw [if_neg h1]
    by_cases h2 : p < st + rows.length
    ·rw [if_pos h2, List.append_assoc, List.getElem?_append_right (by simp; omega)]
     simp only [List.length_take, Nat.min_eq_left (show st ≤ rows0.length by omega)]
     rw [List.getElem?_append_left (by omega)]
    ·rw [if_neg h2, List.getElem?_append_right (by simp; omega)]
     simp only [List.length_append, List.length_take, Nat.min_eq_left (show st ≤ rows0.length by omega), List.getElem?_drop]
     congr 1; omega
  refine ⟨u, _, .inl hrun, rfl, rfl, rfl, by simp, fun b hb => setRow_other w _ b _ hb, ?_, fun hst => ⟨?_, hx2 _ _⟩⟩
  ·refine ⟨rfl, rfl, rfl, by rw [hrl]; exact Nat.le_refl _, fun _ _ => ⟨rfl, ?_⟩⟩
   unfold csize
   rw [hblk, c1]
   simpa using hlen
  ·refine objOk_arr (w := w) (N := Free β ⟨H, L, F⟩) hblk hpos ?_ (fun x v h => h.mono hst.size hst.frame)
   refine ⟨fun q hq => ?_, by rw [hrl, List.toList_toArray, List.length_take, hlen]; omega, fun p q rr x hp hq => ?_⟩
   ·rcases List.mem_append.1 hq with h | h
    ·rcases List.mem_append.1 h with h | h
     ·exact c3.size q (List.mem_of_mem_take h)
     ·exact he q h
    ·exact c3.size q (List.mem_of_mem_drop h)
   ·have hpl : p < rows0.length := by rw [← hrl]; exact (List.getElem?_eq_some_iff.1 hp).1
    rw [hrg] at hp
    have hql : q < e := by
     have hm : (cellsOf rr).length = e := by
      split at hp
      ·exact c3.size rr (List.mem_of_getElem? hp)
      ·split at hp
       ·exact he rr (List.mem_of_getElem? hp)
       ·exact c3.size rr (List.mem_of_getElem? hp)
     rw [← hm]; exact (List.getElem?_eq_some_iff.1 hq).1
    have hlt : p * e + q < rows0.length * e := by
     have : (p + 1) * e ≤ rows0.length * e := Nat.mul_le_mul_right _ (by omega)
     rw [Nat.add_mul, Nat.one_mul] at this; omega
    rw [hrl, List.toList_toArray, List.getElem?_take, if_pos hlt, splice_get _ _ _ (by simp; omega)]
    split at hp
    ·rename_i h1
     have : (p + 1) * e ≤ st * e := Nat.mul_le_mul_right _ (by omega)
     rw [Nat.add_mul, Nat.one_mul] at this
     rw [if_pos (by omega)]
     obtain ⟨u, hu, hr'⟩ := c3.cell p q rr x hp hq
     rw [List.getElem?_take, if_pos hlt] at hu
     exact ⟨u, hu, hr'⟩
    ·rename_i h1
     have h3 : st * e ≤ p * e := Nat.mul_le_mul_right _ (by omega)
     rw [if_neg (by omega)]
     split at hp
     ·rename_i h2
      have : (p + 1) * e ≤ (st + rows.length) * e := Nat.mul_le_mul_right _ (by omega)
      rw [Nat.add_mul, Nat.one_mul, Nat.add_mul] at this
      rw [if_pos (by omega)]
      obtain ⟨u, hu, hr'⟩ := n2.cell (p - st) q rr x hp hq
      exact ⟨u, by rw [show p * e + q - st * e = (p - st) * e + q by rw [Nat.sub_mul]; omega]; exact hu, hr'⟩
     ·rename_i h2
      have : (st + rows.length) * e ≤ p * e := Nat.mul_le_mul_right _ (by omega)
      rw [Nat.add_mul] at this
      rw [if_neg (by omega)]
      obtain ⟨u, hu, hr'⟩ := c3.cell p q rr x hp hq
      rw [List.getElem?_take, if_pos hlt] at hu
      exact ⟨u, hu, hr'⟩
theorem opr_copyM {t tx : TypeId} {y z : Operand} {e n i st len : Nat} {te : TyI} {b : Bool} {rows0 rows : List AV} {s : TV} {Ty : TypeId} (hT : TabOk P T) (ho : o.op = .call { callee := .builtin .copy, args := #[y, z], argTypes := #[t, tx] })
  (ht : appT T t tx = some (e, te, b)) (hy : evA env y = .sl (.l i) n st len) (hi : L[i]? = some (.arr Ty true te.size rows0)) (hn : rows0.length = n) (hz : evA env z = s) (hs : SrcA H L s rows) (hbs : b = true ↔ ∃ l, s = .p (.str l)) (hc : clR rows) (he : ∀ r ∈ rows, (cellsOf r).length = te.size)
  (hsl : st + len ≤ n) (hne : rows0.length ≠ 0) (m : Nat) (hm : min rows.length len = m) : OpR P o env H L (.p (.int .i64 (m : Int))) H (L.set i (.arr Ty true te.size (rows0.take st ++ rows.take m ++ rows0.drop (st + (rows.take m).length)))) := by
 have hml : (rows.take m).length = m := by simp; omega
 refine opr_splice (rows := rows.take m) hi hne (by rw [hml]; omega) fun F w β a hS hen cs c1 c2 => ?_
 obtain ⟨at', hb1, _⟩ := appT_ok hT ht
 obtain ⟨inf, zv, i1, i2, i3, i4, i5⟩ := at'.info
 have hvz := evA_ok hen z
 rw [hz] at hvz
 obtain ⟨news, n0, n1, n2⟩ := SrcA.pre (P := P) hS hvz hs he (fun h => hb1 (hbs.2 h)) (m := m) (by omega)
 have hone := n2.one fun r hr => hc r (List.mem_of_mem_take hr)
 have hvy := evA_ok hen y
 rw [hy] at hvy
 generalize hvv : a.eval y = vy at hvy
 cases hvy with | sl _ _ _ _ _ _ _ hv =>
 obtain ⟨ao, cap, rfl, hlc, hcm, hadd, _⟩ := (hv _ _ _ _ hi hn).on fun _ => by omega
 refine ⟨goInt (m : Int), news, n2, fun _ => .p (.int ..), fun _ _ => .p (.int ..), ?_⟩
 have hmm : Nat.min rows.length len = m := hm
 by_cases hm0 : m = 0
 ·left
  subst hm0
  refine ⟨by simp, run_cp (P := P) ho ?_⟩
  have hnl := n2.len
  rw [hml] at hnl
  have hnn : news = [] := List.eq_nil_of_length_eq_zero (by omega)
  subst hnn
  have hu := at'.ut
  rw [hvv]
  cases ao <;> simp [Builtin.copy_, run_underlying hu, sizeOf, typeInfo, i1, n0, hmm, i3, n1, storeCells]
 ·right
  obtain rfl := hadd (.inr (by omega))
  have hnl := n2.len
  rw [hml] at hnl
  subst hn
  have hb2 : st * te.size + m * te.size ≤ rows0.length * te.size := by rw [← Nat.add_mul]; exact Nat.mul_le_mul_right _ (by omega)
  have hrun := run_copy_m (P := P) w t tx o.type e (β (.l i)) (st * te.size) len cap cs Ty inf (a.eval z) rows.length news at'.ut i1 n0 (by rw [i3, hmm]; exact n1) hone c1 (by omega)
  rw [← hvv, hmm] at hrun
  exact run_cp (P := P) ho hrun
theorem opr_clearZ {t : TypeId} {y : Operand} {e n i st len : Nat} {te : TyI} {rows0 : List AV} {Ty : TypeId} (hT : TabOk P T) (ho : o.op = .call { callee := .builtin .clear, args := #[y], argTypes := #[t] }) (hd : tyD T t = .slice e) (he : tlk T e = some te) (hcl : te.zero.all cl = true) (hna : noAgg te.zero = true) (hag : (isAggD te.d).isSome = true)
  (hy : evA env y = .sl (.l i) n st len) (hi : L[i]? = some (.arr Ty true te.size rows0)) (hn : rows0.length = n) (hsl : st + len ≤ n) (hne : rows0.length ≠ 0) : OpR P o env H L (.p .top) H (L.set i (.arr Ty true te.size (rows0.take st ++ List.replicate len (zrow te) ++ rows0.drop (st + (List.replicate len (zrow te)).length)))) := by
 refine opr_splice (rows := List.replicate len (zrow te)) hi hne (by simp; omega) fun F w β a hS hen cs c1 c2 => ?_
 obtain ⟨u, h1, h2⟩ := tyD_und hT (t := t) (by rw [hd]; simp)
 rw [hd] at h2
 obtain rfl := chkD_slice h2
 obtain ⟨inf, ue, ok⟩ := hT.get he
 obtain ⟨zv, hz, hzz⟩ := ok.run_zero w
 have hvy := evA_ok hen y
 rw [hy] at hvy
 generalize hvv : a.eval y = vy at hvy
 cases hvy with | sl _ _ _ _ _ _ _ hv =>
 obtain ⟨ao, cap, rfl, hlc, hcm, hadd, _⟩ := (hv _ _ _ _ hi hn).on fun _ => by omega
 have hzl : zv.cells.size = te.size := by
  have := (chkZ_ok hzz).1
  simp at this
  rw [this, ok.zlen]
 have hcells := zrow_cells hna (ok.one) ok.zlen hag
 have hzr := zero_rep (w := w) (β := β) (G := ⟨H, L, F⟩) hzz
 have hnews : News w (Free β ⟨H, L, F⟩) te.size (List.replicate len (zrow te)) (Builtin.zeroCells zv.cells len).toList := by
  refine ⟨fun r hr => by rw [List.eq_of_mem_replicate hr, hcells, ok.zlen], by rw [Array.length_toList, size_zeroCells, hzl, List.length_replicate], fun i j r x hi hj => ?_⟩
  have hil : i < len := by simpa using (List.getElem?_eq_some_iff.1 hi).1
  have hrr : r = zrow te := List.eq_of_mem_replicate (List.mem_of_getElem? hi)
  subst hrr
  rw [hcells] at hj
  have hjl : j < te.size := by rw [← ok.zlen]; exact (List.getElem?_eq_some_iff.1 hj).1
  have hlt : i * te.size + j < len * te.size := by
   have : (i + 1) * te.size ≤ len * te.size := Nat.mul_le_mul_right _ (by omega)
   rw [Nat.add_mul] at this; omega
  have hmod : (i * te.size + j) % te.size = j := by rw [Nat.mul_comm, Nat.mul_add_mod, Nat.mod_eq_of_lt hjl]
  have hjz : j < zv.cells.size := by omega
  refine ⟨zv.cells[j], ?_, ?_⟩
  ·simp [Builtin.zeroCells, hlt, hzl, hmod]
   rw [getElem!_pos zv.cells j hjz]
  ·have := hzr.2 j (.p x) zv.cells[j] (by simp [hj]) (by simp [hjz])
   cases this with | p h => exact h
 have hone := hnews.one fun r hr x hx => by
  rw [List.eq_of_mem_replicate hr, hcells] at hx
  exact List.all_eq_true.1 hcl x hx
 have hrunc : ∀ {w' : World}, (Builtin.clear_ #[t] o.type #[a.eval y]).run P w = .ok (.tuple #[]) w' → (execOp a.eval o).run P w = .ok (.value (.tuple #[])) w' := fun {w'} h => by
  simp only [execOp, ho, resolve, invoke, builtin, Sem.run_bind, Sem.run_pure, Result.andThen_ok, List.map_toArray, List.map_cons, List.map_nil]
  simp [h]
 refine ⟨.tuple #[], _, hnews, fun _ => .p (.top _), fun _ _ => .p (.top _), ?_⟩
 by_cases h0 : len = 0
 ·left
  subst h0
  refine ⟨rfl, hrunc ?_⟩
  rw [hvv]
  cases ao <;> simp [Builtin.clear_, run_underlying h1]
 ·right
  obtain rfl := hadd (.inr (by omega))
  obtain ⟨m, hm⟩ : ∃ m, len = m + 1 := ⟨len - 1, by omega⟩
  have hb2 : st * te.size + len * te.size ≤ rows0.length * te.size := by rw [← Nat.add_mul]; exact Nat.mul_le_mul_right _ (by omega)
  have hst := run_storeCells_at P (β (.l i)) (st * te.size) Ty (Builtin.zeroCells zv.cells len).toList 0 cs w c1 (by rw [Array.length_toList, size_zeroCells, hzl]; omega) hone
  simp only [Nat.add_zero] at hst
  refine hrunc ?_
  rw [hvv]
  subst hm
  simp at hst
  simp [Builtin.clear_, run_underlying h1, hz, hst]
def TVLe (x y : TV) : Prop := ∀ w β G v, RepT w β G x v → RepT w β G y v
theorem J_rep {Γ : Ctx} {Φ : Act → World → Prop} (d : Nat) {x : TV} (y : TV) (hx : lk env d = x) (hc : TVLe x y) (k : J Γ ((d, y) :: env) H L Φ) : J Γ env H L Φ := fun a w β s =>
 k a w β ⟨s.sim, s.step, fun t => by
  rw [lk_cons]
  split
  ·rename_i e
   have := s.env d
   rw [hx] at this
   rw [e]
   exact hc _ _ _ _ this
  ·exact s.env t, s.size, s.defers⟩
theorem agg_rep {xs : List TV} (i : Nat) {x y : AV} (hi : xs[i]? = some (.p x)) (hc : AVLe x y) : TVLe (.agg xs) (.agg (xs.set i (.p y))) := fun w β G v h => by
 cases h with
 | agg _ vs hl hr =>
  refine .agg _ vs (by rw [List.length_set]; exact hl) fun j z u hz hu => ?_
  by_cases e : j = i
  ·subst e
   rw [List.getElem?_set_self (List.getElem?_eq_some_iff.1 hi).1] at hz
   obtain rfl := Option.some.inj hz
   have := hr j (.p x) u hi hu
   cases this with | p q => exact .p (hc _ _ _ q)
  ·rw [List.getElem?_set_ne (Ne.symm e)] at hz
   exact hr j z u hz hu
end
end Go.Proofs.YtdkegmmigongoaaGreatDoor
namespace Go.Proofs.YtdkegmmigongoaaGreatDoor
set_option maxRecDepth 20000
open Go.Awp Tr
def blkN (b : List UInt8) (n : Nat) : List UInt8 := (b.drop (64 * n)).take 64
theorem trim0_eq (s : List UInt8) : ∃ k, s = trim0 s ++ List.replicate k 0 := by
 refine ⟨(s.reverse.takeWhile (· == 0)).length, ?_⟩
 have h := List.takeWhile_append_dropWhile (p := fun x : UInt8 => x == 0) (l := s.reverse)
 have hz : s.reverse.takeWhile (· == 0) = List.replicate (s.reverse.takeWhile (· == 0)).length 0 := by
  rw [List.eq_replicate_iff]
  refine ⟨rfl, fun b hb => ?_⟩
  have := List.all_takeWhile (p := fun x : UInt8 => x == 0) (l := s.reverse)
  rw [List.all_eq_true] at this
  simpa using this b hb
 have h2 := congrArg List.reverse h
 rw [List.reverse_append, List.reverse_reverse] at h2
 have h3 : (s.reverse.takeWhile (· == 0)).reverse = List.replicate (s.reverse.takeWhile (· == 0)).length 0 := by
  rw [hz, List.reverse_replicate, List.length_replicate]
 rw [h3] at h2
 exact h2.symm
theorem beB2_inj {i j : Nat} (hi : i ≤ 65535) (hj : j ≤ 65535) (h : beB 2 (i : Int) = beB 2 (j : Int)) : i = j := by
 have h1 := bl_be2 (i : Int) j (by omega) (by omega)
 have h2 := bl_be2 (j : Int) i (by omega) (by omega)
 rw [h, bl_irrefl] at h1
 rw [h, bl_irrefl] at h2
 have h1 : ¬ ((i : Int) < j) := of_decide_eq_false h1.symm
 have h2 : ¬ ((j : Int) < i) := of_decide_eq_false h2.symm
 omega
theorem blk_rng (b : List UInt8) (n : Nat) (hn : n ≤ 65535) : ∀ K : Nat, K ≤ 65536 → lget (beB 2 (n : Int)) ((List.range K).filterMap fun n => if trim0 (blkN b n) = [] then none else some (beB 2 (n : Int), trim0 (blkN b n))) = if n < K ∧ trim0 (blkN b n) ≠ [] then some (trim0 (blkN b n)) else none
 | 0, _ => by rw [if_neg (by omega)]; rfl
 | K + 1, hK => by
  rw [List.range_succ, List.filterMap_append, lget_append, blk_rng b n hn K (by omega)]
  by_cases e : n = K
  ·subst e
   rw [if_neg (by omega)]
   by_cases h : trim0 (blkN b n) = []
   ·rw [if_neg (fun q => q.2 h)]
    simp [h, lget]
   ·rw [if_pos ⟨by omega, h⟩]
    simp [h, lget]
  ·have hl : lget (beB 2 (n : Int)) ([K].filterMap fun n => if trim0 (blkN b n) = [] then none else some (beB 2 (n : Int), trim0 (blkN b n))) = none := by
    refine lget_none fun x hx q => ?_
    obtain ⟨a, ha, hb⟩ := List.mem_filterMap.1 hx
    rw [List.mem_singleton] at ha
    subst ha
    split at hb
    ·cases hb
    ·injection hb with hb
     rw [← hb] at q
     exact e (beB2_inj (by omega) hn q).symm
   rw [hl, Option.or_none]
   by_cases h : n < K ∧ trim0 (blkN b n) ≠ []
   ·rw [if_pos h, if_pos ⟨by omega, h.2⟩]
   ·rw [if_neg h, if_neg (fun q => h ⟨by omega, q.2⟩)]
theorem blkOf_get (b : List UInt8) (hb : b.length ≤ 4096) (n : Nat) (hn : n ≤ 65535) : lget (beB 2 (n : Int)) (blkOf b) = if trim0 (blkN b n) = [] then none else some (trim0 (blkN b n)) := by
 have h := blk_rng b n hn ((b.length + 63) / 64) (by omega)
 have e : blkOf b = (List.range ((b.length + 63) / 64)).filterMap fun n => if trim0 (blkN b n) = [] then none else some (beB 2 (n : Int), trim0 (blkN b n)) := rfl
 rw [e, h]
 by_cases hl : n < (b.length + 63) / 64
 ·by_cases ht : trim0 (blkN b n) = []
  ·rw [if_neg (fun q => q.2 ht), if_pos ht]
  ·rw [if_pos ⟨hl, ht⟩, if_neg ht]
 ·have : blkN b n = [] := by unfold blkN; rw [List.drop_of_length_le (by omega)]; rfl
  have ht : trim0 (blkN b n) = [] := by rw [this]; rfl
  rw [if_neg (fun q => hl q.1), if_pos ht]
def segF (f : Nat → UInt8) (o n : Nat) : List UInt8 := (List.range n).map fun k => f (o + k)
def blkF (f : Nat → UInt8) (n : Nat) : List UInt8 := segF f (64 * n) 64
def bz (b : List UInt8) (k : Nat) : UInt8 := b.getD k 0
theorem segF_len (f : Nat → UInt8) (o n : Nat) : (segF f o n).length = n := by simp [segF]
theorem segF_get (f : Nat → UInt8) (o n k : Nat) : (segF f o n)[k]? = if k < n then some (f (o + k)) else none := by
 unfold segF
 rw [List.getElem?_map]
 by_cases h : k < n
 ·rw [if_pos h, List.getElem?_range h]; rfl
 ·rw [if_neg h, List.getElem?_eq_none (by simp; omega)]; rfl
theorem segF_cut (f : Nat → UInt8) {o n a c : Nat} (h : a + c ≤ n) : ((segF f o n).drop a).take c = segF f (o + a) c := by
 apply List.ext_getElem?
 intro k
 rw [List.getElem?_take, List.getElem?_drop, segF_get, segF_get]
 by_cases hk : k < c
 ·rw [if_pos hk, if_pos hk, if_pos (by omega), Nat.add_assoc]
 ·rw [if_neg hk, if_neg hk]
theorem segF_app (f : Nat → UInt8) (o a c : Nat) : segF f o (a + c) = segF f o a ++ segF f (o + a) c := by
 apply List.ext_getElem?
 intro k
 rw [List.getElem?_append, segF_get, segF_len, segF_get, segF_get]
 by_cases hk : k < a
 ·rw [if_pos hk, if_pos hk, if_pos (by omega)]
 ·rw [if_neg hk]
  by_cases h2 : k < a + c
  ·rw [if_pos h2, if_pos (by omega)]; congr 2; omega
  ·rw [if_neg h2, if_neg (by omega)]
theorem segF_congr {f g : Nat → UInt8} {o n : Nat} (h : ∀ k, k < n → f (o + k) = g (o + k)) : segF f o n = segF g o n := by
 unfold segF
 refine List.map_congr_left fun k hk => h k (List.mem_range.1 hk)
theorem bz_get {b : List UInt8} {k : Nat} {x : UInt8} (h : b[k]? = some x) : bz b k = x := by unfold bz; rw [List.getD_eq_getElem?_getD, h]; rfl
theorem bz_none {b : List UInt8} {k : Nat} (h : b.length ≤ k) : bz b k = 0 := by unfold bz; rw [List.getD_eq_getElem?_getD, List.getElem?_eq_none h]; rfl
theorem bz_in {b : List UInt8} {k : Nat} (h : k < b.length) : b[k]? = some (bz b k) := by
 rw [List.getElem?_eq_getElem h, bz_get (List.getElem?_eq_getElem h)]
theorem segF_bz {b : List UInt8} {o n : Nat} (h : o + n ≤ b.length) : segF (bz b) o n = (b.drop o).take n := by
 apply List.ext_getElem?
 intro k
 rw [segF_get, List.getElem?_take, List.getElem?_drop]
 by_cases hk : k < n
 ·rw [if_pos hk, if_pos hk, bz_in (by omega)]
 ·rw [if_neg hk, if_neg hk]
theorem trim0_snoc (a : List UInt8) : trim0 (a ++ [0]) = trim0 a := by
 unfold trim0
 rw [List.reverse_append]
 rfl
theorem trim0_app (a : List UInt8) : ∀ k : Nat, trim0 (a ++ List.replicate k 0) = trim0 a
 | 0 => by simp
 | k + 1 => by rw [List.replicate_succ', ← List.append_assoc, trim0_snoc, trim0_app a k]
theorem trim0_len (a : List UInt8) : (trim0 a).length ≤ a.length := by
 obtain ⟨k, h⟩ := trim0_eq a
 have := congrArg List.length h
 rw [List.length_append] at this
 omega
theorem blkF_bz (b : List UInt8) (n : Nat) : blkF (bz b) n = blkN b n ++ List.replicate (64 - (blkN b n).length) 0 := by
 have hl : (blkN b n).length = min 64 (b.length - 64 * n) := by simp [blkN]
 apply List.ext_getElem?
 intro k
 unfold blkF
 rw [segF_get, List.getElem?_append, List.getElem?_replicate, hl]
 by_cases hk : k < 64
 ·rw [if_pos hk]
  by_cases h2 : k < b.length - 64 * n
  ·rw [if_pos (by omega)]
   unfold blkN
   rw [List.getElem?_take, if_pos hk, List.getElem?_drop, bz_in (by omega)]
  ·rw [if_neg (by omega), if_pos (by omega), bz_none (by omega)]
 ·rw [if_neg hk, if_neg (by omega), if_neg (by omega)]
theorem trim0_blk (b : List UInt8) (n : Nat) : trim0 (blkF (bz b) n) = trim0 (blkN b n) := by rw [blkF_bz, trim0_app]
def padB (v : List UInt8) : List UInt8 := (v ++ List.replicate 64 0).take 64
theorem padB_len (v : List UInt8) : (padB v).length = 64 := by simp [padB]
theorem padB_trim {b : List UInt8} (h : b.length = 64) : padB (trim0 b) = b := by
  obtain ⟨k, e⟩ := trim0_eq b
  have hl : (trim0 b).length + k = 64 := by rw [← h]; conv => rhs; rw [e]
                                            simp
  unfold padB
  rw [List.take_append, List.take_of_length_le (by omega), List.take_replicate, show min (64 - (trim0 b).length) 64 = k by omega]
  exact e.symm
def bfG (f : Nat → UInt8) (r : List UInt8) : Option (List UInt8) := if r.length = 2 ∧ trim0 (blkF f (beV r).toNat) ≠ [] then some (trim0 (blkF f (beV r).toNat)) else none
theorem beV_lt2 {r : List UInt8} (h : r.length = 2) : beB 2 (((beV r).toNat : Nat) : Int) = r ∧ (beV r).toNat ≤ 65535 ∧ 0 ≤ beV r := by
 have hb := beV_2 h
 have := beB_beV r
 rw [h] at this
 exact ⟨by rw [Int.toNat_of_nonneg hb.1]; exact this, by omega, hb.1⟩
theorem blkOf_bfG {b : List UInt8} (hb : b.length ≤ 4096) (r : List UInt8) : lget r (blkOf b) = bfG (bz b) r := by
 unfold bfG
 by_cases h : r.length = 2
 ·obtain ⟨h1, h2, h3⟩ := beV_lt2 h
  have := blkOf_get b hb (beV r).toNat h2
  rw [h1] at this
  rw [this, trim0_blk]
  by_cases ht : trim0 (blkN b (beV r).toNat) = []
  ·rw [if_pos ht, if_neg (fun q => q.2 ht)]
  ·rw [if_neg ht, if_pos ⟨h, ht⟩]
 ·rw [if_neg (fun q => h q.1)]
  refine lget_none fun x hx q => ?_
  obtain ⟨j, _, _, h3⟩ := blkOf_mem hx
  rw [q] at h3
  rw [h3, beB_len] at h
  exact h rfl
theorem blk_rises (b : List UInt8) : ∀ K : Nat, K ≤ 65536 → Rises ((List.range K).filterMap fun n => if trim0 (blkN b n) = [] then none else some (beB 2 (n : Int), trim0 (blkN b n)))
 | 0, _ => by simp [Rises]
 | K + 1, hK => by
  rw [List.range_succ, List.filterMap_append]
  have ih := blk_rises b K (by omega)
  unfold Rises at ih ⊢
  rw [List.pairwise_append]
  refine ⟨ih, ?_, fun x hx y hy => ?_⟩
  ·rw [List.filterMap_cons]
   split <;> simp
  ·obtain ⟨i, hi, hx2⟩ := List.mem_filterMap.1 hx
   obtain ⟨j, hj, hy2⟩ := List.mem_filterMap.1 hy
   rw [List.mem_range] at hi
   rw [List.mem_singleton] at hj
   subst hj
   split at hx2
   ·cases hx2
   ·split at hy2
    ·cases hy2
    ·injection hx2 with hx2
     injection hy2 with hy2
     rw [← hx2, ← hy2]
     show Op.bytesLess _ _ = true
     dsimp only
     rw [bl_be2 _ _ (by omega) (by omega)]
     exact decide_eq_true (by omega)
theorem blkOf_rises {b : List UInt8} (hb : b.length ≤ 4096) : Rises (blkOf b) := blk_rises b ((b.length + 63) / 64) (by omega)
def BF (l : List KV) (i : Int) (f : Nat → UInt8) : Prop := ∀ r, lget (keyH 68 i ++ r) l = bfG f r
theorem BF.blk {l : List KV} {i : Int} {b : List UInt8} (hl : Rises l) (hb : b.length ≤ 4096) (h : BF l i (bz b)) : subL 68 i l = blkOf b :=
 lget_ext (sub_rises hl) (blkOf_rises hb) fun r => by rw [sub_get hl, h r, blkOf_bfG hb]
theorem BF.of {l : List KV} {i : Int} {b : List UInt8} (hl : Rises l) (hb : b.length ≤ 4096) (h : subL 68 i l = blkOf b) : BF l i (bz b) := fun r => by
 rw [← sub_get hl, h, blkOf_bfG hb]
theorem BF.congr {l : List KV} {i : Int} {f g : Nat → UInt8} (h : BF l i f) (e : ∀ k, f k = g k) : BF l i g := by
 obtain rfl : f = g := funext e
 exact h
def putL (l : List KV) (i : Int) (n : Nat) (b : List UInt8) : List KV := if trim0 b = [] then lcut (keyH 68 i ++ beB 2 (n : Int)) l else lset (keyH 68 i ++ beB 2 (n : Int)) (trim0 b) l
def updF (f : Nat → UInt8) (n : Nat) (b : List UInt8) (k : Nat) : UInt8 := if 64 * n ≤ k ∧ k < 64 * n + 64 then b.getD (k - 64 * n) 0 else f k
theorem blkF_upd (f : Nat → UInt8) (n : Nat) {b : List UInt8} (hb : b.length = 64) (m : Nat) : blkF (updF f n b) m = if m = n then b else blkF f m := by
 by_cases h : m = n
 ·subst h
  rw [if_pos rfl]
  apply List.ext_getElem?
  intro k
  unfold blkF
  rw [segF_get]
  by_cases hk : k < 64
  ·rw [if_pos hk]
   unfold updF
   rw [if_pos ⟨by omega, by omega⟩, show 64 * m + k - 64 * m = k by omega, List.getD_eq_getElem?_getD, List.getElem?_eq_getElem (by omega)]; rfl
  ·rw [if_neg hk, List.getElem?_eq_none (by omega)]
 ·rw [if_neg h]
  refine segF_congr fun k hk => ?_
  unfold updF
  rw [if_neg (by omega)]
theorem BF.put {l : List KV} {i : Int} {f : Nat → UInt8} (hl : Rises l) (hi : U32 i) (h : BF l i f) {n : Nat} (hn : n ≤ 65535) {b : List UInt8} (hb : b.length = 64) : BF (putL l i n b) i (updF f n b) := fun r => by
 have hr : r = beB 2 (n : Int) ↔ r.length = 2 ∧ (beV r).toNat = n := by
  constructor
  ·rintro rfl
   refine ⟨beB_len .., ?_⟩
   rw [beV_be2 (n : Int) (by omega)]; rfl
  ·rintro ⟨h1, h2⟩
   rw [← h2]; exact (beV_lt2 h1).1.symm
 have hg : lget (keyH 68 i ++ r) (putL l i n b) = if r = beB 2 (n : Int) then (if trim0 b = [] then none else some (trim0 b)) else bfG f r := by
  unfold putL
  by_cases ht : trim0 b = []
  ·rw [if_pos ht, if_pos ht, get_cut L68 L68 hi hi]
   by_cases e : r = beB 2 (n : Int)
   ·rw [if_pos ⟨rfl, rfl, e⟩, if_pos e]
   ·rw [if_neg (fun q => e q.2.2), if_neg e, h r]
  ·rw [if_neg ht, if_neg ht, get_set L68 L68 hi hi hl]
   by_cases e : r = beB 2 (n : Int)
   ·rw [if_pos ⟨rfl, rfl, e⟩, if_pos e]
   ·rw [if_neg (fun q => e q.2.2), if_neg e, h r]
 rw [hg]
 unfold bfG
 rw [blkF_upd f n hb]
 by_cases e : r = beB 2 (n : Int)
 ·obtain ⟨h1, h2⟩ := hr.1 e
  rw [if_pos e, if_pos h2]
  by_cases ht : trim0 b = []
  ·rw [if_pos ht, if_neg (fun q => q.2 ht)]
  ·rw [if_neg ht, if_pos ⟨h1, ht⟩]
 ·rw [if_neg e]
  by_cases h1 : r.length = 2
  ·rw [if_neg (show ¬ (beV r).toNat = n from fun q => e (hr.2 ⟨h1, q⟩))]
  ·rw [if_neg (fun q => h1 q.1), if_neg (fun q => h1 q.1)]
structure Chg (i : Int) (l l' : List KV) : Prop where
 ri : Rises l'
 oth : ∀ c j r, L8 c → U32 j → ¬ (c = 73 ∧ j = i) → ¬ (c = 68 ∧ j = i) → lget (keyH c j ++ r) l' = lget (keyH c j ++ r) l
 refs : ∀ j, refs j l' = refs j l
 key : (∀ y ∈ l, ∃ c j r, (c = 73 ∧ r = [] ∨ c = 69 ∨ c = 68) ∧ U32 j ∧ y.1 = keyH c j ++ r) → ∀ y ∈ l', ∃ c j r, (c = 73 ∧ r = [] ∨ c = 69 ∨ c = 68) ∧ U32 j ∧ y.1 = keyH c j ++ r
theorem Chg.refl {i : Int} {l : List KV} (h : Rises l) : Chg i l l := ⟨h, fun _ _ _ _ _ _ _ => rfl, fun _ => rfl, fun h => h⟩
theorem Chg.trans {i : Int} {l m r : List KV} (h : Chg i l m) (k : Chg i m r) : Chg i l r :=
 ⟨k.ri, fun c j x h1 h2 h3 h4 => (k.oth c j x h1 h2 h3 h4).trans (h.oth c j x h1 h2 h3 h4), fun j => (k.refs j).trans (h.refs j), fun q => k.key (h.key q)⟩
theorem Chg.set {i c : Int} (hi : U32 i) {l : List KV} (hl : Rises l) (r v : List UInt8) (hc : c = 73 ∧ r = [] ∨ c = 68) : Chg i l (lset (keyH c i ++ r) v l) := by
 have h8 : L8 c := by rcases hc with h | h <;> (have := h; unfold L8; omega)
 refine ⟨lset_rises hl, fun c' j x h1 h2 h3 h4 => ?_, fun j => ?_, fun hk y hy => ?_⟩
 ·rw [get_set h1 h8 h2 hi hl, if_neg]
  rintro ⟨rfl, rfl, _⟩
  rcases hc with h | h
  ·exact h3 ⟨h.1, rfl⟩
  ·exact h4 ⟨h, rfl⟩
 ·exact refs_set_no (hc.imp (·.1) id) hl j r v
 ·rcases lset_mem hy with rfl | hy
  ·exact ⟨c, i, r, hc.imp id .inr, hi, rfl⟩
  ·exact hk y hy
theorem Chg.cut {i : Int} (hi : U32 i) {l : List KV} (hl : Rises l) (r : List UInt8) : Chg i l (lcut (keyH 68 i ++ r) l) := by
 refine ⟨lcut_rises hl, fun c' j x h1 h2 h3 h4 => ?_, fun j => ?_, fun hk y hy => ?_⟩
 ·rw [get_cut h1 L68 h2 hi, if_neg]
  rintro ⟨rfl, rfl, _⟩
  exact h4 ⟨rfl, rfl⟩
 ·exact refs_cut_no (.inr rfl) hl j r
 ·exact hk y (List.mem_filter.1 hy).1
theorem Chg.put {i : Int} (hi : U32 i) {l : List KV} (hl : Rises l) (n : Nat) (b : List UInt8) : Chg i l (putL l i n b) := by
 unfold putL
 split
 ·exact Chg.cut hi hl _
 ·exact Chg.set hi hl _ _ (.inr rfl)
theorem putL_73 {i : Int} (hi : U32 i) {l : List KV} (hl : Rises l) (n : Nat) (b : List UInt8) : lget (keyH 73 i) (putL l i n b) = lget (keyH 73 i) l := by
 rw [get73, get73]
 unfold putL
 split
 ·rw [get_cut L73 L68 hi hi, if_neg (fun q => by have := q.1; omega)]
 ·rw [get_set L73 L68 hi hi hl, if_neg (fun q => by have := q.1; omega)]
theorem Rel.data {l l' : List KV} {m : MF} {par : Int → Int} (R : Rel l m par) {i : Int} {x : MN} (hx : m.at i = some x) (hk : x.k = 1) {b : List UInt8} (hb : b.length ≤ 4096) (hc : Chg i l l')
  (h73 : lget (keyH 73 i) l' = some (nodeB 1 x.n (b.length : Int) 0)) (hbf : BF l' i (bz b)) : Rel l' (m.with { x with b := b }) par := by
 have hxi : x.i = i := (at_mem hx).2
 obtain ⟨hiu, hi0⟩ := R.u i x hx
 have hat : ∀ j, (m.with { x with b := b }).at j = if j = i then some { x with b := b } else m.at j := fun j => by rw [at_with]; dsimp only; rw [hxi]
 have hold : ∀ {j : Int} {y : MN}, (m.with { x with b := b }).at j = some y → ∃ z, m.at j = some z ∧ y.k = z.k ∧ y.n = z.n ∧ y.e = z.e ∧ (j = i ∧ y.b = b ∨ j ≠ i ∧ y.b = z.b) := fun {j y} h => by
  rw [hat] at h
  by_cases e : j = i
  ·rw [if_pos e] at h
   obtain rfl := Option.some.inj h
   exact ⟨x, by rw [e]; exact hx, rfl, rfl, rfl, .inl ⟨e, rfl⟩⟩
  ·rw [if_neg e] at h
   exact ⟨y, h, rfl, rfl, rfl, .inr ⟨e, rfl⟩⟩
 have hno : ∀ {j : Int}, (m.with { x with b := b }).at j = none → m.at j = none ∧ j ≠ i := fun {j} h => by
  rw [hat] at h
  by_cases e : j = i
  ·rw [if_pos e] at h; cases h
  ·rw [if_neg e] at h; exact ⟨h, e⟩
 have hnew : ∀ {j : Int} {z : MN}, m.at j = some z → ∃ y, (m.with { x with b := b }).at j = some y ∧ y.k = z.k := fun {j z} h => by
  rw [hat]
  by_cases e : j = i
  ·rw [if_pos e]
   rw [e, hx] at h
   exact ⟨_, rfl, by rw [← Option.some.inj h]⟩
  ·rw [if_neg e]; exact ⟨z, h, rfl⟩
 have hkind : ∀ j, (m.with { x with b := b }).kind j = m.kind j := fun j => by
  unfold MF.kind
  rw [hat]
  by_cases e : j = i
  ·rw [if_pos e, e, hx]
  ·rw [if_neg e]
 have hsub : ∀ e, subsN (m.with { x with b := b }) e = subsN m e := fun e => by unfold subsN; simp only [hkind]
 have h69 : ∀ j, U32 j → subL 69 j l' = subL 69 j l := fun j hj => lget_ext (sub_rises hc.ri) (sub_rises R.ri) fun r => by
  rw [sub_get hc.ri, sub_get R.ri]
  exact hc.oth 69 j r L69 hj (fun q => by have := q.1; omega) (fun q => by have := q.1; omega)
 have h68 : ∀ j, U32 j → j ≠ i → subL 68 j l' = subL 68 j l := fun j hj hne => lget_ext (sub_rises hc.ri) (sub_rises R.ri) fun r => by
  rw [sub_get hc.ri, sub_get R.ri]
  exact hc.oth 68 j r L68 hj (fun q => hne q.2) (fun q => hne q.2)
 have hn73 : ∀ j, U32 j → j ≠ i → lget (keyH 73 j) l' = lget (keyH 73 j) l := fun j hj hne => by
  rw [get73, get73]
  exact hc.oth 73 j [] L73 hj (fun q => hne q.2) (fun q => hne q.2)
 have hpar : par i = 0 := by
  rcases R.kin i x hx with q | q
  ·have := q.1; omega
  ·exact q.2.2
 obtain ⟨hmay, hnu, _, _⟩ := R.may hx
 refine ⟨hc.ri, fun y hy => ?_, fun j y h => ?_, ?_, R.rpar, fun j y h => ?_, fun j hj h => ?_, fun j y h => ?_, fun j hj h => ?_, fun j y h => ?_, fun j hj h => ?_, fun j y h nm v hv => ?_, fun j y h => ?_, fun j y h hk => ?_, fun j y h hk => ?_, fun j y h hk => ?_, hc.key R.key⟩
 ·exact (MF.uq.with R.fst { x with b := b }) y hy
 ·obtain ⟨z, h1, _⟩ := hold h
  exact R.u j z h1
 ·obtain ⟨y, h1, h2⟩ := R.root
  obtain ⟨z, h3, h4⟩ := hnew h1
  exact ⟨z, h3, h4.trans h2⟩
 ·obtain ⟨z, h1, h2, h3, h4, h5⟩ := hold h
  rcases h5 with ⟨rfl, h5⟩ | ⟨hne, h5⟩
  ·rw [hx] at h1
   obtain rfl := Option.some.inj h1
   rw [h73, h5, h2, h3, hk, hpar]
   refine ndOf_node ?_ (by decide) hnu (by unfold U32; omega) (by decide)
   rw [hk, hpar] at hmay
   unfold mayB at hmay ⊢
   simp only [if_true, Bool.and_eq_true, decide_eq_true_eq] at hmay ⊢
   exact ⟨⟨hmay.1.1, by omega⟩, trivial⟩
  ·rw [hn73 j (R.u j z h1).1 hne, R.nod j z h1, h2, h3, h5]
 ·obtain ⟨h1, h2⟩ := hno h
  rw [hn73 j hj h2]; exact R.non j hj h1
 ·obtain ⟨z, h1, _, _, h4, _⟩ := hold h
  rw [h4, h69 j (R.u j z h1).1]; exact R.ent j z h1
 ·rw [h69 j hj]; exact R.eno j hj (hno h).1
 ·obtain ⟨z, h1, h2, h3, h4, h5⟩ := hold h
  rcases h5 with ⟨rfl, h5⟩ | ⟨hne, h5⟩
  ·rw [h5]; exact hbf.blk hc.ri hb
  ·rw [h68 j (R.u j z h1).1 hne, h5]; exact R.blk j z h1
 ·obtain ⟨h1, h2⟩ := hno h
  rw [h68 j hj h2]; exact R.bno j hj h1
 ·obtain ⟨z, h1, _, _, h4, _⟩ := hold h
  rw [h4] at hv
  obtain ⟨g1, c, w, g2, g3, g4, g5⟩ := R.nam j z h1 nm v hv
  obtain ⟨w', g6, g7⟩ := hnew g3
  exact ⟨g1, c, w', g2, g6, g4, fun q => g5 (by rw [← g7]; exact q)⟩
 ·obtain ⟨z, h1, h2, h3, h4, h5⟩ := hold h
  rcases h5 with ⟨rfl, h5⟩ | ⟨hne, h5⟩
  ·rw [hx] at h1
   obtain rfl := Option.some.inj h1
   rcases R.kin j x hx with q | q
   ·have := q.1; omega
   ·exact .inr ⟨h2.trans q.1, h4.trans q.2.1, q.2.2⟩
  ·rw [h2, h4, h5]; exact R.kin j z h1
 ·obtain ⟨z, h1, h2, h3, _⟩ := hold h
  rw [h3, hc.refs]; exact R.lkf j z h1 (h2 ▸ hk)
 ·obtain ⟨z, h1, h2, h3, h4, _⟩ := hold h
  rw [h3, h4, hsub]; exact R.lkd j z h1 (h2 ▸ hk)
 ·obtain ⟨z, h1, h2, _⟩ := hold h
  rw [hc.refs]; exact R.one j z h1 (h2 ▸ hk)
def pcsN : Nat → Nat → Nat → List (Nat × Nat × Nat)
 | 0, _, _ => []
 | f + 1, o, n => if n = 0 then [] else (o / 64, o % 64, min n (64 - o % 64)) :: pcsN f (o + min n (64 - o % 64)) (n - min n (64 - o % 64))
theorem pcs_read (blk : Nat → List UInt8) (f : Nat → UInt8) (K : Nat) (hb : ∀ k, k ≤ K → blk k = blkF f k) : ∀ (g o n : Nat), n ≤ g → (o + n) / 64 ≤ K → (pcsN g o n).flatMap (fun x => ((blk x.1).drop x.2.1).take x.2.2) = segF f o n
  | 0, o, n, h, _ => by obtain rfl : n = 0 := by omega
                        rfl
  | g + 1, o, n, h, hK => by
    unfold pcsN
    by_cases h0 : n = 0
    · subst h0; rfl
    rw [if_neg h0, List.flatMap_cons]
    have hc : 1 ≤ min n (64 - o % 64) ∧ min n (64 - o % 64) ≤ n := by omega
    rw [pcs_read blk f K hb g _ _ (by omega) (by rw [show o + min n (64 - o % 64) + (n - min n (64 - o % 64)) = o + n by omega]; exact hK)]
    dsimp only
    rw [hb (o / 64) (by omega)]
    unfold blkF
    rw [segF_cut f (by omega), show 64 * (o / 64) + o % 64 = o by omega, ← segF_app, show min n (64 - o % 64) + (n - min n (64 - o % 64)) = n by omega]
def wrF (f : Nat → UInt8) (o : Nat) (b : List UInt8) (k : Nat) : UInt8 := if o ≤ k ∧ k < o + b.length then b.getD (k - o) 0 else f k
theorem wrF_nil (f : Nat → UInt8) (o : Nat) : wrF f o [] = f := by funext k; unfold wrF; rw [if_neg (by simp)]
def inB64 (l : List UInt8) (a : Nat) (b : List UInt8) : List UInt8 := l.take a ++ b ++ l.drop (a + b.length)
theorem inB64_len {l : List UInt8} (hl : l.length = 64) {a : Nat} {b : List UInt8} (h : a + b.length ≤ 64) : (inB64 l a b).length = 64 := by
 unfold inB64
 simp; omega
theorem inB64_get {l : List UInt8} (hl : l.length = 64) {a : Nat} {b : List UInt8} (h : a + b.length ≤ 64) (k : Nat) : (inB64 l a b).getD k 0 = if a ≤ k ∧ k < a + b.length then b.getD (k - a) 0 else l.getD k 0 := by
 unfold inB64
 simp only [List.getD_eq_getElem?_getD]
 rw [List.getElem?_append, List.getElem?_append]
 simp only [List.length_append, List.length_take, List.getElem?_take, List.getElem?_drop]
 by_cases h1 : k < a
 ·rw [if_pos (by omega), if_pos (by omega), if_pos h1, if_neg (by omega)]
 ·by_cases h2 : k < a + b.length
  ·rw [if_pos (by omega), if_neg (by omega), if_pos ⟨by omega, h2⟩, show k - min a l.length = k - a by omega]
  ·rw [if_neg (by omega), if_neg (by omega), show a + b.length + (k - (min a l.length + b.length)) = k by omega]
theorem wr_step (f : Nat → UInt8) (o : Nat) {b : List UInt8} (hb : b ≠ []) :
  wrF (updF f (o / 64) (inB64 (blkF f (o / 64)) (o % 64) (b.take (min b.length (64 - o % 64))))) (o + min b.length (64 - o % 64)) (b.drop (min b.length (64 - o % 64))) = wrF f o b := by
 have hb1 : 1 ≤ b.length := by cases b with
  | nil => exact absurd rfl hb
  | cons => simp
 have hl : (b.take (min b.length (64 - o % 64))).length = min b.length (64 - o % 64) := by simp
 have hbl : (blkF f (o / 64)).length = 64 := segF_len ..
 funext k
 unfold wrF
 rw [List.length_drop]
 by_cases h1 : o + min b.length (64 - o % 64) ≤ k ∧ k < o + min b.length (64 - o % 64) + (b.length - min b.length (64 - o % 64))
 ·rw [if_pos h1, if_pos (by omega)]
  simp only [List.getD_eq_getElem?_getD, List.getElem?_drop]
  congr 2; omega
 ·rw [if_neg h1]
  unfold updF
  by_cases h2 : 64 * (o / 64) ≤ k ∧ k < 64 * (o / 64) + 64
  ·rw [if_pos h2, inB64_get hbl (by rw [hl]; omega), hl]
   by_cases h3 : o % 64 ≤ k - 64 * (o / 64) ∧ k - 64 * (o / 64) < o % 64 + min b.length (64 - o % 64)
   ·rw [if_pos h3, if_pos (by omega)]
    simp only [List.getD_eq_getElem?_getD, List.getElem?_take]
    rw [if_pos (by omega)]
    congr 2; omega
   ·rw [if_neg h3, if_neg (by omega)]
    unfold blkF
    simp only [List.getD_eq_getElem?_getD]
    rw [segF_get, if_pos (by omega)]
    show f _ = f k
    congr 1; omega
  ·rw [if_neg h2, if_neg (by omega)]
end Go.Proofs.YtdkegmmigongoaaGreatDoor

import Derived.Test.YtdnpkgakpiopgaaGreatDoorM5
import Derived.Test.YtdnpkgakpiopgaaGreatDoorM3
import Derived.Test.YtdnpkgakpiopgaaGreatDoorM23
import Derived.Test.YtdnpkgakpiopgaaGreatDoorM7
import Derived.Test.YtdnpkgakpiopgaaGreatDoorM2
import Derived.Test.YtdnpkgakpiopgaaGreatDoorM8
namespace Go.Proofs.YtdnpkgakpiopgaaGreatDoor
set_option maxRecDepth 20000
open Go.Awp Go.RowKit
section
variable {P : Program} {T : Tab} {env : Env} {H L : List AObj} {o : Oper} {x : TV} {w : World} {β : Hd → Nat} {F : Nat → Prop}
theorem News.take {N : Nat → Prop} {e : Nat} {rows : List AV} {news : List Value} (h : News w N e rows news) {m : Nat} (hm : m ≤ rows.length) : News w N e (rows.take m) (news.take (m * e)) := by
 have hl := h.len
 have hle : m * e ≤ rows.length * e := Nat.mul_le_mul_right _ hm
 refine ⟨fun r hr => h.size r (List.mem_of_mem_take hr), by simp [Nat.min_eq_left hm]; omega, fun i j r x hi hj => ?_⟩
 rw [List.getElem?_take] at hi
 split at hi
 ·rename_i him
  obtain ⟨u, hu, hr⟩ := h.cell i j r x hi hj
  have hjl : j < e := by rw [← h.size r (List.mem_of_getElem? hi)]; exact (List.getElem?_eq_some_iff.1 hj).1
  refine ⟨u, ?_, hr⟩
  rw [List.getElem?_take, if_pos]
  ·exact hu
  ·have : (i + 1) * e ≤ m * e := Nat.mul_le_mul_right _ (by omega)
   rw [Nat.add_mul] at this; omega
 ·cases hi
theorem SrcA.pre (hS : Sim w β ⟨H, L, F⟩) {s : TV} {v : Value} {rows : List AV} {e : Nat} (h : RepT w β ⟨H, L, F⟩ s v) (hs : SrcA H L s rows) (he : ∀ r ∈ rows, (cellsOf r).length = e)
  (hks : (∃ l, s = .p (.str l)) → e = 1) {m : Nat} (hm : m ≤ rows.length) :
  ∃ news, (∀ w' : World, (Builtin.lenOf v).run P w' = .ok rows.length w') ∧ (Builtin.firstCells e m v).run P w = .ok news.toArray w ∧ News w (Free β ⟨H, L, F⟩) e (rows.take m) news := by
 cases hs with
 | rd hr =>
  obtain ⟨ao, c, rfl, hlc, hor⟩ := hr.val hS h
  by_cases hz : rows = []
  ·subst hz
   obtain rfl : m = 0 := by simpa using hm
   refine ⟨[], fun _ => rfl, ?_, ⟨by simp, by simp, fun i j r x hi => by simp at hi⟩⟩
   cases ao with
   | none => exact run_firstCells_none w e 0 _ c
   | some a => exact run_firstCells_some w e 0 a _ c [] (by simp) (by simp)
  ·rcases hor with h0 | ⟨a, e1, rfl, hrow⟩
   ·exact absurd h0 hz
   ·have hee : e1 = e := by
     obtain ⟨r, hm⟩ := List.exists_mem_of_ne_nil rows hz
     rw [← hrow.size r hm, he r hm]
    subst hee
    obtain ⟨news, n1, n2⟩ := hrow.news
    have n3 := News.take n1 hm
    refine ⟨news.take (m * e1), fun _ => rfl, ?_, n3⟩
    refine run_firstCells_some w e1 m a rows.length c _ ?_ fun j u hu => ?_
    ·rw [n3.len, List.length_take, Nat.min_eq_left hm]
    ·rw [List.getElem?_take] at hu
     split at hu
     ·exact n2 j u hu
     ·cases hu
 | str l =>
  obtain rfl := hks ⟨l, rfl⟩
  obtain rfl := h.str_inv
  have hb := News.take (zH8 (w := w) l (Free β ⟨H, L, F⟩)) hm
  refine ⟨(byteCells ⟨l.toArray⟩).take (m * 1), fun _ => by simp [Builtin.lenOf, ByteArray.size], ?_, hb⟩
  have hml : m ≤ l.length := by simpa using hm
  simp only [Builtin.firstCells, Sem.run_pure]
  congr 1
  apply Array.ext'
  simp [byteCells, ByteArray.extract, ByteArray.copySlice, List.map_take]
theorem zRx (w : World) (dT tx ty elem : TypeId) (g o dLen dCap : Nat) (cur : Array Value) (t : TypeId) (i : TypeInfo) (x : Value) (n : Nat) (news : List Value) (hu : P.underlying dT = some (.slice elem)) (hi : P.info? elem = some i)
  (hl : ∀ w' : World, (Builtin.lenOf x).run P w' = .ok n w') (hc : (Builtin.firstCells i.size (Nat.min n dLen) x).run P w = .ok news.toArray w) (h1 : ∀ u ∈ news, u.oneCell' = true)
  (hg : w.heap[g]? = some (.cells cur t (0, 0))) (hfit : o + news.length ≤ cur.size) :
  (Builtin.copy_ #[dT, tx] ty #[.slice (some ⟨g, o, none⟩) dLen dCap, x]).run P w = .ok (goInt ((Nat.min n dLen : Nat) : Int)) (w.setRow g (cur.toList.take o ++ news ++ cur.toList.drop (o + news.length)).toArray) := by
 have hst := run_storeCells_at P g o t news 0 cur w hg (by simpa using hfit) h1
 simp only [Nat.add_zero] at hst
 simp [Builtin.copy_, run_underlying hu, sizeOf, typeInfo, hi, hl, hc, hst]
theorem zH0 {i st e : Nat} {Ty : TypeId} {rows0 rows : List AV} (hi : L[i]? = some (.arr Ty true e rows0)) (hne : rows0.length ≠ 0) (hle : st + rows.length ≤ rows0.length)
  (h : ∀ F w β a, Sim w β ⟨H, L, F⟩ → EnvR w β ⟨H, L, F⟩ env a → ∀ cs : Array Value, w.heap[β (.l i)]? = some (.cells cs Ty (0, 0)) → rows0.length * e ≤ cs.size → ∃ (u : Value) (news : List Value), News w (Free β ⟨H, L, F⟩) e rows news ∧ (∀ w', RepT w' β ⟨H, L, F⟩ x u) ∧ (∀ w' β', RepT w' β' ⟨H, L.set i (.arr Ty true e (rows0.take st ++ rows ++ rows0.drop (st + rows.length))), F⟩ x u) ∧
   ((rows = [] ∧ (execOp a.eval o).run P w = .ok (.value u) w) ∨ (execOp a.eval o).run P w = .ok (.value u) (w.setRow (β (.l i)) (cs.toList.take (st * e) ++ news ++ cs.toList.drop (st * e + news.length)).toArray))) :
  OpR P o env H L x H (L.set i (.arr Ty true e (rows0.take st ++ rows ++ rows0.drop (st + rows.length)))) :=
 zEx hi (AObj.off_arr.2 fun _ => hne) fun F w β a hS hen => by
  obtain ⟨cs, c1, c2, hpos, c3⟩ := zCz hS hi hne
  obtain ⟨u, news, n2, hx1, hx2, hor⟩ := h F w β a hS hen cs c1 c2
  rcases hor with ⟨rfl, hrun⟩ | hrun
  ·have e : rows0.take st ++ [] ++ rows0.drop (st + ([] : List AV).length) = rows0 := by simp
   rw [e] at hx2 ⊢
   exact ⟨u, w, .inl hrun, rfl, rfl, rfl, rfl, fun b hb => rfl, ObjGo.refl _ _ _, fun hst => ⟨(hS.objs (.l i) _ hi).mono hst rfl, hx2 _ _⟩⟩
  have hnl := n2.len
  have he := n2.size
  have hb1 : st * e + rows.length * e ≤ rows0.length * e := by rw [← Nat.add_mul]; exact Nat.mul_le_mul_right _ hle
  have hblk := setRow_heap w (β (.l i)) cs (cs.toList.take (st * e) ++ news ++ cs.toList.drop (st * e + news.length)).toArray Ty (0, 0) c1
  have hlen : (cs.toList.take (st * e) ++ news ++ cs.toList.drop (st * e + news.length)).length = cs.size := by simp; omega
  have hrl : (rows0.take st ++ rows ++ rows0.drop (st + rows.length)).length = rows0.length := by simp; omega
  have hrg : ∀ p : Nat, (rows0.take st ++ rows ++ rows0.drop (st + rows.length))[p]? = if p < st then rows0[p]? else if p < st + rows.length then rows[p - st]? else rows0[p]? := fun p => by
   by_cases h1 : p < st
   ·rw [if_pos h1, List.append_assoc, List.getElem?_append_left (by simp; omega), List.getElem?_take, if_pos h1]
   ·rw [if_neg h1]
    by_cases h2 : p < st + rows.length
    ·rw [if_pos h2, List.append_assoc, List.getElem?_append_right (by simp; omega)]
     simp only [List.length_take, Nat.min_eq_left (show st ≤ rows0.length by omega)]
     rw [List.getElem?_append_left (by omega)]
    ·rw [if_neg h2, List.getElem?_append_right (by simp; omega)]
     simp only [List.length_append, List.length_take, Nat.min_eq_left (show st ≤ rows0.length by omega), List.getElem?_drop]
     congr 1; omega
  refine ⟨u, _, .inl hrun, rfl, rfl, rfl, by simp, fun b hb => setRow_other w _ b _ hb, ?_, fun hst => ⟨?_, hx2 _ _⟩⟩
  ·refine ⟨rfl, rfl, rfl, by rw [hrl]; exact Nat.le_refl _, fun _ _ => ⟨rfl, ?_⟩⟩
   unfold csize
   rw [hblk, c1]
   simpa using hlen
  ·refine yX (w := w) (N := Free β ⟨H, L, F⟩) hblk hpos ?_ (fun x v h => h.mono hst.size hst.frame)
   refine ⟨fun q hq => ?_, by rw [hrl, List.toList_toArray, List.length_take, hlen]; omega, fun p q rr x hp hq => ?_⟩
   ·rcases List.mem_append.1 hq with h | h
    ·rcases List.mem_append.1 h with h | h
     ·exact c3.size q (List.mem_of_mem_take h)
     ·exact he q h
    ·exact c3.size q (List.mem_of_mem_drop h)
   ·have hpl : p < rows0.length := by rw [← hrl]; exact (List.getElem?_eq_some_iff.1 hp).1
    rw [hrg] at hp
    have hql : q < e := by
     have hm : (cellsOf rr).length = e := by
      split at hp
      ·exact c3.size rr (List.mem_of_getElem? hp)
      ·split at hp
       ·exact he rr (List.mem_of_getElem? hp)
       ·exact c3.size rr (List.mem_of_getElem? hp)
     rw [← hm]; exact (List.getElem?_eq_some_iff.1 hq).1
    have hlt : p * e + q < rows0.length * e := by
     have : (p + 1) * e ≤ rows0.length * e := Nat.mul_le_mul_right _ (by omega)
     rw [Nat.add_mul, Nat.one_mul] at this; omega
    rw [hrl, List.toList_toArray, List.getElem?_take, if_pos hlt, zCq _ _ _ (by simp; omega)]
    split at hp
    ·rename_i h1
     have : (p + 1) * e ≤ st * e := Nat.mul_le_mul_right _ (by omega)
     rw [Nat.add_mul, Nat.one_mul] at this
     rw [if_pos (by omega)]
     obtain ⟨u, hu, hr'⟩ := c3.cell p q rr x hp hq
     rw [List.getElem?_take, if_pos hlt] at hu
     exact ⟨u, hu, hr'⟩
    ·rename_i h1
     have h3 : st * e ≤ p * e := Nat.mul_le_mul_right _ (by omega)
     rw [if_neg (by omega)]
     split at hp
     ·rename_i h2
      have : (p + 1) * e ≤ (st + rows.length) * e := Nat.mul_le_mul_right _ (by omega)
      rw [Nat.add_mul, Nat.one_mul, Nat.add_mul] at this
      rw [if_pos (by omega)]
      obtain ⟨u, hu, hr'⟩ := n2.cell (p - st) q rr x hp hq
      exact ⟨u, by rw [show p * e + q - st * e = (p - st) * e + q by rw [Nat.sub_mul]; omega]; exact hu, hr'⟩
     ·rename_i h2
      have : (st + rows.length) * e ≤ p * e := Nat.mul_le_mul_right _ (by omega)
      rw [Nat.add_mul] at this
      rw [if_neg (by omega)]
      obtain ⟨u, hu, hr'⟩ := c3.cell p q rr x hp hq
      rw [List.getElem?_take, if_pos hlt] at hu
      exact ⟨u, hu, hr'⟩
theorem zKr {t tx : TypeId} {y z : Operand} {e n i st len : Nat} {te : TyI} {b : Bool} {rows0 rows : List AV} {s : TV} {Ty : TypeId} (hT : TabOk P T) (ho : o.op = .call { callee := .builtin .copy, args := #[y, z], argTypes := #[t, tx] })
  (ht : appT T t tx = some (e, te, b)) (hy : evA env y = .sl (.l i) n st len) (hi : L[i]? = some (.arr Ty true te.size rows0)) (hn : rows0.length = n) (hz : evA env z = s) (hs : SrcA H L s rows) (hbs : b = true ↔ ∃ l, s = .p (.str l)) (hc : clR rows) (he : ∀ r ∈ rows, (cellsOf r).length = te.size)
  (hsl : st + len ≤ n) (hne : rows0.length ≠ 0) (m : Nat) (hm : min rows.length len = m) : OpR P o env H L (.p (.int .i64 (m : Int))) H (L.set i (.arr Ty true te.size (rows0.take st ++ rows.take m ++ rows0.drop (st + (rows.take m).length)))) := by
 have hml : (rows.take m).length = m := by simp; omega
 refine zH0 (rows := rows.take m) hi hne (by rw [hml]; omega) fun F w β a hS hen cs c1 c2 => ?_
 obtain ⟨at', hb1, _⟩ := zAb hT ht
 obtain ⟨inf, zv, i1, i2, i3, i4, i5⟩ := at'.info
 have hvz := zL hen z
 rw [hz] at hvz
 obtain ⟨news, n0, n1, n2⟩ := SrcA.pre (P := P) hS hvz hs he (fun h => hb1 (hbs.2 h)) (m := m) (by omega)
 have hone := n2.one fun r hr => hc r (List.mem_of_mem_take hr)
 have hvy := zL hen y
 rw [hy] at hvy
 generalize hvv : a.eval y = vy at hvy
 cases hvy with | sl _ _ _ _ _ _ _ hv =>
 obtain ⟨ao, cap, rfl, hlc, hcm, hadd, _⟩ := (hv _ _ _ _ hi hn).on fun _ => by omega
 refine ⟨goInt (m : Int), news, n2, fun _ => .p (.int ..), fun _ _ => .p (.int ..), ?_⟩
 have hmm : Nat.min rows.length len = m := hm
 by_cases hm0 : m = 0
 ·left
  subst hm0
  refine ⟨by simp, zLm (P := P) ho ?_⟩
  have hnl := n2.len
  rw [hml] at hnl
  have hnn : news = [] := List.eq_nil_of_length_eq_zero (by omega)
  subst hnn
  have hu := at'.ut
  rw [hvv]
  cases ao <;> simp [Builtin.copy_, run_underlying hu, sizeOf, typeInfo, i1, n0, hmm, i3, n1, storeCells]
 ·right
  obtain rfl := hadd (.inr (by omega))
  have hnl := n2.len
  rw [hml] at hnl
  subst hn
  have hb2 : st * te.size + m * te.size ≤ rows0.length * te.size := by rw [← Nat.add_mul]; exact Nat.mul_le_mul_right _ (by omega)
  have hrun := zRx (P := P) w t tx o.type e (β (.l i)) (st * te.size) len cap cs Ty inf (a.eval z) rows.length news at'.ut i1 n0 (by rw [i3, hmm]; exact n1) hone c1 (by omega)
  rw [← hvv, hmm] at hrun
  exact zLm (P := P) ho hrun
theorem zRu {t : TypeId} {y : Operand} {e n i st len : Nat} {te : TyI} {rows0 : List AV} {Ty : TypeId} (hT : TabOk P T) (ho : o.op = .call { callee := .builtin .clear, args := #[y], argTypes := #[t] }) (hd : tyD T t = .slice e) (he : tlk T e = some te) (hcl : te.zero.all cl = true) (hna : noAgg te.zero = true) (hag : (isAggD te.d).isSome = true)
  (hy : evA env y = .sl (.l i) n st len) (hi : L[i]? = some (.arr Ty true te.size rows0)) (hn : rows0.length = n) (hsl : st + len ≤ n) (hne : rows0.length ≠ 0) : OpR P o env H L (.p .top) H (L.set i (.arr Ty true te.size (rows0.take st ++ List.replicate len (zrow te) ++ rows0.drop (st + (List.replicate len (zrow te)).length)))) := by
 refine zH0 (rows := List.replicate len (zrow te)) hi hne (by simp; omega) fun F w β a hS hen cs c1 c2 => ?_
 obtain ⟨u, h1, h2⟩ := zV hT (t := t) (by rw [hd]; simp)
 rw [hd] at h2
 obtain rfl := yB h2
 obtain ⟨inf, ue, ok⟩ := hT.get he
 obtain ⟨zv, hz, hzz⟩ := ok.run_zero w
 have hvy := zL hen y
 rw [hy] at hvy
 generalize hvv : a.eval y = vy at hvy
 cases hvy with | sl _ _ _ _ _ _ _ hv =>
 obtain ⟨ao, cap, rfl, hlc, hcm, hadd, _⟩ := (hv _ _ _ _ hi hn).on fun _ => by omega
 have hzl : zv.cells.size = te.size := by
  have := (zF9 hzz).1
  simp at this
  rw [this, ok.zlen]
 have hcells := zId hna (ok.one) ok.zlen hag
 have hzr := zD7 (w := w) (β := β) (G := ⟨H, L, F⟩) hzz
 have hnews : News w (Free β ⟨H, L, F⟩) te.size (List.replicate len (zrow te)) (Builtin.zeroCells zv.cells len).toList := by
  refine ⟨fun r hr => by rw [List.eq_of_mem_replicate hr, hcells, ok.zlen], by rw [Array.length_toList, size_zeroCells, hzl, List.length_replicate], fun i j r x hi hj => ?_⟩
  have hil : i < len := by simpa using (List.getElem?_eq_some_iff.1 hi).1
  have hrr : r = zrow te := List.eq_of_mem_replicate (List.mem_of_getElem? hi)
  subst hrr
  rw [hcells] at hj
  have hjl : j < te.size := by rw [← ok.zlen]; exact (List.getElem?_eq_some_iff.1 hj).1
  have hlt : i * te.size + j < len * te.size := by
   have : (i + 1) * te.size ≤ len * te.size := Nat.mul_le_mul_right _ (by omega)
   rw [Nat.add_mul] at this; omega
  have hmod : (i * te.size + j) % te.size = j := by rw [Nat.mul_comm, Nat.mul_add_mod, Nat.mod_eq_of_lt hjl]
  have hjz : j < zv.cells.size := by omega
  refine ⟨zv.cells[j], ?_, ?_⟩
  ·simp [Builtin.zeroCells, hlt, hzl, hmod]
   rw [getElem!_pos zv.cells j hjz]
  ·have := hzr.2 j (.p x) zv.cells[j] (by simp [hj]) (by simp [hjz])
   cases this with | p h => exact h
 have hone := hnews.one fun r hr x hx => by
  rw [List.eq_of_mem_replicate hr, hcells] at hx
  exact List.all_eq_true.1 hcl x hx
 have hrunc : ∀ {w' : World}, (Builtin.clear_ #[t] o.type #[a.eval y]).run P w = .ok (.tuple #[]) w' → (execOp a.eval o).run P w = .ok (.value (.tuple #[])) w' := fun {w'} h => by
  simp only [execOp, ho, resolve, invoke, builtin, Sem.run_bind, Sem.run_pure, Result.andThen_ok, List.map_toArray, List.map_cons, List.map_nil]
  simp [h]
 refine ⟨.tuple #[], _, hnews, fun _ => .p (.top _), fun _ _ => .p (.top _), ?_⟩
 by_cases h0 : len = 0
 ·left
  subst h0
  refine ⟨rfl, hrunc ?_⟩
  rw [hvv]
  cases ao <;> simp [Builtin.clear_, run_underlying h1]
 ·right
  obtain rfl := hadd (.inr (by omega))
  obtain ⟨m, hm⟩ : ∃ m, len = m + 1 := ⟨len - 1, by omega⟩
  have hb2 : st * te.size + len * te.size ≤ rows0.length * te.size := by rw [← Nat.add_mul]; exact Nat.mul_le_mul_right _ (by omega)
  have hst := run_storeCells_at P (β (.l i)) (st * te.size) Ty (Builtin.zeroCells zv.cells len).toList 0 cs w c1 (by rw [Array.length_toList, size_zeroCells, hzl]; omega) hone
  simp only [Nat.add_zero] at hst
  refine hrunc ?_
  rw [hvv]
  subst hm
  simp at hst
  simp [Builtin.clear_, run_underlying h1, hz, hst]
def TVLe (x y : TV) : Prop := ∀ w β G v, RepT w β G x v → RepT w β G y v
theorem J_rep {Γ : Ctx} {Φ : Act → World → Prop} (d : Nat) {x : TV} (y : TV) (hx : lk env d = x) (hc : TVLe x y) (k : J Γ ((d, y) :: env) H L Φ) : J Γ env H L Φ := fun a w β s =>
 k a w β ⟨s.sim, s.step, fun t => by
  rw [y4]
  split
  ·rename_i e
   have := s.env d
   rw [hx] at this
   rw [e]
   exact hc _ _ _ _ this
  ·exact s.env t, s.size, s.defers⟩
theorem agg_rep {xs : List TV} (i : Nat) {x y : AV} (hi : xs[i]? = some (.p x)) (hc : AVLe x y) : TVLe (.agg xs) (.agg (xs.set i (.p y))) := fun w β G v h => by
 cases h with
 | agg _ vs hl hr =>
  refine .agg _ vs (by rw [List.length_set]; exact hl) fun j z u hz hu => ?_
  by_cases e : j = i
  ·subst e
   rw [List.getElem?_set_self (List.getElem?_eq_some_iff.1 hi).1] at hz
   obtain rfl := Option.some.inj hz
   have := hr j (.p x) u hi hu
   cases this with | p q => exact .p (hc _ _ _ q)
  ·rw [List.getElem?_set_ne (Ne.symm e)] at hz
   exact hr j z u hz hu
end
end Go.Proofs.YtdnpkgakpiopgaaGreatDoor
namespace Go.Proofs.YtdnpkgakpiopgaaGreatDoor
set_option maxRecDepth 20000
open Go.Awp Tr
def nd0 : Nd := (0, 0, 0, 0)
def fE : Option Nd → Int
 | some _ => 0
 | none => 16
set_option maxHeartbeats 4000000 in
theorem zCr {s : VS} {m : Nat} (h : VJ s m) (hm : m ≤ 1000000) (i : Int) (hi : U32 i) : Con Tryz.prog 153 [vP, .p (.int .u32 i)] (vH s) (.tup [ndT ((s.fload i).getD nd0), .p (.int .i64 (fE (s.fload i)))]) (vH (s.rd (keyH 73 i))) [] := by
 have c1 := jB h hm i hi
 rw [qH] at c1
 unfold VS.fload
 generalize s.rd (keyH 73 i) = s1 at c1
 generalize s.load i = g at c1
 cases g with
 | none =>
  refine zD Tryz.func153 rfl (by kernel_rfl) rfl fun F w0 β0 => ?_
  refine zE rfl ?_
  refine go ?_
  refine zH rfl rfl (zA [.o 0, .o 1] rfl rfl (c1) rfl rfl rfl ⟨⟨rfl, rfl⟩, ⟨rfl, rfl⟩, trivial⟩ rfl rfl rfl rfl) rfl ?_
  refine go ?_
  exact zC hT rfl rfl rfl
 | some g =>
  dsimp only
  by_cases hk : g.1 = 1
  ·rw [if_pos hk]
   refine zD Tryz.func153 rfl (by kernel_rfl) rfl fun F w0 β0 => ?_
   refine zE rfl ?_
   refine go ?_
   refine zH rfl rfl (zA [.o 0, .o 1] rfl rfl (c1) rfl rfl rfl ⟨⟨rfl, rfl⟩, ⟨rfl, rfl⟩, trivial⟩ rfl rfl rfl rfl) rfl ?_
   refine go ?_
   refine zF rfl (by simp [hk]) ?_
   refine go ?_
   exact zC hT rfl rfl rfl
  ·rw [if_neg hk]
   refine zD Tryz.func153 rfl (by kernel_rfl) rfl fun F w0 β0 => ?_
   refine zE rfl ?_
   refine go ?_
   refine zH rfl rfl (zA [.o 0, .o 1] rfl rfl (c1) rfl rfl rfl ⟨⟨rfl, rfl⟩, ⟨rfl, rfl⟩, trivial⟩ rfl rfl rfl rfl) rfl ?_
   refine go ?_
   refine zG rfl (by simpa using hk) ?_
   refine go ?_
   exact zC hT rfl rfl rfl
abbrev bA (l : List UInt8) : AObj := .arr 5 true 1 (bv l)
theorem bv_take (l : List UInt8) (n : Nat) : (bv l).take n = bv (l.take n) := by unfold bv; rw [List.map_take]
theorem bv_drop (l : List UInt8) (n : Nat) : (bv l).drop n = bv (l.drop n) := by unfold bv; rw [List.map_drop]
theorem padB_min (v : List UInt8) : padB v = v.take (min v.length 64) ++ List.replicate (64 - min v.length 64) 0 := by
 unfold padB
 by_cases h : 64 ≤ v.length
 ·rw [List.take_append_of_le_length h, Nat.min_eq_right h]; simp
 ·rw [List.take_append, List.take_of_length_le (by omega), List.take_replicate, Nat.min_eq_left (show v.length ≤ 64 by omega), List.take_length, Nat.min_eq_left (by omega)]
set_option maxHeartbeats 4000000 in
theorem zEp {s : VS} {m : Nat} (h : VJ s m) (i : Int) (hi : U32 i) (n : Int) (k : Nat) (hn : n = (k : Int)) : Con Tryz.prog 166 [vP, .p (.int .u32 i), .p (.int .i64 n)] (vH s) (.sl (.l 0) 64 0 64) (vH s) [bA (s.block i k)] := by
 subst hn
 have c1 := zDf i (k : Int) hi []
 have c2 := zHx s (blockK i k)
 rw [zAk] at c2
 unfold VS.block
 have hl := h.len0 (blockK i k)
 generalize s.shown.get (blockK i k) = g at c2 hl
 generalize g.getD [] = v at c2 hl
 generalize g.isSome = b at c2
 have e : (List.replicate 64 (zrow ⟨.int .u8, 1, 1, [.int .u8 0]⟩)).take 0 ++ (bv v).take (min v.length 64) ++ (List.replicate 64 (zrow ⟨.int .u8, 1, 1, [.int .u8 0]⟩)).drop (0 + ((bv v).take (min v.length 64)).length) = bv (padB v) := by
  rw [padB_min, zAx, zB4, List.take_zero, List.nil_append, Nat.zero_add, bv_take, bv_length, List.drop_replicate, List.length_take, show min (min v.length 64) v.length = min v.length 64 by omega]
  rfl
 unfold bA
 rw [← e]
 refine zD Tryz.func166 rfl (by kernel_rfl) rfl fun F w0 β0 => ?_
 refine zE rfl ?_
 refine go ?_
 refine zH rfl rfl (zB rfl rfl (c1) rfl rfl rfl rfl) rfl ?_
 refine go ?_
 refine zH rfl rfl (zA [.o 0, .o 1] rfl rfl (c2) rfl rfl rfl ⟨⟨rfl, rfl⟩, ⟨rfl, rfl⟩, trivial⟩ rfl rfl rfl rfl) rfl ?_
 refine go ?_
 refine zH rfl rfl (zIs (n := 64) hT rfl rfl rfl rfl rfl rfl rfl rfl rfl (by decide)) rfl ?_
 refine go ?_
 refine zH rfl rfl (zKr (rows := bv v) hT rfl rfl rfl rfl (by simp) rfl (.str v) hbs_str (zLz v) (y5 v) (by decide) (by simp) (min v.length 64) (by rw [bv_length])) rfl ?_
 refine go ?_
 exact zBr hT rfl rfl
structure TrI (b : List UInt8) where
 k : Nat
 h : k ≤ b.length
 e : trim0 (b.take k) = trim0 b
theorem zRo {b : List UInt8} {x : UInt8} {k : Nat} (hx : b[k]? = some x) : trim0 (b.take (k + 1)) = if x = 0 then trim0 (b.take k) else b.take (k + 1) := by
 have hl := (List.getElem?_eq_some_iff.1 hx).1
 have e : b.take (k + 1) = b.take k ++ [x] := by rw [List.take_add_one, hx]; rfl
 by_cases h : x = 0
 ·subst h
  rw [if_pos rfl, e, zH5]
 ·rw [if_neg h, e]
  unfold trim0
  rw [List.reverse_append, List.reverse_singleton, List.singleton_append, List.dropWhile_cons_of_neg (by simpa using h), ← List.reverse_singleton, ← List.singleton_append, List.reverse_append]
  simp
theorem zVd {H L : List AObj} {hd : Hd} {b : List UInt8} {k : Nat} (hg : (⟨H, L, noF⟩ : Hp).get hd = some (bA b)) : Rd H L (.sl hd b.length 0 k) (bv (b.take k)) := by
 have := Rd.sl (H := H) (L := L) (h := hd) (n := b.length) (st := 0) (len := k) hg (by simp)
 rwa [List.drop_zero, bv_take] at this
set_option maxHeartbeats 8000000 in
theorem zI2 (b : List UInt8) (hb : b.length ≤ 100000) : Con Tryz.prog 197 [.sl (.o 0) b.length 0 b.length, .p (.int .u8 0)] [bA b] (.sl (.o 0) b.length 0 (trim0 b).length) [bA b] [] := by
 have hrd : ∀ L k, Rd [bA b] L (.sl (.o 0) b.length 0 k) (bv (b.take k)) := fun L k => zVd rfl
 have hE : ∀ k, ∀ r ∈ bv (b.take k), (cellsOf r).length = 1 := fun k => y5 _
 refine zD Tryz.func197 rfl (by kernel_rfl) rfl fun F w0 β0 => ?_
 refine zE rfl ?_
 refine go ?_
 refine z9 (fun q : TrI b => [(0, .sl (.o 0) b.length 0 q.k), (1, .p (.int .u8 0))]) (fun _ => [bA b]) (fun _ => []) (fun q => q.k) ⟨b.length, Nat.le_refl _, by rw [List.take_length]⟩ ⟨rfl, rfl, trivial⟩ rfl rfl (fun q => ?_)
 have hk := q.h
 have he := q.e
 generalize hqk : q.k = k at hk he
 have hlk : (bv (b.take k)).length = k := by simp; omega
 refine gx ?_
 refine zH rfl rfl (zP hT rfl rfl (hrd _ k)) rfl ?_
 rw [hlk]
 cases k with
 | zero =>
  have h0 : (trim0 b).length = 0 := by rw [← he]; rfl
  rw [h0]
  refine gx ?_
  refine go ?_
  exact zC hT rfl rfl rfl
 | succ j =>
  have hx : b[j]? = some b[j] := List.getElem?_eq_getElem (by omega)
  generalize b[j] = x at hx
  have hl := zRo hx
  rw [he] at hl
  have hxk : (bv (b.take (j + 1)))[((j : Nat) : Int).toNat]? = some (.int .u8 x.toNat) := by rw [Int.toNat_natCast]; unfold bv; rw [List.getElem?_map, List.getElem?_take, if_pos (by omega), hx]; rfl
  refine gx ?_
  refine yH 8 (.p (.bool true)) rfl (congrArg (fun z => TV.p (.bool z)) (decide_eq_true (by omega))) ?_
  refine gx ?_
  refine zZ rfl rfl rfl (zP hT rfl rfl (hrd _ (j + 1))) rfl ?_
  rw [hlk]
  refine gx ?_
  have e12 : IntKind.i64.wrap (((j + 1 : Nat) : Int) - 1) = (j : Int) := by rw [IntWalk.i64_in _ (by omega)]; omega
  refine yH 12 (.p (.int .i64 (j : Int))) rfl (congrArg (fun z => TV.p (.int .i64 z)) e12) ?_
  refine zZ rfl rfl rfl (zJ hT rfl rfl rfl rfl rfl (hrd _ (j + 1)) (by omega) (by rw [hlk]; omega)) rfl ?_
  refine gx ?_
  refine zZ rfl rfl rfl (zI hT rfl rfl (hrd _ (j + 1)) hxk rfl rfl) rfl ?_
  refine gx ?_
  by_cases h0 : x = 0
  ·subst h0
   rw [if_pos rfl] at hl
   refine zG rfl rfl ?_
   refine go ?_
   refine zH rfl rfl (zP hT rfl rfl (hrd _ (j + 1))) rfl ?_
   rw [hlk]
   refine go ?_
   refine yH 21 (.p (.int .i64 (j : Int))) rfl (congrArg (fun z => TV.p (.int .i64 z)) e12) ?_
   refine zH rfl rfl (y9 hT rfl rfl rfl rfl (hrd _ (j + 1)) rfl rfl (by omega) (by omega) (by rw [hlk]; omega) (hE _)) rfl ?_
   refine go ?_
   rw [← hqk]
   refine zR (i := q) (m := fun q : TrI b => q.k) ⟨j, by omega, hl.symm⟩ (by show j < q.k; omega) ⟨rfl, rfl, trivial⟩ rfl rfl
  ·rw [if_neg h0] at hl
   have hn : (trim0 b).length = j + 1 := by rw [hl]; simp; omega
   rw [hn]
   refine zF rfl (by simpa using fun e : x.toNat = 0 => h0 (UInt8.toNat_inj.1 e)) ?_
   refine go ?_
   exact zC hT rfl rfl rfl
theorem zRj (b : List UInt8) (hb : b.length ≤ 100000) (hne : b ≠ []) : Con Tryz.prog 185 [.sl (.o 0) b.length 0 b.length, .p (.str [0])] [bA b] (.sl (.o 0) b.length 0 (trim0 b).length) [bA b] [] := by
 have c1 := zI2 b hb
 have hrd : ∀ L, Rd [bA b] L (.sl (.o 0) b.length 0 b.length) (bv b) := fun L => Rd.full rfl (by simp)
 have hl : b.length ≠ 0 := fun e => hne (List.eq_nil_of_length_eq_zero e)
 refine zD Tryz.func185 rfl (by kernel_rfl) rfl fun F w0 β0 => ?_
 refine zE rfl ?_
 refine gx ?_
 refine zH rfl rfl (zP hT rfl rfl (hrd _)) rfl ?_
 rw [bv_length]
 refine gx ?_
 refine yH 10 (.p (.bool false)) rfl (congrArg (fun z => TV.p (.bool z)) (by simpa using hl)) ?_
 refine go ?_
 refine zZ rfl rfl rfl (j2 hT rfl rfl rfl rfl (by decide) rfl) rfl ?_
 refine go ?_
 refine zH rfl rfl (j2 hT rfl rfl rfl rfl (by decide) rfl) rfl ?_
 refine go ?_
 refine zH rfl rfl (zA [.o 0] rfl rfl (c1) rfl rfl rfl ⟨⟨rfl, rfl⟩, trivial⟩ rfl rfl rfl rfl) rfl ?_
 refine go ?_
 exact zC hT rfl rfl rfl
theorem zK5 {s : VS} {m : Nat} (h : VJ s m) (hm : m ≤ 1000000) (i : Int) (hi : U32 i) (n : Int) (k : Nat) (hn : n = (k : Int)) (b : List UInt8) (hb : b.length = 64) :
  Con Tryz.prog 167 [vP, .p (.int .u32 i), .p (.int .i64 n), .sl (.o 2) 64 0 64] [vB (.o 1) s.base s.shown s.writes s.reads s.ranges.length, vR s.ranges, bA b] (.p (.bool (s.putB i k b).1)) [vB (.o 1) (s.putB i k b).2.base (s.putB i k b).2.shown (s.putB i k b).2.writes (s.putB i k b).2.reads (s.putB i k b).2.ranges.length, vR (s.putB i k b).2.ranges, bA b] [] := by
 subst hn
 have c1 := zDf i (k : Int) hi []
 have c2 := zRj b (by omega) (by rintro rfl; simp at hb)
 rw [hb] at c2
 have hrd : ∀ H0 H1 L, Rd [H0, H1, bA b] L (.sl (.o 2) 64 0 (trim0 b).length) (bv (trim0 b)) := fun H0 H1 L => by
  have := zVd (H := [H0, H1, bA b]) (L := L) (hd := .o 2) (b := b) (k := (trim0 b).length) rfl
  rw [hb] at this
  have e : b.take (trim0 b).length = trim0 b := by
   obtain ⟨z, hz⟩ := zJz b
   refine (congrArg (List.take (trim0 b).length) hz).trans ?_
   rw [List.take_append_of_le_length (Nat.le_refl _), List.take_length]
  rwa [e] at this
 unfold VS.putB
 have ht := zLt b
 have c3 := zGb s (blockK i k) (trim0 b) (by have := h.zw; unfold big40; omega) (by have := h.zs; unfold big40; omega) (by omega)
 change Con Tryz.prog _ _ _ _ (vH (s.put (blockK i k) (trim0 b))) _ at c3
 have c4 := zHx s (blockK i k)
 rw [zAk] at c4
 have c5 := zEa s (blockK i k) (by have := h.zw; unfold big40; omega) (by have := h.zs; unfold big40; omega)
 change Con Tryz.prog _ _ _ _ (vH (s.del (blockK i k))) _ at c5
 generalize s.put (blockK i k) (trim0 b) = s3 at c3
 generalize s.del (blockK i k) = s4 at c5
 generalize s.room (blockK i k) = r at c3 c5
 generalize s.shown.get (blockK i k) = g at c4
 by_cases ht : trim0 b ≠ []
 ·rw [if_pos ht]
  refine zD Tryz.func167 rfl (by kernel_rfl) rfl fun F w0 β0 => ?_
  refine zE rfl ?_
  refine go ?_
  refine zH rfl rfl (zB rfl rfl (c1) rfl rfl rfl rfl) rfl ?_
  refine go ?_
  refine zH rfl rfl (zA [.o 2] rfl rfl (c2) rfl rfl rfl ⟨⟨rfl, rfl⟩, trivial⟩ rfl rfl rfl rfl) rfl ?_
  refine go ?_
  refine zH rfl rfl (z4 hT rfl rfl rfl rfl rfl (hrd _ _ _)) rfl ?_
  refine go ?_
  refine zG rfl (by simpa using ht) ?_
  refine go ?_
  refine zH rfl rfl (zA [.o 0, .o 1] rfl rfl (c3) rfl rfl rfl ⟨⟨rfl, rfl⟩, ⟨rfl, rfl⟩, trivial⟩ rfl rfl rfl rfl) rfl ?_
  refine go ?_
  exact zC hT rfl rfl rfl
 ·rw [if_neg ht]
  have ht : trim0 b = [] := by simpa using ht
  cases g with
  | none =>
   rw [if_pos rfl]
   refine zD Tryz.func167 rfl (by kernel_rfl) rfl fun F w0 β0 => ?_
   refine zE rfl ?_
   refine go ?_
   refine zH rfl rfl (zB rfl rfl (c1) rfl rfl rfl rfl) rfl ?_
   refine go ?_
   refine zH rfl rfl (zA [.o 2] rfl rfl (c2) rfl rfl rfl ⟨⟨rfl, rfl⟩, trivial⟩ rfl rfl rfl rfl) rfl ?_
   refine go ?_
   refine zH rfl rfl (z4 hT rfl rfl rfl rfl rfl (hrd _ _ _)) rfl ?_
   refine go ?_
   refine zF rfl (by rw [ht]; rfl) ?_
   refine go ?_
   refine zH rfl rfl (zA [.o 0, .o 1] rfl rfl (c4) rfl rfl rfl ⟨⟨rfl, rfl⟩, ⟨rfl, rfl⟩, trivial⟩ rfl rfl rfl rfl) rfl ?_
   refine go ?_
   exact zC hT rfl rfl rfl
  | some v =>
   rw [if_neg (by simp)]
   refine zD Tryz.func167 rfl (by kernel_rfl) rfl fun F w0 β0 => ?_
   refine zE rfl ?_
   refine go ?_
   refine zH rfl rfl (zB rfl rfl (c1) rfl rfl rfl rfl) rfl ?_
   refine go ?_
   refine zH rfl rfl (zA [.o 2] rfl rfl (c2) rfl rfl rfl ⟨⟨rfl, rfl⟩, trivial⟩ rfl rfl rfl rfl) rfl ?_
   refine go ?_
   refine zH rfl rfl (z4 hT rfl rfl rfl rfl rfl (hrd _ _ _)) rfl ?_
   refine go ?_
   refine zF rfl (by rw [ht]; rfl) ?_
   refine go ?_
   refine zH rfl rfl (zA [.o 0, .o 1] rfl rfl (c4) rfl rfl rfl ⟨⟨rfl, rfl⟩, ⟨rfl, rfl⟩, trivial⟩ rfl rfl rfl rfl) rfl ?_
   refine go ?_
   refine zH rfl rfl (zA [.o 0, .o 1] rfl rfl (c5) rfl rfl rfl ⟨⟨rfl, rfl⟩, ⟨rfl, rfl⟩, trivial⟩ rfl rfl rfl rfl) rfl ?_
   refine go ?_
   exact zC hT rfl rfl rfl
end Go.Proofs.YtdnpkgakpiopgaaGreatDoor

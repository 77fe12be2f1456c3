/- Contracts and plain laws, several texts joined: Go6, F18q, F18p, F18o, Go7, RelBlk. -/
import Derived.Test.YtfnpelogfcnanaaGreatDoorM18
import Derived.Test.YtfnpelogfcnanaaGreatDoorGo
import Derived.Test.YtfnpelogfcnanaaGreatDoorM5
import Derived.Test.YtfnpelogfcnanaaGreatDoorM3
import Derived.Test.YtfnpelogfcnanaaGreatDoorM17
/- More rules of the walk: drawn regions that write the caller's objects, with guards. No program is named here. -/
-- @D
namespace Go.Proofs.YtfnpelogfcnanaaGreatDoor
set_option maxRecDepth 20000
open Go.Awp Go.RowKit
section
variable {P : Program} {ops : List Oper} {env0 : Env} {Hs Ls : List (List AObj)} {ss : List Nat} {xs : List TV}
end
end Go.Proofs.YtfnpelogfcnanaaGreatDoor

/- flintlaw18: same. -/
-- @D
namespace Go.Proofs.YtfnpelogfcnanaaGreatDoor
set_option maxRecDepth 20000
open Go.Awp Tr
end Go.Proofs.YtfnpelogfcnanaaGreatDoor

/- flintref18: New. -/
-- @D
namespace Go.Proofs.YtfnpelogfcnanaaGreatDoor
set_option maxRecDepth 20000
open Go.Awp Tr
/-- A row of one node without entries, told with a slice of none. -/
theorem nod1_le (i k n : Int) : AVLe (.ps [.agg [.int .u32 i, .int .u8 k, .int .i64 n, .str [], .nils]]) (.ps [.agg [.int .u32 i, .int .u8 k, .int .i64 n, .str [], .ps []]]) := fun w N v hr => by
  cases hr with
  | ps _ a c e vs hN hb he hc hr hl =>
    refine .ps [.agg [.int .u32 i, .int .u8 k, .int .i64 n, .str [], .ps []]] a c e vs hN hb (fun r hr' => ?_) hc (fun p j r x hp hj => ?_) hl
    · have := he _ List.mem_cons_self
      rw [List.mem_singleton] at hr'
      subst hr'
      exact this
    · match p with
      | 0 =>
        obtain rfl : AV.agg [.int .u32 i, .int .u8 k, .int .i64 n, .str [], .ps []] = r := by simpa using hp
        have h0 := fun (j : Nat) (x : AV) => hr 0 j _ x rfl
        match j with
        | 0 => exact h0 0 x hj
        | 1 => exact h0 1 x hj
        | 2 => exact h0 2 x hj
        | 3 => exact h0 3 x hj
        | 4 =>
          obtain rfl : AV.ps [] = x := by simpa [cellsOf] using hj
          exact nils_ps _ _ _ (h0 4 .nils rfl)
        | j + 5 => simp [cellsOf] at hj
      | p + 1 => simp at hp
theorem rnew18_spec : Con Tryz.prog 13 [] [] (fsT newM) [] [] := by
  refine con_of Tryz.func13 rfl (by kernel_rfl) rfl fun F w0 β0 => ?_
  refine K_tell rfl ?_
  refine go ?_
  refine J_recell 0 0 (.p (.ps (nods newM))) rfl rfl (fun w β G v hr => ?_) ?_
  · cases hr with | p h => exact .p (nod1_le 1 2 2 _ _ _ h)
  exact J_done hT rfl rfl rfl
end Go.Proofs.YtfnpelogfcnanaaGreatDoor

/- An operation of layer 18: a view as the model; what a row of them keeps. -/
-- @D
namespace Go.Proofs.YtfnpelogfcnanaaGreatDoor
set_option maxRecDepth 20000
open Go.Awp Tr
/-- What holds between a view and the model, behind so many operations. -/
structure D18 (s : VS) (m : MF) (i : Nat) : Prop where
  v : VJ s (200 * i)
  r : ∃ par, Rel s.shown.row m par
  w : m.wk (6 * i + 2)
  l : m.lt (2 + i)
theorem D18.new : D18 (VS.new .nil) newM 0 :=
  ⟨VJ.new (by simp [row, Rises]) (Nat.le_refl _) (by simp [row]), ⟨_, Rel.new⟩,
    ⟨by simp [newM], fun x hx => by rw [show x = ⟨1, 2, 2, [], []⟩ by simpa [newM] using hx]; simp, fun x hx => by rw [show x = ⟨1, 2, 2, [], []⟩ by simpa [newM] using hx]; simp, fun x hx => by rw [show x = ⟨1, 2, 2, [], []⟩ by simpa [newM] using hx]; simp [Rises]⟩,
    fun x hx => by rw [show x = ⟨1, 2, 2, [], []⟩ by simpa [newM] using hx]; simp⟩
theorem D18.u {s : VS} {m : MF} {i : Nat} (h : D18 s m i) : (∀ x ∈ m, U32 x.i) ∧ m.kind 1 = 2 ∧ m.ok (6 * i + 2) := by
  obtain ⟨par, R⟩ := h.r
  refine ⟨fun x hx => (R.u _ _ (R.fst x hx)).1, ?_, R.spot h.w⟩
  obtain ⟨x, h1, h2⟩ := R.root
  unfold MF.kind; rw [h1]; exact h2
/-- One operation more: the view is full, or both answer alike. -/
theorem D18.step {s : VS} {m : MF} {i : Nat} (h : D18 s m i) (hi : i ≤ 100) (k : Int) (p o : List UInt8) (j : Int) (hj : j = 2 + i) :
    (doT s m k p o j).1.2.2 = true ∨ ((doT s m k p o j).1.1 = true ∧ (doT s m k p o j).1.2.2 = false ∧ D18 (doT s m k p o j).2 (doT s m k p o j).1.2.1 (i + 1)) := by
  obtain ⟨par, R⟩ := h.r
  have hl1 : m.lt (2 + (i + 1 : Nat)) := h.l.mono (by omega)
  have hat : m.at j = none := h.l.none (by omega)
  have hju : U32 j := by unfold U32; omega
  have key : ∀ (q : Int × VS) (r : Int × MF), (q.1 = 21 ∨ (q.1 = r.1 ∧ ∃ par', Rel q.2.shown.row r.2 par')) → VJ q.2 (200 * i + 200) → r.2.wk (6 * i + 2 + 6) → r.2.lt (2 + (i + 1 : Nat)) →
      (if q.1 = 21 then ((true, m, true), q.2) else ((decide (q.1 = r.1), r.2, false), q.2)).1.2.2 = true ∨ ((if q.1 = 21 then ((true, m, true), q.2) else ((decide (q.1 = r.1), r.2, false), q.2)).1.1 = true ∧ (if q.1 = 21 then ((true, m, true), q.2) else ((decide (q.1 = r.1), r.2, false), q.2)).1.2.2 = false ∧ D18 (if q.1 = 21 then ((true, m, true), q.2) else ((decide (q.1 = r.1), r.2, false), q.2)).2 (if q.1 = 21 then ((true, m, true), q.2) else ((decide (q.1 = r.1), r.2, false), q.2)).1.2.1 (i + 1)) := by
    intro q r h1 h2 h3 h4
    by_cases e : q.1 = 21
    · rw [if_pos e]; exact .inl rfl
    · rw [if_neg e]
      obtain ⟨h5, h6⟩ := h1.resolve_left e
      exact .inr ⟨decide_eq_true h5, rfl, h2.mono (by omega), h6, h3.mono (by omega), h4⟩
  unfold doT
  by_cases h3 : k = 3
  · rw [if_pos h3]
    obtain ⟨e1, e2⟩ := list_sim h.v R p
    refine .inr ⟨?_, rfl, (dlist_ok h.v p).mono (by omega), ⟨par, by dsimp only; rw [e2]; exact R⟩, h.w.mono (by omega), hl1⟩
    dsimp only
    rw [e1]; simp
  rw [if_neg h3]
  by_cases h0 : k = 0
  · have e : do18 s m k p o j = (s.make p 1 j, m.make p 1 j) := by unfold do18; rw [if_pos h0]
    rw [e]
    exact key _ _ (make_sim h.v R h.w (by omega) p (.inl rfl) hju (by omega) hat) (make_ok h.v p 1 j) (make_wk h.w (by omega) p 1 j) (hl1.make p 1 (by omega))
  by_cases h1 : k = 1
  · have e : do18 s m k p o j = (s.make p 2 j, m.make p 2 j) := by unfold do18; rw [if_neg h0, if_pos h1]
    rw [e]
    exact key _ _ (make_sim h.v R h.w (by omega) p (.inr rfl) hju (by omega) hat) (make_ok h.v p 2 j) (make_wk h.w (by omega) p 2 j) (hl1.make p 2 (by omega))
  by_cases h2 : k = 2
  · have e : do18 s m k p o j = (s.remove p, m.remove p) := by unfold do18; rw [if_neg h0, if_neg h1, if_pos h2]
    rw [e]
    exact key _ _ ((remove_sim h.v R h.w (by omega) p).imp_right fun q => ⟨q.1, par, q.2⟩) (remove_ok h.v p) (remove_wk h.w p) (hl1.remove p)
  by_cases h4 : k = 4
  · have e : do18 s m k p o j = (s.link p o, m.link p o) := by unfold do18; rw [if_neg h0, if_neg h1, if_neg h2, if_pos h4]
    rw [e]
    exact key _ _ ((link_sim h.v R p o).imp_right fun q => ⟨q.1, par, q.2⟩) (link_ok h.v p o) (link_wk h.w p o) (hl1.link p o)
  by_cases h5 : k = 5
  · have e : do18 s m k p o j = (s.unlink p, m.unlink p) := by unfold do18; rw [if_neg h0, if_neg h1, if_neg h2, if_neg h4, if_pos h5]
    rw [e]
    exact key _ _ ((unlink_sim h.v R p).imp_right fun q => ⟨q.1, par, q.2⟩) (unlink_ok h.v R p) (unlink_wk h.w p) (hl1.unlink p)
  by_cases h6 : k = 6
  · have e : do18 s m k p o j = (s.rename p o, m.rename p o) := by unfold do18; rw [if_neg h0, if_neg h1, if_neg h2, if_neg h4, if_neg h5, if_pos h6]
    rw [e]
    exact key _ _ (rename_sim h.v R h.w (by omega) p o) (rename_ok h.v R p o) (rename_wk h.w p o) (hl1.rename p o)
  have e : do18 s m k p o j = ((0, s), (0, m)) := by unfold do18; rw [if_neg h0, if_neg h1, if_neg h2, if_neg h4, if_neg h5, if_neg h6]
  rw [e]
  exact key (0, s) (0, m) (.inr ⟨rfl, par, R⟩) (h.v.mono (by omega)) (h.w.mono (by omega)) hl1
theorem key_lt {y c j : Int} {r : List UInt8} (hc : c = 73 ∧ r = [] ∨ c = 69 ∨ c = 68) : Op.bytesLess (keyH c j ++ r) [255] = true := by
  have : c = 73 ∨ c = 69 ∨ c = 68 := by omega
  rcases this with rfl | rfl | rfl <;> rfl
theorem Rel.ff {l : List KV} {m : MF} {par : Int → Int} (R : Rel l m par) : ∀ y ∈ l, Op.bytesLess y.1 [255] = true := fun y hy => by
  obtain ⟨c, j, r, h1, _, h3⟩ := R.key y hy
  rw [h3]; exact key_lt (y := 0) h1
theorem D18.based {s : VS} {m : MF} {i : Nat} (h : D18 s m i) : D18 (VS.new (basedT s)) m i ∧ (basedT s).row = s.shown.row := by
  obtain ⟨par, R⟩ := h.r
  obtain ⟨e1, e2⟩ := based_row h.v R.ff
  refine ⟨⟨VJ.new (by rw [e2]; exact h.v.rs) (by rw [← row_len, e2, row_len]; exact h.v.zs) (by rw [e2]; exact h.v.val), ⟨par, ?_⟩, h.w, h.l⟩, e2⟩
  show Rel (basedT s).row m par
  rw [e2]; exact R
end Go.Proofs.YtfnpelogfcnanaaGreatDoor

/- More rules of the walk: copy of whatever length, clear of a part of an own array. No program is named here. -/
-- @D
namespace Go.Proofs.YtfnpelogfcnanaaGreatDoor
set_option maxRecDepth 20000
open Go.Awp Go.RowKit
section
variable {P : Program} {T : Tab} {env : Env} {H L : List AObj} {o : Oper} {x : TV} {w : World} {β : Hd → Nat} {F : Nat → Prop}
theorem News.take {N : Nat → Prop} {e : Nat} {rows : List AV} {news : List Value} (h : News w N e rows news) {m : Nat} (hm : m ≤ rows.length) : News w N e (rows.take m) (news.take (m * e)) := by
  have hl := h.len
  have hle : m * e ≤ rows.length * e := Nat.mul_le_mul_right _ hm
  refine ⟨fun r hr => h.size r (List.mem_of_mem_take hr), by simp [Nat.min_eq_left hm]; omega, fun i j r x hi hj => ?_⟩
  rw [List.getElem?_take] at hi
  split at hi
  · rename_i him
    obtain ⟨u, hu, hr⟩ := h.cell i j r x hi hj
    have hjl : j < e := by rw [← h.size r (List.mem_of_getElem? hi)]; exact (List.getElem?_eq_some_iff.1 hj).1
    refine ⟨u, ?_, hr⟩
    rw [List.getElem?_take, if_pos]
    · exact hu
    · have : (i + 1) * e ≤ m * e := Nat.mul_le_mul_right _ (by omega)
      rw [Nat.add_mul] at this; omega
  · cases hi
/-- The first ones of what is copied. -/
theorem SrcA.pre (hS : Sim w β ⟨H, L, F⟩) {s : TV} {v : Value} {rows : List AV} {e : Nat} (h : RepT w β ⟨H, L, F⟩ s v) (hs : SrcA H L s rows) (he : ∀ r ∈ rows, (cellsOf r).length = e)
    (hks : (∃ l, s = .p (.str l)) → e = 1) {m : Nat} (hm : m ≤ rows.length) :
    ∃ news, (∀ w' : World, (Builtin.lenOf v).run P w' = .ok rows.length w') ∧ (Builtin.firstCells e m v).run P w = .ok news.toArray w ∧ News w (Free β ⟨H, L, F⟩) e (rows.take m) news := by
  cases hs with
  | rd hr =>
    obtain ⟨ao, c, rfl, hlc, hor⟩ := hr.val hS h
    by_cases hz : rows = []
    · subst hz
      obtain rfl : m = 0 := by simpa using hm
      refine ⟨[], fun _ => rfl, ?_, ⟨by simp, by simp, fun i j r x hi => by simp at hi⟩⟩
      cases ao with
      | none => exact run_firstCells_none w e 0 _ c
      | some a => exact run_firstCells_some w e 0 a _ c [] (by simp) (by simp)
    · rcases hor with h0 | ⟨a, e1, rfl, hrow⟩
      · exact absurd h0 hz
      · have hee : e1 = e := by
          obtain ⟨r, hm⟩ := List.exists_mem_of_ne_nil rows hz
          rw [← hrow.size r hm, he r hm]
        subst hee
        obtain ⟨news, n1, n2⟩ := hrow.news
        have n3 := News.take n1 hm
        refine ⟨news.take (m * e1), fun _ => rfl, ?_, n3⟩
        refine run_firstCells_some w e1 m a rows.length c _ ?_ fun j u hu => ?_
        · rw [n3.len, List.length_take, Nat.min_eq_left hm]
        · rw [List.getElem?_take] at hu
          split at hu
          · exact n2 j u hu
          · cases hu
  | str l =>
    obtain rfl := hks ⟨l, rfl⟩
    obtain rfl := h.str_inv
    have hb := News.take (bytes_news (w := w) l (Free β ⟨H, L, F⟩)) hm
    refine ⟨(byteCells ⟨l.toArray⟩).take (m * 1), fun _ => by simp [Builtin.lenOf, ByteArray.size], ?_, hb⟩
    have hml : m ≤ l.length := by simpa using hm
    simp only [Builtin.firstCells, Sem.run_pure]
    congr 1
    apply Array.ext'
    simp [byteCells, ByteArray.extract, ByteArray.copySlice, List.map_take]
theorem run_copy_m (w : World) (dT tx ty elem : TypeId) (g o dLen dCap : Nat) (cur : Array Value) (t : TypeId) (i : TypeInfo) (x : Value) (n : Nat) (news : List Value) (hu : P.underlying dT = some (.slice elem)) (hi : P.info? elem = some i)
    (hl : ∀ w' : World, (Builtin.lenOf x).run P w' = .ok n w') (hc : (Builtin.firstCells i.size (Nat.min n dLen) x).run P w = .ok news.toArray w) (h1 : ∀ u ∈ news, u.oneCell' = true)
    (hg : w.heap[g]? = some (.cells cur t (0, 0))) (hfit : o + news.length ≤ cur.size) :
    (Builtin.copy_ #[dT, tx] ty #[.slice (some ⟨g, o, none⟩) dLen dCap, x]).run P w = .ok (goInt ((Nat.min n dLen : Nat) : Int)) (w.setRow g (cur.toList.take o ++ news ++ cur.toList.drop (o + news.length)).toArray) := by
  have hst := run_storeCells_at P g o t news 0 cur w hg (by simpa using hfit) h1
  simp only [Nat.add_zero] at hst
  simp [Builtin.copy_, run_underlying hu, sizeOf, typeInfo, hi, hl, hc, hst]
/-- Rows of an own array become others. -/
theorem opr_splice {i st e : Nat} {Ty : TypeId} {rows0 rows : List AV} (hi : L[i]? = some (.arr Ty true e rows0)) (hne : rows0.length ≠ 0) (hle : st + rows.length ≤ rows0.length)
    (h : ∀ F w β a, Sim w β ⟨H, L, F⟩ → EnvR w β ⟨H, L, F⟩ env a → ∀ cs : Array Value, w.heap[β (.l i)]? = some (.cells cs Ty (0, 0)) → rows0.length * e ≤ cs.size → ∃ (u : Value) (news : List Value), News w (Free β ⟨H, L, F⟩) e rows news ∧ (∀ w', RepT w' β ⟨H, L, F⟩ x u) ∧ (∀ w' β', RepT w' β' ⟨H, L.set i (.arr Ty true e (rows0.take st ++ rows ++ rows0.drop (st + rows.length))), F⟩ x u) ∧
      ((rows = [] ∧ (execOp a.eval o).run P w = .ok (.value u) w) ∨ (execOp a.eval o).run P w = .ok (.value u) (w.setRow (β (.l i)) (cs.toList.take (st * e) ++ news ++ cs.toList.drop (st * e + news.length)).toArray))) :
    OpR P o env H L x H (L.set i (.arr Ty true e (rows0.take st ++ rows ++ rows0.drop (st + rows.length)))) :=
  opr_set hi (AObj.off_arr.2 fun _ => hne) fun F w β a hS hen => by
    obtain ⟨cs, c1, c2, hpos, c3⟩ := objOk_news hS hi hne
    obtain ⟨u, news, n2, hx1, hx2, hor⟩ := h F w β a hS hen cs c1 c2
    rcases hor with ⟨rfl, hrun⟩ | hrun
    · have e : rows0.take st ++ [] ++ rows0.drop (st + ([] : List AV).length) = rows0 := by simp
      rw [e] at hx2 ⊢
      exact ⟨u, w, .inl hrun, rfl, rfl, rfl, rfl, fun b hb => rfl, ObjGo.refl _ _ _, fun hst => ⟨(hS.objs (.l i) _ hi).mono hst rfl, hx2 _ _⟩⟩
    have hnl := n2.len
    have he := n2.size
    have hb1 : st * e + rows.length * e ≤ rows0.length * e := by rw [← Nat.add_mul]; exact Nat.mul_le_mul_right _ hle
    have hblk := setRow_heap w (β (.l i)) cs (cs.toList.take (st * e) ++ news ++ cs.toList.drop (st * e + news.length)).toArray Ty (0, 0) c1
    have hlen : (cs.toList.take (st * e) ++ news ++ cs.toList.drop (st * e + news.length)).length = cs.size := by simp; omega
    have hrl : (rows0.take st ++ rows ++ rows0.drop (st + rows.length)).length = rows0.length := by simp; omega
    have hrg : ∀ p : Nat, (rows0.take st ++ rows ++ rows0.drop (st + rows.length))[p]? = if p < st then rows0[p]? else if p < st + rows.length then rows[p - st]? else rows0[p]? := fun p => by
      by_cases h1 : p < st
      · rw [if_pos h1, List.append_assoc, List.getElem?_append_left (by simp; omega), List.getElem?_take, if_pos h1]
      · rw [if_neg h1]
        by_cases h2 : p < st + rows.length
        · rw [if_pos h2, List.append_assoc, List.getElem?_append_right (by simp; omega)]
          simp only [List.length_take, Nat.min_eq_left (show st ≤ rows0.length by omega)]
          rw [List.getElem?_append_left (by omega)]
        · rw [if_neg h2, List.getElem?_append_right (by simp; omega)]
          simp only [List.length_append, List.length_take, Nat.min_eq_left (show st ≤ rows0.length by omega), List.getElem?_drop]
          congr 1; omega
    refine ⟨u, _, .inl hrun, rfl, rfl, rfl, by simp, fun b hb => setRow_other w _ b _ hb, ?_, fun hst => ⟨?_, hx2 _ _⟩⟩
    · refine ⟨rfl, rfl, rfl, by rw [hrl]; exact Nat.le_refl _, fun _ _ => ⟨rfl, ?_⟩⟩
      unfold csize
      rw [hblk, c1]
      simpa using hlen
    · refine objOk_arr (w := w) (N := Free β ⟨H, L, F⟩) hblk hpos ?_ (fun x v h => h.mono hst.size hst.frame)
      refine ⟨fun q hq => ?_, by rw [hrl, List.toList_toArray, List.length_take, hlen]; omega, fun p q rr x hp hq => ?_⟩
      · rcases List.mem_append.1 hq with h | h
        · rcases List.mem_append.1 h with h | h
          · exact c3.size q (List.mem_of_mem_take h)
          · exact he q h
        · exact c3.size q (List.mem_of_mem_drop h)
      · have hpl : p < rows0.length := by rw [← hrl]; exact (List.getElem?_eq_some_iff.1 hp).1
        rw [hrg] at hp
        have hql : q < e := by
          have hm : (cellsOf rr).length = e := by
            split at hp
            · exact c3.size rr (List.mem_of_getElem? hp)
            · split at hp
              · exact he rr (List.mem_of_getElem? hp)
              · exact c3.size rr (List.mem_of_getElem? hp)
          rw [← hm]; exact (List.getElem?_eq_some_iff.1 hq).1
        have hlt : p * e + q < rows0.length * e := by
          have : (p + 1) * e ≤ rows0.length * e := Nat.mul_le_mul_right _ (by omega)
          rw [Nat.add_mul, Nat.one_mul] at this; omega
        rw [hrl, List.toList_toArray, List.getElem?_take, if_pos hlt, splice_get _ _ _ (by simp; omega)]
        split at hp
        · rename_i h1
          have : (p + 1) * e ≤ st * e := Nat.mul_le_mul_right _ (by omega)
          rw [Nat.add_mul, Nat.one_mul] at this
          rw [if_pos (by omega)]
          obtain ⟨u, hu, hr'⟩ := c3.cell p q rr x hp hq
          rw [List.getElem?_take, if_pos hlt] at hu
          exact ⟨u, hu, hr'⟩
        · rename_i h1
          have h3 : st * e ≤ p * e := Nat.mul_le_mul_right _ (by omega)
          rw [if_neg (by omega)]
          split at hp
          · rename_i h2
            have : (p + 1) * e ≤ (st + rows.length) * e := Nat.mul_le_mul_right _ (by omega)
            rw [Nat.add_mul, Nat.one_mul, Nat.add_mul] at this
            rw [if_pos (by omega)]
            obtain ⟨u, hu, hr'⟩ := n2.cell (p - st) q rr x hp hq
            exact ⟨u, by rw [show p * e + q - st * e = (p - st) * e + q by rw [Nat.sub_mul]; omega]; exact hu, hr'⟩
          · rename_i h2
            have : (st + rows.length) * e ≤ p * e := Nat.mul_le_mul_right _ (by omega)
            rw [Nat.add_mul] at this
            rw [if_neg (by omega)]
            obtain ⟨u, hu, hr'⟩ := c3.cell p q rr x hp hq
            rw [List.getElem?_take, if_pos hlt] at hu
            exact ⟨u, hu, hr'⟩
/-- copy into a part of an own array: as much as there is room for. -/
theorem opr_copyM {t tx : TypeId} {y z : Operand} {e n i st len : Nat} {te : TyI} {b : Bool} {rows0 rows : List AV} {s : TV} {Ty : TypeId} (hT : TabOk P T) (ho : o.op = .call { callee := .builtin .copy, args := #[y, z], argTypes := #[t, tx] })
    (ht : appT T t tx = some (e, te, b)) (hy : evA env y = .sl (.l i) n st len) (hi : L[i]? = some (.arr Ty true te.size rows0)) (hn : rows0.length = n) (hz : evA env z = s) (hs : SrcA H L s rows) (hbs : b = true ↔ ∃ l, s = .p (.str l)) (hc : clR rows) (he : ∀ r ∈ rows, (cellsOf r).length = te.size)
    (hsl : st + len ≤ n) (hne : rows0.length ≠ 0) (m : Nat) (hm : min rows.length len = m) : OpR P o env H L (.p (.int .i64 (m : Int))) H (L.set i (.arr Ty true te.size (rows0.take st ++ rows.take m ++ rows0.drop (st + (rows.take m).length)))) := by
  have hml : (rows.take m).length = m := by simp; omega
  refine opr_splice (rows := rows.take m) hi hne (by rw [hml]; omega) fun F w β a hS hen cs c1 c2 => ?_
  obtain ⟨at', hb1, _⟩ := appT_ok hT ht
  obtain ⟨inf, zv, i1, i2, i3, i4, i5⟩ := at'.info
  have hvz := evA_ok hen z
  rw [hz] at hvz
  obtain ⟨news, n0, n1, n2⟩ := SrcA.pre (P := P) hS hvz hs he (fun h => hb1 (hbs.2 h)) (m := m) (by omega)
  have hone := n2.one fun r hr => hc r (List.mem_of_mem_take hr)
  have hvy := evA_ok hen y
  rw [hy] at hvy
  generalize hvv : a.eval y = vy at hvy
  cases hvy with | sl _ _ _ _ _ _ _ hv =>
  obtain ⟨ao, cap, rfl, hlc, hcm, hadd, _⟩ := (hv _ _ _ _ hi hn).on fun _ => by omega
  refine ⟨goInt (m : Int), news, n2, fun _ => .p (.int ..), fun _ _ => .p (.int ..), ?_⟩
  have hmm : Nat.min rows.length len = m := hm
  by_cases hm0 : m = 0
  · left
    subst hm0
    refine ⟨by simp, run_cp (P := P) ho ?_⟩
    have hnl := n2.len
    rw [hml] at hnl
    have hnn : news = [] := List.eq_nil_of_length_eq_zero (by omega)
    subst hnn
    have hu := at'.ut
    rw [hvv]
    cases ao <;> simp [Builtin.copy_, run_underlying hu, sizeOf, typeInfo, i1, n0, hmm, i3, n1, storeCells]
  · right
    obtain rfl := hadd (.inr (by omega))
    have hnl := n2.len
    rw [hml] at hnl
    subst hn
    have hb2 : st * te.size + m * te.size ≤ rows0.length * te.size := by rw [← Nat.add_mul]; exact Nat.mul_le_mul_right _ (by omega)
    have hrun := run_copy_m (P := P) w t tx o.type e (β (.l i)) (st * te.size) len cap cs Ty inf (a.eval z) rows.length news at'.ut i1 n0 (by rw [i3, hmm]; exact n1) hone c1 (by omega)
    rw [← hvv, hmm] at hrun
    exact run_cp (P := P) ho hrun
/-- clear of a part of an own array. -/
theorem opr_clearZ {t : TypeId} {y : Operand} {e n i st len : Nat} {te : TyI} {rows0 : List AV} {Ty : TypeId} (hT : TabOk P T) (ho : o.op = .call { callee := .builtin .clear, args := #[y], argTypes := #[t] }) (hd : tyD T t = .slice e) (he : tlk T e = some te) (hcl : te.zero.all cl = true) (hna : noAgg te.zero = true) (hag : (isAggD te.d).isSome = true)
    (hy : evA env y = .sl (.l i) n st len) (hi : L[i]? = some (.arr Ty true te.size rows0)) (hn : rows0.length = n) (hsl : st + len ≤ n) (hne : rows0.length ≠ 0) : OpR P o env H L (.p .top) H (L.set i (.arr Ty true te.size (rows0.take st ++ List.replicate len (zrow te) ++ rows0.drop (st + (List.replicate len (zrow te)).length)))) := by
  refine opr_splice (rows := List.replicate len (zrow te)) hi hne (by simp; omega) fun F w β a hS hen cs c1 c2 => ?_
  obtain ⟨u, h1, h2⟩ := tyD_und hT (t := t) (by rw [hd]; simp)
  rw [hd] at h2
  obtain rfl := chkD_slice h2
  obtain ⟨inf, ue, ok⟩ := hT.get he
  obtain ⟨zv, hz, hzz⟩ := ok.run_zero w
  have hvy := evA_ok hen y
  rw [hy] at hvy
  generalize hvv : a.eval y = vy at hvy
  cases hvy with | sl _ _ _ _ _ _ _ hv =>
  obtain ⟨ao, cap, rfl, hlc, hcm, hadd, _⟩ := (hv _ _ _ _ hi hn).on fun _ => by omega
  have hzl : zv.cells.size = te.size := by
    have := (chkZ_ok hzz).1
    simp at this
    rw [this, ok.zlen]
  have hcells := zrow_cells hna (ok.one) ok.zlen hag
  have hzr := zero_rep (w := w) (β := β) (G := ⟨H, L, F⟩) hzz
  have hnews : News w (Free β ⟨H, L, F⟩) te.size (List.replicate len (zrow te)) (Builtin.zeroCells zv.cells len).toList := by
    refine ⟨fun r hr => by rw [List.eq_of_mem_replicate hr, hcells, ok.zlen], by rw [Array.length_toList, size_zeroCells, hzl, List.length_replicate], fun i j r x hi hj => ?_⟩
    have hil : i < len := by simpa using (List.getElem?_eq_some_iff.1 hi).1
    have hrr : r = zrow te := List.eq_of_mem_replicate (List.mem_of_getElem? hi)
    subst hrr
    rw [hcells] at hj
    have hjl : j < te.size := by rw [← ok.zlen]; exact (List.getElem?_eq_some_iff.1 hj).1
    have hlt : i * te.size + j < len * te.size := by
      have : (i + 1) * te.size ≤ len * te.size := Nat.mul_le_mul_right _ (by omega)
      rw [Nat.add_mul] at this; omega
    have hmod : (i * te.size + j) % te.size = j := by rw [Nat.mul_comm, Nat.mul_add_mod, Nat.mod_eq_of_lt hjl]
    have hjz : j < zv.cells.size := by omega
    refine ⟨zv.cells[j], ?_, ?_⟩
    · simp [Builtin.zeroCells, hlt, hzl, hmod]
      rw [getElem!_pos zv.cells j hjz]
    · have := hzr.2 j (.p x) zv.cells[j] (by simp [hj]) (by simp [hjz])
      cases this with | p h => exact h
  have hone := hnews.one fun r hr x hx => by
    rw [List.eq_of_mem_replicate hr, hcells] at hx
    exact List.all_eq_true.1 hcl x hx
  have hrunc : ∀ {w' : World}, (Builtin.clear_ #[t] o.type #[a.eval y]).run P w = .ok (.tuple #[]) w' → (execOp a.eval o).run P w = .ok (.value (.tuple #[])) w' := fun {w'} h => by
    simp only [execOp, ho, resolve, invoke, builtin, Sem.run_bind, Sem.run_pure, Result.andThen_ok, List.map_toArray, List.map_cons, List.map_nil]
    simp [h]
  refine ⟨.tuple #[], _, hnews, fun _ => .p (.top _), fun _ _ => .p (.top _), ?_⟩
  by_cases h0 : len = 0
  · left
    subst h0
    refine ⟨rfl, hrunc ?_⟩
    rw [hvv]
    cases ao <;> simp [Builtin.clear_, run_underlying h1]
  · right
    obtain rfl := hadd (.inr (by omega))
    obtain ⟨m, hm⟩ : ∃ m, len = m + 1 := ⟨len - 1, by omega⟩
    have hb2 : st * te.size + len * te.size ≤ rows0.length * te.size := by rw [← Nat.add_mul]; exact Nat.mul_le_mul_right _ (by omega)
    have hst := run_storeCells_at P (β (.l i)) (st * te.size) Ty (Builtin.zeroCells zv.cells len).toList 0 cs w c1 (by rw [Array.length_toList, size_zeroCells, hzl]; omega) hone
    simp only [Nat.add_zero] at hst
    refine hrunc ?_
    rw [hvv]
    subst hm
    simp at hst
    simp [Builtin.clear_, run_underlying h1, hz, hst]
/-! ### A value told otherwise -/
def TVLe (x y : TV) : Prop := ∀ w β G v, RepT w β G x v → RepT w β G y v
theorem J_rep {Γ : Ctx} {Φ : Act → World → Prop} (d : Nat) {x : TV} (y : TV) (hx : lk env d = x) (hc : TVLe x y) (k : J Γ ((d, y) :: env) H L Φ) : J Γ env H L Φ := fun a w β s =>
  k a w β ⟨s.sim, s.step, fun t => by
    rw [lk_cons]
    split
    · rename_i e
      have := s.env d
      rw [hx] at this
      rw [e]
      exact hc _ _ _ _ this
    · exact s.env t, s.size, s.defers⟩
/-- A cell of a struct told otherwise. -/
theorem agg_rep {xs : List TV} (i : Nat) {x y : AV} (hi : xs[i]? = some (.p x)) (hc : AVLe x y) : TVLe (.agg xs) (.agg (xs.set i (.p y))) := fun w β G v h => by
  cases h with
  | agg _ vs hl hr =>
    refine .agg _ vs (by rw [List.length_set]; exact hl) fun j z u hz hu => ?_
    by_cases e : j = i
    · subst e
      rw [List.getElem?_set_self (List.getElem?_eq_some_iff.1 hi).1] at hz
      obtain rfl := Option.some.inj hz
      have := hr j (.p x) u hi hu
      cases this with | p q => exact .p (hc _ _ _ q)
    · rw [List.getElem?_set_ne (Ne.symm e)] at hz
      exact hr j z u hz hu
end
end Go.Proofs.YtfnpelogfcnanaaGreatDoor

/- Blocks of a file: what stands under their keys. -/
-- @D
namespace Go.Proofs.YtfnpelogfcnanaaGreatDoor
set_option maxRecDepth 20000
open Go.Awp Tr
/-- A block's bytes, as far as there are any. -/
def blkN (b : List UInt8) (n : Nat) : List UInt8 := (b.drop (64 * n)).take 64
theorem trim0_eq (s : List UInt8) : ∃ k, s = trim0 s ++ List.replicate k 0 := by
  refine ⟨(s.reverse.takeWhile (· == 0)).length, ?_⟩
  have h := List.takeWhile_append_dropWhile (p := fun x : UInt8 => x == 0) (l := s.reverse)
  have hz : s.reverse.takeWhile (· == 0) = List.replicate (s.reverse.takeWhile (· == 0)).length 0 := by
    rw [List.eq_replicate_iff]
    refine ⟨rfl, fun b hb => ?_⟩
    have := List.all_takeWhile (p := fun x : UInt8 => x == 0) (l := s.reverse)
    rw [List.all_eq_true] at this
    simpa using this b hb
  have h2 := congrArg List.reverse h
  rw [List.reverse_append, List.reverse_reverse] at h2
  have h3 : (s.reverse.takeWhile (· == 0)).reverse = List.replicate (s.reverse.takeWhile (· == 0)).length 0 := by
    rw [hz, List.reverse_replicate, List.length_replicate]
  rw [h3] at h2
  exact h2.symm
theorem beB2_inj {i j : Nat} (hi : i ≤ 65535) (hj : j ≤ 65535) (h : beB 2 (i : Int) = beB 2 (j : Int)) : i = j := by
  have h1 := bl_be2 (i : Int) j (by omega) (by omega)
  have h2 := bl_be2 (j : Int) i (by omega) (by omega)
  rw [h, bl_irrefl] at h1
  rw [h, bl_irrefl] at h2
  have h1 : ¬ ((i : Int) < j) := of_decide_eq_false h1.symm
  have h2 : ¬ ((j : Int) < i) := of_decide_eq_false h2.symm
  omega
theorem blk_rng (b : List UInt8) (n : Nat) (hn : n ≤ 65535) : ∀ K : Nat, K ≤ 65536 → lget (beB 2 (n : Int)) ((List.range K).filterMap fun n => if trim0 (blkN b n) = [] then none else some (beB 2 (n : Int), trim0 (blkN b n))) = if n < K ∧ trim0 (blkN b n) ≠ [] then some (trim0 (blkN b n)) else none
  | 0, _ => by rw [if_neg (by omega)]; rfl
  | K + 1, hK => by
    rw [List.range_succ, List.filterMap_append, lget_append, blk_rng b n hn K (by omega)]
    by_cases e : n = K
    · subst e
      rw [if_neg (by omega)]
      by_cases h : trim0 (blkN b n) = []
      · rw [if_neg (fun q => q.2 h)]
        simp [h, lget]
      · rw [if_pos ⟨by omega, h⟩]
        simp [h, lget]
    · have hl : lget (beB 2 (n : Int)) ([K].filterMap fun n => if trim0 (blkN b n) = [] then none else some (beB 2 (n : Int), trim0 (blkN b n))) = none := by
        refine lget_none fun x hx q => ?_
        obtain ⟨a, ha, hb⟩ := List.mem_filterMap.1 hx
        rw [List.mem_singleton] at ha
        subst ha
        split at hb
        · cases hb
        · injection hb with hb
          rw [← hb] at q
          exact e (beB2_inj (by omega) hn q).symm
      rw [hl, Option.or_none]
      by_cases h : n < K ∧ trim0 (blkN b n) ≠ []
      · rw [if_pos h, if_pos ⟨by omega, h.2⟩]
      · rw [if_neg h, if_neg (fun q => h ⟨by omega, q.2⟩)]
/-- What stands under a block's number. -/
theorem blkOf_get (b : List UInt8) (hb : b.length ≤ 4096) (n : Nat) (hn : n ≤ 65535) : lget (beB 2 (n : Int)) (blkOf b) = if trim0 (blkN b n) = [] then none else some (trim0 (blkN b n)) := by
  have h := blk_rng b n hn ((b.length + 63) / 64) (by omega)
  have e : blkOf b = (List.range ((b.length + 63) / 64)).filterMap fun n => if trim0 (blkN b n) = [] then none else some (beB 2 (n : Int), trim0 (blkN b n)) := rfl
  rw [e, h]
  by_cases hl : n < (b.length + 63) / 64
  · by_cases ht : trim0 (blkN b n) = []
    · rw [if_neg (fun q => q.2 ht), if_pos ht]
    · rw [if_pos ⟨hl, ht⟩, if_neg ht]
  · have : blkN b n = [] := by unfold blkN; rw [List.drop_of_length_le (by omega)]; rfl
    have ht : trim0 (blkN b n) = [] := by rw [this]; rfl
    rw [if_neg (fun q => hl q.1), if_pos ht]
end Go.Proofs.YtfnpelogfcnanaaGreatDoor

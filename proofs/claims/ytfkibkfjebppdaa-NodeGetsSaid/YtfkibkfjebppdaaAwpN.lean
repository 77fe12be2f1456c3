/- append: onto nothing, and onto an array of the call's own. No program is named here. -/
import Derived.Test.YtfkibkfjebppdaaAwpL
import Derived.Deep.AppendSrc
import Derived.Room.Entries
namespace Go.Awp
open Go.RowKit

def cl : AV → Bool
  | .agg _ => false
  | .top => false
  | _ => true
theorem cl_ok {w : World} {N : Nat → Prop} {x : AV} {v : Value} (h : RepA w N x v) (hx : cl x = true) : v.oneCell' = true := by
  cases h <;> simp_all [cl, Value.oneCell']
def clR : List AV → Prop := fun rows => ∀ r ∈ rows, ∀ x ∈ cellsOf r, cl x = true

/-- What is appended. -/
inductive SrcA (H L : List AObj) : TV → List AV → Prop
  | rd {s rows} (h : Rd H L s rows) : SrcA H L s rows
  | str (l : List UInt8) : SrcA H L (.p (.str l)) (l.map fun b => .int .u8 b.toNat)

section
variable {P : Program} {T : Tab} {env : Env} {H L : List AObj} {o : Oper} {x : TV} {w : World} {β : Hd → Nat} {F : Nat → Prop}

structure News (w : World) (N : Nat → Prop) (e : Nat) (rows : List AV) (news : List Value) : Prop where
  size : ∀ r ∈ rows, (cellsOf r).length = e
  len : news.length = rows.length * e
  cell : ∀ (i j : Nat) (r x : AV), rows[i]? = some r → (cellsOf r)[j]? = some x → ∃ u, news[i * e + j]? = some u ∧ RepA w N x u

theorem split_idx {e k n : Nat} (h : k < n * e) : k / e < n ∧ k % e < e ∧ k = k / e * e + k % e := by
  have he : 0 < e := by
    rcases Nat.eq_zero_or_pos e with h0 | h0
    · subst h0; simp at h
    · exact h0
  refine ⟨(Nat.div_lt_iff_lt_mul he).2 h, Nat.mod_lt _ he, ?_⟩
  rw [Nat.mul_comm]
  exact (Nat.div_add_mod k e).symm

theorem Rows.news {a : Addr} {N : Nat → Prop} {e : Nat} {rows : List AV} (h : Rows w N a e rows) : ∃ news, News w N e rows news ∧ ∀ (j : Nat) u, news[j]? = some u → w.cell? (a.add j) = some u := by
  have key : ∀ k, k < rows.length * e → ∃ u, w.cell? (a.add k) = some u := by
    intro k hk
    obtain ⟨h1, h2, h3⟩ := split_idx hk
    have hr := List.getElem?_eq_getElem h1
    have hs := h.size _ (List.getElem_mem h1)
    obtain ⟨u, hu, _⟩ := h.cell (k / e) (k % e) _ _ hr (List.getElem?_eq_getElem (by rw [hs]; exact h2))
    exact ⟨u, by rw [← h3] at hu; exact hu⟩
  refine ⟨(List.range (rows.length * e)).map fun k => (w.cell? (a.add k)).getD undef, ⟨h.size, by simp, fun i j r x hi hj => ?_⟩, fun j u hu => ?_⟩
  · obtain ⟨u, hu, hr⟩ := h.cell i j r x hi hj
    have hil := (List.getElem?_eq_some_iff.1 hi).1
    have hjl : j < e := by rw [← h.size r (List.mem_of_getElem? hi)]; exact (List.getElem?_eq_some_iff.1 hj).1
    have hlt : i * e + j < rows.length * e := by
      have : (i + 1) * e ≤ rows.length * e := Nat.mul_le_mul_right _ (by omega)
      rw [Nat.add_mul] at this; omega
    exact ⟨u, by simp [hlt, hu], hr⟩
  · simp only [List.getElem?_map, Option.map_eq_some_iff] at hu
    obtain ⟨k, hk, rfl⟩ := hu
    have hlt : j < rows.length * e := by
      rcases Nat.lt_or_ge j (rows.length * e) with h | h
      · exact h
      · rw [List.getElem?_eq_none (by simpa using h)] at hk; cases hk
    obtain rfl : k = j := by
      rw [List.getElem?_range hlt] at hk
      exact (Option.some.inj hk).symm
    obtain ⟨u, hu⟩ := key k hlt
    simp [hu]

theorem News.one {N : Nat → Prop} {e : Nat} {rows : List AV} {news : List Value} (h : News w N e rows news) (hc : clR rows) : ∀ u ∈ news, u.oneCell' = true := by
  intro u hu
  obtain ⟨k, hk⟩ := List.getElem?_of_mem hu
  have hlt : k < rows.length * e := by rw [← h.len]; exact (List.getElem?_eq_some_iff.1 hk).1
  obtain ⟨h1, h2, h3⟩ := split_idx hlt
  have hs := h.size _ (List.getElem_mem h1)
  have hj := List.getElem?_eq_getElem (l := cellsOf rows[k / e]) (i := k % e) (by rw [hs]; exact h2)
  obtain ⟨v, hv, hr⟩ := h.cell (k / e) (k % e) _ _ (List.getElem?_eq_getElem h1) hj
  rw [← h3, hk] at hv
  obtain rfl := Option.some.inj hv
  exact cl_ok hr (hc _ (List.getElem_mem h1) _ (List.mem_of_getElem? hj))

theorem bytes_news (l : List UInt8) (N : Nat → Prop) : News w N 1 (l.map fun b => .int .u8 b.toNat) (byteCells ⟨l.toArray⟩) := by
  refine ⟨fun r hr => ?_, by simp [byteCells], fun i j r x hi hj => ?_⟩
  · obtain ⟨b, _, rfl⟩ := List.mem_map.1 hr; rfl
  · simp only [List.getElem?_map, Option.map_eq_some_iff] at hi
    obtain ⟨b, hb, rfl⟩ := hi
    match j with
    | 0 =>
      simp [cellsOf] at hj
      subst hj
      exact ⟨.int .u8 b.toNat, by simp [byteCells, hb], .int ..⟩
    | j + 1 => simp [cellsOf] at hj

/-- The kit's word for what is appended. -/
theorem SrcA.src (hS : Sim w β ⟨H, L, F⟩) {s : TV} {v : Value} {rows : List AV} {e : Nat} {tx : TypeId} (h : RepT w β ⟨H, L, F⟩ s v) (hs : SrcA H L s rows) (hc : clR rows) (he : ∀ r ∈ rows, (cellsOf r).length = e)
    (hks : (∃ l, s = .p (.str l)) → P.underlying tx = some .string ∧ e = 1) (hkr : (∀ l, s ≠ .p (.str l)) → ∃ e', P.underlying tx = some (.slice e')) :
    ∃ news, Src P e tx v rows.length news w ∧ News w (Free β ⟨H, L, F⟩) e rows news := by
  cases hs with
  | rd hr =>
    obtain ⟨ao, c, rfl, hlc, hor⟩ := hr.val hS h
    have hnk : ∀ l, s ≠ .p (.str l) := by
      rintro l rfl
      cases h with | p h => cases h
    obtain ⟨e', hu⟩ := hkr hnk
    rcases hor with rfl | ⟨a, e1, rfl, hrow⟩
    · refine ⟨[], ?_, ⟨by simp, by simp, fun i j r x hi => by simp at hi⟩⟩
      cases ao with
      | none => exact Src.ofNil w hu c
      | some a => exact Src.ofSlice w hu a 0 c [] (by simp) (by simp) (by simp)
    · by_cases hz : rows = []
      · subst hz
        exact ⟨[], Src.ofSlice w hu a 0 c [] (by simp) (by simp) (by simp), ⟨by simp, by simp, fun i j r x hi => by simp at hi⟩⟩
      · have hee : e1 = e := by
          obtain ⟨r, hm⟩ := List.exists_mem_of_ne_nil rows hz
          rw [← hrow.size r hm, he r hm]
        subst hee
        obtain ⟨news, n1, n2⟩ := hrow.news
        exact ⟨news, Src.ofSlice w hu a rows.length c news n1.len n2 (n1.one hc), n1⟩
  | str l =>
    obtain ⟨hu, rfl⟩ := hks ⟨l, rfl⟩
    obtain rfl := h.str_inv
    refine ⟨byteCells ⟨l.toArray⟩, ?_, bytes_news l _⟩
    have := Src.ofString (P := P) w hu ⟨l.toArray⟩
    have hsz : (⟨l.toArray⟩ : ByteArray).size = (l.map fun b => AV.int .u8 b.toNat).length := by simp [ByteArray.size]
    rw [hsz] at this
    exact this

theorem run_append_room2 (w : World) (t tx ty e : TypeId) (i : TypeInfo) (ht : P.underlying t = some (.slice e)) (hi : P.info? e = some i) (g sLen sCap : Nat) (cur : Array Value) (bt : TypeId) (hg : w.heap[g]? = some (.cells cur bt (0, 0))) (x : Value) (n : Nat) (news : List Value) (hs : Src P i.size tx x n news w)
    (hroom : sLen + n ≤ sCap) (hfit : sLen * i.size + news.length ≤ cur.size) :
    (Builtin.append_ #[t, tx] ty #[.slice (some ⟨g, 0, none⟩) sLen sCap, x]).run P w =
      .ok (.slice (some ⟨g, 0, none⟩) (sLen + n) sCap) (w.setRow g (cur.toList.take (sLen * i.size) ++ news ++ cur.toList.drop (sLen * i.size + news.length)).toArray) := by
  have hst := run_storeCells_at P g (sLen * i.size) bt news 0 cur w hg (by simpa using hfit) hs.one
  simp only [Nat.add_zero] at hst
  rcases hs.kind with ⟨e', hk⟩ | hk <;> simp [Builtin.append_, run_underlying ht, run_underlying hk, sizeOf, typeInfo, hi, hs.len, hroom, hs.cells, Addr.add_lit, hst]

theorem fits {sLen n cap by_ : Nat} (hg : cap < sLen + n) (hb : (sLen + n) * by_ ≤ 140737488355328) : Builtin.nextslicecap (sLen + n) cap * by_ ≤ 281474976710656 := by
  have h1 : Builtin.nextslicecap (sLen + n) cap * by_ ≤ 2 * (sLen + n) * by_ := Nat.mul_le_mul_right _ (Go.Room.nextslicecap_le' hg)
  rw [Nat.mul_assoc] at h1
  omega

theorem len_max {n b : Nat} (hb : 0 < b) (h : n * b ≤ 140737488355328) : n ≤ 140737488355328 := Nat.le_trans (Nat.le_mul_of_pos_right _ hb) h

/-- One of this call's own objects goes on, where it lies or in a new block. -/
theorem opr_upd {i : Nat} {ob ob' : AObj} (hi : L[i]? = some ob) (hne : ob ≠ .dead) (h : ∀ F w β a, Sim w β ⟨H, L, F⟩ → EnvR w β ⟨H, L, F⟩ env a → ∃ u w' b', (execOp a.eval o).run P w = .ok (.value u) w' ∧
    w'.os = w.os ∧ w'.tape = w.tape ∧ w'.output = w.output ∧ w.heap.size ≤ w'.heap.size ∧ (∀ b, b < w.heap.size → b ≠ β (.l i) → w'.heap[b]? = w.heap[b]?) ∧ (b' = β (.l i) ∨ w.heap.size ≤ b') ∧ ObjGo w w' (β (.l i)) b' ob ob' ∧
      ∀ β', (∀ k, β' k = if k = .l i then b' else β k) → Step w β ⟨H, L, F⟩ w' β' ⟨H, L.set i ob', F⟩ → ObjOk w' β' ⟨H, L.set i ob', F⟩ b' ob' ∧ RepT w' β' ⟨H, L.set i ob', F⟩ x u) : OpR P o env H L x H (L.set i ob') := by
  intro F w β a next Q hS he hn
  obtain ⟨u, w', b', h1, h2, h3, h4, h5, h6, h6', h7, h8⟩ := h F w β a hS he
  have hlt : i < L.length := (List.getElem?_eq_some_iff.1 hi).1
  obtain ⟨s1, s2⟩ := upd (w' := w') (G' := ⟨H, L.set i ob', F⟩) (h := .l i) (o' := ob') (b' := b') hS hi h2 h3 h4 h5 h6 hne h6' h7
    (fun k => by
      cases k with
      | o k => simp [Hp.get]
      | l j =>
        simp only [Hp.get, List.getElem?_set, Hd.l.injEq]
        by_cases e : i = j
        · subst e; simp [hlt]
        · rw [if_neg e, if_neg (fun q => e q.symm)]) rfl hS.ext
  obtain ⟨h9, h10⟩ := h8 _ (fun _ => rfl) s1
  unfold Oper.wp
  rw [h1]
  exact hn _ _ u (s2 h9) s1 h10

/-- A new object, in a world in which something may have been drawn. -/
theorem opr_newD {ob' : AObj} (h : ∀ F w β a, Sim w β ⟨H, L, F⟩ → EnvR w β ⟨H, L, F⟩ env a → ∃ (u : Value) (ob : Obj) (w0 : World), (execOp a.eval o).run P w = .ok (.value u) (w0.alloc ob) ∧ w0.heap = w.heap ∧ w0.os = w.os ∧ w0.tape = w.tape ∧ w0.output = w.output ∧
    ∀ β', (∀ k, β' k = if k = .l L.length then w.heap.size else β k) → Step w β ⟨H, L, F⟩ (w0.alloc ob) β' ⟨H, L ++ [ob'], F⟩ →
      ObjOk (w0.alloc ob) β' ⟨H, L ++ [ob'], F⟩ w.heap.size ob' ∧ RepT (w0.alloc ob) β' ⟨H, L ++ [ob'], F⟩ x u) : OpR P o env H L x H (L ++ [ob']) := by
  intro F w β a next Q hS he hn
  obtain ⟨u, ob, w0, h1, g1, g2, g3, g4, h2⟩ := h F w β a hS he
  obtain ⟨s1, s2⟩ := new (o' := ob') (w' := w0.alloc ob) (b' := w.heap.size) hS (show (w0.alloc ob).os = w.os from g2) (show (w0.alloc ob).tape = w.tape from g3) (show (w0.alloc ob).output = w.output from g4) (by rw [← g1]; simp) (fun b hb => by rw [← g1] at hb ⊢; exact alloc_old w0 ob b hb) (Nat.le_refl _)
  obtain ⟨h3, h4⟩ := h2 _ (fun _ => rfl) s1
  unfold Oper.wp
  rw [h1]
  exact hn _ _ u (s2 h3) s1 h4

theorem run_app {t tx : TypeId} {y z : Operand} {a : Act} (ho : o.op = .call { callee := .builtin .append, args := #[y, z], argTypes := #[t, tx] }) {v : Value} {w w' : World} {ty : TypeId} (hty : o.type = ty)
    (h : (Builtin.append_ #[t, tx] ty #[a.eval y, a.eval z]).run P w = .ok v w') : (execOp a.eval o).run P w = .ok (.value v) w' := by
  subst hty
  simp only [execOp, ho, resolve, invoke, builtin, Sem.run_bind, Sem.run_pure, Result.andThen_ok, List.map_toArray, List.map_cons, List.map_nil]
  simp [h]

theorem chkT_str {u : TypeDesc} {T : Tab} {t : Nat} (hd : tyD T t = .str) (h : chkD (tyD T t) u = true) : u = .string := by
  rw [hd] at h; exact chkD_str h

/-- The types of an append, as the table has them. -/
structure AppT (P : Program) (T : Tab) (t tx : TypeId) (e : Nat) (te : TyI) (isStr : Bool) : Prop where
  ut : P.underlying t = some (.slice e)
  info : ∃ inf z, P.info? e = some inf ∧ inf.zero = some z ∧ inf.size = te.size ∧ inf.bytes = te.bytes ∧ z.cells.size = te.size
  ux : if isStr then P.underlying tx = some .string else ∃ e', P.underlying tx = some (.slice e')
def appT (T : Tab) (t tx : TypeId) : Option (Nat × TyI × Bool) := match tyD T t with
  | .slice e => match tlk T e with
    | some te => match tyD T tx with
      | .slice _ => some (e, te, false)
      | .str => match Nat.beq te.size 1 with
        | true => some (e, te, true)
        | false => none
      | _ => none
    | none => none
  | _ => none
theorem appT_ok (hT : TabOk P T) {t tx : TypeId} {e : Nat} {te : TyI} {b : Bool} (h : appT T t tx = some (e, te, b)) : AppT P T t tx e te b ∧ (b = true → te.size = 1) ∧ tlk T e = some te := by
  unfold appT at h
  split at h
  · rename_i e' hd
    obtain ⟨u, h1, h2⟩ := tyD_und hT (t := t) (by rw [hd]; simp)
    rw [hd] at h2
    obtain rfl := chkD_slice h2
    split at h
    · rename_i te' hte
      obtain ⟨inf, ue, ok⟩ := hT.get hte
      obtain ⟨z, hz, hzz⟩ := ok.zero
      have hzl : z.cells.size = te'.size := by
        have := (chkZ_ok hzz).1
        simp at this
        rw [this, ok.zlen]
      split at h
      · rename_i e2 hx
        simp only [Option.some.injEq, Prod.mk.injEq] at h
        obtain ⟨rfl, rfl, rfl⟩ := h
        obtain ⟨ux, g1, g2⟩ := tyD_und hT (t := tx) (by rw [hx]; simp)
        rw [hx] at g2
        obtain rfl := chkD_slice g2
        exact ⟨⟨h1, ⟨inf, z, ok.info, hz, ok.size, ok.bytes, hzl⟩, ⟨_, g1⟩⟩, by simp, hte⟩
      · rename_i hx
        split at h
        · rename_i hb
          simp only [Option.some.injEq, Prod.mk.injEq] at h
          obtain ⟨rfl, rfl, rfl⟩ := h
          obtain ⟨ux, g1, g2⟩ := tyD_und hT (t := tx) (by rw [hx]; simp)
          rw [hx] at g2
          obtain rfl := chkD_str g2
          exact ⟨⟨h1, ⟨inf, z, ok.info, hz, ok.size, ok.bytes, hzl⟩, g1⟩, fun _ => Nat.eq_of_beq_eq_true hb, hte⟩
        · cases h
      · cases h
    · cases h
  · cases h

theorem SrcA.src' (hS : Sim w β ⟨H, L, F⟩) {s : TV} {v : Value} {rows : List AV} {e : Nat} {te : TyI} {t tx : TypeId} {b : Bool} (ht : AppT P T t tx e te b) (hb : b = true → te.size = 1) (h : RepT w β ⟨H, L, F⟩ s v) (hs : SrcA H L s rows) (hc : clR rows) (he : ∀ r ∈ rows, (cellsOf r).length = te.size) (hbs : b = true ↔ ∃ l, s = .p (.str l)) :
    ∃ news, Src P te.size tx v rows.length news w ∧ News w (Free β ⟨H, L, F⟩) te.size rows news :=
  hs.src hS h hc he (fun hl => by
    have h1 := hbs.2 hl
    have := ht.ux
    rw [h1] at this
    exact ⟨this, hb h1⟩) (fun hn => by
    have h1 : b = false := by
      cases b with
      | false => rfl
      | true => obtain ⟨l, hl⟩ := hbs.1 rfl; exact absurd hl (hn l)
    have := ht.ux
    rw [h1] at this
    exact this)

theorem objOk_arr {w' : World} {β' : Hd → Nat} {G' : Hp} {e : Nat} {Ty : TypeId} {rows : List AV} {cs : Array Value} {N : Nat → Prop} {b : Nat} (hb : w'.heap[b]? = some (.cells cs Ty (0, 0))) (he : 0 < e) (hn : News w N e rows (cs.toList.take (rows.length * e)))
    (hm : ∀ x v, RepA w N x v → RepA w' (Free β' G') x v) : ObjOk w' β' G' b (.arr Ty true e rows) := by
  have hl := hn.len
  simp only [List.length_take, Array.length_toList] at hl
  refine ⟨cs, (0, 0), hb, by omega, unfrozen0 _, fun _ => rfl, he, hn.size, fun i j r x hi hj => ?_⟩
  obtain ⟨u, hu, hr⟩ := hn.cell i j r x hi hj
  rw [List.getElem?_take] at hu
  split at hu
  · exact ⟨u, by simpa using hu, hm _ _ hr⟩
  · cases hu

theorem News.append {N : Nat → Prop} {e : Nat} {r1 r2 : List AV} {n1 n2 : List Value} (h1 : News w N e r1 n1) (h2 : News w N e r2 n2) : News w N e (r1 ++ r2) (n1 ++ n2) := by
  refine ⟨fun r hr => ?_, by simp [h1.len, h2.len, Nat.add_mul], fun i j r x hi hj => ?_⟩
  · rcases List.mem_append.1 hr with h | h
    · exact h1.size r h
    · exact h2.size r h
  · by_cases hlt : i < r1.length
    · rw [List.getElem?_append_left hlt] at hi
      obtain ⟨u, hu, hr⟩ := h1.cell i j r x hi hj
      exact ⟨u, by rw [List.getElem?_append_left (List.getElem?_eq_some_iff.1 hu).1]; exact hu, hr⟩
    · rw [List.getElem?_append_right (by omega)] at hi
      obtain ⟨u, hu, hr⟩ := h2.cell _ j r x hi hj
      have hle : r1.length * e ≤ i * e := Nat.mul_le_mul_right _ (by omega)
      refine ⟨u, ?_, hr⟩
      rw [List.getElem?_append_right (by rw [h1.len]; omega), h1.len, show i * e + j - r1.length * e = (i - r1.length) * e + j by rw [Nat.sub_mul]; omega]
      exact hu

theorem get_new (H L : List AObj) (ob : AObj) (F : Nat → Prop) : (⟨H, L ++ [ob], F⟩ : Hp).get (.l L.length) = some ob := by simp [Hp.get]

/-- append onto nothing: a new array of the call's own. -/
theorem opr_app_new {t tx : TypeId} {y z : Operand} {e : Nat} {te : TyI} {b : Bool} {rows : List AV} {s : TV} (hT : TabOk P T) (ho : o.op = .call { callee := .builtin .append, args := #[y, z], argTypes := #[t, tx] })
    (ht : appT T t tx = some (e, te, b)) (hy : evA env y = .p .nils ∨ evA env y = .p .cz) (hz : evA env z = s) (hs : SrcA H L s rows) (hbs : b = true ↔ ∃ l, s = .p (.str l)) (hc : clR rows) (he : ∀ r ∈ rows, (cellsOf r).length = te.size) (hpos : 0 < te.size) (hb0 : 0 < te.bytes)
    (h0 : 0 < rows.length) (hfit : rows.length * te.bytes ≤ 140737488355328) : OpR P o env H L (.sl (.l L.length) rows.length 0 rows.length) H (L ++ [.arr e true te.size rows]) :=
  opr_newD fun F w β a hS hen => by
    obtain ⟨at', hb1, _⟩ := appT_ok hT ht
    obtain ⟨inf, zv, i1, i2, i3, i4, i5⟩ := at'.info
    have hvz := evA_ok hen z
    rw [hz] at hvz
    obtain ⟨news, n1, n2⟩ := hs.src' hS at' hb1 hvz hc he hbs
    obtain ⟨ao, hvy⟩ : ∃ ao, a.eval y = .slice ao 0 0 := by
      have h := evA_ok hen y
      generalize a.eval y = u at h
      rcases hy with hy | hy <;> rw [hy] at h <;> cases h with | p h => cases h; exact ⟨_, rfl⟩
    have hold : (Builtin.firstCells inf.size 0 (.slice ao 0 0)).run P w.drew = .ok ([] : List Value).toArray w.drew := by
      cases ao with
      | none => exact run_firstCells_none w.drew inf.size 0 0 0
      | some a' => exact run_firstCells_some w.drew inf.size 0 a' 0 0 [] (by simp) (by intro _ _ h'; simp at h')
    have hmax := len_max hb0 hfit
    have hrun := run_append_grow_src (P := P) w t tx o.type e inf zv at'.ut i1 i2 ao 0 0 [] hold (a.eval z) rows.length news (by rw [i3]; exact n1) (by omega) (by omega) (by rw [i4]; exact fits (by omega) (by simpa using hfit))
    rw [Nat.zero_add] at hrun
    refine ⟨_, _, w.drew, run_app (P := P) ho rfl (by rw [hvy]; exact hrun), rfl, rfl, rfl, rfl, fun β' hβ hst => ?_⟩
    have hblk := alloc_new w.drew (.cells (([] ++ news).toArray ++ Builtin.zeroCells zv.cells (grownCap w rows.length 0 e - rows.length)) e)
    have hge := grownCap_ge w rows.length 0 e
    have hle := grownCap_le_maxLen w rows.length 0 e (by unfold maxLen; omega)
    have hsz : (([] ++ news).toArray ++ Builtin.zeroCells zv.cells (grownCap w rows.length 0 e - rows.length)).size = grownCap w rows.length 0 e * te.size := by
      rw [Array.size_append, size_zeroCells, i5]
      simp only [List.nil_append, List.size_toArray, n2.len]
      rw [← Nat.add_mul]; congr 1; omega
    constructor
    · refine objOk_arr (w := w) (N := Free β ⟨H, L, F⟩) hblk hpos ?_ (fun x v h => h.mono hst.size hst.frame)
      rw [Array.toList_append, List.nil_append, ← n2.len, List.take_left]; exact n2
    · refine .sl _ _ _ _ _ rfl ⟨_, get_new H L _ F, fun T' b' e' rows' h => by cases h; exact Nat.le_refl _⟩ fun T' b' e' rows' h _ => ?_
      rw [get_new H L _ F] at h
      cases h
      refine ⟨by omega, _, _, rfl, hge, hle, fun _ => ?_, fun _ _ _ => ?_⟩
      · rw [hβ, if_pos rfl]; simp
      · rw [hβ, if_pos rfl]
        unfold csize
        have hb2 : (w.drew.alloc (.cells (([] ++ news).toArray ++ Builtin.zeroCells zv.cells (grownCap w rows.length 0 e - rows.length)) e)).heap[w.heap.size]? = _ := hblk
        rw [hb2]; exact hsz.symm

theorem objOk_news {i : Nat} {Ty : TypeId} {e : Nat} {rows : List AV} (hS : Sim w β ⟨H, L, F⟩) (hi : L[i]? = some (.arr Ty true e rows)) : ∃ cs : Array Value, w.heap[β (.l i)]? = some (.cells cs Ty (0, 0)) ∧ rows.length * e ≤ cs.size ∧ 0 < e ∧ News w (Free β ⟨H, L, F⟩) e rows (cs.toList.take (rows.length * e)) := by
  obtain ⟨cs, fr, h1, h2, _, h4, h5, h6, h7⟩ := hS.objs (.l i) _ hi
  obtain rfl := h4 rfl
  refine ⟨cs, h1, h2, h5, h6, by simp; omega, fun p q r x hp hq => ?_⟩
  obtain ⟨v, hv, hr⟩ := h7 p q r x hp hq
  have hpl := (List.getElem?_eq_some_iff.1 hp).1
  have hql : q < e := by rw [← h6 r (List.mem_of_getElem? hp)]; exact (List.getElem?_eq_some_iff.1 hq).1
  have hlt : p * e + q < rows.length * e := by
    have : (p + 1) * e ≤ rows.length * e := Nat.mul_le_mul_right _ (by omega)
    rw [Nat.add_mul] at this; omega
  exact ⟨v, by rw [List.getElem?_take, if_pos hlt]; simpa using hv, hr⟩

theorem set_get {i : Nat} {ob ob' : AObj} (hi : L[i]? = some ob) : (⟨H, L.set i ob', F⟩ : Hp).get (.l i) = some ob' := by
  have hlt : i < L.length := (List.getElem?_eq_some_iff.1 hi).1
  simp [Hp.get, hlt]

/-- append onto an array of the call's own. -/
theorem opr_app_own {t tx : TypeId} {y z : Operand} {e n i : Nat} {te : TyI} {b : Bool} {rows0 rows : List AV} {s : TV} {Ty : TypeId} (hT : TabOk P T) (ho : o.op = .call { callee := .builtin .append, args := #[y, z], argTypes := #[t, tx] })
    (ht : appT T t tx = some (e, te, b)) (hy : evA env y = .sl (.l i) n 0 n) (hi : L[i]? = some (.arr Ty true te.size rows0)) (hn : rows0.length = n) (hTy : Ty = e) (hz : evA env z = s) (hs : SrcA H L s rows) (hbs : b = true ↔ ∃ l, s = .p (.str l)) (hc : clR rows) (he : ∀ r ∈ rows, (cellsOf r).length = te.size) (hb0 : 0 < te.bytes)
    (hfit : (n + rows.length) * te.bytes ≤ 140737488355328) : OpR P o env H L (.sl (.l i) (n + rows.length) 0 (n + rows.length)) H (L.set i (.arr Ty true te.size (rows0 ++ rows))) :=
  opr_upd hi (by simp) fun F w β a hS hen => by
    subst hTy
    obtain ⟨at', hb1, _⟩ := appT_ok hT ht
    obtain ⟨inf, zv, i1, i2, i3, i4, i5⟩ := at'.info
    have hvz := evA_ok hen z
    rw [hz] at hvz
    obtain ⟨news, n1, n2⟩ := hs.src' hS at' hb1 hvz hc he hbs
    obtain ⟨cs, c1, c2, hpos, c3⟩ := objOk_news hS hi
    have hvy := evA_ok hen y
    rw [hy] at hvy
    generalize hvv : a.eval y = vy at hvy
    cases hvy with | sl _ _ _ _ _ _ _ hv =>
    obtain ⟨_, ao, cap, rfl, hlc, hcm, hadd, hcap⟩ := hv _ _ _ _ hi hn
    obtain rfl := hadd (.inl rfl)
    rw [Nat.zero_mul] at hvv
    have hcap2 := hcap rfl rfl rfl
    have hcs : csize w (β (.l i)) = cs.size := by unfold csize; rw [c1]
    have hmax := len_max hb0 hfit
    have hnl := n2.len
    subst hn
    by_cases hroom : rows0.length + rows.length ≤ cap
    · have hle : (rows0.length + rows.length) * te.size ≤ cs.size := by rw [← hcs, ← hcap2]; exact Nat.mul_le_mul_right _ hroom
      rw [Nat.add_mul] at hle
      have hrun := run_append_room2 (P := P) w t tx o.type Ty inf at'.ut i1 (β (.l i)) rows0.length cap cs Ty c1 (a.eval z) rows.length news (by rw [i3]; exact n1) hroom (by rw [i3]; omega)
      rw [i3, ← hvv] at hrun
      have hblk := setRow_heap w (β (.l i)) cs (cs.toList.take (rows0.length * te.size) ++ news ++ cs.toList.drop (rows0.length * te.size + news.length)).toArray Ty (0, 0) c1
      have hlen : (cs.toList.take (rows0.length * te.size) ++ news ++ cs.toList.drop (rows0.length * te.size + news.length)).length = cs.size := by simp; omega
      have hcs2 : csize (w.setRow (β (.l i)) (cs.toList.take (rows0.length * te.size) ++ news ++ cs.toList.drop (rows0.length * te.size + news.length)).toArray) (β (.l i)) = csize w (β (.l i)) := by
        rw [hcs]; unfold csize; rw [hblk]; simpa using hlen
      refine ⟨_, _, β (.l i), run_app (P := P) ho rfl hrun, rfl, rfl, rfl, by simp, fun b _ hb => setRow_other w _ b _ hb, .inl rfl, ⟨rfl, rfl, rfl, by simp, fun _ => ⟨rfl, hcs2⟩⟩, fun β' hβ hst => ⟨?_, ?_⟩⟩
      · refine objOk_arr (w := w) (N := Free β ⟨H, L, F⟩) hblk hpos ?_ (fun x v h => h.mono hst.size hst.frame)
        have hap := c3.append n2
        have hl2 : (cs.toList.take (rows0.length * te.size) ++ news).length = (rows0 ++ rows).length * te.size := hap.len
        rw [← hl2, List.take_left]; exact hap
      · refine .sl _ _ _ _ _ rfl ⟨_, set_get hi, fun T' b' e' rows' h => by cases h; simp⟩ fun T' b' e' rows' h _ => ?_
        rw [set_get hi] at h
        cases h
        refine ⟨by omega, _, _, rfl, hroom, hcm, fun _ => ?_, fun _ _ _ => ?_⟩
        · rw [hβ, if_pos rfl]; simp
        · rw [hβ, if_pos rfl, hcs2]; exact hcap2
    · have hold : (Builtin.firstCells inf.size rows0.length (.slice (some ⟨β (.l i), 0, none⟩) rows0.length cap)).run P w.drew = .ok (cs.toList.take (rows0.length * te.size)).toArray w.drew := by
        rw [i3]
        refine run_firstCells_some w.drew te.size rows0.length ⟨β (.l i), 0, none⟩ rows0.length cap _ c3.len (fun j u hu => ?_)
        rw [List.getElem?_take] at hu
        split at hu
        · rw [Addr.add_lit, Nat.zero_add]
          have hc := cell_of_row w (β (.l i)) j cs Ty (0, 0) c1
          rw [show (w.drew.cell? ⟨β (.l i), j, none⟩) = w.cell? ⟨β (.l i), j, none⟩ from rfl, hc]
          simpa using hu
        · cases hu
      have hrun := run_append_grow_src (P := P) w t tx o.type Ty inf zv at'.ut i1 i2 (some ⟨β (.l i), 0, none⟩) rows0.length cap _ hold (a.eval z) rows.length news (by rw [i3]; exact n1) (by omega) (by omega) (by rw [i4]; exact fits (by omega) hfit)
      have hge := grownCap_ge w (rows0.length + rows.length) cap Ty
      have hle := grownCap_le_maxLen w (rows0.length + rows.length) cap Ty (by unfold maxLen; omega)
      rw [← hvv] at hrun
      generalize hgc : grownCap w (rows0.length + rows.length) cap Ty = gc at hrun hge hle
      have hap := c3.append n2
      have hblk := alloc_new w.drew (.cells ((cs.toList.take (rows0.length * te.size) ++ news).toArray ++ Builtin.zeroCells zv.cells (gc - (rows0.length + rows.length))) Ty)
      have hsz : ((cs.toList.take (rows0.length * te.size) ++ news).toArray ++ Builtin.zeroCells zv.cells (gc - (rows0.length + rows.length))).size = gc * te.size := by
        rw [Array.size_append, size_zeroCells, i5, List.size_toArray, hap.len, List.length_append, ← Nat.add_mul]; congr 1; omega
      have hcs2 : csize (w.drew.alloc (.cells ((cs.toList.take (rows0.length * te.size) ++ news).toArray ++ Builtin.zeroCells zv.cells (gc - (rows0.length + rows.length))) Ty)) w.heap.size = gc * te.size := by
        unfold csize
        have hb2 : (w.drew.alloc (.cells ((cs.toList.take (rows0.length * te.size) ++ news).toArray ++ Builtin.zeroCells zv.cells (gc - (rows0.length + rows.length))) Ty)).heap[w.heap.size]? = _ := hblk
        rw [hb2]; exact hsz
      refine ⟨_, _, w.heap.size, run_app (P := P) ho rfl hrun, rfl, rfl, rfl, ?_, fun b hb _ => alloc_old w.drew _ b hb, .inr (Nat.le_refl _), ⟨rfl, rfl, rfl, by simp, fun hl => ?_⟩, fun β' hβ hst => ⟨?_, ?_⟩⟩
      · show w.drew.heap.size ≤ _
        simp
      · exfalso
        simp at hl
        subst hl
        simp at hroom
        omega
      · refine objOk_arr (w := w) (N := Free β ⟨H, L, F⟩) hblk hpos ?_ (fun x v h => h.mono hst.size hst.frame)
        rw [Array.toList_append, ← hap.len, List.toList_toArray, List.take_left]; exact hap
      · refine .sl _ _ _ _ _ rfl ⟨_, set_get hi, fun T' b' e' rows' h => by cases h; simp⟩ fun T' b' e' rows' h _ => ?_
        rw [set_get hi] at h
        cases h
        refine ⟨by omega, _, _, rfl, hge, hle, fun _ => ?_, fun _ _ _ => ?_⟩
        · rw [hβ, if_pos rfl]; simp
        · rw [hβ, if_pos rfl, hcs2]
end
end Go.Awp

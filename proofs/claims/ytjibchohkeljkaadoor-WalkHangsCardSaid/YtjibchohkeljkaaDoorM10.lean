/- Contracts and plain laws, several texts joined: Go5, F17d, F17e. -/
import Derived.Test.YtjibchohkeljkaaDoorM5
import Derived.Test.YtjibchohkeljkaaDoorM9
import Derived.Test.YtjibchohkeljkaaDoorGo
/- '==' of structs with a struct of plain parts inside. No program is named here. -/
-- @D
namespace Go.Proofs.YtjibchohkeljkaaDoor
set_option maxRecDepth 20000
open Go.Awp Go.RowKit
section
variable {P : Program} {T : Tab} {env : Env} {H L : List AObj} {o : Oper} {x : TV} {w : World}
def eqF2 (T : Tab) : List (Nat × Nat) → List AV → List AV → Option Bool
  | [], _, _ => some true
  | (o, t) :: r, xs, ys => match tlk T t with
    | some ⟨.struct gs, n, _, _⟩ => match eqF T gs ((xs.drop o).take n) ((ys.drop o).take n), eqF2 T r xs ys with
      | some c, some d => some (c && d)
      | _, _ => none
    | _ => match xs[o]?, ys[o]? with
      | some a, some b => match eq1 T t a b, eqF2 T r xs ys with
        | some c, some d => some (c && d)
        | _, _ => none
      | _, _ => none
def eqChk2 (P : Program) (T : Tab) (t : Nat) : Bool := eqChk P t && match tyD T t with
  | .struct fs => fs.all fun f => match tyD T f.2 with
    | .struct _ => eqChk P f.2
    | _ => true
  | _ => false
theorem run_flat (hT : TabOk P T) {N : Nat → Prop} {t : Nat} {fs : List (Nat × Nat)} {xs ys : List AV} {us vs : List Value} {c : Bool} (hq : eqChk P t = true) (hd : tyD T t = .struct fs) (h : eqF T fs xs ys = some c)
    (hx : us.length = xs.length) (hxr : ∀ (i : Nat) x v, xs[i]? = some x → us[i]? = some v → RepA w N x v) (hy : vs.length = ys.length) (hyr : ∀ (i : Nat) x v, ys[i]? = some x → vs[i]? = some v → RepA w N x v) (d : Nat) :
    (Op.equalIn (d + 2) t (.agg us.toArray) (.agg vs.toArray)).run P w = .ok c w := by
  unfold eqChk at hq
  simp only [Bool.and_eq_true, Bool.not_eq_true'] at hq
  obtain ⟨_, hq⟩ := hq
  obtain ⟨u, h1, h2⟩ := tyD_und hT (t := t) (by rw [hd]; simp)
  rw [hd] at h2
  obtain ⟨gs, rfl, hfs⟩ := chkD_struct h2
  rw [h1] at hq
  simp only [Bool.and_eq_true, List.all_eq_true, bne_iff_ne, Bool.not_eq_true'] at hq
  rw [hfs] at h
  have hfo : P.fieldsOf t = gs := by simp [Program.fieldsOf, h1]
  rw [run_equalIn_struct w (d + 1) t _ _ (by rw [hfo]; exact h1) hq.2, hfo]
  exact run_eqFields hT hx hxr hy hyr d gs.toList hq.1 h
theorem run_eqFields2 (hT : TabOk P T) {N : Nat → Prop} {xs ys : List AV} {us vs : List Value} (hx : us.length = xs.length) (hxr : ∀ (i : Nat) x v, xs[i]? = some x → us[i]? = some v → RepA w N x v) (hy : vs.length = ys.length) (hyr : ∀ (i : Nat) x v, ys[i]? = some x → vs[i]? = some v → RepA w N x v) (d : Nat) :
    ∀ (fs : List Field) {c : Bool}, (∀ f ∈ fs, f.name ≠ "_") → (∀ f ∈ fs, (match tyD T f.type with | .struct _ => eqChk P f.type | _ => true) = true) → eqF2 T (fs.map fun f => (f.offset, f.type)) xs ys = some c → (Op.eqFields (d + 2) us.toArray vs.toArray fs).run P w = .ok c w
  | [], c, _, _, h => by
    simp only [List.map_nil, eqF2, Option.some.injEq] at h
    subst h
    simp [Op.eqFields]
  | f :: fs, c, hn, hs, h => by
    simp only [List.map_cons, eqF2] at h
    have hsf := hs f (by simp)
    split at h
    · rename_i gs n b z ht
      have hd : tyD T f.type = .struct gs := by unfold tyD; rw [ht]
      rw [hd] at hsf
      dsimp only at hsf
      split at h
      · rename_i c1 c2 h1 h2
        obtain rfl := Option.some.inj h
        obtain ⟨inf, u, ok⟩ := hT.get ht
        have hag := ok.run_agg w (b := true) rfl
        have hsz := ok.run_size w
        have sub : ∀ (zs : List AV) (ws : List Value), ws.length = zs.length → (∀ (i : Nat) x v, zs[i]? = some x → ws[i]? = some v → RepA w N x v) → ((ws.drop f.offset).take n).length = ((zs.drop f.offset).take n).length ∧ (∀ (i : Nat) x v, ((zs.drop f.offset).take n)[i]? = some x → ((ws.drop f.offset).take n)[i]? = some v → RepA w N x v) ∧ (part f.type ws.toArray f.offset).run P w = .ok (.agg ((ws.drop f.offset).take n).toArray) w := by
          intro zs ws hl hr
          refine ⟨by simp [hl], fun i x v hx hv => ?_, ?_⟩
          · rw [List.getElem?_take] at hx hv
            split at hx
            · rename_i hin
              rw [if_pos hin] at hv
              rw [List.getElem?_drop] at hx hv
              exact hr _ _ _ hx hv
            · cases hx
          · simp only [part, Sem.run_bind, hag, Result.andThen_ok, if_true, hsz]
            simp [List.extract_eq_take_drop]
        obtain ⟨a1, a2, a3⟩ := sub xs us hx hxr
        obtain ⟨b1, b2, b3⟩ := sub ys vs hy hyr
        have e1 := run_flat hT hsf hd h1 a1 a2 b1 b2 d
        have ih := run_eqFields2 hT hx hxr hy hyr d fs (fun f hf => hn f (by simp [hf])) (fun f hf => hs f (by simp [hf])) h2
        simp only [Op.eqFields, if_pos (hn f (by simp)), Sem.run_bind, a3, b3, Result.andThen_ok, e1]
        cases c1
        · simp
        · simpa using ih
      · cases h
    · split at h
      · rename_i a b ha hb
        split at h
        · rename_i c1 c2 h1 h2
          obtain rfl := Option.some.inj h
          have hau : f.offset < us.length := by rw [hx]; exact (List.getElem?_eq_some_iff.1 ha).1
          have hbu : f.offset < vs.length := by rw [hy]; exact (List.getElem?_eq_some_iff.1 hb).1
          have hua := List.getElem?_eq_getElem hau
          have hvb := List.getElem?_eq_getElem hbu
          obtain ⟨e1, e2⟩ := run_eq1 hT h1 (hxr _ a _ ha hua) (hyr _ b _ hb hvb) (d + 1)
          have ih := run_eqFields2 hT hx hxr hy hyr d fs (fun f hf => hn f (by simp [hf])) (fun f hf => hs f (by simp [hf])) h2
          have p1 := e2 us.toArray f.offset us[f.offset] (by rw [List.getElem?_toArray]; exact hua)
          have p2 := e2 vs.toArray f.offset vs[f.offset] (by rw [List.getElem?_toArray]; exact hvb)
          simp only [Op.eqFields, if_pos (hn f (by simp)), Sem.run_bind, p1, p2, Result.andThen_ok, e1]
          cases c1
          · simp
          · simpa using ih
        · cases h
      · cases h
theorem opr_eqAgg2 (hT : TabOk P T) {op : BinOp} {t t2 : TypeId} {y z : Operand} {xs ys : List AV} {fs : List (Nat × Nat)} {c : Bool} (ho : o.op = .binOp op t y z t2) (hq : eqChk2 P T t = true) (hy : aggOf (evA env y) = some xs) (hz : aggOf (evA env z) = some ys) (hf : tyD T t = .struct fs) (h : eqF2 T fs xs ys = some c) (hr : eqR op c = some x) : OpR P o env H L x H L :=
  opr_pure fun F w β a hS he => by
    obtain ⟨us, e1, hx, hxr⟩ := aggOf_ok hy (evA_ok he y)
    obtain ⟨vs, e2, hy', hyr⟩ := aggOf_ok hz (evA_ok he z)
    unfold eqChk2 at hq
    rw [hf] at hq
    simp only [Bool.and_eq_true, List.all_eq_true] at hq
    obtain ⟨hq1, hq2⟩ := hq
    have hg : P.eqGuardType P.depth t = false := by
      unfold eqChk at hq1
      simp only [Bool.and_eq_true, Bool.not_eq_true'] at hq1
      exact hq1.1
    have hrun : (Op.equalIn 10000 t (.agg us.toArray) (.agg vs.toArray)).run P w = .ok c w := by
      unfold eqChk at hq1
      simp only [Bool.and_eq_true, Bool.not_eq_true'] at hq1
      obtain ⟨_, hq1⟩ := hq1
      obtain ⟨u, h1, h2⟩ := tyD_und hT (t := t) (by rw [hf]; simp)
      rw [hf] at h2
      obtain ⟨gs, rfl, hfs⟩ := chkD_struct h2
      rw [h1] at hq1
      simp only [Bool.and_eq_true, List.all_eq_true, bne_iff_ne, Bool.not_eq_true'] at hq1
      rw [hfs] at h hq2
      have hfo : P.fieldsOf t = gs := by simp [Program.fieldsOf, h1]
      rw [run_equalIn_struct w 9999 t _ _ (by rw [hfo]; exact h1) hq1.2, hfo]
      exact run_eqFields2 hT hx hxr hy' hyr 9997 gs.toList hq1.1 (fun f hf => hq2 _ (List.mem_map.2 ⟨f, hf, rfl⟩)) h
    unfold eqR at hr
    split at hr
    · obtain rfl := Option.some.inj hr
      refine ⟨.bool c, ?_, .p (.bool _)⟩
      simp only [execOp, ho, e1, e2, Sem.run_bind, run_eqGuard_agg w _ t y z _ _ hg, Result.andThen_ok, run_eql_struct, hrun, Sem.run_pure]
    · obtain rfl := Option.some.inj hr
      refine ⟨.bool (!c), ?_, .p (.bool _)⟩
      simp only [execOp, ho, e1, e2, Sem.run_bind, run_eqGuard_agg w _ t y z _ _ hg, Result.andThen_ok, run_neq_struct, hrun, Sem.run_pure]
    · cases hr
end
end Go.Proofs.YtjibchohkeljkaaDoor

/- The laws of layer 17: fixed, do; what stands in the view and in the row. -/
-- @D
namespace Go.Proofs.YtjibchohkeljkaaDoor
set_option maxRecDepth 20000
open Go.Awp Tr
theorem VJ.new0 : VJ (VS.new .nil) 0 := VJ.new (by simp [row, Rises]) (Nat.zero_le _) (by simp [row])
theorem fixed17_parts : ∃ s', Con Tryd.prog 20 [vP, .p (.str [47, 97])] (vH (VS.new .nil)) (.tup [.agg [.p (.int .u32 1), .p (.str [97]), .p (.int .u32 0), .p (.int .u8 0), .p (.int .u32 0), .p (.int .u32 0), .p (.int .u32 0)], .p (.int .i64 0)]) (vH s') [] := by
  have c := wfind_spec VJ.new0 (by decide) [47, 97]
  have e : (VS.new .nil).find [47, 97] = (⟨1, [97], 0, (0, 0, 0, 0)⟩, 0, [keyH 73 1, entryK 1 [97]]) := by kernel_rfl
  rw [e] at c
  exact ⟨_, c⟩
theorem fixed17_spec : Con Tryd.prog 15 [] [] (.p (.bool true)) [] [] := by
  obtain ⟨s', c⟩ := fixed17_parts
  refine con_of Tryd.func15 rfl (by kernel_rfl) rfl fun F w0 β0 => ?_
  refine K_tell rfl ?_
  refine go ?_
  refine K_op rfl rfl (opr_callP rfl rfl (tnew_spec) rfl rfl rfl rfl) rfl ?_
  refine go ?_
  refine K_op rfl rfl (opr_callP rfl rfl (vnew_spec .nil) rfl rfl rfl rfl) rfl ?_
  refine go ?_
  refine K_op rfl rfl (opr_callS [.l 0, .l 1] rfl rfl (c) rfl rfl rfl ⟨⟨rfl, rfl⟩, ⟨rfl, rfl⟩, trivial⟩ rfl rfl rfl rfl) rfl ?_
  refine go ?_
  refine K_yes rfl rfl rfl (opr_eqAgg2 hT rfl (by kernel_rfl) rfl rfl rfl rfl rfl) rfl ?_
  refine go ?_
  exact J_done hT rfl rfl rfl
/-- An operation in a view. -/
def VS.doW (s : VS) (o : WOp) : VS :=
  if o.kind = 0 then s.save o.i o.g else if o.kind = 1 then s.del (keyH 73 o.i) else if o.kind = 2 then s.put (entryK o.d o.m) (beB 4 o.i) else if o.kind = 3 then s.del (entryK o.d o.m) else s.put (entryK o.d o.m) [114, 97, 119]
/-- And on a row. -/
def doR (l : List KV) (o : WOp) : List KV :=
  if o.kind = 0 then lset (keyH 73 o.i) (nodeB o.g.1 o.g.2.1 o.g.2.2.1 o.g.2.2.2) l else if o.kind = 1 then lcut (keyH 73 o.i) l else if o.kind = 2 then lset (entryK o.d o.m) (beB 4 o.i) l else if o.kind = 3 then lcut (entryK o.d o.m) l else lset (entryK o.d o.m) [114, 97, 119] l
set_option maxHeartbeats 8000000 in
theorem do17_spec {s : VS} {n : Nat} (h : VJ s n) (hn : n ≤ 900000) {l : List KV} (hr : Rises l) (hl : l.length ≤ 900000) (o : WOp) (ho : o.ok) : Con Tryd.prog 19 [vP, .p (.ps (kvs l)), .p (wopV o)] (vH s) (.p (.ps (kvs (doR l o)))) (vH (s.doW o)) [] := by
  obtain ⟨k, d, i, m, g⟩ := o
  obtain ⟨hd, hi, hg⟩ := ho
  dsimp only at hd hi hg
  unfold VS.doW doR
  dsimp only
  by_cases h0 : k = 0
  · subst h0
    rw [if_pos rfl, if_pos rfl]
    have c1 := wsave_spec h (by omega) i hi g hg
    have c2 := rsave_spec hr (by omega) i hi g hg
    generalize s.save i g = s' at c1
    generalize lset (keyH 73 i) (nodeB g.1 g.2.1 g.2.2.1 g.2.2.2) l = l' at c2
    refine con_of Tryd.func19 rfl (by kernel_rfl) rfl fun F w0 β0 => ?_
    refine K_tell rfl ?_
    refine go ?_
    refine K_op rfl rfl (opr_callS [.o 0, .o 1] rfl rfl (c1) rfl rfl rfl ⟨⟨rfl, rfl⟩, ⟨rfl, rfl⟩, trivial⟩ rfl rfl rfl rfl) rfl ?_
    refine go ?_
    refine K_op rfl rfl (opr_callP rfl rfl (c2) rfl rfl rfl rfl) rfl ?_
    refine go ?_
    exact J_done hT rfl rfl rfl
  rw [if_neg h0, if_neg h0]
  by_cases h1 : k = 1
  · subst h1
    rw [if_pos rfl, if_pos rfl]
    have c0 := rinode_spec i hi []
    have c1 := wdrop_spec h (by omega) i hi
    have c2 := rcut_ps (l := l) (by omega) (keyH 73 i)
    generalize s.del (keyH 73 i) = s' at c1
    generalize lcut (keyH 73 i) l = l' at c2
    refine con_of Tryd.func19 rfl (by kernel_rfl) rfl fun F w0 β0 => ?_
    refine K_tell rfl ?_
    refine go ?_
    refine K_op rfl rfl (opr_callS [.o 0, .o 1] rfl rfl (c1) rfl rfl rfl ⟨⟨rfl, rfl⟩, ⟨rfl, rfl⟩, trivial⟩ rfl rfl rfl rfl) rfl ?_
    refine go ?_
    refine K_op rfl rfl (opr_callP rfl rfl (c0) rfl rfl rfl rfl) rfl ?_
    refine go ?_
    refine K_op rfl rfl (opr_callP rfl rfl (c2) rfl rfl rfl rfl) rfl ?_
    refine go ?_
    exact J_done hT rfl rfl rfl
  rw [if_neg h1, if_neg h1]
  by_cases h2 : k = 2
  · subst h2
    rw [if_pos rfl, if_pos rfl]
    have c1 := whang_spec h (by omega) d i hd hi m
    have c2 := rhang_spec hr (by omega) d i hd hi m
    generalize s.put (entryK d m) (beB 4 i) = s' at c1
    generalize lset (entryK d m) (beB 4 i) l = l' at c2
    refine con_of Tryd.func19 rfl (by kernel_rfl) rfl fun F w0 β0 => ?_
    refine K_tell rfl ?_
    refine go ?_
    refine K_op rfl rfl (opr_callS [.o 0, .o 1] rfl rfl (c1) rfl rfl rfl ⟨⟨rfl, rfl⟩, ⟨rfl, rfl⟩, trivial⟩ rfl rfl rfl rfl) rfl ?_
    refine go ?_
    refine K_op rfl rfl (opr_callP rfl rfl (c2) rfl rfl rfl rfl) rfl ?_
    refine go ?_
    exact J_done hT rfl rfl rfl
  rw [if_neg h2, if_neg h2]
  have c0 := rentry_spec d m hd []
  by_cases h3 : k = 3
  · subst h3
    rw [if_pos rfl, if_pos rfl]
    have c1 := wunhang_spec h (by omega) d hd m
    have c2 := rcut_ps (l := l) (by omega) (entryK d m)
    generalize s.del (entryK d m) = s' at c1
    generalize lcut (entryK d m) l = l' at c2
    refine con_of Tryd.func19 rfl (by kernel_rfl) rfl fun F w0 β0 => ?_
    refine K_tell rfl ?_
    refine go ?_
    refine K_op rfl rfl (opr_callS [.o 0, .o 1] rfl rfl (c1) rfl rfl rfl ⟨⟨rfl, rfl⟩, ⟨rfl, rfl⟩, trivial⟩ rfl rfl rfl rfl) rfl ?_
    refine go ?_
    refine K_op rfl rfl (opr_callP rfl rfl (c0) rfl rfl rfl rfl) rfl ?_
    refine go ?_
    refine K_op rfl rfl (opr_callP rfl rfl (c2) rfl rfl rfl rfl) rfl ?_
    refine go ?_
    exact J_done hT rfl rfl rfl
  rw [if_neg h3, if_neg h3]
  have c1 := vset_spec s (entryK d m) [114, 97, 119] (by have := h.zw; unfold big40; omega) (by have := h.zs; unfold big40; omega) (by decide)
  change Con Tryd.prog _ _ _ _ (vH (s.put (entryK d m) [114, 97, 119])) _ at c1
  have c2 := rset_ps hr (by omega) (entryK d m) [114, 97, 119]
  generalize s.put (entryK d m) [114, 97, 119] = s' at c1
  generalize lset (entryK d m) [114, 97, 119] l = l' at c2
  refine con_of Tryd.func19 rfl (by kernel_rfl) rfl fun F w0 β0 => ?_
  refine K_tell rfl ?_
  refine go ?_
  refine K_condF rfl (by simp [h0]) ?_
  refine go ?_
  refine K_condF rfl (by simp [h1]) ?_
  refine go ?_
  refine K_condF rfl (by simp [h2]) ?_
  refine go ?_
  refine K_condF rfl (by simp [h3]) ?_
  refine go ?_
  refine K_op rfl rfl (opr_callP rfl rfl (c0) rfl rfl rfl rfl) rfl ?_
  refine go ?_
  refine K_op rfl rfl (opr_callS [.o 0, .o 1] rfl rfl (c1) rfl rfl rfl ⟨⟨rfl, rfl⟩, ⟨rfl, rfl⟩, trivial⟩ rfl rfl rfl rfl) rfl ?_
  refine go ?_
  refine K_op rfl rfl (opr_callP rfl rfl (c0) rfl rfl rfl rfl) rfl ?_
  refine go ?_
  refine K_op rfl rfl (opr_callP rfl rfl (c2) rfl rfl rfl rfl) rfl ?_
  refine go ?_
  exact J_done hT rfl rfl rfl
/-! ### What stands there -/
/-- The keys that layer 17 writes. -/
def KeyF (k : List UInt8) : Prop := (∃ i, U32 i ∧ k = keyH 73 i) ∨ ∃ d m, U32 d ∧ m ≠ [] ∧ m.length ≤ 32 ∧ k = keyH 69 d ++ m
theorem entryK_is {d : Int} {m : List UInt8} (h : m.length ≤ 32) : entryK d m = keyH 69 d ++ m := by unfold entryK; rw [if_neg (by omega)]
/-- A view of nothing, with at most so many writes: it shows the row. -/
structure W17 (s : VS) (l : List KV) (n : Nat) : Prop where
  v : VJ s n
  sh : s.shown.row = l
  ky : ∀ x ∈ l, KeyF x.1
theorem W17.room {s : VS} {l : List KV} {n : Nat} (h : W17 s l n) (hn : n < 48) (k : List UInt8) : s.room k = true := by
  unfold VS.room
  have := h.v.zw
  rw [decide_eq_true (by omega), Bool.or_true]
theorem KeyF.len {k : List UInt8} (h : KeyF k) : k.length ≤ 37 := by
  rcases h with ⟨i, _, rfl⟩ | ⟨d, m, _, _, hm, rfl⟩
  · rw [keyH_len]; omega
  · rw [List.length_append, keyH_len]; omega
theorem W17.put {s : VS} {l : List KV} {n : Nat} (h : W17 s l n) (hn : n < 48) {k : List UInt8} (hk : KeyF k) (v : List UInt8) (hv : v.length ≤ 100000) : W17 (s.put k v) (lset k v l) (n + 1) := by
  refine ⟨h.v.put k v (by have := hk.len; omega) hv, ?_, fun x hx => ?_⟩
  · unfold VS.put
    rw [if_pos (h.room hn k)]
    show (s.shown.set k v).row = _
    rw [set_row _ _ _ h.v.rs, h.sh]
  · rcases lset_mem hx with rfl | hx
    · exact hk
    · exact h.ky x hx
theorem W17.del {s : VS} {l : List KV} {n : Nat} (h : W17 s l n) (hn : n < 48) (k : List UInt8) : W17 (s.del k) (lcut k l) (n + 1) := by
  refine ⟨h.v.del k, ?_, fun x hx => h.ky x (List.mem_filter.1 hx).1⟩
  unfold VS.del
  rw [if_pos (h.room hn k)]
  show (s.shown.cut k).row = _
  rw [cut_row _ _ h.v.rs, h.sh]
theorem W17.do {s : VS} {l : List KV} {n : Nat} (h : W17 s l n) (hn : n < 48) (o : WOp) (ho : o.ok) (h1 : o.m ≠ []) (h2 : o.m.length ≤ 32) : W17 (s.doW o) (doR l o) (n + 1) := by
  have ke : KeyF (entryK o.d o.m) := .inr ⟨o.d, o.m, ho.1, h1, h2, entryK_is h2⟩
  have ki : KeyF (keyH 73 o.i) := .inl ⟨o.i, ho.2.1, rfl⟩
  unfold VS.doW doR
  split
  · exact h.put hn ki _ (by rw [nodeB_l13]; omega)
  split
  · exact h.del hn _
  split
  · exact h.put hn ke _ (by rw [beB_len]; omega)
  split
  · exact h.del hn _
  · exact h.put hn ke _ (by decide)
theorem W17.all (l : List WOp) (hl : ∀ o ∈ l, o.ok ∧ o.m ≠ [] ∧ o.m.length ≤ 32) : ∀ {s : VS} {r : List KV} {n : Nat}, n + l.length < 48 → W17 s r n → W17 (l.foldl VS.doW s) (l.foldl doR r) (n + l.length) := by
  induction l with
  | nil => intro s r n _ h; exact h
  | cons o t ih =>
    intro s r n hn h
    rw [List.length_cons] at hn
    obtain ⟨h1, h2, h3⟩ := hl o (by simp)
    have := ih (fun x hx => hl x (by simp [hx])) (n := n + 1) (by omega) (h.do (by omega) o h1 h2 h3)
    rw [List.length_cons, show n + (t.length + 1) = n + 1 + t.length by omega]
    exact this
theorem W17.new : W17 (VS.new .nil) [] 0 := ⟨VJ.new0, rfl, by simp⟩
/-- Both name the same. -/
theorem namesR_eq {n : Int} (hn : U32 n) : ∀ {l : List KV}, (∀ x ∈ l, KeyF x.1) → namesR n l = namesL n l
  | [], _ => rfl
  | x :: r, h => by
    have ih := namesR_eq hn (l := r) fun y hy => h y (by simp [hy])
    have hx := h x (by simp)
    unfold namesR namesL at ih ⊢
    rcases hx with ⟨i, hi, e⟩ | ⟨d, m, hd, h1, h2, e⟩
    · have e1 : nameR n x = none := by unfold nameR; rw [e, split_inode i hi]; simp
      have e2 : decide (keyH 69 n <+: x.1) = false := by
        rw [decide_eq_false_iff_not, e]
        rintro ⟨t, ht⟩
        exact noE_I hi n t hn ht
      rw [List.filterMap_cons_none e1, ih, List.filter_cons_of_neg (by rw [e2]; simp)]
    · by_cases hdn : d = n
      · subst hdn
        have e1 : nameR d x = some m := by unfold nameR; rw [e, split_entry d m hd h1 h2]; simp
        have e2 : decide (keyH 69 d <+: x.1) = true := by rw [decide_eq_true_eq, e]; exact List.prefix_append _ _
        rw [List.filterMap_cons_some e1, ih, List.filter_cons, if_pos e2, List.map_cons, e, drop_app5]
      · have e1 : nameR n x = none := by unfold nameR; rw [e, split_entry d m hd h1 h2]; simp [hdn]
        have e2 : decide (keyH 69 n <+: x.1) = false := by
          rw [decide_eq_false_iff_not, e]
          rintro ⟨t, ht⟩
          exact hdn (key_inj (k := 69) (k' := 69) (by decide) (by decide) hn hd ht).2.1.symm
        rw [List.filterMap_cons_none e1, ih, List.filter_cons_of_neg (by rw [e2]; simp)]
end Go.Proofs.YtjibchohkeljkaaDoor

/- The laws of layer 17: what a row of operations makes. -/
-- @D
namespace Go.Proofs.YtjibchohkeljkaaDoor
set_option maxRecDepth 20000
open Go.Awp Tr
theorem wops_cut {l : List WOp} (hok : ∀ o ∈ l, o.ok) : (l.take (cutG stop17 l 0)).length ≤ 40 ∧ ∀ o ∈ l.take (cutG stop17 l 0), o.ok ∧ o.m ≠ [] ∧ o.m.length ≤ 32 := by
  constructor
  · have := cutG_max stop17 (n := 40) (fun i o h => by unfold stop17; rw [decide_eq_true h]; rfl) l 0 (by omega)
    simp; omega
  · intro o ho
    obtain ⟨j, hj⟩ := cutG_all stop17 l 0 o (by simpa using ho)
    simp only [stop17, Bool.or_eq_false_iff, decide_eq_false_iff_not] at hj
    exact ⟨hok o (List.mem_of_mem_take ho), by simpa using hj.2.2, by omega⟩
theorem gF_be4 {i : Int} (h : U32 i) : gF (beB 4 i) 0 = i := by
  unfold gF
  rw [List.drop_zero, List.take_of_length_le (by rw [beB_len]; omega), beV_be4 i h]
theorem chOf_be4 {i : Int} (h : U32 i) : chOf (some (beB 4 i)) = some i := by
  unfold chOf
  rw [if_pos (by simp [beB_len])]
  simp only [Option.getD_some, gF_be4 h]
/-- What a row of operations makes, in a view and of a row. -/
def opsW (l : List WOp) : VS := l.foldl VS.doW (VS.new .nil)
def opsR (l : List WOp) : List KV := l.foldl doR []
theorem ops17 {l : List WOp} (h : l.length ≤ 40) (hl : ∀ o ∈ l, o.ok ∧ o.m ≠ [] ∧ o.m.length ≤ 32) (i : Nat) : W17 (opsW (l.take i)) (opsR (l.take i)) 40 := by
  have h1 : (l.take i).length ≤ 40 := by rw [List.length_take]; omega
  have := W17.all (l.take i) (fun o ho => hl o (List.mem_of_mem_take ho)) (n := 0) (by omega) W17.new
  exact ⟨this.v.mono (by omega), this.sh, this.ky⟩
theorem opsW_take {l : List WOp} {i : Nat} {x : WOp} (hx : l[i]? = some x) : opsW (l.take (i + 1)) = (opsW (l.take i)).doW x := fold_take VS.doW _ hx
theorem opsR_take {l : List WOp} {i : Nat} {x : WOp} (hx : l[i]? = some x) : opsR (l.take (i + 1)) = doR (opsR (l.take i)) x := fold_take doR _ hx
theorem W17.len {s : VS} {l : List KV} {n : Nat} (h : W17 s l n) : Rises l ∧ l.length ≤ n := by
  have h1 := h.v.rs
  have h2 := h.v.zs
  have h3 := row_len s.shown
  rw [h.sh] at h1 h3
  exact ⟨h1, by omega⟩
end Go.Proofs.YtjibchohkeljkaaDoor

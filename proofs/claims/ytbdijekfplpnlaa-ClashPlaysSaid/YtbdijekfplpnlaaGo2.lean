/- More rules of the walk: what an operation makes, as a value that stays. No program is named here. -/
import Derived.Test.YtbdijekfplpnlaaGo
namespace Go.Awp
open Go.RowKit
section
variable {w : World} {β : Hd → Nat} {H L : List AObj} {F : Nat → Prop}
/-- An own array's slice, when nobody writes it any more. -/
theorem freeze_rep {i : Nat} {Ty : TypeId} {b : Bool} {e n st len : Nat} {rows : List AV} {v : Value} (hS : Sim w β ⟨H, L, F⟩) (hi : L[i]? = some (.arr Ty b e rows)) (hn : rows.length = n) (hr : RepT w β ⟨H, L, F⟩ (.sl (.l i) n st len) v) :
    RepT w β ⟨H, L.set i .dead, F⟩ (.p (.ps ((rows.drop st).take len))) v := by
  obtain ⟨h1, h2⟩ := kill i hS
  cases hr with | sl _ _ _ _ _ _ _ hv =>
  have hsl := hv _ _ _ _ hi hn
  have hle := hsl.le
  obtain ⟨ao, cap, rfl, hc1, hc2, hao⟩ := hsl.val
  have hlen : ((rows.drop st).take len).length = len := by simp; omega
  by_cases h0 : len = 0
  · subst h0
    simpa using RepT.p (RepA.psE ao cap)
  · have hao := hao (by omega)
    have hon : (AObj.arr Ty b e rows).off = false := AObj.off_arr.2 fun _ => by omega
    obtain ⟨cs, fr, g1, g2, g3, g4, g5, g6, g7⟩ := (hS.objs (.l i) _ hi).2 hon
    subst hao
    have hlive : (⟨H, L, F⟩ : Hp).live (.l i) := ⟨_, hi, hon⟩
    have hfree : Free β ⟨H, L.set i .dead, F⟩ (β (.l i)) := cells_live hS hi hon
    have key := RepA.ps (w := w) (N := Free β ⟨H, L.set i .dead, F⟩) ((rows.drop st).take len) ⟨β (.l i), st * e, none⟩ cap e (fun p q => cs.getD ((st + p) * e + q) undef) hfree (hS.lt hlive)
      (fun r hr => g6 r (List.mem_of_mem_drop (List.mem_of_mem_take hr)))
      (fun p q hp hq => by
        rw [hlen] at hp
        have hr : (rows[st + p]?) = some rows[st + p] := List.getElem?_eq_getElem (by omega)
        have hq' : q < (cellsOf rows[st + p]).length := by rw [g6 _ (List.getElem_mem _)]; exact hq
        obtain ⟨v, hv, _⟩ := g7 (st + p) q _ _ hr (List.getElem?_eq_getElem hq')
        rw [Addr.add_lit, cell_of_row _ _ _ _ _ _ g1, show st * e + (p * e + q) = (st + p) * e + q by rw [Nat.add_mul]; omega]
        simp only [Array.getD_eq_getD_getElem?, hv, Option.getD_some])
      (fun p q r x hp hq => by
        rw [List.getElem?_take] at hp
        split at hp
        · rw [List.getElem?_drop] at hp
          obtain ⟨v, hv, hr⟩ := g7 (st + p) q r x hp hq
          simp only [Array.getD_eq_getD_getElem?, hv, Option.getD_some]
          exact hr.mono h2.size h2.frame
        · cases hp) (by rw [hlen]; exact hc1)
    rw [hlen] at key
    exact .p key
end
section
variable {P : Program} {T : Tab} {env : Env} {H L : List AObj} {o : Oper} {x : TV}
theorem set_take (L : List AObj) (x : AObj) : ((L ++ [x]).set L.length .dead).take L.length = L := by
  rw [List.set_append_right _ _ (Nat.le_refl _), List.take_append_of_le_length (Nat.le_refl _), List.take_length]
/-- What an operation makes, as a value that stays. -/
theorem opr_frz {Ty : TypeId} {b : Bool} {e n : Nat} {rows : List AV} (h : OpR P o env H L (.sl (.l L.length) n 0 n) H (L ++ [.arr Ty b e rows])) (hn : rows.length = n) (ho : okAll L.length L = true) : OpR P o env H L (.p (.ps rows)) H L := by
  intro F w β a next Q hS he hnx
  refine h F w β a next Q hS he fun w' β' u hS' hst hr => ?_
  have hi : (L ++ [AObj.arr Ty b e rows])[L.length]? = some (.arr Ty b e rows) := by simp
  obtain ⟨k1, k2⟩ := kill L.length hS'
  have hr2 := freeze_rep hS' hi hn hr
  rw [List.drop_zero, List.take_of_length_le (by omega)] at hr2
  have t1 := sim_take (n := L.length) k1 (by rw [set_take]; exact ho)
  have t2 := take_rep (n := L.length) hr2 rfl
  rw [set_take] at t1 t2
  have st2 := hst.trans k2
  refine hnx w' β' u t1 ⟨st2.os, st2.tape, st2.output, st2.size, fun b hb hf => ⟨(st2.frame b hb hf).1, ?_⟩, st2.fr, rfl, fun k ob hk => ?_⟩ t2
  · have := free_take (n := L.length) (st2.frame b hb hf).2
    rwa [set_take] at this
  · obtain ⟨o', h1, h2⟩ := st2.obj k ob hk
    have hkl : k.okL L.length = true := by
      cases k with
      | o j => rfl
      | l j => simpa [Hd.okL] using (List.getElem?_eq_some_iff.1 (show L[j]? = some ob from hk)).1
    have h3 := get_take (H := H) (L := (L ++ [AObj.arr Ty b e rows]).set L.length .dead) (F := F) hkl
    rw [set_take] at h3
    exact ⟨o', h3.trans h1, h2⟩
/-- A variable that nobody will write: a struct's, or an array's. -/
theorem opr_boxP {t : TypeId} {y : Operand} {cs : List TV} {ys : List AV} (ho : o.op = .box t y) (hc : tcells (evA env y) = some cs) (hu : unpL cs = some ys) : OpR P o env H L (.p (.pp ys)) H L :=
  opr_alloc fun F w β a hS he => by
    have hv := tcells_ok (evA_ok he y) hc
    obtain ⟨u1, u2⟩ := unpL_ok (w := w) (β := β) (G := ⟨H, L, F⟩) cs hu
    refine ⟨.pointer (some ⟨w.heap.size, 0, none⟩), .cells (a.eval y).cells t, by simp [execOp, ho, Instr.box, newVar, newRow], fun hst => ?_⟩
    have hblk := alloc_new w (.cells (a.eval y).cells t)
    have hlen : (a.eval y).cells.toList.length = ys.length := by rw [hv.1, u1]
    refine .p (.pp ys ⟨w.heap.size, 0, none⟩ (fun i => (a.eval y).cells.getD i undef) (free_new hS) (by simp) (fun i hi => ?_) fun i x hx => ?_)
    · rw [Addr.add_lit, cell_of_row _ _ _ _ _ _ hblk]
      have hlt : i < (a.eval y).cells.size := by
        have : (a.eval y).cells.toList.length = (a.eval y).cells.size := by simp
        omega
      simp [Array.getD_eq_getD_getElem?, hlt]
    · obtain ⟨z, hz, hzr⟩ := u2 i x hx
      have hlt : i < (a.eval y).cells.toList.length := by rw [hlen]; exact (List.getElem?_eq_some_iff.1 hx).1
      have := hzr _ (hv.2 i z _ hz (List.getElem?_eq_getElem hlt))
      have e : (a.eval y).cells.getD i undef = (a.eval y).cells.toList[i] := by
        simp only [Array.length_toList] at hlt
        simp [Array.getD_eq_getD_getElem?, hlt]
      rw [e]
      exact this.mono hst.size hst.frame
end
/-- What reads as x reads as y, too. -/
def AVLe (x y : AV) : Prop := ∀ w N v, RepA w N x v → RepA w N y v
theorem AVLe.refl (x : AV) : AVLe x x := fun _ _ _ h => h
theorem cell_le {x : AV} (hc : cl x = true) : AVLe x (.cell x) := fun _ _ v h => .cell x v (cl_ok h hc) h
inductive AVLes : List AV → List AV → Prop
  | nil : AVLes [] []
  | cons {x y : AV} {xs ys : List AV} (h : AVLe x y) (r : AVLes xs ys) : AVLes (x :: xs) (y :: ys)
theorem AVLes.len {xs ys : List AV} (h : AVLes xs ys) : ys.length = xs.length := by
  induction h with
  | nil => rfl
  | cons _ _ ih => simp [ih]
theorem AVLes.get {xs ys : List AV} (h : AVLes xs ys) : ∀ {i : Nat} {y : AV}, ys[i]? = some y → ∃ x, xs[i]? = some x ∧ AVLe x y := by
  induction h with
  | nil => intro i y h; simp at h
  | cons h _ ih =>
    intro i y hy
    cases i with
    | zero => simp at hy; subst hy; exact ⟨_, rfl, h⟩
    | succ i => simpa using ih (by simpa using hy)
theorem pp_le {xs ys : List AV} (h : AVLes xs ys) : AVLe (.pp xs) (.pp ys) := fun w N v hr => by
  cases hr with | pp _ a vs hN hb hc hr =>
  refine .pp ys a vs hN hb (fun i hi => hc i (by rw [h.len] at hi; exact hi)) fun i y hy => ?_
  obtain ⟨x, hx, hxy⟩ := h.get hy
  exact hxy _ _ _ (hr i x hx)
section
variable {Γ : Ctx} {env : Env} {H L : List AObj} {Φ : Act → World → Prop}
theorem J_le (d : Nat) {x : AV} (y : AV) (hx : lk env d = .p x) (hc : AVLe x y) (k : J Γ ((d, .p y) :: env) H L Φ) : J Γ env H L Φ := fun a w β s =>
  k a w β ⟨s.sim, s.step, fun t => by
    rw [lk_cons]
    split
    · rename_i e
      have := s.env d
      rw [hx] at this
      rw [e]
      cases this with | p h => exact .p (hc _ _ _ h)
    · exact s.env t, s.size, s.defers⟩
end
/-! ### Calls whose answer is told by equations; what a call gathers -/
section
variable {P : Program} {Γ : Ctx} {env env' : Env} {H L : List AObj} {Q : Exit → Act → World → Prop} {ops : Array Oper} {rest : List Oper} {o : Oper}
theorem tellT_self (x : TV) : tellT x = some x := by unfold tellT; rw [frcU_eq]
theorem tellM_self (l : List AObj) : tellM l = some l := by unfold tellM; rw [frcM_eq]
theorem opr_callE {fo : Operand} {os : List Operand} {ts : Array TypeId} {f : FuncId} {caps args : List TV} {r x : TV} {news L' : List AObj}
    (ho : o.op = .call { callee := .value fo, args := os.toArray, argTypes := ts }) (hf : evA env fo = .fn f caps) (sp : Con P f args [] r [] news) (ha : TV.ren.renL [] 0 0 args = unpOr (evL env os ++ caps)) (hx : TV.clo.cloL 0 args = true)
    (h1 : r.ren [] L.length 0 = x) (h3 : L ++ renM [] L.length 0 news = L') : OpR P o env H L x H L' :=
  opr_callP ho hf sp ha hx (by rw [h1]; exact tellT_self _) (by rw [h3]; exact tellM_self _)
theorem K_opM {x : TV} {H' L' : List AObj} (hg : o.guard = none) (hd : dstOk Γ.N o.dst = true) (h : OpR P o env H L x H' L') (he : putM env o.dst x = some env') (k : J Γ env' H' L' (wpList P ops Q rest)) : J Γ env H L (wpList P ops Q (o :: rest)) :=
  J_op hg hd h (by rw [putM_eq he]; exact k)
theorem opr_mv {y : Operand} (x : TV) (ho : o.op = .move y ∨ o.op = .assign y) (he : evA env y = x) : OpR P o env H L x H L := by
  subst he
  exact opr_move ho
theorem accT_ren (n g h : Nat) (d : AV) (acc : List AV) : (accT h d acc).ren [] n g = accT (n + g + h) d acc := by cases acc <;> rfl
theorem accL_ren (n g e sz : Nat) (acc : List AV) : renM [] n g (accL e sz acc) = accL e sz acc := by cases acc <;> rfl
theorem accV_rd {d : AV} {acc : List AV} (hd : d = .nils ∨ d = .cz) : Rd H L (.p (accV d acc)) acc := by
  cases acc with
  | nil => exact hd.elim (fun e => by subst e; exact .nils) fun e => by subst e; exact .cz
  | cons r rs => exact .ps _
theorem accV_str {d : AV} {acc : List AV} (hd : d = .nils ∨ d = .cz) : false = true ↔ ∃ l, TV.p (accV d acc) = .p (.str l) := by
  cases acc with
  | nil => rcases hd with rfl | rfl <;> simp [accV]
  | cons r rs => simp [accV]
/-- What a callee gathered, as a value that stays. -/
theorem Con.frzAcc {f : FuncId} {args : List TV} {e sz : Nat} {d : AV} {acc : List AV} (h : Con P f args H (accT 0 d acc) H (accL e sz acc)) : Con P f args H (.p (accV d acc)) H [] := by
  cases acc with
  | nil => exact h
  | cons r rs => exact Con.freeze h rfl
end
/-! ### Drawn regions, values told out -/
def snocD (l : List TV) (x : TV) : Option (List TV) := frcD x fun x' => tellL (l ++ [x']) some
theorem snocD_eq {l l' : List TV} {x : TV} (h : snocD l x = some l') : snocN l x = some l' := by
  unfold snocD at h
  rw [frcD_eq] at h
  exact h
section
variable {P : Program} {ops : List Oper} {env0 : Env} {H : List AObj} {Ls : List (List AObj)} {ss : List Nat} {xs : List TV}
theorem T_opD {K : List TV → Prop} {o : Oper} {rest : List Oper} {i k : Nat} {x : TV} {L : List AObj} (hg : o.guard = none) (hp : posn ss 0 i = none) (hk : loK o ss 0 0 = k) (hk2 : Nat.beq (hiK ops i ss 0 - k) 0 = true) (hL : Ls.getD k [] = L)
    (h : OpR P o (RdE ops env0 xs o) H L x H L) {xs' : List TV} (hxs : snocD xs x = some xs') (kk : Tele P ops env0 (fun _ => H) Ls ss K rest (i + 1) xs') : Tele P ops env0 (fun _ => H) Ls ss K (o :: rest) i xs :=
  T_op hg hp hk hk2 hL h (snocD_eq hxs) kk
theorem T_yesD {K : List TV → Prop} {o : Oper} {rest : List Oper} {i k g : Nat} {b : Bool} {x : TV} {L : List AObj} (hg : o.guard = some (g, b)) (hb : gA ops.toArray (RdE ops env0 xs o) g = some b) (hp : posn ss 0 i = none) (hk : loK o ss 0 0 = k)
    (hk2 : Nat.beq (hiK ops i ss 0 - k) 0 = true) (hL : Ls.getD k [] = L) (h : OpR P o (RdE ops env0 xs o) H L x H L) {xs' : List TV} (hxs : snocD xs x = some xs') (kk : Tele P ops env0 (fun _ => H) Ls ss K rest (i + 1) xs') : Tele P ops env0 (fun _ => H) Ls ss K (o :: rest) i xs :=
  T_yes hg hb hp hk hk2 hL h (snocD_eq hxs) kk
theorem T_op2D {K : List TV → Prop} {o : Oper} {rest : List Oper} {i k : Nat} {x : TV} {L L2 : List AObj} (hg : o.guard = none) (hp : posn ss 0 i = none) (hk : loK o ss 0 0 = k) (hk2 : Nat.beq (hiK ops i ss 0 - k) 1 = true) (hL : Ls.getD k [] = L) (hL2 : Ls.getD (k + 1) [] = L2)
    (h : OpR P o (RdE ops env0 xs o) H L x H L) (h2 : OpR P o (RdE ops env0 xs o) H L2 x H L2) {xs' : List TV} (hxs : snocD xs x = some xs') (kk : Tele P ops env0 (fun _ => H) Ls ss K rest (i + 1) xs') : Tele P ops env0 (fun _ => H) Ls ss K (o :: rest) i xs :=
  T_op2 hg hp hk hk2 hL hL2 h h2 (snocD_eq hxs) kk
theorem T_gate {K : List TV → Prop} {d : Option Nat} {op : Op} {t : TypeId} {pos : String} {af : Array Edge} {rest : List Oper} {i : Nat} (h : Tele P ops env0 (fun _ => H) Ls ss K ({ dst := d, op := op, type := t, pos := pos, after := af, guard := none } :: rest) i xs) : Tele P ops env0 (fun _ => H) Ls ss K ({ dst := d, op := op, type := t, pos := pos, after := af, guard := none } :: rest) i xs := h
theorem T_gateG {K : List TV → Prop} {d : Option Nat} {op : Op} {t : TypeId} {pos : String} {af : Array Edge} {g : Nat × Bool} {rest : List Oper} {i : Nat} (h : Tele P ops env0 (fun _ => H) Ls ss K ({ dst := d, op := op, type := t, pos := pos, after := af, guard := some g } :: rest) i xs) : Tele P ops env0 (fun _ => H) Ls ss K ({ dst := d, op := op, type := t, pos := pos, after := af, guard := some g } :: rest) i xs := h
end
/-- A drawn region, as far as the environment tells. -/
theorem gd {φ ψ : Prop} (k : ψ) (h : ψ → φ := by
  intro k
  repeat (first
    | with_reducible refine T_nil ?_
    | ((with_reducible refine T_gateG ?_); first | refine T_no rfl rfl rfl rfl ?_ | refine T_yesD rfl rfl rfl rfl rfl rfl (stepN_ok hT rfl) rfl ?_ | refine T_yesD rfl rfl rfl rfl rfl rfl (stepW_ok hT rfl) rfl ?_ | refine T_yesD rfl rfl rfl rfl rfl rfl (stepG_ok hT rfl) rfl ?_ | refine T_yesD rfl rfl rfl rfl rfl rfl (stepA_ok hT rfl) rfl ?_ | refine T_yesD rfl rfl rfl rfl rfl rfl (opr_boxP rfl rfl rfl) rfl ?_)
    | ((with_reducible refine T_gate ?_); first | refine T_opD rfl rfl rfl rfl rfl (stepN_ok hT rfl) rfl ?_ | refine T_opD rfl rfl rfl rfl rfl (stepW_ok hT rfl) rfl ?_ | refine T_opD rfl rfl rfl rfl rfl (stepG_ok hT rfl) rfl ?_ | refine T_opD rfl rfl rfl rfl rfl (stepA_ok hT rfl) rfl ?_ | refine T_opD rfl rfl rfl rfl rfl (opr_boxP rfl rfl rfl) rfl ?_))
  exact k) : φ := h k
/-- One step of a drawn region. -/
theorem gd1 {φ ψ : Prop} (k : ψ) (h : ψ → φ := by
  intro k
  (first
    | with_reducible refine T_nil ?_
    | ((with_reducible refine T_gateG ?_); first | refine T_no rfl rfl rfl rfl ?_ | refine T_yesD rfl rfl rfl rfl rfl rfl (stepN_ok hT rfl) rfl ?_ | refine T_yesD rfl rfl rfl rfl rfl rfl (stepW_ok hT rfl) rfl ?_ | refine T_yesD rfl rfl rfl rfl rfl rfl (stepG_ok hT rfl) rfl ?_ | refine T_yesD rfl rfl rfl rfl rfl rfl (stepA_ok hT rfl) rfl ?_ | refine T_yesD rfl rfl rfl rfl rfl rfl (opr_boxP rfl rfl rfl) rfl ?_)
    | ((with_reducible refine T_gate ?_); first | refine T_opD rfl rfl rfl rfl rfl (stepN_ok hT rfl) rfl ?_ | refine T_opD rfl rfl rfl rfl rfl (stepW_ok hT rfl) rfl ?_ | refine T_opD rfl rfl rfl rfl rfl (stepG_ok hT rfl) rfl ?_ | refine T_opD rfl rfl rfl rfl rfl (stepA_ok hT rfl) rfl ?_ | refine T_opD rfl rfl rfl rfl rfl (opr_boxP rfl rfl rfl) rfl ?_))
  exact k) : φ := h k
/-- Where one operation more may have come between. -/
theorem gd2 {φ ψ : Prop} (k : ψ) (h : ψ → φ := by
  intro k
  repeat (first
    | ((with_reducible refine T_gate ?_); first | refine T_op2D rfl rfl rfl rfl rfl rfl (stepN_ok hT rfl) (stepN_ok hT rfl) rfl ?_ | refine T_op2D rfl rfl rfl rfl rfl rfl (stepW_ok hT rfl) (stepW_ok hT rfl) rfl ?_ | refine T_op2D rfl rfl rfl rfl rfl rfl (stepA_ok hT rfl) (stepA_ok hT rfl) rfl ?_))
  exact k) : φ := h k
end Go.Awp

/- Contracts and plain laws, several texts joined: Go6, F18q, F18p, F18o, F18s2, RelL. -/
import Derived.Test.YtfnpelogfcnanaaGreatDoorM18
import Derived.Test.YtfnpelogfcnanaaGreatDoorGo
/- More rules of the walk: drawn regions that write the caller's objects, with guards. No program is named here. -/
-- @D
namespace Go.Proofs.YtfnpelogfcnanaaGreatDoor
set_option maxRecDepth 20000
open Go.Awp Go.RowKit
section
variable {P : Program} {ops : List Oper} {env0 : Env} {Hs Ls : List (List AObj)} {ss : List Nat} {xs : List TV}
theorem T_yesH {K : List TV → Prop} {o : Oper} {rest : List Oper} {i k g : Nat} {b : Bool} {x : TV} {H L : List AObj} (hg : o.guard = some (g, b)) (hb : gA ops.toArray (RdE ops env0 xs o) g = some b) (hp : posn ss 0 i = none) (hk : loK o ss 0 0 = k) (hk2 : Nat.beq (hiK ops i ss 0 - k) 0 = true) (hH : Hs.getD k [] = H) (hL : Ls.getD k [] = L)
    (h : OpR P o (RdE ops env0 xs o) H L x H L) {xs' : List TV} (hxs : snocD xs x = some xs') (kk : Tele P ops env0 (fun k => Hs.getD k []) Ls ss K rest (i + 1) xs') : Tele P ops env0 (fun k => Hs.getD k []) Ls ss K (o :: rest) i xs :=
  ⟨x, .inl ⟨fun g' b' hgb => (by rw [hg] at hgb; obtain ⟨rfl, rfl⟩ := Prod.mk.inj (Option.some.inj hgb); exact hb), by
    subst hH hL
    unfold Obl
    rw [hp]
    simp only
    rw [hk, Nat.eq_of_beq_eq_true hk2]
    exact h⟩, by rw [snocN_eq (snocD_eq hxs)]; exact kk⟩
theorem T_yes2H {K : List TV → Prop} {o : Oper} {rest : List Oper} {i k g : Nat} {b : Bool} {x : TV} {H L H2 L2 : List AObj} (hg : o.guard = some (g, b)) (hb : gA ops.toArray (RdE ops env0 xs o) g = some b) (hp : posn ss 0 i = none) (hk : loK o ss 0 0 = k) (hk2 : Nat.beq (hiK ops i ss 0 - k) 1 = true) (hH : Hs.getD k [] = H) (hL : Ls.getD k [] = L) (hH2 : Hs.getD (k + 1) [] = H2) (hL2 : Ls.getD (k + 1) [] = L2)
    (h : OpR P o (RdE ops env0 xs o) H L x H L) (h2 : OpR P o (RdE ops env0 xs o) H2 L2 x H2 L2) {xs' : List TV} (hxs : snocD xs x = some xs') (kk : Tele P ops env0 (fun k => Hs.getD k []) Ls ss K rest (i + 1) xs') : Tele P ops env0 (fun k => Hs.getD k []) Ls ss K (o :: rest) i xs :=
  ⟨x, .inl ⟨fun g' b' hgb => (by rw [hg] at hgb; obtain ⟨rfl, rfl⟩ := Prod.mk.inj (Option.some.inj hgb); exact hb), by
    subst hH hL hH2 hL2
    unfold Obl
    rw [hp]
    simp only
    rw [hk, Nat.eq_of_beq_eq_true hk2]
    exact ⟨h, h2⟩⟩, by rw [snocN_eq (snocD_eq hxs)]; exact kk⟩
theorem T_stYH {K : List TV → Prop} {o : Oper} {rest : List Oper} {i q g : Nat} {b : Bool} {x : TV} {H L H' L' : List AObj} (hg : o.guard = some (g, b)) (hb : gA ops.toArray (RdE ops env0 xs o) g = some b) (hp : posn ss 0 i = some q) (hH : Hs.getD q [] = H) (hL : Ls.getD q [] = L) (hH' : Hs.getD (q + 1) [] = H') (hL' : Ls.getD (q + 1) [] = L')
    (h : OpR P o (RdE ops env0 xs o) H L x H' L') {xs' : List TV} (hxs : snocD xs x = some xs') (kk : Tele P ops env0 (fun k => Hs.getD k []) Ls ss K rest (i + 1) xs') : Tele P ops env0 (fun k => Hs.getD k []) Ls ss K (o :: rest) i xs :=
  ⟨x, .inl ⟨fun g' b' hgb => (by rw [hg] at hgb; obtain ⟨rfl, rfl⟩ := Prod.mk.inj (Option.some.inj hgb); exact hb), by
    subst hH hL hH' hL'
    unfold Obl
    rw [hp]
    simp only
    exact h⟩, by rw [snocN_eq (snocD_eq hxs)]; exact kk⟩
theorem T_noH {K : List TV → Prop} {o : Oper} {rest : List Oper} {i g : Nat} {b : Bool} (hg : o.guard = some (g, b)) (hb : gA ops.toArray (RdE ops env0 xs o) g = some (!b)) (hp : posn ss 0 i = none) {xs' : List TV} (hxs : snocD xs (.p .top) = some xs') (kk : Tele P ops env0 (fun k => Hs.getD k []) Ls ss K rest (i + 1) xs') :
    Tele P ops env0 (fun k => Hs.getD k []) Ls ss K (o :: rest) i xs := ⟨.p .top, .inr ⟨g, b, hg, hb, rfl, hp⟩, by rw [snocN_eq (snocD_eq hxs)]; exact kk⟩
end
theorem T_gateFG {P : Program} {ops : List Oper} {env0 : Env} {Hf : Nat → List AObj} {Ls : List (List AObj)} {ss : List Nat} {xs : List TV} {K : List TV → Prop} {d : Option Nat} {op : Op} {t : TypeId} {pos : String} {af : Array Edge} {g : Nat × Bool} {rest : List Oper} {i : Nat} (h : Tele P ops env0 Hf Ls ss K ({ dst := d, op := op, type := t, pos := pos, after := af, guard := some g } :: rest) i xs) : Tele P ops env0 Hf Ls ss K ({ dst := d, op := op, type := t, pos := pos, after := af, guard := some g } :: rest) i xs := h
/-- A drawn region that writes the caller's objects, with guards, as far as the environment tells. -/
theorem gdK {φ ψ : Prop} (k : ψ) (h : ψ → φ := by
  intro k
  repeat (first
    | with_reducible refine T_nil ?_
    | ((with_reducible refine T_gateFG ?_); first | refine T_noH rfl rfl rfl rfl ?_ | refine T_yesH rfl rfl rfl rfl rfl rfl rfl (stepN_ok hT rfl) rfl ?_ | refine T_yesH rfl rfl rfl rfl rfl rfl rfl (stepG_ok hT rfl) rfl ?_ | refine T_yesH rfl rfl rfl rfl rfl rfl rfl (stepA_ok hT rfl) rfl ?_ | refine T_yes2H rfl rfl rfl rfl rfl rfl rfl rfl rfl (stepN_ok hT rfl) (stepN_ok hT rfl) rfl ?_ | refine T_yes2H rfl rfl rfl rfl rfl rfl rfl rfl rfl (stepG_ok hT rfl) (stepG_ok hT rfl) rfl ?_ | refine T_yes2H rfl rfl rfl rfl rfl rfl rfl rfl rfl (stepA_ok hT rfl) (stepA_ok hT rfl) rfl ?_)
    | ((with_reducible refine T_gateF ?_); first | refine T_opH rfl rfl rfl rfl rfl rfl (stepN_ok hT rfl) rfl ?_ | refine T_opH rfl rfl rfl rfl rfl rfl (stepG_ok hT rfl) rfl ?_ | refine T_opH rfl rfl rfl rfl rfl rfl (stepA_ok hT rfl) rfl ?_ | refine T_op2H rfl rfl rfl rfl rfl rfl rfl rfl (stepN_ok hT rfl) (stepN_ok hT rfl) rfl ?_ | refine T_op2H rfl rfl rfl rfl rfl rfl rfl rfl (stepG_ok hT rfl) (stepG_ok hT rfl) rfl ?_ | refine T_op2H rfl rfl rfl rfl rfl rfl rfl rfl (stepA_ok hT rfl) (stepA_ok hT rfl) rfl ?_))
  exact k) : φ := h k
end Go.Proofs.YtfnpelogfcnanaaGreatDoor

/- flintlaw18: same. -/
-- @D
namespace Go.Proofs.YtfnpelogfcnanaaGreatDoor
set_option maxRecDepth 20000
open Go.Awp Tr
/-- What is read of an entry, of a node, of all nodes. -/
def sameE (d : Int) (s : VS) (y : KV) : VS := (s.rd (entryK d y.1)).rd (keyH 73 (beV y.2))
def sameB (s : VS) (x : MN) : VS := (s.rd (keyH 73 x.i)).rngE x.i
def sameN (s : VS) (x : MN) : VS := x.e.foldl (sameE x.i) (sameB s x)
def sameS (s : VS) (m : MF) : VS := m.foldl sameN s
theorem sameE_sh (d : Int) : ∀ (l : List KV) (s : VS), (l.foldl (sameE d) s).shown = s.shown
  | [], _ => rfl
  | y :: r, s => by rw [List.foldl_cons, sameE_sh d r]; rfl
theorem sameB_sh (s : VS) (x : MN) : (sameB s x).shown = s.shown := by
  unfold sameB VS.rngE VS.range; split <;> rfl
theorem sameN_sh (s : VS) (x : MN) : (sameN s x).shown = s.shown := by unfold sameN; rw [sameE_sh, sameB_sh]
theorem sameS_sh : ∀ (m : MF) (s : VS), (sameS s m).shown = s.shown
  | [], _ => rfl
  | x :: r, s => by
    show (sameS (sameN s x) r).shown = _
    rw [sameS_sh r, sameN_sh]
theorem sameE_ok (d : Int) : ∀ (l : List KV) {s : VS} {n : Nat}, VJ s n → VJ (l.foldl (sameE d) s) (n + 2 * l.length)
  | [], _, _, h => h
  | y :: r, s, n, h => (sameE_ok d r ((h.rd _).rd _)).mono (by simp only [List.length_cons]; omega)
theorem sameB_ok {s : VS} {n : Nat} (h : VJ s n) (x : MN) : VJ (sameB s x) (n + 2) := (h.rd _).rngE _
theorem sameN_ok {s : VS} {n : Nat} (h : VJ s n) (x : MN) : VJ (sameN s x) (n + 2 + 2 * x.e.length) := sameE_ok _ _ (sameB_ok h x)
theorem sameS_ok {c : Nat} : ∀ (m : MF) {s : VS} {n : Nat}, (∀ x ∈ m, x.e.length ≤ c) → VJ s n → VJ (sameS s m) (n + (2 + 2 * c) * m.length)
  | [], _, _, _, h => h
  | x :: r, s, n, hc, h => by
    have h1 := (sameN_ok h x).mono (m := n + (2 + 2 * c)) (by have := hc x List.mem_cons_self; omega)
    refine (sameS_ok r (fun y hy => hc y (List.mem_cons_of_mem _ hy)) h1).mono ?_
    rw [List.length_cons, Nat.mul_succ]; omega
theorem sameS_take {s : VS} {m : MF} {i : Nat} {x : MN} (hx : m[i]? = some x) : sameN (sameS s (m.take i)) x = sameS s (m.take (i + 1)) := by
  unfold sameS
  rw [List.take_add_one, List.foldl_append, hx]; rfl
theorem sameE_take {d : Int} {s : VS} {l : List KV} {i : Nat} {y : KV} (hx : l[i]? = some y) : sameE d ((l.take i).foldl (sameE d) s) y = (l.take (i + 1)).foldl (sameE d) s := by
  rw [List.take_add_one, List.foldl_append, hx]; rfl
set_option maxHeartbeats 32000000 in
theorem same18_spec {s : VS} {n c : Nat} (h : VJ s n) {m : MF} {par : Int → Int} (R : Rel s.shown.row m par) (hw : m.wk c) (hc : c ≤ 400) (hn : n ≤ 90000) : Con Tryz.prog 18 [vP, fsA m] (vH s) (.p (.bool true)) (vH (sameS s m)) [] := by
  have hlm := hw.l
  have hlen : (nods m).length = m.length := by simp
  refine con_of Tryz.func18 rfl (by kernel_rfl) rfl fun F w0 β0 => ?_
  refine K_tell rfl ?_
  refine go ?_
  refine J_loop (fun q : Ix m.length => [(0, vP), (3, .ad (.l 0) 0), (17, .p (.int .i64 (m.length : Int))), (18, .p (.int .i64 (q.i : Int)))]) (fun q => vH (sameS s (m.take q.i))) (fun _ => [fB m]) (fun q => m.length - q.i) ⟨0, by omega⟩ ⟨rfl, rfl, (by rw [← hlen]; rfl), rfl, trivial⟩ rfl rfl (fun q => ?_)
  have hi := q.h
  refine go ?_
  by_cases hlt : q.i < m.length
  · have hx : m[q.i]? = some m[q.i] := List.getElem?_eq_getElem hlt
    have hxm : m[q.i] ∈ m := List.getElem_mem hlt
    generalize m[q.i] = x at hx hxm
    have hxk := nods_get hx
    have hat := R.fst x hxm
    have hv0 : VJ (sameS s (m.take q.i)) (n + 330000) := (sameS_ok (c := c) (m.take q.i) (fun y hy => hw.e y (List.mem_of_mem_take hy)) h).mono (by
      have h1 := Nat.mul_le_mul (show 2 + 2 * c ≤ 802 by omega) (show (m.take q.i).length ≤ 400 by rw [List.length_take]; omega)
      omega)
    have hsh0 := sameS_sh (m.take q.i) s
    have e0 := sameS_take (s := s) hx
    generalize sameS s (m.take q.i) = t at hv0 hsh0 e0
    have R0 : Rel t.shown.row m par := by rw [hsh0]; exact R
    have hxu := (R.u _ _ hat).1
    have c1 := wload_spec hv0 (by omega) x.i hxu
    rw [nodeT_tup, R0.load hv0 hat] at c1
    have c2 := wlist_spec (hv0.rd (keyH 73 x.i)) (by omega) x.i hxu
    change Con Tryz.prog _ _ _ _ (vH (sameB t x)) _ at c2
    have hnl : namesL x.i (t.rd (keyH 73 x.i)).shown.row = x.e.map (·.1) := by
      rw [namesL_sub]
      show (subL 69 x.i t.shown.row).map _ = _
      rw [← R0.ent _ _ hat]
    rw [hnl] at c2
    have hvb := sameB_ok hv0 x
    have hshb : (sameB t x).shown = s.shown := by rw [sameB_sh, hsh0]
    have hen : t.shown = s.shown := hsh0
    have e1 : x.e.foldl (sameE x.i) (sameB t x) = sameS s (m.take (q.i + 1)) := e0
    generalize sameB t x = b at c2 hvb hshb e1
    have hmay := R.may hat
    have hel := hw.e x hxm
    have hwn : IntKind.i64.wrap x.n = x.n := IntWalk.i64_in _ (by have := hmay.2.1; unfold U32 at this; omega)
    have hwb : IntKind.i64.wrap (x.b.length : Int) = x.b.length := IntWalk.i64_in _ (by have := hmay.2.2.1; unfold U32 at this; omega)
    refine K_condT rfl (decide_eq_true (by omega)) ?_
    refine go ?_
    refine K_op rfl rfl (opr_index hT rfl rfl rfl rfl rfl (.ps _) (by omega) (by rw [hlen]; omega)) rfl ?_
    refine go ?_
    refine K_op rfl rfl (opr_load_el hT rfl rfl (.ps _) hxk rfl rfl) rfl ?_
    refine go ?_
    refine K_op rfl rfl (opr_callS [.o 0, .o 1] rfl rfl (c1) rfl rfl rfl ⟨⟨rfl, rfl⟩, ⟨rfl, rfl⟩, trivial⟩ rfl rfl rfl rfl) rfl ?_
    refine go ?_
    refine J_drawH1 30 (vH b) (by kernel_rfl) (by kernel_rfl) ?_
    refine gdK ?_
    refine T_false 9 rfl (by simp) rfl ?_
    refine gdK ?_
    refine T_false 17 rfl (by simp [hwn]) rfl ?_
    refine gdK ?_
    refine T_false 26 rfl (by simp [hwb]) rfl ?_
    refine gdK ?_
    refine T_stYH rfl rfl rfl rfl rfl rfl rfl (opr_callS [.o 0, .o 1] rfl rfl c2 rfl rfl rfl ⟨⟨rfl, rfl⟩, ⟨rfl, rfl⟩, trivial⟩ rfl rfl rfl rfl) rfl ?_
    refine gdK ?_
    refine go ?_
    refine K_condF rfl (by simp) ?_
    refine go ?_
    have hle : (ents x.e).length = x.e.length := by simp
    refine J_loop (fun r : Ix x.e.length => [(0, vP), (3, .ad (.l 0) 0), (6, .ad (.l 1) 0), (17, .p (.int .i64 (m.length : Int))), (18, .p (.int .i64 (q.i : Int))), (71, .p (.ps (ents x.e))), (72, .p (.int .i64 (x.e.length : Int))), (73, .p (.int .i64 (r.i : Int)))]) (fun r => vH ((x.e.take r.i).foldl (sameE x.i) b)) (fun _ => [fB m, nB x, .box 53 [.p (.int .u8 x.k), .p (.int .u32 x.n), .p (.int .u32 (x.b.length : Int)), .p (.int .u32 (par x.i))]]) (fun r => x.e.length - r.i) ⟨0, by omega⟩ ⟨rfl, rfl, rfl, rfl, rfl, rfl, (by rw [← hle]; rfl), rfl, trivial⟩ rfl rfl (fun r => ?_)
    have hri := r.h
    refine go ?_
    by_cases hrl : r.i < x.e.length
    · have hy : x.e[r.i]? = some x.e[r.i] := List.getElem?_eq_getElem hrl
      have hym : x.e[r.i] ∈ x.e := List.getElem_mem hrl
      generalize x.e[r.i] = y at hy hym
      have hyk := ents_get hy
      have hrs : Rises x.e := by rw [R.ent _ _ hat]; exact sub_rises R.ri
      have hg := (lget_some hrs).2 (show (y.1, y.2) ∈ x.e from hym)
      obtain ⟨hnm, k, z, hk1, hk2, hk3, hk4⟩ := R.nam _ _ hat _ _ hg
      have hku := (R.u _ _ hk2).1
      have hbe : beV y.2 = k := by rw [hk1, beV_be4 k hku]
      have hv1 : VJ ((x.e.take r.i).foldl (sameE x.i) b) (n + 330000 + 2 + 800) := (sameE_ok x.i (x.e.take r.i) hvb).mono (by rw [List.length_take]; omega)
      have hsh1 : ((x.e.take r.i).foldl (sameE x.i) b).shown = s.shown := by rw [sameE_sh, hshb]
      have e2 := sameE_take (d := x.i) (s := b) hy
      generalize (x.e.take r.i).foldl (sameE x.i) b = u at hv1 hsh1 e2
      have R1 : Rel u.shown.row m par := by rw [hsh1]; exact R
      have c3 := wchild_spec hv1 (by omega) x.i hxu y.1
      have ec : u.child x.i y.1 = some k := by
        rw [child_row hv1 x.i (nameB_len hnm), ← sub_get R1.ri, ← R1.ent _ _ hat, hg, hk1, chOf_be4' hku]
      rw [ec] at c3
      have c4 := wload_spec (hv1.rd (entryK x.i y.1)) (by omega) k hku
      have el : (u.rd (entryK x.i y.1)).load k = some (z.k, z.n, (z.b.length : Int), par k) := R1.load (s := u.rd (entryK x.i y.1)) (hv1.rd _) hk2
      rw [nodeT_tup, el] at c4
      have e3 : (u.rd (entryK x.i y.1)).rd (keyH 73 k) = sameE x.i u y := by unfold sameE; rw [hbe]
      rw [e3, e2] at c4
      refine K_condT rfl (decide_eq_true (by omega)) ?_
      refine go ?_
      refine K_op rfl rfl (opr_index hT rfl rfl rfl rfl rfl (.ps _) (by omega) (by rw [hle]; omega)) rfl ?_
      refine go ?_
      refine K_op rfl rfl (opr_load_el hT rfl rfl (.ps _) hyk rfl rfl) rfl ?_
      refine go ?_
      refine K_op rfl rfl (opr_callS [.o 0, .o 1] rfl rfl (c3) rfl rfl rfl ⟨⟨rfl, rfl⟩, ⟨rfl, rfl⟩, trivial⟩ rfl rfl rfl rfl) rfl ?_
      refine go ?_
      refine K_condF rfl (by simp [hbe]) ?_
      refine go ?_
      refine K_op rfl rfl (opr_callS [.o 0, .o 1] rfl rfl (c4) rfl rfl rfl ⟨⟨rfl, rfl⟩, ⟨rfl, rfl⟩, trivial⟩ rfl rfl rfl rfl) rfl ?_
      refine go ?_
      refine K_condF rfl (by simp; exact hk4) ?_
      refine go ?_
      refine J_take 3 [(0, vP), (3, .ad (.l 0) 0), (6, .ad (.l 1) 0), (17, .p (.int .i64 (m.length : Int))), (18, .p (.int .i64 (q.i : Int))), (71, .p (.ps (ents x.e))), (72, .p (.int .i64 (x.e.length : Int))), (73, .p (.int .i64 (IntKind.i64.wrap ((r.i : Int) + 1))))] ⟨rfl, rfl, rfl, rfl, rfl, rfl, rfl, rfl, trivial⟩ rfl rfl ?_
      refine J_again ⟨r.i + 1, by omega⟩ (by show x.e.length - (r.i + 1) < x.e.length - r.i; omega) ⟨rfl, rfl, rfl, rfl, rfl, rfl, rfl, congrArg (fun z => TV.p (.int .i64 z)) (by rw [IntWalk.i64_in _ (by omega)]; rfl), trivial⟩ rfl rfl
    have er : r.i = x.e.length := by omega
    rw [er, List.take_length, e1]
    refine K_condF rfl (decide_eq_false (by omega)) ?_
    refine go ?_
    refine J_take 1 [(0, vP), (3, .ad (.l 0) 0), (17, .p (.int .i64 (m.length : Int))), (18, .p (.int .i64 (IntKind.i64.wrap ((q.i : Int) + 1))))] ⟨rfl, rfl, rfl, rfl, trivial⟩ rfl rfl ?_
    refine J_again ⟨q.i + 1, by omega⟩ (by show m.length - (q.i + 1) < m.length - q.i; omega) ⟨rfl, rfl, rfl, congrArg (fun z => TV.p (.int .i64 z)) (by rw [IntWalk.i64_in _ (by omega)]; rfl), trivial⟩ rfl rfl
  have e : q.i = m.length := by omega
  rw [e, List.take_length]
  refine K_condF rfl (decide_eq_false (by omega)) ?_
  refine go ?_
  exact J_done hT rfl rfl rfl
end Go.Proofs.YtfnpelogfcnanaaGreatDoor

/- flintref18: New. -/
-- @D
namespace Go.Proofs.YtfnpelogfcnanaaGreatDoor
set_option maxRecDepth 20000
open Go.Awp Tr
/-- A row of one node without entries, told with a slice of none. -/
theorem nod1_le (i k n : Int) : AVLe (.ps [.agg [.int .u32 i, .int .u8 k, .int .i64 n, .str [], .nils]]) (.ps [.agg [.int .u32 i, .int .u8 k, .int .i64 n, .str [], .ps []]]) := fun w N v hr => by
  cases hr with
  | ps _ a c e vs hN hb he hc hr hl =>
    refine .ps [.agg [.int .u32 i, .int .u8 k, .int .i64 n, .str [], .ps []]] a c e vs hN hb (fun r hr' => ?_) hc (fun p j r x hp hj => ?_) hl
    · have := he _ List.mem_cons_self
      rw [List.mem_singleton] at hr'
      subst hr'
      exact this
    · match p with
      | 0 =>
        obtain rfl : AV.agg [.int .u32 i, .int .u8 k, .int .i64 n, .str [], .ps []] = r := by simpa using hp
        have h0 := fun (j : Nat) (x : AV) => hr 0 j _ x rfl
        match j with
        | 0 => exact h0 0 x hj
        | 1 => exact h0 1 x hj
        | 2 => exact h0 2 x hj
        | 3 => exact h0 3 x hj
        | 4 =>
          obtain rfl : AV.ps [] = x := by simpa [cellsOf] using hj
          exact nils_ps _ _ _ (h0 4 .nils rfl)
        | j + 5 => simp [cellsOf] at hj
      | p + 1 => simp at hp
theorem rnew18_spec : Con Tryz.prog 13 [] [] (fsT newM) [] [] := by
  refine con_of Tryz.func13 rfl (by kernel_rfl) rfl fun F w0 β0 => ?_
  refine K_tell rfl ?_
  refine go ?_
  refine J_recell 0 0 (.p (.ps (nods newM))) rfl rfl (fun w β G v hr => ?_) ?_
  · cases hr with | p h => exact .p (nod1_le 1 2 2 _ _ _ h)
  exact J_done hT rfl rfl rfl
end Go.Proofs.YtfnpelogfcnanaaGreatDoor

/- An operation of layer 18: a view as the model; what a row of them keeps. -/
-- @D
namespace Go.Proofs.YtfnpelogfcnanaaGreatDoor
set_option maxRecDepth 20000
open Go.Awp Tr
/-- What holds between a view and the model, behind so many operations. -/
structure D18 (s : VS) (m : MF) (i : Nat) : Prop where
  v : VJ s (200 * i)
  r : ∃ par, Rel s.shown.row m par
  w : m.wk (6 * i + 2)
  l : m.lt (2 + i)
theorem D18.new : D18 (VS.new .nil) newM 0 :=
  ⟨VJ.new (by simp [row, Rises]) (Nat.le_refl _) (by simp [row]), ⟨_, Rel.new⟩,
    ⟨by simp [newM], fun x hx => by rw [show x = ⟨1, 2, 2, [], []⟩ by simpa [newM] using hx]; simp, fun x hx => by rw [show x = ⟨1, 2, 2, [], []⟩ by simpa [newM] using hx]; simp, fun x hx => by rw [show x = ⟨1, 2, 2, [], []⟩ by simpa [newM] using hx]; simp [Rises]⟩,
    fun x hx => by rw [show x = ⟨1, 2, 2, [], []⟩ by simpa [newM] using hx]; simp⟩
theorem D18.u {s : VS} {m : MF} {i : Nat} (h : D18 s m i) : (∀ x ∈ m, U32 x.i) ∧ m.kind 1 = 2 ∧ m.ok (6 * i + 2) := by
  obtain ⟨par, R⟩ := h.r
  refine ⟨fun x hx => (R.u _ _ (R.fst x hx)).1, ?_, R.spot h.w⟩
  obtain ⟨x, h1, h2⟩ := R.root
  unfold MF.kind; rw [h1]; exact h2
/-- One operation more: the view is full, or both answer alike. -/
theorem D18.step {s : VS} {m : MF} {i : Nat} (h : D18 s m i) (hi : i ≤ 100) (k : Int) (p o : List UInt8) (j : Int) (hj : j = 2 + i) :
    (doT s m k p o j).1.2.2 = true ∨ ((doT s m k p o j).1.1 = true ∧ (doT s m k p o j).1.2.2 = false ∧ D18 (doT s m k p o j).2 (doT s m k p o j).1.2.1 (i + 1)) := by
  obtain ⟨par, R⟩ := h.r
  have hl1 : m.lt (2 + (i + 1 : Nat)) := h.l.mono (by omega)
  have hat : m.at j = none := h.l.none (by omega)
  have hju : U32 j := by unfold U32; omega
  have key : ∀ (q : Int × VS) (r : Int × MF), (q.1 = 21 ∨ (q.1 = r.1 ∧ ∃ par', Rel q.2.shown.row r.2 par')) → VJ q.2 (200 * i + 200) → r.2.wk (6 * i + 2 + 6) → r.2.lt (2 + (i + 1 : Nat)) →
      (if q.1 = 21 then ((true, m, true), q.2) else ((decide (q.1 = r.1), r.2, false), q.2)).1.2.2 = true ∨ ((if q.1 = 21 then ((true, m, true), q.2) else ((decide (q.1 = r.1), r.2, false), q.2)).1.1 = true ∧ (if q.1 = 21 then ((true, m, true), q.2) else ((decide (q.1 = r.1), r.2, false), q.2)).1.2.2 = false ∧ D18 (if q.1 = 21 then ((true, m, true), q.2) else ((decide (q.1 = r.1), r.2, false), q.2)).2 (if q.1 = 21 then ((true, m, true), q.2) else ((decide (q.1 = r.1), r.2, false), q.2)).1.2.1 (i + 1)) := by
    intro q r h1 h2 h3 h4
    by_cases e : q.1 = 21
    · rw [if_pos e]; exact .inl rfl
    · rw [if_neg e]
      obtain ⟨h5, h6⟩ := h1.resolve_left e
      exact .inr ⟨decide_eq_true h5, rfl, h2.mono (by omega), h6, h3.mono (by omega), h4⟩
  unfold doT
  by_cases h3 : k = 3
  · rw [if_pos h3]
    obtain ⟨e1, e2⟩ := list_sim h.v R p
    refine .inr ⟨?_, rfl, (dlist_ok h.v p).mono (by omega), ⟨par, by dsimp only; rw [e2]; exact R⟩, h.w.mono (by omega), hl1⟩
    dsimp only
    rw [e1]; simp
  rw [if_neg h3]
  by_cases h0 : k = 0
  · have e : do18 s m k p o j = (s.make p 1 j, m.make p 1 j) := by unfold do18; rw [if_pos h0]
    rw [e]
    exact key _ _ (make_sim h.v R h.w (by omega) p (.inl rfl) hju (by omega) hat) (make_ok h.v p 1 j) (make_wk h.w (by omega) p 1 j) (hl1.make p 1 (by omega))
  by_cases h1 : k = 1
  · have e : do18 s m k p o j = (s.make p 2 j, m.make p 2 j) := by unfold do18; rw [if_neg h0, if_pos h1]
    rw [e]
    exact key _ _ (make_sim h.v R h.w (by omega) p (.inr rfl) hju (by omega) hat) (make_ok h.v p 2 j) (make_wk h.w (by omega) p 2 j) (hl1.make p 2 (by omega))
  by_cases h2 : k = 2
  · have e : do18 s m k p o j = (s.remove p, m.remove p) := by unfold do18; rw [if_neg h0, if_neg h1, if_pos h2]
    rw [e]
    exact key _ _ ((remove_sim h.v R h.w (by omega) p).imp_right fun q => ⟨q.1, par, q.2⟩) (remove_ok h.v p) (remove_wk h.w p) (hl1.remove p)
  by_cases h4 : k = 4
  · have e : do18 s m k p o j = (s.link p o, m.link p o) := by unfold do18; rw [if_neg h0, if_neg h1, if_neg h2, if_pos h4]
    rw [e]
    exact key _ _ ((link_sim h.v R p o).imp_right fun q => ⟨q.1, par, q.2⟩) (link_ok h.v p o) (link_wk h.w p o) (hl1.link p o)
  by_cases h5 : k = 5
  · have e : do18 s m k p o j = (s.unlink p, m.unlink p) := by unfold do18; rw [if_neg h0, if_neg h1, if_neg h2, if_neg h4, if_pos h5]
    rw [e]
    exact key _ _ ((unlink_sim h.v R p).imp_right fun q => ⟨q.1, par, q.2⟩) (unlink_ok h.v R p) (unlink_wk h.w p) (hl1.unlink p)
  by_cases h6 : k = 6
  · have e : do18 s m k p o j = (s.rename p o, m.rename p o) := by unfold do18; rw [if_neg h0, if_neg h1, if_neg h2, if_neg h4, if_neg h5, if_pos h6]
    rw [e]
    exact key _ _ (rename_sim h.v R h.w (by omega) p o) (rename_ok h.v R p o) (rename_wk h.w p o) (hl1.rename p o)
  have e : do18 s m k p o j = ((0, s), (0, m)) := by unfold do18; rw [if_neg h0, if_neg h1, if_neg h2, if_neg h4, if_neg h5, if_neg h6]
  rw [e]
  exact key (0, s) (0, m) (.inr ⟨rfl, par, R⟩) (h.v.mono (by omega)) (h.w.mono (by omega)) hl1
theorem key_lt {y c j : Int} {r : List UInt8} (hc : c = 73 ∧ r = [] ∨ c = 69 ∨ c = 68) : Op.bytesLess (keyH c j ++ r) [255] = true := by
  have : c = 73 ∨ c = 69 ∨ c = 68 := by omega
  rcases this with rfl | rfl | rfl <;> rfl
theorem Rel.ff {l : List KV} {m : MF} {par : Int → Int} (R : Rel l m par) : ∀ y ∈ l, Op.bytesLess y.1 [255] = true := fun y hy => by
  obtain ⟨c, j, r, h1, _, h3⟩ := R.key y hy
  rw [h3]; exact key_lt (y := 0) h1
theorem D18.based {s : VS} {m : MF} {i : Nat} (h : D18 s m i) : D18 (VS.new (basedT s)) m i ∧ (basedT s).row = s.shown.row := by
  obtain ⟨par, R⟩ := h.r
  obtain ⟨e1, e2⟩ := based_row h.v R.ff
  refine ⟨⟨VJ.new (by rw [e2]; exact h.v.rs) (by rw [← row_len, e2, row_len]; exact h.v.zs) (by rw [e2]; exact h.v.val), ⟨par, ?_⟩, h.w, h.l⟩, e2⟩
  show Rel (basedT s).row m par
  rw [e2]; exact R
theorem rem_ok {k : IntKind} {a b : Int} (h : b ≠ 0) : intA .rem k a b = some (.p (.int k (a.tmod b))) := by
  unfold intA
  dsimp only
  rw [decide_eq_false h]
end Go.Proofs.YtfnpelogfcnanaaGreatDoor

/- flintref18: Same. -/
-- @D
namespace Go.Proofs.YtfnpelogfcnanaaGreatDoor
set_option maxRecDepth 20000
open Go.Awp Tr
/-- Two entries, name and what stands below. -/
def sameP (f : Int → Int → Bool) (p : KV × KV) : Bool := decide (p.1.1 = p.2.1) && f (beV p.1.2) (beV p.2.2)
/-- The same from two nodes on, so deep. -/
def sameF (a b : MF) : Nat → Int → Int → Bool
  | 0, _, _ => false
  | n + 1, i, k => match a.at i, b.at k with
    | some x, some y => decide (x.k = y.k) && decide (x.n = y.n) && decide (x.b = y.b) && decide (x.e.length = y.e.length) && (x.e.zip y.e).all (sameP (sameF a b n))
    | _, _ => false
def MF.same (a b : MF) : Bool := sameF a b 41 1 1 && decide (a.length = b.length)
structure SmI (f : KV × KV → Bool) (l : List (KV × KV)) where
  i : Nat
  h : i ≤ l.length
  e : (l.drop i).all f = l.all f
set_option maxHeartbeats 32000000 in
theorem rsame_spec {a b : MF} {c : Nat} (ha : a.ok c) (hb : b.ok c) (hc : c ≤ 100000) : ∀ (n : Nat) (i k : Int), n ≤ 41 → (∃ x, a.at i = some x) → (∃ y, b.at k = some y) →
    Con Tryz.prog 76 [fsA a, fsA b, .p (.int .u32 i), .p (.int .u32 k), .p (.int .i64 (41 - (n : Int)))] [] (.p (.bool (sameF a b n i k))) [] [] := by
  intro n
  induction n with
  | zero =>
    intro i k _ ⟨x, hx⟩ ⟨y, hy⟩
    obtain ⟨q1, d1, d2⟩ := ix_at hx
    obtain ⟨q2, d3, d4⟩ := ix_at hy
    have hla := (ha.wk.sz hc).l
    have hlb := (hb.wk.sz hc).l
    have c1 := rAt_spec a i hla
    have c2 := rAt_spec b k hlb
    rw [d1] at c1
    rw [d3] at c2
    have l1 := (List.getElem?_eq_some_iff.1 d2).1
    have l2 := (List.getElem?_eq_some_iff.1 d4).1
    have n1 : (nods a).length = a.length := by simp
    have n2 : (nods b).length = b.length := by simp
    have k1 := nods_get d2
    have k2 := nods_get d4
    refine con_of Tryz.func76 rfl (by kernel_rfl) rfl fun F w0 β0 => ?_
    refine K_tell rfl ?_
    refine go ?_
    refine J_draw [[fB a, fB b], [fB a, fB b, nB0], [fB a, fB b, nB x]] [7, 8] (by kernel_rfl) (by kernel_rfl) rfl ?_
    refine gdW ?_
    refine T_op2D rfl rfl rfl rfl rfl rfl (opr_call0P rfl rfl c1 rfl rfl rfl) (opr_call0P rfl rfl c1 rfl rfl rfl) rfl ?_
    refine gdW ?_
    refine T_op2D rfl rfl rfl rfl rfl rfl (opr_index hT rfl rfl rfl rfl rfl (.ps _) (by omega) (by rw [n1]; omega)) (opr_index hT rfl rfl rfl rfl rfl (.ps _) (by omega) (by rw [n1]; omega)) rfl ?_
    refine gdW ?_
    refine T_op2D rfl rfl rfl rfl rfl rfl (opr_load_el hT rfl rfl (.ps _) k1 rfl rfl) (opr_load_el hT rfl rfl (.ps _) k1 rfl rfl) rfl ?_
    refine gdW ?_
    refine go ?_
    refine J_draw [[fB a, fB b, nB x], [fB a, fB b, nB x, nB0], [fB a, fB b, nB x, nB y]] [7, 8] (by kernel_rfl) (by kernel_rfl) rfl ?_
    refine gdW ?_
    refine T_op2D rfl rfl rfl rfl rfl rfl (opr_call0P rfl rfl c2 rfl rfl rfl) (opr_call0P rfl rfl c2 rfl rfl rfl) rfl ?_
    refine gdW ?_
    refine T_op2D rfl rfl rfl rfl rfl rfl (opr_index hT rfl rfl rfl rfl rfl (.ps _) (by omega) (by rw [n2]; omega)) (opr_index hT rfl rfl rfl rfl rfl (.ps _) (by omega) (by rw [n2]; omega)) rfl ?_
    refine gdW ?_
    refine T_op2D rfl rfl rfl rfl rfl rfl (opr_load_el hT rfl rfl (.ps _) k2 rfl rfl) (opr_load_el hT rfl rfl (.ps _) k2 rfl rfl) rfl ?_
    refine gdW ?_
    refine go ?_
    exact J_done hT rfl rfl rfl
  | succ n ih =>
    intro i k hn ⟨x, hx⟩ ⟨y, hy⟩
    obtain ⟨q1, d1, d2⟩ := ix_at hx
    obtain ⟨q2, d3, d4⟩ := ix_at hy
    have hla := (ha.wk.sz hc).l
    have hlb := (hb.wk.sz hc).l
    have c1 := rAt_spec a i hla
    have c2 := rAt_spec b k hlb
    rw [d1] at c1
    rw [d3] at c2
    have l1 := (List.getElem?_eq_some_iff.1 d2).1
    have l2 := (List.getElem?_eq_some_iff.1 d4).1
    have n1 : (nods a).length = a.length := by simp
    have n2 : (nods b).length = b.length := by simp
    have k1 := nods_get d2
    have k2 := nods_get d4
    have e1 : (ents x.e).length = x.e.length := by simp
    have e2 : (ents y.e).length = y.e.length := by simp
    have hd : IntKind.i64.wrap (41 - ((n + 1 : Nat) : Int) + 1) = 41 - (n : Int) := by rw [IntWalk.i64_in _ (by omega)]; omega
    have hdd : decide ((41 - ((n + 1 : Nat) : Int)) > 40) = false := decide_eq_false (by omega)
    have hs : sameF a b (n + 1) i k = (decide (x.k = y.k) && decide (x.n = y.n) && decide (x.b = y.b) && decide (x.e.length = y.e.length) && (x.e.zip y.e).all (sameP (sameF a b n))) := by
      show (match a.at i, b.at k with
        | some x, some y => _
        | _, _ => false) = _
      rw [hx, hy]
    rw [hs]
    generalize 41 - ((n + 1 : Nat) : Int) = dp at hd hdd
    refine con_of Tryz.func76 rfl (by kernel_rfl) rfl fun F w0 β0 => ?_
    refine K_tell rfl ?_
    refine go ?_
    refine J_draw [[fB a, fB b], [fB a, fB b, nB0], [fB a, fB b, nB x]] [7, 8] (by kernel_rfl) (by kernel_rfl) rfl ?_
    refine gdW ?_
    refine T_op2D rfl rfl rfl rfl rfl rfl (opr_call0P rfl rfl c1 rfl rfl rfl) (opr_call0P rfl rfl c1 rfl rfl rfl) rfl ?_
    refine gdW ?_
    refine T_op2D rfl rfl rfl rfl rfl rfl (opr_index hT rfl rfl rfl rfl rfl (.ps _) (by omega) (by rw [n1]; omega)) (opr_index hT rfl rfl rfl rfl rfl (.ps _) (by omega) (by rw [n1]; omega)) rfl ?_
    refine gdW ?_
    refine T_op2D rfl rfl rfl rfl rfl rfl (opr_load_el hT rfl rfl (.ps _) k1 rfl rfl) (opr_load_el hT rfl rfl (.ps _) k1 rfl rfl) rfl ?_
    refine gdW ?_
    refine go ?_
    refine J_draw [[fB a, fB b, nB x], [fB a, fB b, nB x, nB0], [fB a, fB b, nB x, nB y]] [7, 8] (by kernel_rfl) (by kernel_rfl) rfl ?_
    refine gdW ?_
    refine T_op2D rfl rfl rfl rfl rfl rfl (opr_call0P rfl rfl c2 rfl rfl rfl) (opr_call0P rfl rfl c2 rfl rfl rfl) rfl ?_
    refine gdW ?_
    refine T_op2D rfl rfl rfl rfl rfl rfl (opr_index hT rfl rfl rfl rfl rfl (.ps _) (by omega) (by rw [n2]; omega)) (opr_index hT rfl rfl rfl rfl rfl (.ps _) (by omega) (by rw [n2]; omega)) rfl ?_
    refine gdW ?_
    refine T_op2D rfl rfl rfl rfl rfl rfl (opr_load_el hT rfl rfl (.ps _) k2 rfl rfl) (opr_load_el hT rfl rfl (.ps _) k2 rfl rfl) rfl ?_
    refine gdW ?_
    refine go ?_
    by_cases hA : x.k = y.k ∧ x.n = y.n ∧ x.b = y.b ∧ x.e.length = y.e.length
    · obtain ⟨a1, a2, a3, a4⟩ := hA
      have hx1 := (at_mem hx).1
      have hy1 := (at_mem hy).1
      have hel := ha.wk.e x hx1
      have hE : (decide (x.k = y.k) && decide (x.n = y.n) && decide (x.b = y.b) && decide (x.e.length = y.e.length) && (x.e.zip y.e).all (sameP (sameF a b n))) = (x.e.zip y.e).all (sameP (sameF a b n)) := by
        rw [decide_eq_true a1, decide_eq_true a2, decide_eq_true a3, decide_eq_true a4]; rfl
      rw [hE]
      have hzl : (x.e.zip y.e).length = x.e.length := by rw [List.length_zip]; omega
      refine K_condF rfl (by rw [hdd, a1, a2, a3, e1, e2, a4]; simp) ?_
      refine go ?_
      refine J_loop (fun q : SmI (sameP (sameF a b n)) (x.e.zip y.e) => [(4, .p (.int .i64 dp)), (5, .ad (.l 0) 0), (6, .ad (.l 1) 0), (11, .ad (.l 2) 0), (12, .ad (.l 3) 0), (62, .p (.int .i64 (x.e.length : Int))), (63, .p (.int .i64 (q.i : Int)))]) (fun _ => []) (fun _ => [fB a, fB b, nB x, nB y]) (fun q => x.e.length - q.i) ⟨0, by omega, rfl⟩ ⟨rfl, rfl, rfl, rfl, rfl, (by rw [← e1]; rfl), rfl, trivial⟩ rfl rfl (fun q => ?_)
      have hi := q.h
      rw [hzl] at hi
      have he := q.e
      refine go ?_
      by_cases hlt : q.i < x.e.length
      · have hu : x.e[q.i]? = some x.e[q.i] := List.getElem?_eq_getElem hlt
        have hv : y.e[q.i]? = some y.e[q.i] := List.getElem?_eq_getElem (by omega)
        have hdr : (x.e.zip y.e).drop q.i = (x.e[q.i], y.e[q.i]) :: (x.e.zip y.e).drop (q.i + 1) := by rw [List.drop_eq_getElem_cons (by omega), List.getElem_zip]
        rw [hdr, List.all_cons] at he
        have hum : x.e[q.i] ∈ x.e := List.getElem_mem hlt
        have hvm : y.e[q.i] ∈ y.e := List.getElem_mem (by omega)
        generalize x.e[q.i] = u at hu he hum
        generalize y.e[q.i] = v at hv he hvm
        have huk := ents_get hu
        have hvk := ents_get hv
        refine K_condT rfl (decide_eq_true (by omega)) ?_
        refine go ?_
        refine J_draw [_] [] (by kernel_rfl) (by kernel_rfl) rfl ?_
        refine gd ?_
        refine T_opD rfl rfl rfl rfl rfl (opr_index hT rfl rfl rfl rfl rfl (.ps _) (by omega) (by rw [e1]; omega)) rfl ?_
        refine gd ?_
        refine T_opD rfl rfl rfl rfl rfl (opr_load_el hT rfl rfl (.ps _) huk rfl rfl) rfl ?_
        refine gd ?_
        refine T_opD rfl rfl rfl rfl rfl (opr_index hT rfl rfl rfl rfl rfl (.ps _) (by omega) (by rw [e2]; omega)) rfl ?_
        refine gd ?_
        refine T_opD rfl rfl rfl rfl rfl (opr_load_el hT rfl rfl (.ps _) hvk rfl rfl) rfl ?_
        refine gd ?_
        by_cases hn : u.1 = v.1
        · have c3 := ih (beV u.2) (beV v.2) (by omega) (ha.ent x hx1 u hum) (hb.ent y hy1 v hvm)
          rw [← hd] at c3
          have hsp : sameP (sameF a b n) (u, v) = sameF a b n (beV u.2) (beV v.2) := by unfold sameP; dsimp only; rw [decide_eq_true hn]; rfl
          rw [hsp] at he
          refine T_false 13 rfl (by simp [hn]) rfl ?_
          refine gd ?_
          refine T_yesD rfl rfl rfl rfl rfl rfl (opr_index hT rfl rfl rfl rfl rfl (.ps _) (by omega) (by rw [e1]; omega)) rfl ?_
          refine gd ?_
          refine T_yesD rfl rfl rfl rfl rfl rfl (opr_load_el hT rfl rfl (.ps _) huk rfl rfl) rfl ?_
          refine gd ?_
          refine T_yesD rfl rfl rfl rfl rfl rfl (opr_index hT rfl rfl rfl rfl rfl (.ps _) (by omega) (by rw [e2]; omega)) rfl ?_
          refine gd ?_
          refine T_yesD rfl rfl rfl rfl rfl rfl (opr_load_el hT rfl rfl (.ps _) hvk rfl rfl) rfl ?_
          refine gd ?_
          refine T_yesD rfl rfl rfl rfl rfl rfl (opr_call0P rfl rfl c3 rfl rfl rfl) rfl ?_
          refine gd ?_
          generalize sameF a b n (beV u.2) (beV v.2) = r at he
          cases r with
          | false =>
            refine go ?_
            rw [← he]
            exact J_done hT rfl rfl rfl
          | true =>
            refine go ?_
            refine J_again ⟨q.i + 1, by rw [hzl]; omega, by rw [← he]; rfl⟩ (by show x.e.length - (q.i + 1) < x.e.length - q.i; omega) ⟨rfl, rfl, rfl, rfl, rfl, rfl, congrArg (fun z => TV.p (.int .i64 z)) (by rw [IntWalk.i64_in _ (by omega)]; rfl), trivial⟩ rfl rfl
        · have hsp : sameP (sameF a b n) (u, v) = false := by unfold sameP; dsimp only; rw [decide_eq_false hn]; rfl
          rw [hsp] at he
          refine T_true 13 rfl (by simp [hn]) rfl ?_
          refine gd ?_
          refine go ?_
          rw [← he]
          exact J_done hT rfl rfl rfl
      · refine K_condF rfl (decide_eq_false (by omega)) ?_
        rw [List.drop_eq_nil_of_le (by omega)] at he
        refine go ?_
        rw [← he]
        exact J_done hT rfl rfl rfl
    · have hE : (decide (x.k = y.k) && decide (x.n = y.n) && decide (x.b = y.b) && decide (x.e.length = y.e.length) && (x.e.zip y.e).all (sameP (sameF a b n))) = false := by
        rw [Bool.eq_false_iff]
        intro q
        simp only [Bool.and_eq_true, decide_eq_true_eq] at q
        exact hA ⟨q.1.1.1.1, q.1.1.1.2, q.1.1.2, q.1.2⟩
      rw [hE]
      refine K_condT rfl (by
        rw [hdd, e1, e2]
        by_cases b1 : x.k = y.k
        · by_cases b2 : x.n = y.n
          · by_cases b3 : x.b = y.b
            · have b4 : ¬ x.e.length = y.e.length := fun q => hA ⟨b1, b2, b3, q⟩
              simp [b1, b2, b3]; omega
            · simp [b3]
          · simp [b2]
        · simp [b1]) ?_
      refine go ?_
      exact J_done hT rfl rfl rfl
theorem rSame_spec {a b : MF} {c : Nat} (ha : a.ok c) (hb : b.ok c) (hc : c ≤ 100000) : Con Tryz.prog 31 [fsA a, fsA b] [] (.p (.bool (a.same b))) [] [] := by
  have c1 := rsame_spec ha hb hc 41 1 1 (by omega) ha.root hb.root
  have n1 : (nods a).length = a.length := by simp
  have n2 : (nods b).length = b.length := by simp
  unfold MF.same
  generalize sameF a b 41 1 1 = r at c1
  cases r with
  | false =>
    refine con_of Tryz.func31 rfl (by kernel_rfl) rfl fun F w0 β0 => ?_
    refine K_tell rfl ?_
    refine go ?_
    refine K_op rfl rfl (opr_callP rfl rfl (c1) rfl rfl rfl rfl) rfl ?_
    refine go ?_
    exact J_done hT rfl rfl rfl
  | true =>
    refine con_of Tryz.func31 rfl (by kernel_rfl) rfl fun F w0 β0 => ?_
    refine K_tell rfl ?_
    refine go ?_
    refine K_op rfl rfl (opr_callP rfl rfl (c1) rfl rfl rfl rfl) rfl ?_
    refine go ?_
    have e : decide (a.length = b.length) = (((nods a).length : Int) == ((nods b).length : Int)) := by rw [n1, n2, Bool.eq_iff_iff]; simp; omega
    rw [e]
    exact J_done hT rfl rfl rfl
end Go.Proofs.YtfnpelogfcnanaaGreatDoor

/- Writes of a view agree with what it shows. -/
-- @D
namespace Go.Proofs.YtfnpelogfcnanaaGreatDoor
set_option maxRecDepth 20000
open Go.Awp Tr
def WC (s : VS) : Prop := ∀ x ∈ s.writes.row, lget x.1 s.shown.row = if x.2 = [] then none else some (x.2.drop 1)
theorem WC.new (t : Tr) : WC (VS.new t) := fun x hx => by cases hx
theorem WC.rd {s : VS} (h : WC s) (k : List UInt8) : WC (s.rd k) := h
theorem WC.rds {s : VS} (h : WC s) (ks : List (List UInt8)) : WC (s.rds ks) := h
theorem WC.range {s : VS} (h : WC s) (a b : List UInt8) : WC (s.range a b) := by
  unfold VS.range; split
  · exact h
  · exact h
theorem WC.put {s : VS} {n : Nat} (hv : VJ s n) (h : WC s) (k v : List UInt8) : WC (s.put k v) := by
  unfold VS.put
  split
  · intro x hx
    have hx : x ∈ (s.writes.set k (61 :: v)).row := hx
    show lget x.1 (s.shown.set k v).row = _
    rw [set_row _ _ _ hv.rs, lget_lset hv.rs]
    rw [set_row _ _ _ hv.rw] at hx
    rcases (lset_mem_iff hv.rw x).1 hx with rfl | ⟨h1, h2⟩
    · rw [if_pos rfl]; rfl
    · rw [if_neg h2]; exact h x h1
  · exact h
theorem WC.del {s : VS} {n : Nat} (hv : VJ s n) (h : WC s) (k : List UInt8) : WC (s.del k) := by
  unfold VS.del
  split
  · intro x hx
    have hx : x ∈ (if (s.base.get k).isSome = true then s.writes.set k [] else s.writes.cut k).row := hx
    show lget x.1 (s.shown.cut k).row = _
    rw [cut_row _ _ hv.rs, lget_lcut]
    split at hx
    · rw [set_row _ _ _ hv.rw] at hx
      rcases (lset_mem_iff hv.rw x).1 hx with rfl | ⟨h1, h2⟩
      · rw [if_pos rfl]; rfl
      · rw [if_neg h2]; exact h x h1
    · rw [cut_row _ _ hv.rw] at hx
      obtain ⟨h1, h2⟩ := lcut_mem.1 hx
      rw [if_neg h2]; exact h x h1
  · exact h
theorem WC.save {s : VS} {n : Nat} (hv : VJ s n) (h : WC s) (i : Int) (g : Nd) : WC (s.save i g) := h.put hv _ _
theorem WC.links {s : VS} {n : Nat} (hv : VJ s n) (h : WC s) (d b : Int) : WC (s.links d b) := WC.save (hv.rd _) (h.rd _) _ _
theorem WC.cutsL : ∀ (R : List KV) {s : VS} {n : Nat} (e : Int), VJ s n → WC s → WC (s.cutsL R e).2
  | [], _, _, _, _, h => h
  | x :: R, _, _, _, hv, h => WC.cutsL R _ (hv.del x.1) (h.del hv x.1)
theorem WC.removes {s : VS} {n : Nat} (hv : VJ s n) (h : WC s) (a : Sp) : WC (s.removes a).2 := by
  unfold VS.removes
  split
  · exact h
  split
  · exact h.range _ _
  · have h1 := hv.rngE a.i
    have g1 : WC (s.rngE a.i) := h.range _ _
    have h2 := h1.del (entryK a.d a.m)
    have g2 := g1.del h1 (entryK a.d a.m)
    exact (g2.del h2 _).links (h2.del _) _ _
theorem WC.unlinks {s : VS} {n : Nat} (hv : VJ s n) (h : WC s) (a : Sp) : WC (s.unlinks a).2 := by
  unfold VS.unlinks
  split
  · exact h
  have h1 := hv.del (entryK a.d a.m)
  have g1 := h.del hv (entryK a.d a.m)
  dsimp only
  split
  · exact g1.save h1 _ _
  · have h2 : VJ ((s.del (entryK a.d a.m)).rngB a.i) (n + 1 + 1) := h1.range _ _
    exact (WC.cutsL _ _ h2 (g1.range _ _)).del (cutsL_ok _ _ h2) _
theorem WC.make {s : VS} {n : Nat} (hv : VJ s n) (h : WC s) (p : List UInt8) (k i : Int) : WC (s.make p k i).2 := by
  unfold VS.make VS.makeAt
  have h1 : VJ (s.rds (s.find p).2.2) (n + 33) := hv.rdp p
  have g1 : WC (s.rds (s.find p).2.2) := h
  dsimp only
  split
  · exact g1
  split
  · exact g1
  have h2 := h1.save i (newN k (s.find p).1.d)
  have g2 := g1.save h1 i (newN k (s.find p).1.d)
  have h3 := h2.hang (s.find p).1.d (s.find p).1.m i
  have g3 := g2.put h2 (entryK (s.find p).1.d (s.find p).1.m) (beB 4 i)
  split
  · exact g3.links h3 _ _
  · exact g3
theorem WC.remove {s : VS} {n : Nat} (hv : VJ s n) (h : WC s) (p : List UInt8) : WC (s.remove p).2 := by
  unfold VS.remove
  split
  · exact h
  · exact WC.removes (hv.rdp p) h _
theorem WC.unlink {s : VS} {n : Nat} (hv : VJ s n) (h : WC s) (p : List UInt8) : WC (s.unlink p).2 := by
  unfold VS.unlink
  split
  · exact h
  · exact WC.unlinks (hv.rdp p) h _
theorem WC.dlist {s : VS} (h : WC s) (p : List UInt8) : WC (s.dlist p).2 := by
  unfold VS.dlist
  split
  · exact h
  split
  · exact h
  · exact WC.range (s := s.rdp p) h _ _
theorem WC.link {s : VS} {n : Nat} (hv : VJ s n) (h : WC s) (o p : List UInt8) : WC (s.link o p).2 := by
  unfold VS.link VS.linkAt
  have h1 := hv.rdp o
  have h2 := h1.rdp p
  have g2 : WC ((s.rdp o).rdp p) := h
  dsimp only
  split
  · exact h
  split
  · exact h
  split
  · exact h
  split
  · exact h
  split
  · exact h
  exact (g2.put h2 _ _).save (h2.hang _ _ _) _ _
theorem WC.movesAt {s : VS} {n : Nat} (hv : VJ s n) (h : WC s) (a t : Sp) : WC (s.movesAt a t).2 := by
  unfold VS.movesAt
  dsimp only
  have h1 := hv.del (entryK a.d a.m)
  have g1 := h.del hv (entryK a.d a.m)
  have h2 := h1.hang t.d t.m a.i
  have g2 := g1.put h1 (entryK t.d t.m) (beB 4 a.i)
  split
  · exact g2
  · have h3 := h2.save a.i (parN a.n t.d)
    have g3 := g2.save h2 a.i (parN a.n t.d)
    exact (g3.links h3 _ _).links (h3.links _ _) _ _
theorem WC.rename {s : VS} {n : Nat} (hv : VJ s n) (h : WC s) (o p : List UInt8) : WC (s.rename o p).2 := by
  unfold VS.rename VS.renameAt
  have h1 := hv.rdp o
  have h2 := h1.rdp p
  have g2 : WC ((s.rdp o).rdp p) := h
  split
  · exact h
  split
  · exact h
  split
  · exact h
  split
  · exact h
  have hc : WC (((s.rdp o).rdp p).clears (s.there o false).1 ((s.rdp o).find p).1 o p).2 := by
    unfold VS.clears
    split
    · exact g2
    split
    · exact g2
    split
    · exact g2.removes h2 _
    · exact g2.unlinks h2 _
  split
  · exact hc
  · exact hc.movesAt (clears_ok h2 _ _ _ _) _ _
end Go.Proofs.YtfnpelogfcnanaaGreatDoor

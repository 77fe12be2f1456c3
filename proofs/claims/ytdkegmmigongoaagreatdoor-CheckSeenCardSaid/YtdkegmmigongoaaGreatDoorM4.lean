import Derived.Test.YtdkegmmigongoaaGreatDoorGo
import Derived.Test.YtdkegmmigongoaaGreatDoorM2
import Derived.Test.YtdkegmmigongoaaGreatDoorProg
namespace Go.Awp
open Go.RowKit
section
variable {w : World} {β : Hd → Nat} {H L : List AObj} {F : Nat → Prop}
end
section
variable {P : Program} {T : Tab} {env : Env} {H L : List AObj} {o : Oper} {x : TV}
theorem opr_boxP {t : TypeId} {y : Operand} {cs : List TV} {ys : List AV} (ho : o.op = .box t y) (hc : tcells (evA env y) = some cs) (hu : unpL cs = some ys) : OpR P o env H L (.p (.pp ys)) H L :=
 opr_alloc fun F w β a hS he => by
  have hv := tcells_ok (evA_ok he y) hc
  obtain ⟨u1, u2⟩ := unpL_ok (w := w) (β := β) (G := ⟨H, L, F⟩) cs hu
  refine ⟨.pointer (some ⟨w.heap.size, 0, none⟩), .cells (a.eval y).cells t, by simp [execOp, ho, Instr.box, newVar, newRow], fun hst => ?_⟩
  have hblk := alloc_new w (.cells (a.eval y).cells t)
  have hlen : (a.eval y).cells.toList.length = ys.length := by rw [hv.1, u1]
  refine .p (.pp ys ⟨w.heap.size, 0, none⟩ (fun i => (a.eval y).cells.getD i undef) (free_new hS) (by simp) (fun i hi => ?_) fun i x hx => ?_)
  ·rw [Addr.add_lit, cell_of_row _ _ _ _ _ _ hblk]
   have hlt : i < (a.eval y).cells.size := by
    have : (a.eval y).cells.toList.length = (a.eval y).cells.size := by simp
    omega
   simp [Array.getD_eq_getD_getElem?, hlt]
  ·obtain ⟨z, hz, hzr⟩ := u2 i x hx
   have hlt : i < (a.eval y).cells.toList.length := by rw [hlen]; exact (List.getElem?_eq_some_iff.1 hx).1
   have := hzr _ (hv.2 i z _ hz (List.getElem?_eq_getElem hlt))
   have e : (a.eval y).cells.getD i undef = (a.eval y).cells.toList[i] := by
    simp only [Array.length_toList] at hlt
    simp [Array.getD_eq_getD_getElem?, hlt]
   rw [e]
   exact this.mono hst.size hst.frame
end
def AVLe (x y : AV) : Prop := ∀ w N v, RepA w N x v → RepA w N y v
theorem AVLe.refl (x : AV) : AVLe x x := fun _ _ _ h => h
theorem cell_le {x : AV} (hc : cl x = true) : AVLe x (.cell x) := fun _ _ v h => .cell x v (cl_ok h hc) h
inductive AVLes : List AV → List AV → Prop
 | nil : AVLes [] []
 | cons {x y : AV} {xs ys : List AV} (h : AVLe x y) (r : AVLes xs ys) : AVLes (x :: xs) (y :: ys)
theorem AVLes.len {xs ys : List AV} (h : AVLes xs ys) : ys.length = xs.length := by
 induction h with
 | nil => rfl
 | cons _ _ ih => simp [ih]
theorem AVLes.get {xs ys : List AV} (h : AVLes xs ys) : ∀ {i : Nat} {y : AV}, ys[i]? = some y → ∃ x, xs[i]? = some x ∧ AVLe x y := by
 induction h with
 | nil => intro i y h; simp at h
 | cons h _ ih =>
  intro i y hy
  cases i with
  | zero => simp at hy; subst hy; exact ⟨_, rfl, h⟩
  | succ i => simpa using ih (by simpa using hy)
theorem pp_le {xs ys : List AV} (h : AVLes xs ys) : AVLe (.pp xs) (.pp ys) := fun w N v hr => by
 cases hr with | pp _ a vs hN hb hc hr =>
 refine .pp ys a vs hN hb (fun i hi => hc i (by rw [h.len] at hi; exact hi)) fun i y hy => ?_
 obtain ⟨x, hx, hxy⟩ := h.get hy
 exact hxy _ _ _ (hr i x hx)
section
variable {Γ : Ctx} {env : Env} {H L : List AObj} {Φ : Act → World → Prop}
theorem J_le (d : Nat) {x : AV} (y : AV) (hx : lk env d = .p x) (hc : AVLe x y) (k : J Γ ((d, .p y) :: env) H L Φ) : J Γ env H L Φ := fun a w β s =>
 k a w β ⟨s.sim, s.step, fun t => by
  rw [lk_cons]
  split
  ·rename_i e
   have := s.env d
   rw [hx] at this
   rw [e]
   cases this with | p h => exact .p (hc _ _ _ h)
  ·exact s.env t, s.size, s.defers⟩
end
section
variable {P : Program} {Γ : Ctx} {env env' : Env} {H L : List AObj} {Q : Exit → Act → World → Prop} {ops : Array Oper} {rest : List Oper} {o : Oper}
theorem tellT_self (x : TV) : tellT x = some x := by unfold tellT; rw [frcU_eq]
theorem tellM_self (l : List AObj) : tellM l = some l := by unfold tellM; rw [frcM_eq]
theorem opr_callE {fo : Operand} {os : List Operand} {ts : Array TypeId} {f : FuncId} {caps args : List TV} {r x : TV} {news L' : List AObj}
  (ho : o.op = .call { callee := .value fo, args := os.toArray, argTypes := ts }) (hf : evA env fo = .fn f caps) (sp : Con P f args [] r [] news) (ha : TV.ren.renL [] 0 0 args = unpOr (evL env os ++ caps)) (hx : TV.clo.cloL 0 args = true)
  (h1 : r.ren [] L.length 0 = x) (h3 : L ++ renM [] L.length 0 news = L') : OpR P o env H L x H L' :=
 opr_callP ho hf sp ha hx (by rw [h1]; exact tellT_self _) (by rw [h3]; exact tellM_self _)
theorem K_opM {x : TV} {H' L' : List AObj} (hg : o.guard = none) (hd : dstOk Γ.N o.dst = true) (h : OpR P o env H L x H' L') (he : putM env o.dst x = some env') (k : J Γ env' H' L' (wpList P ops Q rest)) : J Γ env H L (wpList P ops Q (o :: rest)) :=
 J_op hg hd h (by rw [putM_eq he]; exact k)
theorem opr_mv {y : Operand} (x : TV) (ho : o.op = .move y ∨ o.op = .assign y) (he : evA env y = x) : OpR P o env H L x H L := by
 subst he
 exact opr_move ho
theorem accT_ren (n g h : Nat) (d : AV) (acc : List AV) : (accT h d acc).ren [] n g = accT (n + g + h) d acc := by cases acc <;> rfl
theorem accL_ren (n g e sz : Nat) (acc : List AV) : renM [] n g (accL e sz acc) = accL e sz acc := by cases acc <;> rfl
theorem accV_rd {d : AV} {acc : List AV} (hd : d = .nils ∨ d = .cz) : Rd H L (.p (accV d acc)) acc := by
 cases acc with
 | nil => exact hd.elim (fun e => by subst e; exact .nils) fun e => by subst e; exact .cz
 | cons r rs => exact .ps _
theorem accV_str {d : AV} {acc : List AV} (hd : d = .nils ∨ d = .cz) : false = true ↔ ∃ l, TV.p (accV d acc) = .p (.str l) := by
 cases acc with
 | nil => rcases hd with rfl | rfl <;> simp [accV]
 | cons r rs => simp [accV]
theorem Con.frzAcc {f : FuncId} {args : List TV} {e sz : Nat} {d : AV} {acc : List AV} (h : Con P f args H (accT 0 d acc) H (accL e sz acc)) : Con P f args H (.p (accV d acc)) H [] := by
 cases acc with
 | nil => exact h
 | cons r rs => exact Con.freeze h rfl
end
def snocD (l : List TV) (x : TV) : Option (List TV) := frcD x fun x' => tellL (l ++ [x']) some
theorem snocD_eq {l l' : List TV} {x : TV} (h : snocD l x = some l') : snocN l x = some l' := by
 unfold snocD at h
 rw [frcD_eq] at h
 exact h
section
variable {P : Program} {ops : List Oper} {env0 : Env} {H : List AObj} {Ls : List (List AObj)} {ss : List Nat} {xs : List TV}
theorem T_opD {K : List TV → Prop} {o : Oper} {rest : List Oper} {i k : Nat} {x : TV} {L : List AObj} (hg : o.guard = none) (hp : posn ss 0 i = none) (hk : loK o ss 0 0 = k) (hk2 : Nat.beq (hiK ops i ss 0 - k) 0 = true) (hL : Ls.getD k [] = L)
  (h : OpR P o (RdE ops env0 xs o) H L x H L) {xs' : List TV} (hxs : snocD xs x = some xs') (kk : Tele P ops env0 (fun _ => H) Ls ss K rest (i + 1) xs') : Tele P ops env0 (fun _ => H) Ls ss K (o :: rest) i xs :=
 T_op hg hp hk hk2 hL h (snocD_eq hxs) kk
theorem T_yesD {K : List TV → Prop} {o : Oper} {rest : List Oper} {i k g : Nat} {b : Bool} {x : TV} {L : List AObj} (hg : o.guard = some (g, b)) (hb : gA ops.toArray (RdE ops env0 xs o) g = some b) (hp : posn ss 0 i = none) (hk : loK o ss 0 0 = k)
  (hk2 : Nat.beq (hiK ops i ss 0 - k) 0 = true) (hL : Ls.getD k [] = L) (h : OpR P o (RdE ops env0 xs o) H L x H L) {xs' : List TV} (hxs : snocD xs x = some xs') (kk : Tele P ops env0 (fun _ => H) Ls ss K rest (i + 1) xs') : Tele P ops env0 (fun _ => H) Ls ss K (o :: rest) i xs :=
 T_yes hg hb hp hk hk2 hL h (snocD_eq hxs) kk
theorem T_op2D {K : List TV → Prop} {o : Oper} {rest : List Oper} {i k : Nat} {x : TV} {L L2 : List AObj} (hg : o.guard = none) (hp : posn ss 0 i = none) (hk : loK o ss 0 0 = k) (hk2 : Nat.beq (hiK ops i ss 0 - k) 1 = true) (hL : Ls.getD k [] = L) (hL2 : Ls.getD (k + 1) [] = L2)
  (h : OpR P o (RdE ops env0 xs o) H L x H L) (h2 : OpR P o (RdE ops env0 xs o) H L2 x H L2) {xs' : List TV} (hxs : snocD xs x = some xs') (kk : Tele P ops env0 (fun _ => H) Ls ss K rest (i + 1) xs') : Tele P ops env0 (fun _ => H) Ls ss K (o :: rest) i xs :=
 T_op2 hg hp hk hk2 hL hL2 h h2 (snocD_eq hxs) kk
theorem T_gate {K : List TV → Prop} {d : Option Nat} {op : Op} {t : TypeId} {pos : String} {af : Array Edge} {rest : List Oper} {i : Nat} (h : Tele P ops env0 (fun _ => H) Ls ss K ({ dst := d, op := op, type := t, pos := pos, after := af, guard := none } :: rest) i xs) : Tele P ops env0 (fun _ => H) Ls ss K ({ dst := d, op := op, type := t, pos := pos, after := af, guard := none } :: rest) i xs := h
theorem T_gateG {K : List TV → Prop} {d : Option Nat} {op : Op} {t : TypeId} {pos : String} {af : Array Edge} {g : Nat × Bool} {rest : List Oper} {i : Nat} (h : Tele P ops env0 (fun _ => H) Ls ss K ({ dst := d, op := op, type := t, pos := pos, after := af, guard := some g } :: rest) i xs) : Tele P ops env0 (fun _ => H) Ls ss K ({ dst := d, op := op, type := t, pos := pos, after := af, guard := some g } :: rest) i xs := h
end
theorem gd {φ ψ : Prop} (k : ψ) (h : ψ → φ := by
 intro k
 repeat (first
  | with_reducible refine T_nil ?_
  | ((with_reducible refine T_gateG ?_); first | refine T_no rfl rfl rfl rfl ?_ | refine T_yesD rfl rfl rfl rfl rfl rfl (stepN_ok hT rfl) rfl ?_ | refine T_yesD rfl rfl rfl rfl rfl rfl (stepW_ok hT rfl) rfl ?_ | refine T_yesD rfl rfl rfl rfl rfl rfl (stepG_ok hT rfl) rfl ?_ | refine T_yesD rfl rfl rfl rfl rfl rfl (stepA_ok hT rfl) rfl ?_ | refine T_yesD rfl rfl rfl rfl rfl rfl (opr_boxP rfl rfl rfl) rfl ?_)
  | ((with_reducible refine T_gate ?_); first | refine T_opD rfl rfl rfl rfl rfl (stepN_ok hT rfl) rfl ?_ | refine T_opD rfl rfl rfl rfl rfl (stepW_ok hT rfl) rfl ?_ | refine T_opD rfl rfl rfl rfl rfl (stepG_ok hT rfl) rfl ?_ | refine T_opD rfl rfl rfl rfl rfl (stepA_ok hT rfl) rfl ?_ | refine T_opD rfl rfl rfl rfl rfl (opr_boxP rfl rfl rfl) rfl ?_))
 exact k) : φ := h k
theorem gd2 {φ ψ : Prop} (k : ψ) (h : ψ → φ := by
 intro k
 repeat (first
  | ((with_reducible refine T_gate ?_); first | refine T_op2D rfl rfl rfl rfl rfl rfl (stepN_ok hT rfl) (stepN_ok hT rfl) rfl ?_ | refine T_op2D rfl rfl rfl rfl rfl rfl (stepW_ok hT rfl) (stepW_ok hT rfl) rfl ?_ | refine T_op2D rfl rfl rfl rfl rfl rfl (stepA_ok hT rfl) (stepA_ok hT rfl) rfl ?_))
 exact k) : φ := h k
end Go.Awp
namespace Go.Proofs.YtdkegmmigongoaaGreatDoor
set_option maxRecDepth 20000
open Go.Awp
inductive Tr where
 | nil
 | node (k v : List UInt8) (l r : Tr)
 deriving Inhabited
namespace Tr
def size : Tr → Nat
 | nil => 0
 | node _ _ l r => 1 + l.size + r.size
def high : Tr → Nat
 | nil => 0
 | node _ _ l r => 1 + max l.high r.high
theorem high_le : ∀ (t : Tr), t.high ≤ t.size
 | nil => Nat.le_refl _
 | node _ _ l r => by have := high_le l; have := high_le r; simp only [high, size]; omega
def av : Tr → AV
 | nil => .nilp
 | node k v l r => .pp [.str k, .str v, .cell l.av, .cell r.av, .int .i64 ((1 + l.size + r.size : Nat) : Int), .int .i64 ((1 + max l.high r.high : Nat) : Int)]
abbrev W (t : Tr) : TV := .p (.cell t.av)
def rotR : Tr → Tr
 | node k v (node k2 v2 a b) c => node k2 v2 a (node k v b c)
 | t => t
def rotL : Tr → Tr
 | node k v a (node k2 v2 b c) => node k2 v2 (node k v a b) c
 | t => t
def lean : Tr → Int
 | nil => 0
 | node _ _ l r => (l.high : Int) - (r.high : Int)
def join (k v : List UInt8) (l r : Tr) : Tr :=
 if (node k v l r).lean > 1 then rotR (if l.lean < 0 then node k v (rotL l) r else node k v l r)
 else if (node k v l r).lean < -1 then rotL (if r.lean > 0 then node k v l (rotR r) else node k v l r)
 else node k v l r
theorem rotR_size (t : Tr) : t.rotR.size = t.size := by
 unfold rotR; split
 ·simp only [size]; omega
 ·rfl
theorem rotL_size (t : Tr) : t.rotL.size = t.size := by
 unfold rotL; split
 ·simp only [size]; omega
 ·rfl
theorem join_size (k v : List UInt8) (l r : Tr) : (join k v l r).size = 1 + l.size + r.size := by
 unfold join
 split
 ·rw [rotR_size]; split <;> simp only [size, rotL_size]
 ·split
  ·rw [rotL_size]; split <;> simp only [size, rotR_size]
  ·rfl
end Tr
end Go.Proofs.YtdkegmmigongoaaGreatDoor
namespace Go.Proofs.YtdkegmmigongoaaGreatDoor
set_option maxRecDepth 20000
open Go.Awp Tr
theorem tnew_spec : Con Tryz.prog 13 [] [] (W .nil) [] [] := by
 refine con_of Tryz.func13 rfl (by kernel_rfl) rfl fun F w0 β0 => ?_
 refine K_tell rfl ?_
 refine go ?_
 refine J_wrap 0 rfl rfl ?_
 exact J_done hT rfl rfl rfl
theorem tlen_spec (t : Tr) : Con Tryz.prog 62 [W t] [] (.p (.int .i64 (t.size : Int))) [] [] := by
 cases t with
 | nil =>
  refine con_of Tryz.func62 rfl (by kernel_rfl) rfl fun F w0 β0 => ?_
  refine K_tell rfl ?_
  refine go ?_
  exact J_done hT rfl rfl rfl
 | node k v l r =>
  refine con_of Tryz.func62 rfl (by kernel_rfl) rfl fun F w0 β0 => ?_
  refine K_tell rfl ?_
  refine go ?_
  exact J_done hT rfl rfl rfl
theorem thigh_spec (t : Tr) : Con Tryz.prog 132 [W t] [] (.p (.int .i64 (t.high : Int))) [] [] := by
 cases t with
 | nil =>
  refine con_of Tryz.func132 rfl (by kernel_rfl) rfl fun F w0 β0 => ?_
  refine K_tell rfl ?_
  refine go ?_
  exact J_done hT rfl rfl rfl
 | node k v l r =>
  refine con_of Tryz.func132 rfl (by kernel_rfl) rfl fun F w0 β0 => ?_
  refine K_tell rfl ?_
  refine go ?_
  exact J_done hT rfl rfl rfl
theorem tmax (a b : Nat) : mmA .max (a : Int) (b : Int) = ((max a b : Nat) : Int) := by unfold mmA; simp only []; split <;> omega
def big40 : Nat := 1099511627776
set_option maxHeartbeats 4000000 in
theorem twith_spec (k v : List UInt8) (l0 r0 l r : Tr) (hl : l.size ≤ big40) (hr : r.size ≤ big40) : Con Tryz.prog 100 [W (node k v l0 r0), W l, W r] [] (W (node k v l r)) [] [] := by
 unfold big40 at hl hr
 have h1 := high_le l
 have h2 := high_le r
 have e22 : IntKind.i64.wrap (IntKind.i64.wrap (1 + (l.size : Int)) + (r.size : Int)) = ((1 + l.size + r.size : Nat) : Int) := by rw [IntWalk.i64_in (1 + _) (by omega), IntWalk.i64_in _ (by omega)]; omega
 have e28 : IntKind.i64.wrap (1 + mmA .max (l.high : Int) (r.high : Int)) = ((1 + max l.high r.high : Nat) : Int) := by rw [tmax, IntWalk.i64_in _ (by omega)]; omega
 have ex : AV.pp [.str k, .str v, .cell l.av, .cell r.av, .int .i64 (IntKind.i64.wrap (IntKind.i64.wrap (1 + (l.size : Int)) + (r.size : Int))), .int .i64 (IntKind.i64.wrap (1 + mmA .max (l.high : Int) (r.high : Int)))] = (node k v l r).av := by rw [e22, e28]; rfl
 have c1 := tlen_spec l
 have c2 := tlen_spec r
 have c3 := thigh_spec l
 have c4 := thigh_spec r
 refine con_of Tryz.func100 rfl (by kernel_rfl) rfl fun F w0 β0 => ?_
 refine K_tell rfl ?_
 refine go ?_
 refine J_draw [[]] [] (by kernel_rfl) (by kernel_rfl) rfl ?_
 refine gd ?_
 refine T_opD rfl rfl rfl rfl rfl (opr_call0P rfl rfl (c1) rfl rfl rfl) rfl ?_
 refine gd ?_
 refine T_opD rfl rfl rfl rfl rfl (opr_call0P rfl rfl (c2) rfl rfl rfl) rfl ?_
 refine gd ?_
 refine T_opD rfl rfl rfl rfl rfl (opr_call0P rfl rfl (c3) rfl rfl rfl) rfl ?_
 refine gd ?_
 refine T_opD rfl rfl rfl rfl rfl (opr_call0P rfl rfl (c4) rfl rfl rfl) rfl ?_
 refine gd ?_
 refine J_then ?_
 refine K_tell rfl ?_
 refine go ?_
 refine J_val 6 _ rfl (congrArg TV.p ex) ?_
 refine J_wrap 6 rfl rfl ?_
 exact J_done hT rfl rfl rfl
theorem tlean_spec (k v : List UInt8) (l r : Tr) (hl : l.size ≤ big40) (hr : r.size ≤ big40) : Con Tryz.prog 101 [W (node k v l r)] [] (.p (.int .i64 (node k v l r).lean)) [] [] := by
 unfold big40 at hl hr
 have h1 := high_le l
 have h2 := high_le r
 have c3 := thigh_spec l
 have c4 := thigh_spec r
 have e : IntKind.i64.wrap ((l.high : Int) - (r.high : Int)) = (l.high : Int) - (r.high : Int) := IntWalk.i64_in _ (by omega)
 refine con_of Tryz.func101 rfl (by kernel_rfl) rfl fun F w0 β0 => ?_
 refine K_tell rfl ?_
 refine go ?_
 refine J_draw [[]] [] (by kernel_rfl) (by kernel_rfl) rfl ?_
 refine gd ?_
 refine T_opD rfl rfl rfl rfl rfl (opr_call0P rfl rfl (c3) rfl rfl rfl) rfl ?_
 refine gd ?_
 refine T_opD rfl rfl rfl rfl rfl (opr_call0P rfl rfl (c4) rfl rfl rfl) rfl ?_
 refine gd ?_
 refine J_then ?_
 refine K_tell rfl ?_
 refine go ?_
 refine J_val 2 _ rfl (congrArg (fun z => TV.p (.int .i64 z)) e) ?_
 exact J_done hT rfl rfl rfl
set_option maxHeartbeats 4000000 in
theorem trotL_spec (k v : List UInt8) (a : Tr) (k2 v2 : List UInt8) (b c : Tr) (h : (node k v a (node k2 v2 b c)).size ≤ big40) : Con Tryz.prog 102 [W (node k v a (node k2 v2 b c))] [] (W (node k2 v2 (node k v a b) c)) [] [] := by
 simp only [Tr.size] at h
 have c1 := twith_spec k v a (node k2 v2 b c) a b (by omega) (by omega)
 have c2 := twith_spec k2 v2 b c (node k v a b) c (by simp only [Tr.size]; omega) (by omega)
 refine con_of Tryz.func102 rfl (by kernel_rfl) rfl fun F w0 β0 => ?_
 refine K_tell rfl ?_
 refine go ?_
 refine J_draw [[]] [] (by kernel_rfl) (by kernel_rfl) rfl ?_
 refine gd ?_
 refine T_opD rfl rfl rfl rfl rfl (opr_call0P rfl rfl (c1) rfl rfl rfl) rfl ?_
 refine gd ?_
 refine T_opD rfl rfl rfl rfl rfl (opr_call0P rfl rfl (c2) rfl rfl rfl) rfl ?_
 refine gd ?_
 refine J_then ?_
 refine K_tell rfl ?_
 refine go ?_
 exact J_done hT rfl rfl rfl
set_option maxHeartbeats 4000000 in
theorem trotR_spec (k v : List UInt8) (k2 v2 : List UInt8) (a b c : Tr) (h : (node k v (node k2 v2 a b) c).size ≤ big40) : Con Tryz.prog 103 [W (node k v (node k2 v2 a b) c)] [] (W (node k2 v2 a (node k v b c))) [] [] := by
 simp only [Tr.size] at h
 have c1 := twith_spec k v (node k2 v2 a b) c b c (by omega) (by omega)
 have c2 := twith_spec k2 v2 a b a (node k v b c) (by omega) (by simp only [Tr.size]; omega)
 refine con_of Tryz.func103 rfl (by kernel_rfl) rfl fun F w0 β0 => ?_
 refine K_tell rfl ?_
 refine go ?_
 refine J_draw [[]] [] (by kernel_rfl) (by kernel_rfl) rfl ?_
 refine gd ?_
 refine T_opD rfl rfl rfl rfl rfl (opr_call0P rfl rfl (c1) rfl rfl rfl) rfl ?_
 refine gd ?_
 refine T_opD rfl rfl rfl rfl rfl (opr_call0P rfl rfl (c2) rfl rfl rfl) rfl ?_
 refine gd ?_
 refine J_then ?_
 refine K_tell rfl ?_
 refine go ?_
 exact J_done hT rfl rfl rfl
set_option maxHeartbeats 4000000 in
theorem tjoin_spec (k v : List UInt8) (l0 r0 l r : Tr) (h : 1 + l.size + r.size ≤ big40) : Con Tryz.prog 61 [W (node k v l0 r0), W l, W r] [] (W (Tr.join k v l r)) [] [] := by
 have c1 := twith_spec k v l0 r0 l r (by omega) (by omega)
 have c2 := tlean_spec k v l r (by omega) (by omega)
 by_cases h1 : (node k v l r).lean > 1
 ·match l, h1 with
  | nil, h1 => simp [Tr.lean, Tr.high] at h1; omega
  | node k2 v2 a b, h1 =>
  simp only [Tr.size] at h
  have c3 := tlean_spec k2 v2 a b (by omega) (by omega)
  by_cases h2 : (node k2 v2 a b).lean < 0
  ·match b, h2 with
   | nil, h2 => simp [Tr.lean, Tr.high] at h2; omega
   | node k3 v3 b1 b2, h2 =>
   have e : Tr.join k v (node k2 v2 a (node k3 v3 b1 b2)) r = node k3 v3 (node k2 v2 a b1) (node k v b2 r) := by
    unfold Tr.join; rw [if_pos h1, if_pos h2]; rfl
   simp only [Tr.size] at h
   have c4 := trotL_spec k2 v2 a k3 v3 b1 b2 (by simp only [Tr.size]; omega)
   have c5 := twith_spec k v l0 r0 (node k3 v3 (node k2 v2 a b1) b2) r (by simp only [Tr.size]; omega) (by omega)
   have c6 := trotR_spec k v k3 v3 (node k2 v2 a b1) b2 r (by simp only [Tr.size]; omega)
   rw [e]
   refine con_of Tryz.func61 rfl (by kernel_rfl) rfl fun F w0 β0 => ?_
   refine K_tell rfl ?_
   refine go ?_
   refine K_op rfl rfl (opr_callP rfl rfl (c1) rfl rfl rfl rfl) rfl ?_
   refine go ?_
   refine K_op rfl rfl (opr_callP rfl rfl (c2) rfl rfl rfl rfl) rfl ?_
   refine go ?_
   refine K_condT rfl (decide_eq_true h1) ?_
   refine go ?_
   refine K_op rfl rfl (opr_callP rfl rfl (c3) rfl rfl rfl rfl) rfl ?_
   refine go ?_
   refine K_condT rfl (decide_eq_true h2) ?_
   refine go ?_
   refine K_op rfl rfl (opr_callP rfl rfl (c4) rfl rfl rfl rfl) rfl ?_
   refine go ?_
   refine K_op rfl rfl (opr_callP rfl rfl (c5) rfl rfl rfl rfl) rfl ?_
   refine go ?_
   refine K_op rfl rfl (opr_callP rfl rfl (c6) rfl rfl rfl rfl) rfl ?_
   refine go ?_
   exact J_done hT rfl rfl rfl
  ·have e : Tr.join k v (node k2 v2 a b) r = node k2 v2 a (node k v b r) := by
    unfold Tr.join; rw [if_pos h1, if_neg h2]; rfl
   have c6 := trotR_spec k v k2 v2 a b r (by simp only [Tr.size]; omega)
   rw [e]
   refine con_of Tryz.func61 rfl (by kernel_rfl) rfl fun F w0 β0 => ?_
   refine K_tell rfl ?_
   refine go ?_
   refine K_op rfl rfl (opr_callP rfl rfl (c1) rfl rfl rfl rfl) rfl ?_
   refine go ?_
   refine K_op rfl rfl (opr_callP rfl rfl (c2) rfl rfl rfl rfl) rfl ?_
   refine go ?_
   refine K_condT rfl (decide_eq_true h1) ?_
   refine go ?_
   refine K_op rfl rfl (opr_callP rfl rfl (c3) rfl rfl rfl rfl) rfl ?_
   refine go ?_
   refine K_condF rfl (decide_eq_false h2) ?_
   refine go ?_
   refine K_op rfl rfl (opr_callP rfl rfl (c6) rfl rfl rfl rfl) rfl ?_
   refine go ?_
   exact J_done hT rfl rfl rfl
 by_cases h3 : (node k v l r).lean < -1
 ·match r, h1, h3 with
  | nil, h1, h3 => simp [Tr.lean, Tr.high] at h3; omega
  | node k2 v2 a b, h1, h3 =>
  simp only [Tr.size] at h
  have c3 := tlean_spec k2 v2 a b (by omega) (by omega)
  by_cases h2 : (node k2 v2 a b).lean > 0
  ·match a, h2 with
   | nil, h2 => simp [Tr.lean, Tr.high] at h2; omega
   | node k3 v3 b1 b2, h2 =>
   have e : Tr.join k v l (node k2 v2 (node k3 v3 b1 b2) b) = node k3 v3 (node k v l b1) (node k2 v2 b2 b) := by
    unfold Tr.join; rw [if_neg h1, if_pos h3, if_pos h2]; rfl
   simp only [Tr.size] at h
   have c4 := trotR_spec k2 v2 k3 v3 b1 b2 b (by simp only [Tr.size]; omega)
   have c5 := twith_spec k v l0 r0 l (node k3 v3 b1 (node k2 v2 b2 b)) (by omega) (by simp only [Tr.size]; omega)
   have c6 := trotL_spec k v l k3 v3 b1 (node k2 v2 b2 b) (by simp only [Tr.size]; omega)
   rw [e]
   refine con_of Tryz.func61 rfl (by kernel_rfl) rfl fun F w0 β0 => ?_
   refine K_tell rfl ?_
   refine go ?_
   refine K_op rfl rfl (opr_callP rfl rfl (c1) rfl rfl rfl rfl) rfl ?_
   refine go ?_
   refine K_op rfl rfl (opr_callP rfl rfl (c2) rfl rfl rfl rfl) rfl ?_
   refine go ?_
   refine K_condF rfl (decide_eq_false h1) ?_
   refine go ?_
   refine K_condT rfl (decide_eq_true h3) ?_
   refine go ?_
   refine K_op rfl rfl (opr_callP rfl rfl (c3) rfl rfl rfl rfl) rfl ?_
   refine go ?_
   refine K_condT rfl (decide_eq_true h2) ?_
   refine go ?_
   refine K_op rfl rfl (opr_callP rfl rfl (c4) rfl rfl rfl rfl) rfl ?_
   refine go ?_
   refine K_op rfl rfl (opr_callP rfl rfl (c5) rfl rfl rfl rfl) rfl ?_
   refine go ?_
   refine K_op rfl rfl (opr_callP rfl rfl (c6) rfl rfl rfl rfl) rfl ?_
   refine go ?_
   exact J_done hT rfl rfl rfl
  ·have e : Tr.join k v l (node k2 v2 a b) = node k2 v2 (node k v l a) b := by
    unfold Tr.join; rw [if_neg h1, if_pos h3, if_neg h2]; rfl
   have c6 := trotL_spec k v l k2 v2 a b (by simp only [Tr.size]; omega)
   rw [e]
   refine con_of Tryz.func61 rfl (by kernel_rfl) rfl fun F w0 β0 => ?_
   refine K_tell rfl ?_
   refine go ?_
   refine K_op rfl rfl (opr_callP rfl rfl (c1) rfl rfl rfl rfl) rfl ?_
   refine go ?_
   refine K_op rfl rfl (opr_callP rfl rfl (c2) rfl rfl rfl rfl) rfl ?_
   refine go ?_
   refine K_condF rfl (decide_eq_false h1) ?_
   refine go ?_
   refine K_condT rfl (decide_eq_true h3) ?_
   refine go ?_
   refine K_op rfl rfl (opr_callP rfl rfl (c3) rfl rfl rfl rfl) rfl ?_
   refine go ?_
   refine K_condF rfl (decide_eq_false h2) ?_
   refine go ?_
   refine K_op rfl rfl (opr_callP rfl rfl (c6) rfl rfl rfl rfl) rfl ?_
   refine go ?_
   exact J_done hT rfl rfl rfl
 ·have e : Tr.join k v l r = node k v l r := by
   unfold Tr.join; rw [if_neg h1, if_neg h3]
  rw [e]
  refine con_of Tryz.func61 rfl (by kernel_rfl) rfl fun F w0 β0 => ?_
  refine K_tell rfl ?_
  refine go ?_
  refine K_op rfl rfl (opr_callP rfl rfl (c1) rfl rfl rfl rfl) rfl ?_
  refine go ?_
  refine K_op rfl rfl (opr_callP rfl rfl (c2) rfl rfl rfl rfl) rfl ?_
  refine go ?_
  refine K_condF rfl (decide_eq_false h1) ?_
  refine go ?_
  refine K_condF rfl (decide_eq_false h3) ?_
  refine go ?_
  exact J_done hT rfl rfl rfl
end Go.Proofs.YtdkegmmigongoaaGreatDoor
namespace Go.Proofs.YtdkegmmigongoaaGreatDoor
set_option maxRecDepth 20000
open Go.Awp
namespace Tr
def set (k v : List UInt8) : Tr → Tr
 | nil => node k v nil nil
 | node k0 v0 l r => if Op.bytesLess k k0 = true then join k0 v0 (l.set k v) r else if k = k0 then node k v l r else join k0 v0 l (r.set k v)
def get (k : List UInt8) : Tr → Option (List UInt8)
 | nil => none
 | node k0 v0 l r => if k0 = k then some v0 else if Op.bytesLess k k0 = true then l.get k else r.get k
theorem set_size (k v : List UInt8) : ∀ (t : Tr), (t.set k v).size ≤ t.size + 1
 | nil => by simp [set, size]
 | node k0 v0 l r => by
  have h1 := set_size k v l
  have h2 := set_size k v r
  simp only [set]
  split
  ·rw [join_size]; simp only [size]; omega
  ·split
   ·simp only [size]; omega
   ·rw [join_size]; simp only [size]; omega
def min : Tr → List UInt8 × List UInt8
 | nil => ([], [])
 | node k v nil _ => (k, v)
 | node _ _ (node k v l r) _ => (node k v l r).min
def cut : Tr → List UInt8 → Tr
 | nil, _ => nil
 | node k0 v0 l r, k => if (node k0 v0 l r).get k = none then node k0 v0 l r
  else if Op.bytesLess k k0 = true then join k0 v0 (l.cut k) r
  else if k = k0 then (match l, r with
   | nil, r => r
   | node a b c d, nil => node a b c d
   | node a b c d, node e f g h => join (node e f g h).min.1 (node e f g h).min.2 (node a b c d) (cut (node e f g h) (node e f g h).min.1))
  else join k0 v0 l (r.cut k)
theorem cut_node (k0 v0 : List UInt8) (l r : Tr) (k : List UInt8) : (node k0 v0 l r).cut k = if (node k0 v0 l r).get k = none then node k0 v0 l r
  else if Op.bytesLess k k0 = true then join k0 v0 (l.cut k) r
  else if k = k0 then (match l, r with
   | nil, r => r
   | node a b c d, nil => node a b c d
   | node a b c d, node e f g h => join (node e f g h).min.1 (node e f g h).min.2 (node a b c d) (cut (node e f g h) (node e f g h).min.1))
  else join k0 v0 l (r.cut k) := by
 conv => lhs; unfold cut
theorem cut_size : ∀ (t : Tr) (k : List UInt8), (t.cut k).size ≤ t.size
 | nil, k => by simp [cut]
 | node k0 v0 l r, k => by
  have h1 := cut_size l k
  have h2 := cut_size r k
  have h3 := fun k' => cut_size r k'
  unfold cut
  split
  ·exact Nat.le_refl _
  ·split
   ·rw [join_size]; simp only [size]; omega
   ·split
    ·split
     ·simp only [size]; omega
     ·simp only [size]; omega
     ·rename_i a b c d e f g h _
      rw [join_size]
      have := h3 (node e f g h).min.1
      simp only [size] at this ⊢
      omega
    ·rw [join_size]; simp only [size]; omega
end Tr
end Go.Proofs.YtdkegmmigongoaaGreatDoor
namespace Go.Proofs.YtdkegmmigongoaaGreatDoor
set_option maxRecDepth 20000
open Go.Awp Tr
set_option maxHeartbeats 8000000 in
theorem tset_spec (k v : List UInt8) : ∀ (t : Tr), t.size + 2 ≤ big40 → Con Tryz.prog 30 [W t, .p (.str k), .p (.str v)] [] (W (t.set k v)) [] []
 | .nil, h => by
  refine con_of Tryz.func30 rfl (by kernel_rfl) rfl fun F w0 β0 => ?_
  refine K_tell rfl ?_
  refine go ?_
  refine J_freeze_box 6 0 rfl rfl rfl ?_
  refine J_le 6 ((Tr.node k v .nil .nil).av) rfl (pp_le (.cons (.refl _) (.cons (.refl _) (.cons (cell_le rfl) (.cons (cell_le rfl) (.cons (.refl _) (.cons (.refl _) .nil))))))) ?_
  refine J_wrap 6 rfl rfl ?_
  exact J_done hT rfl rfl rfl
 | .node k0 v0 l r, h => by
  simp only [Tr.size] at h
  have hl := set_size k v l
  have hr := set_size k v r
  have c1 := tset_spec k v l (by omega)
  have c2 := tset_spec k v r (by omega)
  have c3 := tjoin_spec k0 v0 l r (l.set k v) r (by omega)
  have c4 := tjoin_spec k0 v0 l r l (r.set k v) (by omega)
  by_cases h1 : Op.bytesLess k k0 = true
  ·have e : (node k0 v0 l r).set k v = Tr.join k0 v0 (l.set k v) r := by simp only [Tr.set]; rw [if_pos h1]
   rw [e]
   refine con_of Tryz.func30 rfl (by kernel_rfl) rfl fun F w0 β0 => ?_
   refine K_tell rfl ?_
   refine go ?_
   refine K_condT rfl h1 ?_
   refine J_seq ?_
   refine J_draw [[]] [] (by kernel_rfl) (by kernel_rfl) rfl ?_
   refine gd ?_
   refine T_opD rfl rfl rfl rfl rfl (opr_call0P rfl rfl (c1) rfl rfl rfl) rfl ?_
   refine gd ?_
   refine T_opD rfl rfl rfl rfl rfl (opr_call0P rfl rfl (c3) rfl rfl rfl) rfl ?_
   refine gd ?_
   refine J_then ?_
   refine K_tell rfl ?_
   refine go ?_
   exact J_done hT rfl rfl rfl
  ·have h1' : Op.bytesLess k k0 = false := by simpa using h1
   by_cases h2 : k = k0
   ·have e : (node k0 v0 l r).set k v = node k v l r := by simp only [Tr.set]; rw [if_neg h1, if_pos h2]
    rw [e]
    refine con_of Tryz.func30 rfl (by kernel_rfl) rfl fun F w0 β0 => ?_
    refine K_tell rfl ?_
    refine go ?_
    refine K_condF rfl h1' ?_
    refine go ?_
    refine K_condF rfl (by simp [h2]) ?_
    refine go ?_
    refine J_draw [[]] [] (by kernel_rfl) (by kernel_rfl) rfl ?_
    refine gd ?_
    refine J_then ?_
    refine K_tell rfl ?_
    refine go ?_
    refine J_wrap 6 rfl rfl ?_
    exact J_done hT rfl rfl rfl
   ·have e : (node k0 v0 l r).set k v = Tr.join k0 v0 l (r.set k v) := by simp only [Tr.set]; rw [if_neg h1, if_neg h2]
    rw [e]
    refine con_of Tryz.func30 rfl (by kernel_rfl) rfl fun F w0 β0 => ?_
    refine K_tell rfl ?_
    refine go ?_
    refine K_condF rfl h1' ?_
    refine go ?_
    refine K_condT rfl (by simp [h1', h2]) ?_
    refine J_seq ?_
    refine J_draw [[]] [] (by kernel_rfl) (by kernel_rfl) rfl ?_
    refine gd ?_
    refine T_opD rfl rfl rfl rfl rfl (opr_call0P rfl rfl (c2) rfl rfl rfl) rfl ?_
    refine gd ?_
    refine T_opD rfl rfl rfl rfl rfl (opr_call0P rfl rfl (c4) rfl rfl rfl) rfl ?_
    refine gd ?_
    refine J_then ?_
    refine K_tell rfl ?_
    refine go ?_
    exact J_done hT rfl rfl rfl
def getT : Option (List UInt8) → TV
 | some v => .tup [.p (.str v), .p (.bool true)]
 | none => .tup [.p (.str []), .p (.bool false)]
structure GetJ (k : List UInt8) (g : Option (List UInt8)) where
 t : Tr
 h : t.get k = g
set_option maxHeartbeats 4000000 in
theorem tget_spec (k : List UInt8) (t : Tr) : Con Tryz.prog 69 [W t, .p (.str k)] [] (getT (t.get k)) [] [] := by
 generalize hg : t.get k = g
 refine con_of Tryz.func69 rfl (by kernel_rfl) rfl fun F w0 β0 => ?_
 refine K_tell rfl ?_
 refine go ?_
 refine J_loop (fun s : GetJ k g => [(0, W s.t), (1, .p (.str k))]) (fun _ => []) (fun _ => []) (fun s => s.t.size) ⟨t, hg⟩ ⟨rfl, rfl, trivial⟩ rfl rfl (fun s => ?_)
 obtain ⟨t', ht⟩ := s
 clear hg t
 cases t' with
 | nil =>
  obtain rfl := ht
  refine go ?_
  exact J_done hT rfl rfl rfl
 | node k0 v0 l r =>
  by_cases h1 : k0 = k
  ·have e : g = some v0 := by rw [← ht]; simp only [Tr.get]; rw [if_pos h1]
   subst e
   refine go ?_
   refine K_condF rfl (by simp [h1]) ?_
   refine go ?_
   exact J_done hT rfl rfl rfl
  ·have e : g = if Op.bytesLess k k0 = true then l.get k else r.get k := by rw [← ht]; simp only [Tr.get]; rw [if_neg h1]
   refine go ?_
   refine K_condT rfl (by simp [h1]) ?_
   refine go ?_
   refine J_cond rfl (fun h2 => ?_) (fun h2 => ?_)
   ·rw [if_pos h2] at e
    refine go ?_
    refine J_again ⟨l, e.symm⟩ (by simp only [Tr.size]; omega) ⟨rfl, rfl, trivial⟩ rfl rfl
   ·rw [h2, if_neg (by simp)] at e
    refine go ?_
    refine J_again ⟨r, e.symm⟩ (by simp only [Tr.size]; omega) ⟨rfl, rfl, trivial⟩ rfl rfl
structure MinJ (m : List UInt8 × List UInt8) where
 k : List UInt8
 v : List UInt8
 l : Tr
 r : Tr
 h : (node k v l r).min = m
set_option maxHeartbeats 8000000 in
theorem tcut_spec : ∀ (t : Tr) (k : List UInt8), t.size + 2 ≤ big40 → Con Tryz.prog 38 [W t, .p (.str k)] [] (W (t.cut k)) [] []
 | .nil, k, h => by
  have c1 := tget_spec k .nil
  refine con_of Tryz.func38 rfl (by kernel_rfl) rfl fun F w0 β0 => ?_
  refine K_tell rfl ?_
  refine go ?_
  refine K_op rfl rfl (opr_callP rfl rfl (c1) rfl rfl rfl rfl) rfl ?_
  refine go ?_
  exact J_done hT rfl rfl rfl
 | .node k0 v0 l r, k, h => by
  have c1 := tget_spec k (.node k0 v0 l r)
  simp only [Tr.size] at h
  cases hg : (node k0 v0 l r).get k with
  | none =>
   rw [hg] at c1
   have e : (node k0 v0 l r).cut k = node k0 v0 l r := by rw [cut_node, if_pos hg]
   rw [e]
   refine con_of Tryz.func38 rfl (by kernel_rfl) rfl fun F w0 β0 => ?_
   refine K_tell rfl ?_
   refine go ?_
   refine K_op rfl rfl (opr_callP rfl rfl (c1) rfl rfl rfl rfl) rfl ?_
   refine go ?_
   exact J_done hT rfl rfl rfl
  | some w =>
   rw [hg] at c1
   have hne : ¬ (node k0 v0 l r).get k = none := by rw [hg]; simp
   have hl := cut_size l k
   have hr := cut_size r k
   by_cases h1 : Op.bytesLess k k0 = true
   ·have e : (node k0 v0 l r).cut k = Tr.join k0 v0 (l.cut k) r := by rw [cut_node, if_neg hne, if_pos h1]
    have c2 := tcut_spec l k (by omega)
    have c3 := tjoin_spec k0 v0 l r (l.cut k) r (by omega)
    rw [e]
    refine con_of Tryz.func38 rfl (by kernel_rfl) rfl fun F w0 β0 => ?_
    refine K_tell rfl ?_
    refine go ?_
    refine K_op rfl rfl (opr_callP rfl rfl (c1) rfl rfl rfl rfl) rfl ?_
    refine go ?_
    refine K_condT rfl h1 ?_
    refine J_seq ?_
    refine J_draw [[]] [] (by kernel_rfl) (by kernel_rfl) rfl ?_
    refine gd ?_
    refine T_opD rfl rfl rfl rfl rfl (opr_call0P rfl rfl (c2) rfl rfl rfl) rfl ?_
    refine gd ?_
    refine T_opD rfl rfl rfl rfl rfl (opr_call0P rfl rfl (c3) rfl rfl rfl) rfl ?_
    refine gd ?_
    refine J_then ?_
    refine K_tell rfl ?_
    refine go ?_
    exact J_done hT rfl rfl rfl
   have h1' : Op.bytesLess k k0 = false := by simpa using h1
   by_cases h2 : k = k0
   ·match l, r, h with
    | .nil, r, h =>
     have e : (node k0 v0 .nil r).cut k = r := by rw [cut_node, if_neg hne, if_neg h1, if_pos h2]
     rw [e]
     refine con_of Tryz.func38 rfl (by kernel_rfl) rfl fun F w0 β0 => ?_
     refine K_tell rfl ?_
     refine go ?_
     refine K_op rfl rfl (opr_callP rfl rfl (c1) rfl rfl rfl rfl) rfl ?_
     refine go ?_
     refine K_condF rfl h1' ?_
     refine go ?_
     refine K_condF rfl (by simp [h2]) ?_
     refine go ?_
     exact J_done hT rfl rfl rfl
    | .node a b c d, .nil, h =>
     have e : (node k0 v0 (.node a b c d) .nil).cut k = .node a b c d := by rw [cut_node, if_neg hne, if_neg h1, if_pos h2]
     rw [e]
     refine con_of Tryz.func38 rfl (by kernel_rfl) rfl fun F w0 β0 => ?_
     refine K_tell rfl ?_
     refine go ?_
     refine K_op rfl rfl (opr_callP rfl rfl (c1) rfl rfl rfl rfl) rfl ?_
     refine go ?_
     refine K_condF rfl h1' ?_
     refine go ?_
     refine K_condF rfl (by simp [h2]) ?_
     refine go ?_
     exact J_done hT rfl rfl rfl
    | .node a b c d, .node e f g i, h =>
     have e0 : (node k0 v0 (.node a b c d) (.node e f g i)).cut k = Tr.join (node e f g i).min.1 (node e f g i).min.2 (node a b c d) ((node e f g i).cut (node e f g i).min.1) := by
      rw [cut_node, if_neg hne, if_neg h1, if_pos h2]
     rw [e0]
     have c2 := tcut_spec (node e f g i) (node e f g i).min.1 (by simp only [Tr.size] at h ⊢; omega)
     have hs := cut_size (node e f g i) (node e f g i).min.1
     have c3 := fun l0 r0 => tjoin_spec (node e f g i).min.1 (node e f g i).min.2 l0 r0 (node a b c d) ((node e f g i).cut (node e f g i).min.1) (by simp only [Tr.size] at h hs ⊢; omega)
     generalize hm : (node e f g i).min = m at c2 c3
     generalize hB : (node e f g i).cut m.1 = B at c2 c3
     refine con_of Tryz.func38 rfl (by kernel_rfl) rfl fun F w0 β0 => ?_
     refine K_tell rfl ?_
     refine go ?_
     refine K_op rfl rfl (opr_callP rfl rfl (c1) rfl rfl rfl rfl) rfl ?_
     refine go ?_
     refine K_condF rfl h1' ?_
     refine go ?_
     refine K_condF rfl (by simp [h2]) ?_
     refine go ?_
     refine J_loop (fun s : MinJ m => [(0, W (node k0 v0 (.node a b c d) (.node e f g i))), (7, W (node s.k s.v s.l s.r))]) (fun _ => []) (fun _ => []) (fun s => (node s.k s.v s.l s.r).size) ⟨e, f, g, i, hm⟩ ⟨rfl, rfl, trivial⟩ rfl rfl (fun s => ?_)
     obtain ⟨k', v', l', r', hmin⟩ := s
     cases l' with
     | nil =>
      have hm2 : m = (k', v') := hmin.symm
      subst hm2
      refine go ?_
      refine J_draw [[]] [] (by kernel_rfl) (by kernel_rfl) rfl ?_
      refine gd ?_
      refine T_opD rfl rfl rfl rfl rfl (opr_call0P rfl rfl (c2) rfl rfl rfl) rfl ?_
      refine gd ?_
      refine T_opD rfl rfl rfl rfl rfl (opr_call0P rfl rfl (c3 .nil r') rfl rfl rfl) rfl ?_
      refine gd ?_
      refine J_then ?_
      refine K_tell rfl ?_
      refine go ?_
      exact J_done hT rfl rfl rfl
     | node k2 v2 l2 r2 =>
      refine go ?_
      refine J_again ⟨k2, v2, l2, r2, hmin⟩ (by show (node k2 v2 l2 r2).size < (node k' v' (node k2 v2 l2 r2) r').size; simp only [Tr.size]; omega) ⟨rfl, rfl, trivial⟩ rfl rfl
   ·have e : (node k0 v0 l r).cut k = Tr.join k0 v0 l (r.cut k) := by rw [cut_node, if_neg hne, if_neg h1, if_neg h2]
    have c2 := tcut_spec r k (by omega)
    have c3 := tjoin_spec k0 v0 l r l (r.cut k) (by omega)
    rw [e]
    refine con_of Tryz.func38 rfl (by kernel_rfl) rfl fun F w0 β0 => ?_
    refine K_tell rfl ?_
    refine go ?_
    refine K_op rfl rfl (opr_callP rfl rfl (c1) rfl rfl rfl rfl) rfl ?_
    refine go ?_
    refine K_condF rfl h1' ?_
    refine go ?_
    refine K_condT rfl (by simp [h1', h2]) ?_
    refine J_seq ?_
    refine J_draw [[]] [] (by kernel_rfl) (by kernel_rfl) rfl ?_
    refine gd ?_
    refine T_opD rfl rfl rfl rfl rfl (opr_call0P rfl rfl (c2) rfl rfl rfl) rfl ?_
    refine gd ?_
    refine T_opD rfl rfl rfl rfl rfl (opr_call0P rfl rfl (c3) rfl rfl rfl) rfl ?_
    refine gd ?_
    refine J_then ?_
    refine K_tell rfl ?_
    refine go ?_
    exact J_done hT rfl rfl rfl
end Go.Proofs.YtdkegmmigongoaaGreatDoor

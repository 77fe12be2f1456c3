/- The steps once more, each with its environment told out. No program is named here. -/
import Derived.Test.YtfkibkfjebppdaaAwpBD
namespace Go.Awp
open Go.RowKit
section
variable {P : Program} {env : Env} {H L : List AObj} {o : Oper}
theorem opr_call0P {fo : Operand} {as : List Operand} {ts : Array TypeId} {f : FuncId} {caps args : List TV} {r x : TV}
    (ho : o.op = .call { callee := .value fo, args := as.toArray, argTypes := ts }) (hf : evA env fo = .fn f caps) (sp : Con P f args [] r [] []) (ha : TV.ren.renL [] 0 0 args = unpOr (evL env as ++ caps)) (hx : TV.clo.cloL 0 args = true)
    (h1 : tellT (r.ren [] L.length 0) = some x) : OpR P o env H L x H L := by
  have := opr_callP (H := H) (L := L) (news' := []) ho hf sp ha hx h1 rfl
  rwa [List.append_nil] at this
end
/-- A value told out, one list of parts deep. -/
def frcD {α : Type} (x : TV) (k : TV → Option α) : Option α := match x with
  | .p v => k (.p v)
  | .ad h o => k (.ad h o)
  | .sl h a b c => k (.sl h a b c)
  | .el s e i o => k (.el s e i o)
  | .agg l => frcUL l fun l' => k (.agg l')
  | .tup l => frcUL l fun l' => k (.tup l')
  | .fn f l => frcUL l fun l' => k (.fn f l')
  | .opt g x => frcU x fun x' => k (.opt g x')
theorem frcD_eq {α : Type} (x : TV) (k : TV → Option α) : frcD x k = k x := by cases x <;> first | rfl | simp [frcD, frcUL_eq, frcU_eq]
def putN (env : Env) (d : Option Nat) (x : TV) : Option Env := match d with
  | some d => frcD x fun x' => some ((d, x') :: env)
  | none => some env
def putM (env : Env) (d : Option Nat) (x : TV) : Option Env := match d with
  | some d => some ((d, x) :: env)
  | none => some env
theorem putN_eq {env env' : Env} {d : Option Nat} {x : TV} (h : putN env d x = some env') : putE env d x = env' := by
  cases d with
  | none => exact Option.some.inj h
  | some d => simp only [putN, frcD_eq] at h; exact Option.some.inj h
theorem putM_eq {env env' : Env} {d : Option Nat} {x : TV} (h : putM env d x = some env') : putE env d x = env' := by
  cases d <;> exact Option.some.inj h
section
variable {P : Program} {Γ : Ctx} {env env' : Env} {H L : List AObj} {Q : Exit → Act → World → Prop} {ops : Array Oper} {rest : List Oper} {o : Oper}
theorem K_op {x : TV} {H' L' : List AObj} (hg : o.guard = none) (hd : dstOk Γ.N o.dst = true) (h : OpR P o env H L x H' L') (he : putN env o.dst x = some env') (k : J Γ env' H' L' (wpList P ops Q rest)) : J Γ env H L (wpList P ops Q (o :: rest)) :=
  J_op hg hd h (by rw [putN_eq he]; exact k)
theorem K_yes {x : TV} {H' L' : List AObj} {j : Nat} {b : Bool} (hg : o.guard = some (j, b)) (hb : gA ops env j = some b) (hd : dstOk Γ.N o.dst = true) (h : OpR P o env H L x H' L') (he : putN env o.dst x = some env') (k : J Γ env' H' L' (wpList P ops Q rest)) : J Γ env H L (wpList P ops Q (o :: rest)) :=
  J_yes hg hb hd h (by rw [putN_eq he]; exact k)
theorem K_no {j : Nat} {b c : Bool} (hg : o.guard = some (j, b)) (hb : gB ops env j b = some c) (hc : c = false) (hd : dstOk Γ.N o.dst = true) (he : putM env o.dst (.opt false (.p (.bool false))) = some env') (k : J Γ env' H L (wpList P ops Q rest)) : J Γ env H L (wpList P ops Q (o :: rest)) := by
  intro a w β s
  unfold wpList
  rw [if_neg (by simp [Region.wanted, hg, (gB_ok s.env hb).2 hc])]
  rw [← putM_eq he] at k
  exact k _ _ _ (s.next hd s.sim (Step.refl ..) (.opt _ _ _ (fun h => by cases h) fun _ => rfl))
theorem K_opt {x : TV} {j : Nat} {b c : Bool} (hg : o.guard = some (j, b)) (hb : gB ops env j b = some c) (hd : dstOk Γ.N o.dst = true) (hn : NeedAll c (needE env (o.looksAt ops)))
    (h : c = true → OpR P o (strE env (o.looksAt ops)) H L x H L) (he : putN env o.dst (.opt c x) = some env') (k : J Γ env' H L (wpList P ops Q rest)) : J Γ env H L (wpList P ops Q (o :: rest)) :=
  J_opt hg hb hd hn h (by rw [putN_eq he]; exact k)
theorem J_gate {d : Option Nat} {op : Op} {t : TypeId} {pos : String} {af : Array Edge} (h : J Γ env H L (wpList P ops Q ({ dst := d, op := op, type := t, pos := pos, after := af, guard := none } :: rest))) : J Γ env H L (wpList P ops Q ({ dst := d, op := op, type := t, pos := pos, after := af, guard := none } :: rest)) := h
theorem J_gateG {d : Option Nat} {op : Op} {t : TypeId} {pos : String} {af : Array Edge} {g : Nat × Bool} (h : J Γ env H L (wpList P ops Q ({ dst := d, op := op, type := t, pos := pos, after := af, guard := some g } :: rest))) : J Γ env H L (wpList P ops Q ({ dst := d, op := op, type := t, pos := pos, after := af, guard := some g } :: rest)) := h
theorem J_gateC {c : Operand} {x y : Code} (h : J Γ env H L ((Code.cond c x y).wp P Q)) : J Γ env H L ((Code.cond c x y).wp P Q) := h
theorem J_gateE {i j : Nat} (h : J Γ env H L (Exit.inBlock i Q (.exit j))) : J Γ env H L (Exit.inBlock i Q (.exit j)) := h
theorem K_condT {c : Operand} {x y : Code} {b : Bool} (hc : evA env c = .p (.bool b)) (hb : b = true) (k : J Γ env H L (x.wp P Q)) : J Γ env H L ((Code.cond c x y).wp P Q) :=
  J_cond hc (fun _ => k) (fun h => by rw [hb] at h; cases h)
theorem K_condF {c : Operand} {x y : Code} {b : Bool} (hc : evA env c = .p (.bool b)) (hb : b = false) (k : J Γ env H L (y.wp P Q)) : J Γ env H L ((Code.cond c x y).wp P Q) :=
  J_cond hc (fun h => by rw [hb] at h; cases h) (fun _ => k)
/-- Only what is wanted stays. -/
theorem K_keep {Φ : Act → World → Prop} (env' : Env) (hs : AllLk env env') (k : J Γ env' H L Φ) : J Γ env H L Φ := J_weak env' hs k
/-- The slots that stay, as they are. -/
def keepE (env : Env) : List Nat → Env
  | [] => []
  | t :: r => (t, lk env t) :: keepE env r
def tellE : Env → (Env → Option Env) → Option Env
  | [], k => k []
  | (t, x) :: r, k => frcU x fun x' => tellE r fun r' => k ((t, x') :: r')
theorem tellE_eq : ∀ (e : Env) (k : Env → Option Env), tellE e k = k e
  | [], _ => rfl
  | (t, x) :: r, k => by simp only [tellE, frcU_eq, tellE_eq r]
theorem keepE_lk (env : Env) : ∀ (ts : List Nat) (t : Nat), lk (keepE env ts) t = lk env t ∨ lk (keepE env ts) t = .p .top
  | [], _ => .inr rfl
  | s :: r, t => by
    simp only [keepE, lk_cons]
    split
    · rename_i e; rw [e]; exact .inl rfl
    · exact keepE_lk env r t
theorem K_only {Φ : Act → World → Prop} (ts : List Nat) (he : tellE (keepE env ts) some = some env') (k : J Γ env' H L Φ) : J Γ env H L Φ := fun a w β s => by
  rw [tellE_eq] at he
  have he := Option.some.inj he
  subst he
  exact k a w β ⟨s.sim, s.step, s.env.sub (fun t => keepE_lk env ts t), s.size, s.defers⟩
/-- The arguments' slots, told out. -/
def tellS (e : Env) : Option Env := tellE e some
theorem K_tell {Φ : Act → World → Prop} (he : tellS env = some env') (k : J Γ env' H L Φ) : J Γ env H L Φ := by
  unfold tellS at he
  rw [tellE_eq] at he
  have he := Option.some.inj he
  subst he
  exact k
end
end Go.Awp

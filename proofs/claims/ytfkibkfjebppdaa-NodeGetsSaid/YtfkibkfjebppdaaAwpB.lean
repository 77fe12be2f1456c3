/- The judgement of the abstract walk and its rules: code, regions, loops, calls. No program is named here. -/
import Derived.Test.YtfkibkfjebppdaaAwpA
import Derived.LoopN
import Derived.Orders
namespace Go.Awp
open Go.RowKit

abbrev Env := List (Nat × TV)
def lk : Env → Nat → TV
  | [], _ => .p .top
  | (t, v) :: r, s => match Nat.beq t s with
    | true => v
    | false => lk r s

theorem lk_cons (t : Nat) (v : TV) (r : Env) (s : Nat) : lk ((t, v) :: r) s = if s = t then v else lk r s := by
  simp only [lk]
  cases h : Nat.beq t s with
  | true => rw [Nat.eq_of_beq_eq_true h]; simp
  | false => have := Nat.ne_of_beq_eq_false h; simp [Ne.symm this]

structure Ctx where
  N : Nat
  w0 : World
  β0 : Hd → Nat
  H0 : List AObj
  F : Nat → Prop

/-- Slots hold what the environment says. -/
def EnvR (w : World) (β : Hd → Nat) (G : Hp) (env : Env) (a : Act) : Prop := ∀ t, RepT w β G (lk env t) (a.tmps.getD t undef)

structure St (Γ : Ctx) (env : Env) (H L : List AObj) (a : Act) (w : World) (β : Hd → Nat) : Prop where
  sim : Sim w β ⟨H, L, Γ.F⟩
  step : Step Γ.w0 Γ.β0 ⟨Γ.H0, [], Γ.F⟩ w β ⟨H, L, Γ.F⟩
  env : EnvR w β ⟨H, L, Γ.F⟩ env a
  size : a.tmps.size = Γ.N
  defers : a.defers = []

def J (Γ : Ctx) (env : Env) (H L : List AObj) (Φ : Act → World → Prop) : Prop := ∀ a w β, St Γ env H L a w β → Φ a w

theorem EnvR.mono {w w' : World} {β β' : Hd → Nat} {G G' : Hp} {env : Env} {a : Act} (hs : Step w β G w' β' G') (h : EnvR w β G env a) : EnvR w' β' G' env a := fun t => (h t).mono hs

theorem EnvR.put {w : World} {β : Hd → Nat} {G : Hp} {env : Env} {a : Act} (h : EnvR w β G env a) {d : Nat} {x : TV} {v : Value} (hd : d < a.tmps.size) (hx : RepT w β G x v) : EnvR w β G ((d, x) :: env) (a.put (some d) v) := by
  intro t
  rw [lk_cons]
  by_cases e : t = d
  · subst e
    simpa [Act.put, Array.getD, hd] using hx
  · rw [if_neg e]
    have := h t
    simpa [Act.put, Array.getD_eq_getD_getElem?, Array.getElem?_setIfInBounds_ne (Ne.symm e)] using this

def putE (env : Env) : Option Nat → TV → Env
  | some d, x => (d, x) :: env
  | none, _ => env
def dstOk (N : Nat) : Option Nat → Bool
  | some d => Nat.blt d N
  | none => true

theorem EnvR.putE {w : World} {β : Hd → Nat} {G : Hp} {env : Env} {a : Act} (h : EnvR w β G env a) {d : Option Nat} {x : TV} {v : Value} (hd : dstOk a.tmps.size d = true) (hx : RepT w β G x v) : EnvR w β G (putE env d x) (a.put d v) := by
  cases d with
  | none => exact h
  | some d => exact h.put (by simpa [dstOk, Nat.blt_eq] using hd) hx

theorem put_size (a : Act) (d : Option Nat) (v : Value) : (a.put d v).tmps.size = a.tmps.size := by cases d <;> simp [Act.put]
theorem put_defers' (a : Act) (d : Option Nat) (v : Value) : (a.put d v).defers = a.defers := by cases d <;> rfl

/-! ### Weakening -/
def Sub (env env' : Env) : Prop := ∀ t, lk env' t = lk env t ∨ lk env' t = .p .top
def AllLk (env : Env) : Env → Prop
  | [] => True
  | (t, v) :: r => lk env t = v ∧ AllLk env r
theorem sub_of_all {env : Env} : ∀ {env' : Env}, AllLk env env' → Sub env env'
  | [], _ => fun _ => .inr rfl
  | (t, v) :: r, h => fun s => by
    rw [lk_cons]
    by_cases e : s = t
    · subst e; simp [h.1]
    · rw [if_neg e]; exact sub_of_all h.2 s
theorem EnvR.sub {w : World} {β : Hd → Nat} {G : Hp} {env env' : Env} {a : Act} (hs : Sub env env') (h : EnvR w β G env a) : EnvR w β G env' a := fun t => by
  rcases hs t with e | e
  · rw [e]; exact h t
  · rw [e]; exact .p (.top _)

theorem J_weak {Γ : Ctx} {env : Env} {H L : List AObj} {Φ : Act → World → Prop} (env' : Env) (hs : AllLk env env') (h : J Γ env' H L Φ) : J Γ env H L Φ :=
  fun a w β s => h a w β ⟨s.sim, s.step, s.env.sub (sub_of_all hs), s.size, s.defers⟩

theorem J_mono {Γ : Ctx} {env : Env} {H L : List AObj} {Φ Ψ : Act → World → Prop} (h : J Γ env H L Φ) (hi : ∀ a w, Φ a w → Ψ a w) : J Γ env H L Ψ := fun a w β s => hi _ _ (h a w β s)

/-! ### Code -/
section
variable {P : Program} {Γ : Ctx} {env : Env} {H L : List AObj} {Q : Exit → Act → World → Prop}
theorem J_seq {x y : Code} (h : J Γ env H L (x.wp P (Exit.then (y.wp P Q) Q))) : J Γ env H L ((Code.seq x y).wp P Q) := J_mono h fun _ _ => wp_seq
theorem J_skip (h : J Γ env H L (Q .normal)) : J Γ env H L (Code.skip.wp P Q) := J_mono h fun _ _ => wp_skip
theorem J_ret (h : J Γ env H L (Q .ret)) : J Γ env H L (Code.ret.wp P Q) := J_mono h fun _ _ => wp_ret
theorem J_exit {i : Nat} (h : J Γ env H L (Q (.exit i))) : J Γ env H L ((Code.exit i).wp P Q) := J_mono h fun _ _ => wp_exit
theorem J_block {i : Nat} {c : Code} (h : J Γ env H L (c.wp P (Exit.inBlock i Q))) : J Γ env H L ((Code.block i c).wp P Q) := J_mono h fun _ _ => wp_block
theorem J_then {n : Act → World → Prop} (h : J Γ env H L n) : J Γ env H L (Exit.then n Q .normal) := h
theorem J_then_ret {n : Act → World → Prop} (h : J Γ env H L (Q .ret)) : J Γ env H L (Exit.then n Q .ret) := h
theorem J_then_exit {n : Act → World → Prop} {i : Nat} (h : J Γ env H L (Q (.exit i))) : J Γ env H L (Exit.then n Q (.exit i)) := h
theorem J_blk {i : Nat} (h : J Γ env H L (Q .normal)) : J Γ env H L (Exit.inBlock i Q .normal) := h
theorem J_blk_ret {i : Nat} (h : J Γ env H L (Q .ret)) : J Γ env H L (Exit.inBlock i Q .ret) := h
theorem J_blk_exit {i : Nat} (h : J Γ env H L (Q .normal)) : J Γ env H L (Exit.inBlock i Q (.exit i)) := by
  intro a w β s; simp only [Exit.inBlock, if_true]; exact h a w β s
theorem J_blk_exit_ne {i j : Nat} (hne : Nat.beq j i = false) (h : J Γ env H L (Q (.exit j))) : J Γ env H L (Exit.inBlock i Q (.exit j)) := by
  intro a w β s; simp only [Exit.inBlock, if_neg (Nat.ne_of_beq_eq_false hne)]; exact h a w β s

def evA (env : Env) : Operand → TV
  | .tmp t => lk env t
  | .const v => match v with
    | .int k n => .p (.int k n)
    | .bool b => .p (.bool b)
    | .string s => .p (.str s.data.toList)
    | .pointer none => .p .nilp
    | .slice none 0 0 => .p .nils
    | _ => .p .top
  | .global _ => .p .top
  | .func f => .fn f []

theorem evA_ok {w : World} {β : Hd → Nat} {G : Hp} {a : Act} (he : EnvR w β G env a) (x : Operand) : RepT w β G (evA env x) (a.eval x) := by
  cases x with
  | tmp t => exact he t
  | const v =>
    simp only [evA, Act.eval]
    split
    · exact .p (.int ..)
    · exact .p (.bool ..)
    · rename_i s
      have : (⟨s.data.toList.toArray⟩ : ByteArray) = s := by cases s; simp
      have h := RepA.str (w := w) (N := Free β G) s.data.toList
      rw [this] at h
      exact .p h
    · exact .p .nilp
    · exact .p .nils
    · exact .p (.top _)
  | global g => exact .p (.top _)
  | func f => exact .fn f [] [] rfl (by simp)

theorem RepT.bool_inv {w : World} {β : Hd → Nat} {G : Hp} {b : Bool} {v : Value} (h : RepT w β G (.p (.bool b)) v) : v = .bool b := by
  cases h with | p h => cases h; rfl
theorem RepT.int_inv {w : World} {β : Hd → Nat} {G : Hp} {k : IntKind} {n : Int} {v : Value} (h : RepT w β G (.p (.int k n)) v) : v = .int k n := by
  cases h with | p h => cases h; rfl
theorem RepT.str_inv {w : World} {β : Hd → Nat} {G : Hp} {l : List UInt8} {v : Value} (h : RepT w β G (.p (.str l)) v) : v = .string ⟨l.toArray⟩ := by
  cases h with | p h => cases h; rfl

theorem J_cond {c : Operand} {x y : Code} {b : Bool} (hc : evA env c = .p (.bool b)) (ht : b = true → J Γ env H L (x.wp P Q)) (hf : b = false → J Γ env H L (y.wp P Q)) : J Γ env H L ((Code.cond c x y).wp P Q) := by
  intro a w β s
  have hv := evA_ok s.env c
  rw [hc] at hv
  exact wp_cond_split hv.bool_inv (fun h => ht h a w β s) (fun h => hf h a w β s)

/-! ### Operations -/
/-- What an operation does, of abstract values. -/
def OpR (P : Program) (o : Oper) (env : Env) (H L : List AObj) (x : TV) (H' L' : List AObj) : Prop :=
  ∀ F w β a next (Q : Exit → Act → World → Prop), Sim w β ⟨H, L, F⟩ → EnvR w β ⟨H, L, F⟩ env a →
    (∀ w' β' u, Sim w' β' ⟨H', L', F⟩ → Step w β ⟨H, L, F⟩ w' β' ⟨H', L', F⟩ → RepT w' β' ⟨H', L', F⟩ x u → next (a.put o.dst u) w') → o.wp P a w next Q

theorem St.next {a : Act} {w w' : World} {β β' : Hd → Nat} {H' L' : List AObj} {d : Option Nat} {x : TV} {u : Value} (s : St Γ env H L a w β) (hd : dstOk Γ.N d = true)
    (hS : Sim w' β' ⟨H', L', Γ.F⟩) (hst : Step w β ⟨H, L, Γ.F⟩ w' β' ⟨H', L', Γ.F⟩) (hx : RepT w' β' ⟨H', L', Γ.F⟩ x u) : St Γ (putE env d x) H' L' (a.put d u) w' β' :=
  ⟨hS, s.step.trans hst, (s.env.mono hst).putE (by rw [s.size]; exact hd) hx, by rw [put_size]; exact s.size, by rw [put_defers']; exact s.defers⟩

variable {ops : Array Oper} {rest : List Oper} {o : Oper}
theorem J_nil (h : J Γ env H L (Q .normal)) : J Γ env H L (wpList P ops Q []) := h
theorem J_op {x : TV} {H' L' : List AObj} (hg : o.guard = none) (hd : dstOk Γ.N o.dst = true) (h : OpR P o env H L x H' L') (k : J Γ (putE env o.dst x) H' L' (wpList P ops Q rest)) : J Γ env H L (wpList P ops Q (o :: rest)) := by
  intro a w β s
  unfold wpList
  rw [if_pos (by simp [Region.wanted, hg])]
  exact .inl (h Γ.F w β a _ Q s.sim s.env fun w' β' u hS hst hx => k _ _ _ (s.next hd hS hst hx))

def gA (ops : Array Oper) (env : Env) (j : Nat) : Option Bool :=
  match (ops[j]?).bind (·.dst) with
  | some d => match lk env d with
    | .p (.bool b) => some b
    | _ => none
  | none => none
theorem gA_ok {w : World} {β : Hd → Nat} {G : Hp} {a : Act} {j : Nat} {b : Bool} (he : EnvR w β G env a) (h : gA ops env j = some b) : yielded ops a.tmps j = some b := by
  unfold gA at h
  unfold yielded
  split at h
  · rename_i d hd
    rw [hd]
    split at h
    · rename_i b' hb
      obtain rfl : b' = b := by simpa using h
      have := he d
      rw [hb] at this
      have hv := this.bool_inv
      have hlt : d < a.tmps.size := by
        rcases Nat.lt_or_ge d a.tmps.size with h | h
        · exact h
        · simp [Array.getD, Nat.not_lt.2 h, undef] at hv
      have h2 : a.tmps[d]? = some (.bool b') := by
        rw [Array.getElem?_eq_getElem hlt]
        simpa [Array.getD, hlt] using hv
      simp [h2]
    · cases h
  · cases h
theorem J_yes {x : TV} {H' L' : List AObj} {j : Nat} {b : Bool} (hg : o.guard = some (j, b)) (hb : gA ops env j = some b) (hd : dstOk Γ.N o.dst = true) (h : OpR P o env H L x H' L') (k : J Γ (putE env o.dst x) H' L' (wpList P ops Q rest)) : J Γ env H L (wpList P ops Q (o :: rest)) := by
  intro a w β s
  unfold wpList
  rw [if_pos (by simp [Region.wanted, hg, gA_ok s.env hb])]
  exact .inl (h Γ.F w β a _ Q s.sim s.env fun w' β' u hS hst hx => k _ _ _ (s.next hd hS hst hx))
theorem J_no {j : Nat} {b : Bool} (hg : o.guard = some (j, b)) (hb : gA ops env j = some (!b)) (hd : dstOk Γ.N o.dst = true) (k : J Γ (putE env o.dst (.p .top)) H L (wpList P ops Q rest)) : J Γ env H L (wpList P ops Q (o :: rest)) := by
  intro a w β s
  unfold wpList
  rw [if_neg (by simp [Region.wanted, hg, gA_ok s.env hb])]
  exact k _ _ _ (s.next hd s.sim (Step.refl ..) (.p (.top _)))
/-- A bool whose value is not yet known: one way for each. -/
theorem J_split {Φ : Act → World → Prop} (d : Nat) {b : Bool} (hb : lk env d = .p (.bool b)) (ht : b = true → J Γ ((d, .p (.bool true)) :: env) H L Φ) (hf : b = false → J Γ ((d, .p (.bool false)) :: env) H L Φ) : J Γ env H L Φ := by
  intro a w β s
  cases hc : b with
  | true =>
    refine ht hc a w β ⟨s.sim, s.step, fun t => ?_, s.size, s.defers⟩
    rw [lk_cons]
    split
    · rename_i e; subst e; rw [← hc, ← hb]; exact s.env t
    · exact s.env t
  | false =>
    refine hf hc a w β ⟨s.sim, s.step, fun t => ?_, s.size, s.defers⟩
    rw [lk_cons]
    split
    · rename_i e; subst e; rw [← hc, ← hb]; exact s.env t
    · exact s.env t

theorem J_region {id : Nat} {l : List Oper} (h : J Γ env H L (wpList P l.toArray Q l)) : J Γ env H L ((Code.region id l.toArray false).wp P Q) := J_mono h fun _ _ => wp_region_lit

/-! ### Loops -/
theorem J_loop {ι : Type} (ei : ι → Env) (Hi Li : ι → List AObj) (m : ι → Nat) (i0 : ι) {c : Code} (hs : AllLk env (ei i0)) (hH : Hi i0 = H) (hL : Li i0 = L)
    (round : ∀ i, J Γ (ei i) (Hi i) (Li i) (c.wp P (Exit.then (fun a w => ∃ j β, m j < m i ∧ St Γ (ei j) (Hi j) (Li j) a w β) Q))) : J Γ env H L ((Code.loop c).wp P Q) := by
  subst hH hL
  refine J_weak (ei i0) hs ?_
  have key : ∀ n i, m i < n → J Γ (ei i) (Hi i) (Li i) (Code.rounds P c Q n) := by
    intro n
    induction n with
    | zero => intro i h; omega
    | succ n ih =>
      intro i hi a w β s
      rw [rounds_succ]
      refine wp_mono (round i a w β s) fun e a w he => ?_
      cases e with
      | normal =>
        obtain ⟨j, β', hj, s'⟩ := he
        exact ih j (by omega) a w β' s'
      | _ => exact he
  exact J_mono (key (m i0 + 1) i0 (by omega)) fun _ _ => wp_loop_rounds _
theorem J_next {ι : Type} {ei : ι → Env} {Hi Li : ι → List AObj} {m : ι → Nat} {i : ι} (j : ι) (hm : m j < m i) (hs : AllLk env (ei j)) (hH : Hi j = H) (hL : Li j = L) :
    J Γ env H L (Exit.then (fun a w => ∃ j β, m j < m i ∧ St Γ (ei j) (Hi j) (Li j) a w β) Q .normal) := by
  subst hH hL
  exact fun a w β s => ⟨j, β, hm, s.sim, s.step, s.env.sub (sub_of_all hs), s.size, s.defers⟩
end

/-! ### Calls -/
def RepL (w : World) (β : Hd → Nat) (G : Hp) (xs : List TV) (vs : List Value) : Prop := vs.length = xs.length ∧ ∀ (i : Nat) (x : TV) (v : Value), xs[i]? = some x → vs[i]? = some v → RepT w β G x v

/-- CALLED WITH 'args' WHERE THE CALLER's OBJECTS ARE H: it returns r, the caller's objects are H', r may lead to new ones (news). -/
def callable (P : Program) (f : FuncId) : Bool := match P.funcs[f]? with
  | some fn => fn.name != "runtime.NumGoroutine" && fn.body.isSome
  | none => false
structure Con (P : Program) (f : FuncId) (args : List TV) (H : List AObj) (r : TV) (H' news : List AObj) : Prop where
  can : callable P f = true
  run : ∀ F w β vs, Sim w β ⟨H, [], F⟩ → RepL w β ⟨H, [], F⟩ args vs → Calls P f vs.toArray w fun e w' =>
    ∃ β' v, e = .returned v ∧ Sim w' β' ⟨H', news, F⟩ ∧ Step w β ⟨H, [], F⟩ w' β' ⟨H', news, F⟩ ∧ RepT w' β' ⟨H', news, F⟩ r v

/-- What a callee's new object is called by the caller. -/
def TV.shift (n : Nat) : TV → TV
  | .p x => .p x
  | .ad (.l i) off => .ad (.l (n + i)) off
  | .ad h off => .ad h off
  | .sl (.l i) a b c => .sl (.l (n + i)) a b c
  | .sl h a b c => .sl h a b c
  | .el s e i off => .el (s.shift n) e i off
  | .agg l => .agg (shiftL n l)
  | .tup l => .tup (shiftL n l)
  | .fn f l => .fn f (shiftL n l)
  | .opt g x => .opt g (x.shift n)
where shiftL (n : Nat) : List TV → List TV
  | [] => []
  | x :: r => x.shift n :: shiftL n r
def AObj.shift (n : Nat) : AObj → AObj
  | .box T cells => .box T (TV.shift.shiftL n cells)
  | o => o
end Go.Awp

import Derived.Test.YtdkegmmigongoaaGreatDoorM15
import Derived.Test.YtdkegmmigongoaaGreatDoorM9
namespace Go.Proofs.YtdkegmmigongoaaGreatDoor
set_option maxRecDepth 20000
open Go.Awp Go.RowKit
section
variable {P : Program} {T : Tab} {Γ : Ctx} {env : Env} {H L : List AObj} {o : Oper} {x : TV} {Q : Exit → Act → World → Prop} {ops : Array Oper} {rest : List Oper}
theorem borrow_free {β : Hd → Nat} {F : Nat → Prop} {h : Hd} (b : Nat) (hb : Free β ⟨H, L, F⟩ b) : Free (lendSβ β []) ⟨[], [], lendSF β ⟨H, L, F⟩ [h]⟩ b := by
 refine ⟨fun hf => ?_, fun k hk => ?_⟩
 ·rcases hf with hf | ⟨k, hk, _, he⟩
  ·exact hb.1 hf
  ·exact hb.2 k hk he
 ·obtain ⟨q, hq, _⟩ := hk
  cases k <;> simp [Hp.get] at hq
theorem borrow_none {k : Hd} {F : Nat → Prop} (h : (⟨[], [], F⟩ : Hp).live k) : False := by
 obtain ⟨q, hq, _⟩ := h
 cases k <;> simp [Hp.get] at hq
theorem J_boxCall {o1 o2 : Oper} {d1 t n e i off f ty : Nat} {te : TyI} {fo y pt : Operand} {ts : Array TypeId} {cells : List TV} {rows : List AV} {z : AV} {k : IntKind} {m : Int} (hT : TabOk P T) (g1 : o1.guard = none) (g2 : o2.guard = none) (hd1 : o1.dst = some d1) (hlt : Nat.blt d1 Γ.N = true) (hd2 : dstOk Γ.N o2.dst = true)
  (ho : o1.op = .slice t pt none none none) (ho2 : o2.op = .call { callee := .value fo, args := #[.tmp d1, y], argTypes := ts }) (hd : tyD T t = .array n e) (hte : tlk T e = some te) (hsz : te.size = 1)
  (hp : evA env pt = .ad (.o i) off) (hi : H[i]? = some (.box ty cells)) (hrows : (cells.drop off).take n = rows.map .p) (hlen : rows.length = n) (hn : n ≠ 0) (hc : ∀ r ∈ rows, cellsOf r = [r])
  (hf : evA (putE env (some d1) (.p .top)) fo = .fn f []) (hy : evA (putE env (some d1) (.p .top)) y = .p z) (sp : Con P f [.p (.ps rows), .p z] [] (.p (.int k m)) [] [])
  (kk : J Γ (putE (putE env (some d1) (.p .top)) o2.dst (.p (.int k m))) H L (wpList P ops Q rest)) : J Γ env H L (wpList P ops Q (o1 :: o2 :: rest)) := by
 intro a w β s
 have hv := evA_ok s.env pt
 rw [hp] at hv
 have hval := adH_val hi hv
 obtain ⟨u, h3, h4⟩ := tyD_und hT (t := t) (by rw [hd]; simp)
 rw [hd] at h4
 obtain rfl := chkD_array h4
 obtain ⟨inf, ue, ok⟩ := hT.get hte
 have hrun1 : (execOp a.eval o1).run P w = .ok (.value (.slice (some ⟨β (.o i), off, none⟩) n n)) w := by
  simp only [execOp, ho, hval, Option.map_none]
  have h5 : P.underlying t = some (.array (P.arrayLen t) (P.elem t)) := by simp [Program.arrayLen, Program.elem, h3]
  have e1 : P.arrayLen t = n := by simp [Program.arrayLen, h3]
  have e2 : P.elem t = e := by simp [Program.elem, h3]
  have hq := run_sliceAt_array_all w t ⟨β (.o i), off, none⟩ h5
  rw [e1, e2, ok.run_size] at hq
  simp only [Sem.run_bind, hq, Result.andThen_ok, Sem.run_pure, slicedAt]
  rw [if_neg hn, hsz, Nat.zero_mul, Addr.add_lit]
  rfl
 unfold wpList
 rw [if_pos (by simp [Region.wanted, g1])]
 refine .inl ?_
 unfold Oper.wp
 rw [hrun1]
 show wpList P ops Q (o2 :: rest) _ _
 unfold wpList
 rw [if_pos (by simp [Region.wanted, g2])]
 refine .inl ?_
 have st1 := s.next (d := some d1) (x := .p .top) (u := .slice (some ⟨β (.o i), off, none⟩) n n) (by simpa [dstOk] using hlt) s.sim (Step.refl ..) (.p (.top _))
 have hlt' : d1 < a.tmps.size := by rw [s.size]; simpa using hlt
 have hev : (a.put (some d1) (.slice (some ⟨β (.o i), off, none⟩) n n)).eval (.tmp d1) = .slice (some ⟨β (.o i), off, none⟩) n n := by
  simp [Act.eval, Act.put, Array.getD, hlt']
 rw [hd1]
 generalize a.put (some d1) (.slice (some ⟨β (.o i), off, none⟩) n n) = a1 at st1 hev
 have hfo := evA_ok st1.env fo
 rw [hf] at hfo
 have hvs : a1.eval fo = .func (.func f) #[] #[] := by
  generalize a1.eval fo = v at hfo
  cases hfo with | fn _ _ vs hl hr =>
  have : vs = [] := List.eq_nil_of_length_eq_zero (by simpa using hl)
  subst this
  rfl
 have hyv := evA_ok st1.env y
 rw [hy] at hyv
 have live : (⟨H, L, Γ.F⟩ : Hp).live (.o i) := ⟨_, hi, rfl⟩
 obtain ⟨arr, b1, b2, b3⟩ := s.sim.objs (.o i) _ hi
 have hblt := s.sim.lt live
 have hS0 : Sim w (lendSβ β []) ⟨[], [], lendSF β ⟨H, L, Γ.F⟩ [.o i]⟩ := by
  refine ⟨fun k q hq => ?_, fun k _ hk => (borrow_none hk).elim, fun q hq => by simp at hq, fun k hk => (borrow_none hk).elim, fun b hb => ?_⟩
  ·cases k <;> simp [Hp.get] at hq
  ·rcases hb with hb | ⟨k, hk, _, rfl⟩
   ·exact s.sim.flt b hb
   ·exact s.sim.lt hk
 have hmono : ∀ {x : AV} {v : Value}, RepT w β ⟨H, L, Γ.F⟩ (.p x) v → RepA w (Free (lendSβ β []) ⟨[], [], lendSF β ⟨H, L, Γ.F⟩ [.o i]⟩) x v := fun h => by
  cases h with | p h => exact h.mono (Nat.le_refl _) fun b _ hb => ⟨rfl, borrow_free b hb⟩
 have hself : Free (lendSβ β []) ⟨[], [], lendSF β ⟨H, L, Γ.F⟩ [.o i]⟩ (β (.o i)) := by
  refine ⟨fun hf => ?_, fun k hk => (borrow_none hk).elim⟩
  rcases hf with hf | ⟨k, hk, hne, he⟩
  ·exact s.sim.disj _ live hf
  ·exact hne (by rw [s.sim.inj k (.o i) hk live he]; simp)
 have hcell : ∀ q r, rows[q]? = some r → ∃ v, arr[off + q]? = some v ∧ RepA w (Free (lendSβ β []) ⟨[], [], lendSF β ⟨H, L, Γ.F⟩ [.o i]⟩) r v := fun q r hr => by
  have h1 : (rows.map TV.p)[q]? = some (.p r) := by rw [List.getElem?_map, hr]; rfl
  rw [← hrows, List.getElem?_take] at h1
  split at h1
  ·rw [List.getElem?_drop] at h1
   obtain ⟨v, hv, hrep⟩ := b3 _ _ h1
   exact ⟨v, hv, hmono hrep⟩
  ·cases h1
 have hargs : RepL w (lendSβ β []) ⟨[], [], lendSF β ⟨H, L, Γ.F⟩ [.o i]⟩ [.p (.ps rows), .p z] [.slice (some ⟨β (.o i), off, none⟩) n n, a1.eval y] := by
  refine ⟨rfl, fun j x v hx hv => ?_⟩
  match j, hx, hv with
  | 0, hx, hv =>
   obtain rfl := Option.some.inj hx
   obtain rfl := Option.some.inj hv
   have := RepA.ps (w := w) (N := Free (lendSβ β []) ⟨[], [], lendSF β ⟨H, L, Γ.F⟩ [.o i]⟩) rows ⟨β (.o i), off, none⟩ n 1 (fun p q => arr.getD (off + (p * 1 + q)) undef) hself hblt
    (fun r hr => by rw [hc r hr]; rfl)
    (fun p q hp hq => by
     obtain ⟨v, hv, _⟩ := hcell p _ (List.getElem?_eq_getElem hp)
     obtain rfl : q = 0 := by omega
     rw [Addr.add_lit, cell_of_row _ _ _ _ _ _ b1]
     simp only [Nat.mul_one, Nat.add_zero, Array.getD_eq_getD_getElem?, hv, Option.getD_some])
    (fun p q r x hp hq => by
     obtain ⟨v, hv, hrep⟩ := hcell p r hp
     rw [hc r (List.mem_of_getElem? hp)] at hq
     have hq0 : q = 0 := by
      have := (List.getElem?_eq_some_iff.1 hq).1
      simpa using this
     subst hq0
     obtain rfl : r = x := by simpa using hq
     simp only [Nat.mul_one, Nat.add_zero, Array.getD_eq_getD_getElem?, hv, Option.getD_some]
     exact hrep) (by omega)
   rw [hlen] at this
   exact .p this
  | 1, hx, hv =>
   obtain rfl := Option.some.inj hx
   obtain rfl := Option.some.inj hv
   exact .p (hmono hyv)
  | j + 2, hx, _ => simp at hx
 have hcall := sp.run _ w _ _ hS0 hargs
 unfold Oper.wp execOp
 simp only [ho2, resolve, invoke, Deferred.ofValue, hvs, hev, Sem.run_bind, Sem.run_pure, Result.andThen_ok, List.map_toArray, List.map_cons, List.map_nil, Array.append_empty, Array.empty_append, run_enter sp.can, Oper.upon]
 refine hcall.mono ?_
 rintro e' w' ⟨β1, v, rfl, hS1, hst, hr⟩
 have hsame : ∀ b, b < w.heap.size → w'.heap[b]? = w.heap[b]? := fun b hb => by
  by_cases hF : lendSF β ⟨H, L, Γ.F⟩ [.o i] b
  ·exact hst.fr b hF
  ·exact (hst.frame b hb ⟨hF, fun k hk => (borrow_none hk).elim⟩).1
 have hst2 : Step w β ⟨H, L, Γ.F⟩ w' β ⟨H, L, Γ.F⟩ := by
  refine ⟨hst.os, hst.tape, hst.output, hst.size, fun b hb hf => ⟨hsame b hb, hf⟩, fun b hb => hsame b (s.sim.flt b hb), rfl, fun h q hq => ⟨q, hq, ?_⟩⟩
  exact ObjGo.same fun hoff => hsame _ (s.sim.lt ⟨q, hq, hoff⟩)
 have hS2 : Sim w' β ⟨H, L, Γ.F⟩ := by
  refine ⟨fun h q hq => ?_, s.sim.inj, s.sim.ext, s.sim.disj, fun b hb => Nat.lt_of_lt_of_le (s.sim.flt b hb) hst.size⟩
  by_cases hoff : q.off = false
  ·exact (s.sim.objs h q hq).mono hst2 (hsame _ (s.sim.lt ⟨q, hq, hoff⟩))
  ·cases q with
   | dead => trivial
   | box => exact absurd rfl hoff
   | arr T a e rows => exact ⟨(s.sim.objs h _ hq).1, fun h => absurd h hoff⟩
   | raw => exact absurd rfl hoff
 have hv2 := hr.int_inv
 subst hv2
 exact kk _ _ _ (st1.next (d := o2.dst) hd2 hS2 hst2 (.p (.int ..)))
end
section
variable (P : Program) (ops : List Oper) (env0 : Env) (Hf : Nat → List AObj) (Lf : Bool → Nat → List AObj) (ss : List Nat) (fl : Nat)
def ObG (i : Nat) (o : Oper) (xs : List TV) (x : TV) : Prop := match Nat.beq i fl with
 | true => posn ss 0 i = none ∧ allK (fun k => OpR P o (RdE ops env0 xs o) (Hf k) (Lf false k) x (Hf k) (Lf true k)) (loK o ss 0 0) (hiK ops i ss 0 - loK o ss 0 0)
 | false => match posn ss 0 i with
  | some p => OpR P o (RdE ops env0 xs o) (Hf p) (Lf true p) x (Hf (p + 1)) (Lf true (p + 1)) ∧ (nmem (aft o) fl = true ∨ OpR P o (RdE ops env0 xs o) (Hf p) (Lf false p) x (Hf (p + 1)) (Lf false (p + 1)))
  | none => allK (fun k => OpR P o (RdE ops env0 xs o) (Hf k) (Lf true k) x (Hf k) (Lf true k) ∧ (nmem (aft o) fl = true ∨ OpR P o (RdE ops env0 xs o) (Hf k) (Lf false k) x (Hf k) (Lf false k))) (loK o ss 0 0) (hiK ops i ss 0 - loK o ss 0 0)
def ObGF (i : Nat) (o : Oper) (xs : List TV) (x : TV) : Prop :=
 (∀ g b, o.guard = some (g, b) → gA ops.toArray (RdE ops env0 xs o) g = some b) ∧ ObG P ops env0 Hf Lf ss fl i o xs x
def TelG (K : List TV → Prop) : List Oper → Nat → List TV → Prop
 | [], _, xs => K xs
 | o :: rest, i, xs => ∃ x, ObGF P ops env0 Hf Lf ss fl i o xs x ∧ TelG K rest (i + 1) (xs ++ [x])
end
section
variable {P : Program} {Γ : Ctx} {ops : List Oper} {env0 : Env} {H : List AObj} {Hf : Nat → List AObj} {Lf : Bool → Nat → List AObj} {ss : List Nat} {fl : Nat} {xs : List TV} {Q : Exit → Act → World → Prop}
structure InvG (Γ : Ctx) (ops : List Oper) (env0 : Env) (Hf : Nat → List AObj) (Lf : Bool → Nat → List AObj) (ss : List Nat) (fl : Nat) (xs : List TV) (listed : Array Bool) (a : Act) (w : World) : Prop where
 size : listed.size = ops.length
 closed : ∀ (i : Nat) o, ops[i]? = some o → listed.getD i false = true → ∀ j ∈ aft o, listed.getD j false = true
 st : ∃ k β, k ≤ ss.length ∧ (∀ (p : Nat) s, ss[p]? = some s → (listed.getD s false = true ↔ p < k)) ∧ Sim w β ⟨Hf k, Lf (listed.getD fl false) k, Γ.F⟩ ∧ Step Γ.w0 Γ.β0 ⟨Γ.H0, [], Γ.F⟩ w β ⟨Hf k, Lf (listed.getD fl false) k, Γ.F⟩ ∧
  ∀ t, RepT w β ⟨Hf k, Lf (listed.getD fl false) k, Γ.F⟩ (valR ops env0 xs listed t) (a.tmps.getD t undef)
 tmps : a.tmps.size = Γ.N
 defers : a.defers = []
theorem reg_stepG (hreg : regOk Γ.N ops ss = true) (hobl : ∀ (i : Nat) o, ops[i]? = some o → ObGF P ops env0 Hf Lf ss fl i o xs (xs.getD i (.p .top))) {listed : Array Bool} {a : Act} {w : World} (hI : InvG Γ ops env0 Hf Lf ss fl xs listed a w) {i : Nat} (hi : i ∈ Region.ready .any ops.toArray listed)
  {K : Act → World → Prop} (hK : ∀ a' w', InvG Γ ops env0 Hf Lf ss fl xs (listed.setIfInBounds i true) a' w' → K a' w') : wpOp P ops.toArray Q i K a w := by
 obtain ⟨hun, o, ho, hdep⟩ := mem_ready.1 hi
 have ho' : ops[i]? = some o := by simpa using ho
 unfold regOk at hreg
 simp only [Bool.and_eq_true] at hreg
 have hR := regGo_get hreg.1 i o ho'
 rw [Nat.zero_add] at hR
 have hil : i < ops.length := (List.getElem?_eq_some_iff.1 ho').1
 have hdeps : ∀ j ∈ aft o, listed.getD j false = true := fun j hj => by
  unfold aft at hj
  simp only [List.mem_filterMap] at hj
  obtain ⟨e, he, hb⟩ := hj
  split at hb
  ·rename_i hbind
   obtain rfl := Option.some.inj hb
   exact hdep e (by simpa using he) hbind
  ·cases hb
 have hun' : ¬ listed.getD i false = true := by
  have hs : i < listed.size := by rw [hI.size]; exact hil
  simp [Array.getD, hs] at hun ⊢
  simp [hun]
 obtain ⟨k, β, hk, hkl, hS, hst, hrep⟩ := hI.st
 have hkl' : ∀ q s o', ss[q]? = some s → ops[s]? = some o' → i ∈ aft o' → k ≤ q := fun q s o' h1 h2 h3 => by
  rcases Nat.lt_or_ge q k with h | h
  ·exact absurd (hI.closed s o' h2 ((hkl q s h1).2 h) i h3) hun'
  ·exact h
 have hen : EnvR w β ⟨Hf k, Lf (listed.getD fl false) k, Γ.F⟩ (RdE ops env0 xs o) a := fun t => by
  unfold RdE
  rcases lk_map (f := rdv ops env0 xs o) (l := o.looksAt ops.toArray) (t := t) with ⟨hm, h2⟩ | h2
  ·rw [h2]
   have hv := hrep t
   unfold valR at hv
   unfold rdv
   cases hw : wrGo ops 0 t with
   | none => rw [hw] at hv; exact hv
   | some j =>
    rw [hw] at hv
    simp only at hv ⊢
    cases hm2 : nmem (aft o) j with
    | true =>
     rw [if_pos (hdeps j (nmem_iff.1 hm2))] at hv
     exact hv
    | false =>
     have hnl : ¬ listed.getD j false = true := by
      rcases hR.look t hm j hw with h | h | ⟨q, hq, h⟩
      ·rw [hm2] at h; cases h
      ·rw [h]; exact hun'
      ·exact fun hl => hun' (hI.closed j q hq hl i (nmem_iff.1 h))
     rw [if_neg hnl] at hv
     exact hv
  ·rw [h2]; exact .p (.top _)
 have hclosed : ∀ (j : Nat) o', ops[j]? = some o' → (listed.setIfInBounds i true).getD j false = true → ∀ q ∈ aft o', (listed.setIfInBounds i true).getD q false = true := fun j o' hj hl q hq => by
  by_cases e : j = i
  ·subst e
   rw [ho'] at hj
   obtain rfl := Option.some.inj hj
   exact getD_set_true (hdeps q hq)
  ·rw [getD_set_ne false (fun h => e h.symm)] at hl
   exact getD_set_true (hI.closed j o' hj hl q hq)
 have hself : (listed.setIfInBounds i true).getD i false = true := by
  have hs : i < listed.size := by rw [hI.size]; exact hil
  simp [hs]
 have henv : ∀ {w' : World} {β' : Hd → Nat} {H' L' : List AObj} {u : Value}, Step w β ⟨Hf k, Lf (listed.getD fl false) k, Γ.F⟩ w' β' ⟨H', L', Γ.F⟩ → RepT w' β' ⟨H', L', Γ.F⟩ (xs.getD i (.p .top)) u →
   ∀ t, RepT w' β' ⟨H', L', Γ.F⟩ (valR ops env0 xs (listed.setIfInBounds i true) t) ((a.put o.dst u).tmps.getD t undef) := fun {w'} {β'} {H'} {L'} {u} hs hx t => by
  by_cases hd : o.dst = some t
  ·obtain ⟨hlt, hwr⟩ := hR.dst t hd
   unfold valR
   rw [hwr]
   simp only [hself, if_true]
   rw [hd]
   have hlt' : t < a.tmps.size := by rw [hI.tmps]; exact hlt
   have : (a.put (some t) u).tmps.getD t undef = u := by simp [Act.put, Array.getD, hlt']
   rw [this]
   exact hx
  ·have hold := (hrep t).mono hs
   have hv : valR ops env0 xs (listed.setIfInBounds i true) t = valR ops env0 xs listed t := by
    unfold valR
    cases hw : wrGo ops 0 t with
    | none => rfl
    | some j =>
     have hji : j ≠ i := by
      rintro rfl
      obtain ⟨_, o2, h2, h3⟩ := wrGo_spec hw
      rw [Nat.sub_zero, ho'] at h2
      obtain rfl := Option.some.inj h2
      exact hd h3
     simp only [getD_set_ne false (fun h => hji h.symm)]
   rw [hv]
   have hput : (a.put o.dst u).tmps.getD t undef = a.tmps.getD t undef := by
    cases hdd : o.dst with
    | none => rfl
    | some d =>
     have hne : d ≠ t := fun e => hd (by rw [hdd, e])
     simp only [Act.put, Array.getD_eq_getD_getElem?, Array.getElem?_setIfInBounds_ne hne]
   rw [hput]
   exact hold
 unfold wpOp
 rw [ho]
 simp only
 obtain ⟨hw, hob⟩ := hobl i o ho'
 have hwant : Region.wanted o (yielded ops.toArray a.tmps) = true := by
  cases hg : o.guard with
  | none => simp [Region.wanted, hg]
  | some gb =>
   obtain ⟨g, b⟩ := gb
   simp [Region.wanted, hg, gA_ok hen (hw g b hg)]
 rw [if_pos hwant]
 refine .inl ?_
 have hrange : i ∉ ss → loK o ss 0 0 ≤ k ∧ k ≤ hiK ops i ss 0 := fun _ => by
  refine ⟨loK_le (Nat.zero_le _) fun q s hq hm => ?_, ?_⟩
  ·have := (hkl q s hq).1 (hdeps s (nmem_iff.1 hm))
   omega
  ·rcases hiK_spec (ops := ops) (i := i) (ss := ss) (p := 0) (fun s hs => by obtain ⟨q, hq⟩ := List.getElem?_of_mem hs; exact (chain_get hreg.2 q s hq).1) with h | ⟨q, s, o2, h1, h2, h3, h4⟩
   ·omega
   ·have := hkl' q s o2 h2 h3 (nmem_iff.1 h4); omega
 have hoff : i ∉ ss → ∀ (q : Nat) s, ss[q]? = some s → ((listed.setIfInBounds i true).getD s false = true ↔ q < k) := fun hni q s hq => by
  have e : s ≠ i := by rintro rfl; exact hni (List.mem_of_getElem? hq)
  rw [getD_set_ne false (fun h => e h.symm), hkl q s hq]
 unfold ObG at hob
 split at hob
 ·rename_i hbq
  obtain ⟨hpn, hob⟩ := hob
  have hni := posn_none hpn
  obtain ⟨hlo, hhi⟩ := hrange hni
  have hif := Nat.eq_of_beq_eq_true hbq
  have hob := allK_get hob k hlo (by omega)
  have hbf : listed.getD fl false = false := by
   rw [← hif]
   cases e : listed.getD i false with
   | true => exact absurd e hun'
   | false => rfl
  rw [hbf] at hS hen henv hst
  have hbt : (listed.setIfInBounds i true).getD fl false = true := by rw [← hif]; exact hself
  refine hob Γ.F w β a _ _ hS hen fun w' β' u hS' hst' hx => hK _ _ ⟨by simp [hI.size], hclosed, ⟨k, β', hk, hoff hni, by rw [hbt]; exact hS', by rw [hbt]; exact hst.trans hst', by rw [hbt]; exact henv hst' hx⟩, by rw [put_size]; exact hI.tmps, by rw [put_defers']; exact hI.defers⟩
 ·rename_i hbq
  have hif := Nat.ne_of_beq_eq_false hbq
  have hbt : (listed.setIfInBounds i true).getD fl false = listed.getD fl false := getD_set_ne false hif
  have pick : ∀ {f : Bool → Prop}, f true ∧ (nmem (aft o) fl = true ∨ f false) → f (listed.getD fl false) := fun {f} hf => by
   cases e : listed.getD fl false with
   | true => exact hf.1
   | false =>
    rcases hf.2 with h | h
    ·have := hdeps fl (nmem_iff.1 h)
     rw [e] at this
     cases this
    ·exact h
  split at hob
  ·rename_i p hp
   obtain ⟨_, hsp⟩ := posn_some hp
   rw [Nat.sub_zero] at hsp
   have hkp : k = p := by
    have h1 : ¬ p < k := fun h => hun' ((hkl p i hsp).2 h)
    rcases Nat.eq_zero_or_pos p with h0 | h0
    ·omega
    ·obtain ⟨s, hs⟩ : ∃ s, ss[p - 1]? = some s := ⟨ss[p - 1]'(by have := (List.getElem?_eq_some_iff.1 hsp).1; omega), List.getElem?_eq_getElem _⟩
     obtain ⟨o2, h2, h3⟩ := (chain_get hreg.2 (p - 1) s hs).2 i (by rw [show p - 1 + 1 = p by omega]; exact hsp)
     rw [ho'] at h2
     obtain rfl := Option.some.inj h2
     have := (hkl (p - 1) s hs).1 (hdeps s h3)
     omega
   subst hkp
   have hob := pick (f := fun b => OpR P o (RdE ops env0 xs o) (Hf k) (Lf b k) (xs.getD i (.p .top)) (Hf (k + 1)) (Lf b (k + 1))) hob
   refine hob Γ.F w β a _ _ hS hen fun w' β' u hS' hst' hx => hK _ _ ⟨by simp [hI.size], hclosed, ⟨k + 1, β', ?_, fun q s hq => ?_, by rw [hbt]; exact hS', by rw [hbt]; exact hst.trans hst', by rw [hbt]; exact henv hst' hx⟩, by rw [put_size]; exact hI.tmps, by rw [put_defers']; exact hI.defers⟩
   ·have := (List.getElem?_eq_some_iff.1 hsp).1; omega
   ·by_cases e : s = i
    ·subst e
     simp only [hself, true_iff]
     by_cases hqk : q < k
     ·exact absurd ((hkl q s hq).2 hqk) hun'
     ·rcases Nat.lt_or_eq_of_le (Nat.le_of_not_lt hqk) with h | h
      ·have := chain_mono hreg.1 hreg.2 h hsp hq
       omega
      ·omega
    ·rw [getD_set_ne false (fun h => e h.symm), hkl q s hq]
     constructor
     ·intro h; omega
     ·intro h
      rcases Nat.lt_or_eq_of_le (Nat.le_of_lt_succ h) with h | h
      ·exact h
      ·subst h; rw [hsp] at hq; exact absurd (Option.some.inj hq).symm e
  ·rename_i hpn
   have hni := posn_none hpn
   obtain ⟨hlo, hhi⟩ := hrange hni
   have hob := pick (f := fun b => OpR P o (RdE ops env0 xs o) (Hf k) (Lf b k) (xs.getD i (.p .top)) (Hf k) (Lf b k)) (allK_get hob k hlo (by omega))
   exact hob Γ.F w β a _ _ hS hen fun w' β' u hS' hst' hx => hK _ _ ⟨by simp [hI.size], hclosed, ⟨k, β', hk, hoff hni, by rw [hbt]; exact hS', by rw [hbt]; exact hst.trans hst', by rw [hbt]; exact henv hst' hx⟩, by rw [put_size]; exact hI.tmps, by rw [put_defers']; exact hI.defers⟩
theorem wpAny_regG (hreg : regOk Γ.N ops ss = true) (hobl : ∀ (i : Nat) o, ops[i]? = some o → ObGF P ops env0 Hf Lf ss fl i o xs (xs.getD i (.p .top)))
  (hend : ∀ listed a w, InvG Γ ops env0 Hf Lf ss fl xs listed a w → (∀ i, i < ops.length → listed.getD i false = true) → Q .normal a w) :
  ∀ (fuel : Nat) (listed : Array Bool) (a : Act) (w : World), unl ops.length listed ≤ fuel → InvG Γ ops env0 Hf Lf ss fl xs listed a w → wpAny P .any ops.toArray Q fuel listed a w := by
 have hall : ∀ (listed : Array Bool) (a : Act) (w : World), InvG Γ ops env0 Hf Lf ss fl xs listed a w → Region.ready .any ops.toArray listed = [] → ∀ i, i < ops.length → listed.getD i false = true := fun listed a w hI hr i => by
  have hreg1 : regGo Γ.N ops ops 0 = true := by
   unfold regOk at hreg
   simp only [Bool.and_eq_true] at hreg
   exact hreg.1
  induction i using Nat.strongRecOn with
  | ind i ih =>
   intro hi
   cases hq : listed.getD i false with
   | true => rfl
   | false =>
    exfalso
    have ho : ops[i]? = some ops[i] := List.getElem?_eq_getElem hi
    have hR := regGo_get hreg1 i _ ho
    rw [Nat.zero_add] at hR
    have hs : i < listed.size := by rw [hI.size]; exact hi
    have : i ∈ Region.ready .any ops.toArray listed := mem_ready.2 ⟨by simp [Array.getD, hs] at hq ⊢; exact hq, ops[i], by simp [hi], fun e he hb => by
     have hm : e.on ∈ aft ops[i] := by
      unfold aft
      simp only [List.mem_filterMap]
      exact ⟨e, by simpa using he, by rw [hb]⟩
     have hlt := hR.lt _ hm
     exact ih e.on hlt (by omega)⟩
    rw [hr] at this
    cases this
 intro fuel
 induction fuel with
 | zero =>
  intro listed a w hf hI
  have hall' : ∀ i, i < ops.length → listed.getD i false = true := fun i hi => by
   cases hq : listed.getD i false with
   | true => rfl
   | false =>
    exfalso
    have := unl_lt hi hI.size hq
    omega
  refine ⟨?_, hend _ _ _ hI hall'⟩
  apply List.eq_nil_iff_forall_not_mem.2
  intro i hi
  obtain ⟨hun, o, ho, _⟩ := mem_ready.1 hi
  have hil : i < ops.length := (List.getElem?_eq_some_iff.1 (show ops[i]? = some o by simpa using ho)).1
  have h1 := hall' i hil
  have hs : i < listed.size := by rw [hI.size]; exact hil
  simp [Array.getD, hs] at hun h1
  rw [hun] at h1
  cases h1
 | succ fuel ih =>
  intro listed a w hf hI
  refine ⟨fun hr => hend _ _ _ hI (hall _ _ _ hI hr), fun i hi => reg_stepG hreg hobl hI hi fun a' w' hI' => ?_⟩
  obtain ⟨hun, o, ho, _⟩ := mem_ready.1 hi
  have hil : i < ops.length := (List.getElem?_eq_some_iff.1 (show ops[i]? = some o by simpa using ho)).1
  have hs : i < listed.size := by rw [hI.size]; exact hil
  have hq : listed.getD i false = false := by simp [Array.getD, hs] at hun ⊢; exact hun
  have := unl_lt hil hI.size hq
  exact ih _ _ _ (by omega) hI'
theorem ObGF_prefix {N : Nat} {xs ys : List TV} {i : Nat} {o : Oper} {x : TV} (hR : RegI N ops i o) (hl : i ≤ xs.length) (h : ObGF P ops env0 Hf Lf ss fl i o xs x) : ObGF P ops env0 Hf Lf ss fl i o (xs ++ ys) x := by
 unfold ObGF ObG at h ⊢
 rw [RdE_prefix hR hl]
 exact h
theorem tele_allG {N : Nat} {K : List TV → Prop} (hreg : regGo N ops ops 0 = true) : ∀ {rest : List Oper} {i : Nat} {xs : List TV}, (∀ k, rest[k]? = ops[i + k]?) → i + rest.length = ops.length → xs.length = i → (∀ (j : Nat) o, j < i → ops[j]? = some o → ObGF P ops env0 Hf Lf ss fl j o xs (xs.getD j (.p .top))) →
  TelG P ops env0 Hf Lf ss fl K rest i xs → ∃ ys, ys.length = ops.length ∧ (∀ (j : Nat) o, ops[j]? = some o → ObGF P ops env0 Hf Lf ss fl j o ys (ys.getD j (.p .top))) ∧ K ys
 | [], i, xs, hr, hn, hl, hall, h => by
  simp at hn
  refine ⟨xs, by omega, fun j o ho => hall j o ?_ ho, h⟩
  have := (List.getElem?_eq_some_iff.1 ho).1
  omega
 | o :: rest, i, xs, hr, hn, hl, hall, h => by
  obtain ⟨x, h1, h2⟩ := h
  have ho : ops[i]? = some o := by have := hr 0; simpa using this.symm
  have hR := regGo_get hreg i o ho
  rw [Nat.zero_add] at hR
  refine tele_allG hreg (fun k => ?_) (by simp at hn; omega) (by simp [hl]) (fun j o' hj ho' => ?_) h2
  ·have := hr (k + 1)
   rw [show i + 1 + k = i + (k + 1) by omega]
   simpa using this
  ·by_cases e : j = i
   ·subst e
    rw [ho] at ho'
    obtain rfl := Option.some.inj ho'
    have hx : (xs ++ [x]).getD j (.p .top) = x := by simp [List.getD, hl]
    rw [hx]
    exact ObGF_prefix hR (by omega) h1
   ·have hR' := regGo_get hreg j o' ho'
    rw [Nat.zero_add] at hR'
    have hji : j < i := by omega
    have hx : (xs ++ [x]).getD j (.p .top) = xs.getD j (.p .top) := getD_append_left (by omega)
    rw [hx]
    have h3 := hall j o' hji ho'
    exact ObGF_prefix hR' (by omega) h3
theorem J_drawFl (fl : Nat) (Hf : Nat → List AObj) (Lf : Bool → Nat → List AObj) (ss : List Nat) {id : Nat} {L : List AObj} {ops : List Oper} (hm : P.follows .mixedOrders = true) (hreg : regOk Γ.N ops ss = true) (hfl : Nat.blt fl ops.length = true) (hH : Hf 0 = H) (hL : Lf false 0 = L)
  (h : TelG P ops env0 Hf Lf ss fl (fun xs => J Γ (finE ops xs env0) (Hf ss.length) (Lf true ss.length) (Q .normal)) ops 0 []) : J Γ env0 H L ((Code.region id ops.toArray true).wp P Q) := by
 subst hL hH
 intro a w β s
 have hreg1 : regGo Γ.N ops ops 0 = true := by
  unfold regOk at hreg
  simp only [Bool.and_eq_true] at hreg
  exact hreg.1
 obtain ⟨xs, hxl, hobl, hk⟩ := tele_allG hreg1 (rest := ops) (i := 0) (xs := []) (fun k => by rw [Nat.zero_add]) (by simp) rfl (fun j o hj => by omega) h
 refine wp_region_any hm ?_
 have hdrew : Step w β ⟨Hf 0, Lf false 0, Γ.F⟩ w.drew β ⟨Hf 0, Lf false 0, Γ.F⟩ ∧ Sim w.drew β ⟨Hf 0, Lf false 0, Γ.F⟩ := step_same s.sim rfl rfl rfl rfl
 refine wpAny_regG (Γ := Γ) (xs := xs) hreg hobl (fun listed a' w' hI hall => ?_) _ _ a w.drew ?_ ⟨by simp, fun i o _ hl => ?_, ⟨0, β, Nat.zero_le _, fun p q hq => ?_, by rw [rep_false]; exact hdrew.2, by rw [rep_false]; exact s.step.trans hdrew.1, fun t => ?_⟩, s.size, s.defers⟩
 ·obtain ⟨k, β', hkk, hkl, hS, hst, hrep⟩ := hI.st
  have hke : k = ss.length := by
   rcases Nat.lt_or_eq_of_le hkk with h | h
   ·exfalso
    have hq : ss[k]? = some ss[k] := List.getElem?_eq_getElem h
    have hlt : ss[k] < ops.length := by
     unfold regOk at hreg
     simp only [Bool.and_eq_true] at hreg
     exact (chain_get hreg.2 k _ hq).1
    have := (hkl k _ hq).1 (hall _ hlt)
    omega
   ·exact h
  subst hke
  rw [hall fl (by simpa using hfl)] at hS hst hrep
  refine hk a' w' β' ⟨hS, hst, fun t => ?_, hI.tmps, hI.defers⟩
  have hv := hrep t
  rw [finE_lk hxl.symm fun i j o o' hi hj hd hd' => by
   have h1 := ((regGo_get hreg1 i o hi).dst t hd).2
   have h2 := ((regGo_get hreg1 j o' hj).dst t hd').2
   rw [h1] at h2
   have := Option.some.inj h2
   omega]
  unfold valR at hv
  cases hw : wrGo ops 0 t with
  | none => rw [hw] at hv; exact hv
  | some j =>
   rw [hw] at hv
   obtain ⟨_, o2, h2, _⟩ := wrGo_spec hw
   simp only at hv ⊢
   rw [if_pos (hall j (by rw [Nat.sub_zero] at h2; exact (List.getElem?_eq_some_iff.1 h2).1))] at hv
   exact hv
 ·unfold unl
  exact Nat.le_trans (List.length_filter_le _ _) (by simp)
 ·have h0 : (Array.replicate ops.toArray.size false).getD i false = false := rep_false _ _
  rw [h0] at hl; cases hl
 ·have h0 : (Array.replicate ops.toArray.size false).getD q false = false := rep_false _ _
  rw [h0]
  simp
 ·have hv : valR ops env0 xs (Array.replicate ops.toArray.size false) t = lk env0 t := by
   unfold valR
   cases hw : wrGo ops 0 t with
   | none => rfl
   | some j =>
    have h0 : (Array.replicate ops.toArray.size false).getD j false = false := rep_false _ _
    simp only [h0, Bool.false_eq_true, if_false]
  rw [hv, rep_false]
  exact (s.env t).mono hdrew.1
end
section
variable {P : Program} {ops : List Oper} {env0 : Env} {Hs Ls Lt : List (List AObj)} {ss : List Nat} {fl : Nat} {xs : List TV}
def LfB (Ls Lt : List (List AObj)) : Bool → Nat → List AObj
 | false, k => Ls.getD k []
 | true, k => Lt.getD k []
theorem G_nil {Hf : Nat → List AObj} {Lf : Bool → Nat → List AObj} {K : List TV → Prop} {i : Nat} (h : K xs) : TelG P ops env0 Hf Lf ss fl K [] i xs := h
theorem G_op {K : List TV → Prop} {o : Oper} {rest : List Oper} {i k : Nat} {x : TV} {H L : List AObj} (hg : o.guard = none) (hi : Nat.beq i fl = false) (hp : posn ss 0 i = none) (hk : loK o ss 0 0 = k) (hk2 : Nat.beq (hiK ops i ss 0 - k) 0 = true) (hf : nmem (aft o) fl = true) (hH : Hs.getD k [] = H) (hL : Lt.getD k [] = L)
  (h : OpR P o (RdE ops env0 xs o) H L x H L) {xs' : List TV} (hxs : snocD xs x = some xs') (kk : TelG P ops env0 (fun k => Hs.getD k []) (LfB Ls Lt) ss fl K rest (i + 1) xs') : TelG P ops env0 (fun k => Hs.getD k []) (LfB Ls Lt) ss fl K (o :: rest) i xs :=
 ⟨x, ⟨fun g b hgb => (by rw [hg] at hgb; cases hgb), by
  subst hH hL
  unfold ObG
  rw [hi, hp]
  simp only
  rw [hk, Nat.eq_of_beq_eq_true hk2]
  exact ⟨h, .inl hf⟩⟩, by rw [snocN_eq (snocD_eq hxs)]; exact kk⟩
theorem G_opB {K : List TV → Prop} {o : Oper} {rest : List Oper} {i k : Nat} {x : TV} {H L L2 : List AObj} (hg : o.guard = none) (hi : Nat.beq i fl = false) (hp : posn ss 0 i = none) (hk : loK o ss 0 0 = k) (hk2 : Nat.beq (hiK ops i ss 0 - k) 0 = true) (hH : Hs.getD k [] = H) (hL : Ls.getD k [] = L) (hL2 : Lt.getD k [] = L2)
  (h : OpR P o (RdE ops env0 xs o) H L x H L) (h2 : OpR P o (RdE ops env0 xs o) H L2 x H L2) {xs' : List TV} (hxs : snocD xs x = some xs') (kk : TelG P ops env0 (fun k => Hs.getD k []) (LfB Ls Lt) ss fl K rest (i + 1) xs') : TelG P ops env0 (fun k => Hs.getD k []) (LfB Ls Lt) ss fl K (o :: rest) i xs :=
 ⟨x, ⟨fun g b hgb => (by rw [hg] at hgb; cases hgb), by
  subst hH hL hL2
  unfold ObG
  rw [hi, hp]
  simp only
  rw [hk, Nat.eq_of_beq_eq_true hk2]
  exact ⟨h2, .inr h⟩⟩, by rw [snocN_eq (snocD_eq hxs)]; exact kk⟩
theorem G_stB {K : List TV → Prop} {o : Oper} {rest : List Oper} {i q : Nat} {x : TV} {H L L2 H' L' L2' : List AObj} (hg : o.guard = none) (hi : Nat.beq i fl = false) (hp : posn ss 0 i = some q) (hH : Hs.getD q [] = H) (hL : Ls.getD q [] = L) (hL2 : Lt.getD q [] = L2) (hH' : Hs.getD (q + 1) [] = H') (hL' : Ls.getD (q + 1) [] = L') (hL2' : Lt.getD (q + 1) [] = L2')
  (h : OpR P o (RdE ops env0 xs o) H L x H' L') (h2 : OpR P o (RdE ops env0 xs o) H L2 x H' L2') {xs' : List TV} (hxs : snocD xs x = some xs') (kk : TelG P ops env0 (fun k => Hs.getD k []) (LfB Ls Lt) ss fl K rest (i + 1) xs') : TelG P ops env0 (fun k => Hs.getD k []) (LfB Ls Lt) ss fl K (o :: rest) i xs :=
 ⟨x, ⟨fun g b hgb => (by rw [hg] at hgb; cases hgb), by
  subst hH hL hL2 hH' hL' hL2'
  unfold ObG
  rw [hi, hp]
  exact ⟨h2, .inr h⟩⟩, by rw [snocN_eq (snocD_eq hxs)]; exact kk⟩
theorem G_st {K : List TV → Prop} {o : Oper} {rest : List Oper} {i q : Nat} {x : TV} {H L H' L' : List AObj} (hg : o.guard = none) (hi : Nat.beq i fl = false) (hp : posn ss 0 i = some q) (hf : nmem (aft o) fl = true) (hH : Hs.getD q [] = H) (hL : Lt.getD q [] = L) (hH' : Hs.getD (q + 1) [] = H') (hL' : Lt.getD (q + 1) [] = L')
  (h : OpR P o (RdE ops env0 xs o) H L x H' L') {xs' : List TV} (hxs : snocD xs x = some xs') (kk : TelG P ops env0 (fun k => Hs.getD k []) (LfB Ls Lt) ss fl K rest (i + 1) xs') : TelG P ops env0 (fun k => Hs.getD k []) (LfB Ls Lt) ss fl K (o :: rest) i xs :=
 ⟨x, ⟨fun g b hgb => (by rw [hg] at hgb; cases hgb), by
  subst hH hL hH' hL'
  unfold ObG
  rw [hi, hp]
  exact ⟨h, .inl hf⟩⟩, by rw [snocN_eq (snocD_eq hxs)]; exact kk⟩
theorem G_fl {K : List TV → Prop} {o : Oper} {rest : List Oper} {i k : Nat} {x : TV} {H L L' H2 L2 L2' : List AObj} (hg : o.guard = none) (hi : Nat.beq i fl = true) (hp : posn ss 0 i = none) (hk : loK o ss 0 0 = k) (hk2 : Nat.beq (hiK ops i ss 0 - k) 1 = true) (hH : Hs.getD k [] = H) (hL : Ls.getD k [] = L) (hL' : Lt.getD k [] = L') (hH2 : Hs.getD (k + 1) [] = H2) (hL2 : Ls.getD (k + 1) [] = L2) (hL2' : Lt.getD (k + 1) [] = L2')
  (h : OpR P o (RdE ops env0 xs o) H L x H L') (h2 : OpR P o (RdE ops env0 xs o) H2 L2 x H2 L2') {xs' : List TV} (hxs : snocD xs x = some xs') (kk : TelG P ops env0 (fun k => Hs.getD k []) (LfB Ls Lt) ss fl K rest (i + 1) xs') : TelG P ops env0 (fun k => Hs.getD k []) (LfB Ls Lt) ss fl K (o :: rest) i xs :=
 ⟨x, ⟨fun g b hgb => (by rw [hg] at hgb; cases hgb), by
  subst hH hL hL' hH2 hL2 hL2'
  unfold ObG
  rw [hi]
  refine ⟨hp, ?_⟩
  rw [hk, Nat.eq_of_beq_eq_true hk2]
  exact ⟨h, h2⟩⟩, by rw [snocN_eq (snocD_eq hxs)]; exact kk⟩
theorem G_opB2 {K : List TV → Prop} {o : Oper} {rest : List Oper} {i k : Nat} {x : TV} {H H2 L L2 M M2 : List AObj} (hg : o.guard = none) (hi : Nat.beq i fl = false) (hp : posn ss 0 i = none) (hk : loK o ss 0 0 = k) (hk2 : Nat.beq (hiK ops i ss 0 - k) 1 = true) (hH : Hs.getD k [] = H) (hL : Ls.getD k [] = L) (hM : Lt.getD k [] = M) (hH2 : Hs.getD (k + 1) [] = H2) (hL2 : Ls.getD (k + 1) [] = L2) (hM2 : Lt.getD (k + 1) [] = M2)
  (h : OpR P o (RdE ops env0 xs o) H L x H L) (h1 : OpR P o (RdE ops env0 xs o) H M x H M) (h2 : OpR P o (RdE ops env0 xs o) H2 L2 x H2 L2) (h3 : OpR P o (RdE ops env0 xs o) H2 M2 x H2 M2) {xs' : List TV} (hxs : snocD xs x = some xs') (kk : TelG P ops env0 (fun k => Hs.getD k []) (LfB Ls Lt) ss fl K rest (i + 1) xs') : TelG P ops env0 (fun k => Hs.getD k []) (LfB Ls Lt) ss fl K (o :: rest) i xs :=
 ⟨x, ⟨fun g b hgb => (by rw [hg] at hgb; cases hgb), by
  subst hH hL hM hH2 hL2 hM2
  unfold ObG
  rw [hi, hp]
  simp only
  rw [hk, Nat.eq_of_beq_eq_true hk2]
  exact ⟨⟨h1, .inr h⟩, ⟨h3, .inr h2⟩⟩⟩, by rw [snocN_eq (snocD_eq hxs)]; exact kk⟩
theorem G_op2 {K : List TV → Prop} {o : Oper} {rest : List Oper} {i k : Nat} {x : TV} {H H2 M M2 : List AObj} (hg : o.guard = none) (hi : Nat.beq i fl = false) (hp : posn ss 0 i = none) (hk : loK o ss 0 0 = k) (hk2 : Nat.beq (hiK ops i ss 0 - k) 1 = true) (hf : nmem (aft o) fl = true) (hH : Hs.getD k [] = H) (hM : Lt.getD k [] = M) (hH2 : Hs.getD (k + 1) [] = H2) (hM2 : Lt.getD (k + 1) [] = M2)
  (h1 : OpR P o (RdE ops env0 xs o) H M x H M) (h3 : OpR P o (RdE ops env0 xs o) H2 M2 x H2 M2) {xs' : List TV} (hxs : snocD xs x = some xs') (kk : TelG P ops env0 (fun k => Hs.getD k []) (LfB Ls Lt) ss fl K rest (i + 1) xs') : TelG P ops env0 (fun k => Hs.getD k []) (LfB Ls Lt) ss fl K (o :: rest) i xs :=
 ⟨x, ⟨fun g b hgb => (by rw [hg] at hgb; cases hgb), by
  subst hH hM hH2 hM2
  unfold ObG
  rw [hi, hp]
  simp only
  rw [hk, Nat.eq_of_beq_eq_true hk2]
  exact ⟨⟨h1, .inl hf⟩, ⟨h3, .inl hf⟩⟩⟩, by rw [snocN_eq (snocD_eq hxs)]; exact kk⟩
theorem G_opB3 {K : List TV → Prop} {o : Oper} {rest : List Oper} {i k : Nat} {x : TV} {H H2 H3 L L2 L3 M M2 M3 : List AObj} (hg : o.guard = none) (hi : Nat.beq i fl = false) (hp : posn ss 0 i = none) (hk : loK o ss 0 0 = k) (hk2 : Nat.beq (hiK ops i ss 0 - k) 2 = true) (hH : Hs.getD k [] = H) (hL : Ls.getD k [] = L) (hM : Lt.getD k [] = M) (hH2 : Hs.getD (k + 1) [] = H2) (hL2 : Ls.getD (k + 1) [] = L2) (hM2 : Lt.getD (k + 1) [] = M2) (hH3 : Hs.getD (k + 2) [] = H3) (hL3 : Ls.getD (k + 2) [] = L3) (hM3 : Lt.getD (k + 2) [] = M3)
  (h : OpR P o (RdE ops env0 xs o) H L x H L) (h1 : OpR P o (RdE ops env0 xs o) H M x H M) (h2 : OpR P o (RdE ops env0 xs o) H2 L2 x H2 L2) (h3 : OpR P o (RdE ops env0 xs o) H2 M2 x H2 M2) (h4 : OpR P o (RdE ops env0 xs o) H3 L3 x H3 L3) (h5 : OpR P o (RdE ops env0 xs o) H3 M3 x H3 M3) {xs' : List TV} (hxs : snocD xs x = some xs') (kk : TelG P ops env0 (fun k => Hs.getD k []) (LfB Ls Lt) ss fl K rest (i + 1) xs') : TelG P ops env0 (fun k => Hs.getD k []) (LfB Ls Lt) ss fl K (o :: rest) i xs :=
 ⟨x, ⟨fun g b hgb => (by rw [hg] at hgb; cases hgb), by
  subst hH hL hM hH2 hL2 hM2 hH3 hL3 hM3
  unfold ObG
  rw [hi, hp]
  simp only
  rw [hk, Nat.eq_of_beq_eq_true hk2]
  exact ⟨⟨h1, .inr h⟩, ⟨h3, .inr h2⟩, ⟨h5, .inr h4⟩⟩⟩, by rw [snocN_eq (snocD_eq hxs)]; exact kk⟩
theorem G_gate {Hf : Nat → List AObj} {Lf : Bool → Nat → List AObj} {K : List TV → Prop} {d : Option Nat} {op : Op} {t : TypeId} {pos : String} {af : Array Edge} {rest : List Oper} {i : Nat} (h : TelG P ops env0 Hf Lf ss fl K ({ dst := d, op := op, type := t, pos := pos, after := af, guard := none } :: rest) i xs) : TelG P ops env0 Hf Lf ss fl K ({ dst := d, op := op, type := t, pos := pos, after := af, guard := none } :: rest) i xs := h
theorem J_drawFl2 {Γ : Ctx} {H L : List AObj} {Q : Exit → Act → World → Prop} {id : Nat} (fl n m : Nat) (H2 : List AObj) (Lz Lx : List AObj) (hm : P.follows .mixedOrders = true) (hreg : regOk Γ.N ops [n, m] = true) (hfl : Nat.blt fl ops.length = true)
  (h : TelG P ops env0 (fun k => [H, H2, H2].getD k []) (LfB [L, L, L] [Lz, Lz, Lx]) [n, m] fl (fun xs => J Γ (finE ops xs env0) H2 Lx (Q .normal)) ops 0 []) : J Γ env0 H L ((Code.region id ops.toArray true).wp P Q) :=
 J_drawFl fl _ _ [n, m] hm hreg hfl rfl rfl h
end
theorem gdG {φ ψ : Prop} (k : ψ) (h : ψ → φ := by
 intro k
 repeat (first
  | with_reducible refine G_nil ?_
  | ((with_reducible refine G_gate ?_); first | refine G_op rfl rfl rfl rfl rfl rfl rfl rfl (stepN_ok hT rfl) rfl ?_ | refine G_op rfl rfl rfl rfl rfl rfl rfl rfl (stepG_ok hT rfl) rfl ?_ | refine G_op rfl rfl rfl rfl rfl rfl rfl rfl (stepA_ok hT rfl) rfl ?_ | refine G_opB rfl rfl rfl rfl rfl rfl rfl rfl (stepN_ok hT rfl) (stepN_ok hT rfl) rfl ?_ | refine G_opB rfl rfl rfl rfl rfl rfl rfl rfl (stepG_ok hT rfl) (stepG_ok hT rfl) rfl ?_ | refine G_opB rfl rfl rfl rfl rfl rfl rfl rfl (stepA_ok hT rfl) (stepA_ok hT rfl) rfl ?_ | refine G_op2 rfl rfl rfl rfl rfl rfl rfl rfl rfl rfl (stepN_ok hT rfl) (stepN_ok hT rfl) rfl ?_ | refine G_op2 rfl rfl rfl rfl rfl rfl rfl rfl rfl rfl (stepG_ok hT rfl) (stepG_ok hT rfl) rfl ?_ | refine G_op2 rfl rfl rfl rfl rfl rfl rfl rfl rfl rfl (stepA_ok hT rfl) (stepA_ok hT rfl) rfl ?_ | refine G_opB2 rfl rfl rfl rfl rfl rfl rfl rfl rfl rfl rfl (stepN_ok hT rfl) (stepN_ok hT rfl) (stepN_ok hT rfl) (stepN_ok hT rfl) rfl ?_ | refine G_opB2 rfl rfl rfl rfl rfl rfl rfl rfl rfl rfl rfl (stepG_ok hT rfl) (stepG_ok hT rfl) (stepG_ok hT rfl) (stepG_ok hT rfl) rfl ?_ | refine G_opB2 rfl rfl rfl rfl rfl rfl rfl rfl rfl rfl rfl (stepA_ok hT rfl) (stepA_ok hT rfl) (stepA_ok hT rfl) (stepA_ok hT rfl) rfl ?_ | refine G_opB3 rfl rfl rfl rfl rfl rfl rfl rfl rfl rfl rfl rfl rfl rfl (stepN_ok hT rfl) (stepN_ok hT rfl) (stepN_ok hT rfl) (stepN_ok hT rfl) (stepN_ok hT rfl) (stepN_ok hT rfl) rfl ?_ | refine G_fl rfl rfl rfl rfl rfl rfl rfl rfl rfl rfl rfl (stepN_ok hT rfl) (stepN_ok hT rfl) rfl ?_ | refine G_st rfl rfl rfl rfl rfl rfl rfl rfl (stepN_ok hT rfl) rfl ?_))
 exact k) : φ := h k
end Go.Proofs.YtdkegmmigongoaaGreatDoor

import Derived.Test.YtdnpkgakpiopgaaGreatDoorGo
import Derived.Test.YtdnpkgakpiopgaaGreatDoorM29
import Derived.Test.YtdnpkgakpiopgaaGreatDoorM8
import Derived.Test.YtdnpkgakpiopgaaGreatDoorM27
namespace Go.Proofs.YtdnpkgakpiopgaaGreatDoor
set_option maxRecDepth 20000
open Go.Awp Tr
theorem D18.of {s s' : VS} {m m' : MF} {i : Nat} (h : D18 s m i) (hi : i ≤ 100) (k : Int) (p : List UInt8) (j : Int) (hj : j = 2 + i) (hf : (doT s m k p [] j).1.2.2 = false) (hs : (doT s m k p [] j).2 = s') (hm : (doT s m k p [] j).1.2.1 = m') : D18 s' m' (i + 1) := by
 rcases h.step hi k p [] j hj with q | ⟨_, _, q⟩
 ·rw [hf] at q; cases q
 ·rwa [hs, hm] at q
theorem bs_ps {a : AV} {l : List UInt8} (h : Bs a l) : AVLe a (.ps (bv l)) := by
 cases h with
 | ps => exact AVLe.refl _
 | nils => exact zFy
 | cz => exact cz_ps
def cuF : List FOp → Nat → Nat → Nat
 | [], i, _ => i
 | o :: r, i, n => if 60 ≤ i ∨ 20000 < n + min o.b.length 9000 then i else cuF r (i + 1) (n + min o.b.length 9000)
structure CuI (l : List FOp) where
 i : Nat
 n : Nat
 h : i ≤ l.length
 hn : n ≤ 9000 * i
 h6 : i ≤ 60
 e : cuF (l.drop i) i n = cuF l 0 0
structure D19 (s : VS) (m : MF) (i : Nat) : Prop where
 v : VJ s (600 + 150 * i)
 r : ∃ par, Rel s.shown.row m par
 w : m.wk 30
 f : ∀ j, j = 3 ∨ j = 4 → ∃ x, m.file j = some x
 d : m.file 2 = none
theorem D19.u {s : VS} {m : MF} {i : Nat} (h : D19 s m i) : m.length ≤ 100000 ∧ ∀ x ∈ m, x.b.length ≤ 4096 := by
 obtain ⟨par, R⟩ := h.r
 refine ⟨by have := h.w.l; omega, fun x hx => ?_⟩
 have hat := R.fst x hx
 rcases R.kin _ _ hat with q | q
 ·rw [q.2]; exact Nat.zero_le _
 ·exact (R.bl hat q.1).1
theorem zLr {m : MF} {i : Int} {x : MN} (hx : m.file i = some x) (b : List UInt8) (j : Int) : (m.with { x with b := b }).file j = if j = i then some { x with b := b } else m.file j := by
 obtain ⟨h1, h2⟩ := jX hx
 have hi := (yY h1).2
 unfold MF.file
 rw [yV]
 dsimp only
 rw [hi]
 by_cases e : j = i
 ·rw [if_pos e, if_pos e]; exact if_pos h2
 ·rw [if_neg e, if_neg e]
structure KpF (m m' : MF) : Prop where
 w : ∀ c, m.wk c → m'.wk c
 f : ∀ j, (∃ x, m.file j = some x) → ∃ x, m'.file j = some x
 n : ∀ j, m.file j = none → m'.file j = none
theorem KpF.refl (m : MF) : KpF m m := ⟨fun _ h => h, fun _ h => h, fun _ h => h⟩
theorem KpF.data {m : MF} {i : Int} {x : MN} (hx : m.file i = some x) (b : List UInt8) : KpF m (m.with { x with b := b }) :=
 ⟨fun c h => zMl h (jX hx).1 b, fun j ⟨y, hy⟩ => by
  rw [zLr hx]
  split
  ·exact ⟨_, rfl⟩
  ·exact ⟨y, hy⟩, fun j hj => by
  rw [zLr hx, if_neg]
  ·exact hj
  ·rintro rfl; rw [hx] at hj; cases hj⟩
theorem zU4 (m : MF) (i o : Int) (b : List UInt8) : KpF m (m.fwrite i o b).2 := by
 unfold MF.fwrite
 cases hx : m.file i with
 | none => exact KpF.refl m
 | some x =>
  dsimp only
  split
  ·exact KpF.refl m
  split
  ·exact KpF.refl m
  split
  ·exact KpF.refl m
  ·exact KpF.data hx _
theorem zUy (m : MF) (i z : Int) : KpF m (m.ftrunc i z).2 := by
 unfold MF.ftrunc
 cases hx : m.file i with
 | none => exact KpF.refl m
 | some x =>
  dsimp only
  split
  ·exact KpF.refl m
  split
  ·exact KpF.refl m
  ·exact KpF.data hx _
theorem D19.step {s : VS} {m : MF} {i : Nat} (h : D19 s m i) (o : FOp) (ho : o.ok) :
  (doT19 s m o).1.2.2 = true ∨ ((doT19 s m o).1.1 = true ∧ (doT19 s m o).1.2.2 = false ∧ D19 (doT19 s m o).2 (doT19 s m o).1.2.1 (i + 1)) := by
 obtain ⟨par, R⟩ := h.r
 unfold doT19
 by_cases h0 : o.kind = 0
 ·rw [if_pos h0]
  obtain ⟨e1, e2⟩ := zL6 h.v R ho.u o.from_ o.n
  refine .inr ⟨?_, rfl, ?_⟩
  ·dsimp only; rw [e1]; simp
  ·dsimp only
   rw [e2]
   exact ⟨(h.v.rd _).mono (by omega), ⟨par, R⟩, h.w, h.f, h.d⟩
 rw [if_neg h0]
 have key : ∀ (q : Int × VS) (r : Int × MF), (q.1 = 21 ∨ (q.1 = r.1 ∧ Rel q.2.shown.row r.2 par)) → VJ q.2 (600 + 150 * i + 100) → KpF m r.2 →
   (if q.1 = 21 then ((true, m, true), q.2) else ((decide (q.1 = r.1), r.2, false), q.2)).1.2.2 = true ∨ ((if q.1 = 21 then ((true, m, true), q.2) else ((decide (q.1 = r.1), r.2, false), q.2)).1.1 = true ∧ (if q.1 = 21 then ((true, m, true), q.2) else ((decide (q.1 = r.1), r.2, false), q.2)).1.2.2 = false ∧ D19 (if q.1 = 21 then ((true, m, true), q.2) else ((decide (q.1 = r.1), r.2, false), q.2)).2 (if q.1 = 21 then ((true, m, true), q.2) else ((decide (q.1 = r.1), r.2, false), q.2)).1.2.1 (i + 1)) := by
  intro q r h1 h2 h3
  by_cases e : q.1 = 21
  ·rw [if_pos e]; exact .inl rfl
  ·rw [if_neg e]
   obtain ⟨h5, h6⟩ := h1.resolve_left e
   exact .inr ⟨decide_eq_true h5, rfl, h2.mono (by omega), ⟨par, h6⟩, h3.w _ h.w, fun j hj => h3.f j (h.f j hj), h3.n _ h.d⟩
 by_cases h1 : o.kind = 1
 ·have e : do19 s m o = (s.fwrite o.ino o.from_ o.b, m.fwrite o.ino o.from_ o.b) := by unfold do19; rw [if_pos h1]
  rw [e]
  exact key _ _ (zIa h.v R ho.u o.from_ o.b) ((zGg h.v o.ino o.from_ o.b).mono (by omega)) (zU4 m _ _ _)
 by_cases h2 : o.kind = 2
 ·have e : do19 s m o = (s.ftrunc o.ino o.n, m.ftrunc o.ino o.n) := by unfold do19; rw [if_neg h1, if_pos h2]
  rw [e]
  exact key _ _ (zIe h.v R ho.u o.n) ((zL0 h.v o.ino o.n).mono (by omega)) (zUy m _ _)
 have e : do19 s m o = ((0, s), (0, m)) := by unfold do19; rw [if_neg h1, if_neg h2]
 rw [e]
 exact key (0, s) (0, m) (.inr ⟨rfl, R⟩) (h.v.mono (by omega)) (KpF.refl m)
theorem D19.based {s : VS} {m : MF} {i : Nat} (h : D19 s m i) : D19 (VS.new (basedT s)) m i ∧ (basedT s).row = s.shown.row := by
 obtain ⟨par, R⟩ := h.r
 obtain ⟨e1, e2⟩ := zGj h.v R.ff
 refine ⟨⟨VJ.new (by rw [e2]; exact h.v.rs) (by rw [← yN, e2, yN]; exact h.v.zs) (by rw [e2]; exact h.v.val), ⟨par, ?_⟩, h.w, h.f, h.d⟩, e2⟩
 show Rel (basedT s).row m par
 rw [e2]; exact R
end Go.Proofs.YtdnpkgakpiopgaaGreatDoor
namespace Go.Proofs.YtdnpkgakpiopgaaGreatDoor
set_option maxRecDepth 20000
open Go.Awp Go.RowKit
section
variable {P : Program} {T : Tab} {Γ : Ctx} {env : Env} {H L : List AObj} {o : Oper} {x : TV} {Q : Exit → Act → World → Prop} {ops : Array Oper} {rest : List Oper}
theorem zM6 {β : Hd → Nat} {F : Nat → Prop} {h : Hd} (b : Nat) (hb : Free β ⟨H, L, F⟩ b) : Free (lendSβ β []) ⟨[], [], lendSF β ⟨H, L, F⟩ [h]⟩ b := by
 refine ⟨fun hf => ?_, fun k hk => ?_⟩
 ·rcases hf with hf | ⟨k, hk, _, he⟩
  ·exact hb.1 hf
  ·exact hb.2 k hk he
 ·obtain ⟨q, hq, _⟩ := hk
  cases k <;> simp [Hp.get] at hq
theorem zBe {k : Hd} {F : Nat → Prop} (h : (⟨[], [], F⟩ : Hp).live k) : False := by
 obtain ⟨q, hq, _⟩ := h
 cases k <;> simp [Hp.get] at hq
theorem zDx {o1 o2 : Oper} {d1 t n e i off f ty : Nat} {te : TyI} {fo y pt : Operand} {ts : Array TypeId} {cells : List TV} {rows : List AV} {z : AV} {k : IntKind} {m : Int} (hT : TabOk P T) (g1 : o1.guard = none) (g2 : o2.guard = none) (hd1 : o1.dst = some d1) (hlt : Nat.blt d1 Γ.N = true) (hd2 : dstOk Γ.N o2.dst = true)
  (ho : o1.op = .slice t pt none none none) (ho2 : o2.op = .call { callee := .value fo, args := #[.tmp d1, y], argTypes := ts }) (hd : tyD T t = .array n e) (hte : tlk T e = some te) (hsz : te.size = 1)
  (hp : evA env pt = .ad (.o i) off) (hi : H[i]? = some (.box ty cells)) (hrows : (cells.drop off).take n = rows.map .p) (hlen : rows.length = n) (hn : n ≠ 0) (hc : ∀ r ∈ rows, cellsOf r = [r])
  (hf : evA (putE env (some d1) (.p .top)) fo = .fn f []) (hy : evA (putE env (some d1) (.p .top)) y = .p z) (sp : Con P f [.p (.ps rows), .p z] [] (.p (.int k m)) [] [])
  (kk : J Γ (putE (putE env (some d1) (.p .top)) o2.dst (.p (.int k m))) H L (wpList P ops Q rest)) : J Γ env H L (wpList P ops Q (o1 :: o2 :: rest)) := by
 intro a w β s
 have hv := zL s.env pt
 rw [hp] at hv
 have hval := zAq hi hv
 obtain ⟨u, h3, h4⟩ := zV hT (t := t) (by rw [hd]; simp)
 rw [hd] at h4
 obtain rfl := jC h4
 obtain ⟨inf, ue, ok⟩ := hT.get hte
 have hrun1 : (execOp a.eval o1).run P w = .ok (.value (.slice (some ⟨β (.o i), off, none⟩) n n)) w := by
  simp only [execOp, ho, hval, Option.map_none]
  have h5 : P.underlying t = some (.array (P.arrayLen t) (P.elem t)) := by simp [Program.arrayLen, Program.elem, h3]
  have e1 : P.arrayLen t = n := by simp [Program.arrayLen, h3]
  have e2 : P.elem t = e := by simp [Program.elem, h3]
  have hq := run_sliceAt_array_all w t ⟨β (.o i), off, none⟩ h5
  rw [e1, e2, ok.run_size] at hq
  simp only [Sem.run_bind, hq, Result.andThen_ok, Sem.run_pure, slicedAt]
  rw [if_neg hn, hsz, Nat.zero_mul, Addr.add_lit]
  rfl
 unfold wpList
 rw [if_pos (by simp [Region.wanted, g1])]
 refine .inl ?_
 unfold Oper.wp
 rw [hrun1]
 show wpList P ops Q (o2 :: rest) _ _
 unfold wpList
 rw [if_pos (by simp [Region.wanted, g2])]
 refine .inl ?_
 have st1 := s.next (d := some d1) (x := .p .top) (u := .slice (some ⟨β (.o i), off, none⟩) n n) (by simpa [dstOk] using hlt) s.sim (Step.refl ..) (.p (.top _))
 have hlt' : d1 < a.tmps.size := by rw [s.size]; simpa using hlt
 have hev : (a.put (some d1) (.slice (some ⟨β (.o i), off, none⟩) n n)).eval (.tmp d1) = .slice (some ⟨β (.o i), off, none⟩) n n := by
  simp [Act.eval, Act.put, Array.getD, hlt']
 rw [hd1]
 generalize a.put (some d1) (.slice (some ⟨β (.o i), off, none⟩) n n) = a1 at st1 hev
 have hfo := zL st1.env fo
 rw [hf] at hfo
 have hvs : a1.eval fo = .func (.func f) #[] #[] := by
  generalize a1.eval fo = v at hfo
  cases hfo with | fn _ _ vs hl hr =>
  have : vs = [] := List.eq_nil_of_length_eq_zero (by simpa using hl)
  subst this
  rfl
 have hyv := zL st1.env y
 rw [hy] at hyv
 have live : (⟨H, L, Γ.F⟩ : Hp).live (.o i) := ⟨_, hi, rfl⟩
 obtain ⟨arr, b1, b2, b3⟩ := s.sim.objs (.o i) _ hi
 have hblt := s.sim.lt live
 have hS0 : Sim w (lendSβ β []) ⟨[], [], lendSF β ⟨H, L, Γ.F⟩ [.o i]⟩ := by
  refine ⟨fun k q hq => ?_, fun k _ hk => (zBe hk).elim, fun q hq => by simp at hq, fun k hk => (zBe hk).elim, fun b hb => ?_⟩
  ·cases k <;> simp [Hp.get] at hq
  ·rcases hb with hb | ⟨k, hk, _, rfl⟩
   ·exact s.sim.flt b hb
   ·exact s.sim.lt hk
 have hmono : ∀ {x : AV} {v : Value}, RepT w β ⟨H, L, Γ.F⟩ (.p x) v → RepA w (Free (lendSβ β []) ⟨[], [], lendSF β ⟨H, L, Γ.F⟩ [.o i]⟩) x v := fun h => by
  cases h with | p h => exact h.mono (Nat.le_refl _) fun b _ hb => ⟨rfl, zM6 b hb⟩
 have hself : Free (lendSβ β []) ⟨[], [], lendSF β ⟨H, L, Γ.F⟩ [.o i]⟩ (β (.o i)) := by
  refine ⟨fun hf => ?_, fun k hk => (zBe hk).elim⟩
  rcases hf with hf | ⟨k, hk, hne, he⟩
  ·exact s.sim.disj _ live hf
  ·exact hne (by rw [s.sim.inj k (.o i) hk live he]; simp)
 have hcell : ∀ q r, rows[q]? = some r → ∃ v, arr[off + q]? = some v ∧ RepA w (Free (lendSβ β []) ⟨[], [], lendSF β ⟨H, L, Γ.F⟩ [.o i]⟩) r v := fun q r hr => by
  have h1 : (rows.map TV.p)[q]? = some (.p r) := by rw [List.getElem?_map, hr]; rfl
  rw [← hrows, List.getElem?_take] at h1
  split at h1
  ·rw [List.getElem?_drop] at h1
   obtain ⟨v, hv, hrep⟩ := b3 _ _ h1
   exact ⟨v, hv, hmono hrep⟩
  ·cases h1
 have hargs : RepL w (lendSβ β []) ⟨[], [], lendSF β ⟨H, L, Γ.F⟩ [.o i]⟩ [.p (.ps rows), .p z] [.slice (some ⟨β (.o i), off, none⟩) n n, a1.eval y] := by
  refine ⟨rfl, fun j x v hx hv => ?_⟩
  match j, hx, hv with
  | 0, hx, hv =>
   obtain rfl := Option.some.inj hx
   obtain rfl := Option.some.inj hv
   have := RepA.ps (w := w) (N := Free (lendSβ β []) ⟨[], [], lendSF β ⟨H, L, Γ.F⟩ [.o i]⟩) rows ⟨β (.o i), off, none⟩ n 1 (fun p q => arr.getD (off + (p * 1 + q)) undef) hself hblt
    (fun r hr => by rw [hc r hr]; rfl)
    (fun p q hp hq => by
     obtain ⟨v, hv, _⟩ := hcell p _ (List.getElem?_eq_getElem hp)
     obtain rfl : q = 0 := by omega
     rw [Addr.add_lit, cell_of_row _ _ _ _ _ _ b1]
     simp only [Nat.mul_one, Nat.add_zero, Array.getD_eq_getD_getElem?, hv, Option.getD_some])
    (fun p q r x hp hq => by
     obtain ⟨v, hv, hrep⟩ := hcell p r hp
     rw [hc r (List.mem_of_getElem? hp)] at hq
     have hq0 : q = 0 := by
      have := (List.getElem?_eq_some_iff.1 hq).1
      simpa using this
     subst hq0
     obtain rfl : r = x := by simpa using hq
     simp only [Nat.mul_one, Nat.add_zero, Array.getD_eq_getD_getElem?, hv, Option.getD_some]
     exact hrep) (by omega)
   rw [hlen] at this
   exact .p this
  | 1, hx, hv =>
   obtain rfl := Option.some.inj hx
   obtain rfl := Option.some.inj hv
   exact .p (hmono hyv)
  | j + 2, hx, _ => simp at hx
 have hcall := sp.run _ w _ _ hS0 hargs
 unfold Oper.wp execOp
 simp only [ho2, resolve, invoke, Deferred.ofValue, hvs, hev, Sem.run_bind, Sem.run_pure, Result.andThen_ok, List.map_toArray, List.map_cons, List.map_nil, Array.append_empty, Array.empty_append, zDy sp.can, Oper.upon]
 refine hcall.mono ?_
 rintro e' w' ⟨β1, v, rfl, hS1, hst, hr⟩
 have hsame : ∀ b, b < w.heap.size → w'.heap[b]? = w.heap[b]? := fun b hb => by
  by_cases hF : lendSF β ⟨H, L, Γ.F⟩ [.o i] b
  ·exact hst.fr b hF
  ·exact (hst.frame b hb ⟨hF, fun k hk => (zBe hk).elim⟩).1
 have hst2 : Step w β ⟨H, L, Γ.F⟩ w' β ⟨H, L, Γ.F⟩ := by
  refine ⟨hst.os, hst.tape, hst.output, hst.size, fun b hb hf => ⟨hsame b hb, hf⟩, fun b hb => hsame b (s.sim.flt b hb), rfl, fun h q hq => ⟨q, hq, ?_⟩⟩
  exact ObjGo.same fun hoff => hsame _ (s.sim.lt ⟨q, hq, hoff⟩)
 have hS2 : Sim w' β ⟨H, L, Γ.F⟩ := by
  refine ⟨fun h q hq => ?_, s.sim.inj, s.sim.ext, s.sim.disj, fun b hb => Nat.lt_of_lt_of_le (s.sim.flt b hb) hst.size⟩
  by_cases hoff : q.off = false
  ·exact (s.sim.objs h q hq).mono hst2 (hsame _ (s.sim.lt ⟨q, hq, hoff⟩))
  ·cases q with
   | dead => trivial
   | box => exact absurd rfl hoff
   | arr T a e rows => exact ⟨(s.sim.objs h _ hq).1, fun h => absurd h hoff⟩
   | raw => exact absurd rfl hoff
 have hv2 := hr.int_inv
 subst hv2
 exact kk _ _ _ (st1.next (d := o2.dst) hd2 hS2 hst2 (.p (.int ..)))
end
end Go.Proofs.YtdnpkgakpiopgaaGreatDoor

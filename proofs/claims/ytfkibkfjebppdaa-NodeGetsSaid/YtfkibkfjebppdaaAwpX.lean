/- A literal that is marked; what the library's marks do. No program is named here. -/
import Derived.Test.YtfkibkfjebppdaaAwpW
import Derived.Lib.SmallJoins
namespace Go.Awp
open Go.RowKit
section
variable {P : Program} {T : Tab} {Γ : Ctx} {env : Env} {H L : List AObj} {o : Oper} {x : TV} {Q : Exit → Act → World → Prop} {ops : Array Oper} {rest : List Oper}
theorem lit_core {t n e : Nat} {parts : List (Nat × Operand)} {cs : List TV} {rows ys : List AV} (hT : TabOk P T) (ho : o.op = .buildSlice t n parts.toArray) (hb : bsl T t n (evP env parts) = some (e, cs, rows)) (hu : unpL cs = some ys) (hn : noAgg ys = true)
    {F : Nat → Prop} {w : World} {β : Hd → Nat} {a : Act} (hS : Sim w β ⟨H, L, F⟩) (he : EnvR w β ⟨H, L, F⟩ env a) : ∃ out : Array Value, P.underlying t = some (.slice e) ∧ (execOp a.eval o).run P w = .ok (.value (.slice (some ⟨w.heap.size, 0, none⟩) n n)) (w.alloc (.cells out e)) ∧
      ∀ (w' : World) (fr : Nat × Nat), w'.heap[w.heap.size]? = some (.cells out e fr) → w.heap.size < w'.heap.size → Step w β ⟨H, L, F⟩ w' β ⟨H, L, F⟩ → RepT w' β ⟨H, L, F⟩ (.p (.ps rows)) (.slice (some ⟨w.heap.size, 0, none⟩) n n) := by
    obtain ⟨e1, e2⟩ := evP_ok he parts
    unfold bsl at hb
    split at hb
    · rename_i i hi
      obtain ⟨inf, u, ok⟩ := hT.get hi
      split at hb
      · rename_i e' hd
        have h2 := ok.d
        rw [hd] at h2
        obtain rfl := chkD_slice h2
        split at hb
        · rename_i j hj
          obtain ⟨inf', u', ok'⟩ := hT.get hj
          split at hb
          · rename_i ag hag hsz
            simp only [Bool.and_eq_true] at hsz
            obtain ⟨⟨hn1, hsz⟩, hj1⟩ := hsz
            have hn1 := Nat.le_of_ble_eq_true hn1
            have hj1 := Nat.le_of_ble_eq_true hj1
            have hsz := Nat.le_of_ble_eq_true hsz
            split at hb
            · rename_i cs' hf
              split at hb
              · rename_i ys' hys
                simp only [Option.some.injEq, Prod.mk.injEq] at hb
                obtain ⟨rfl, rfl, rfl⟩ := hb
                rw [hys] at hu
                obtain rfl := Option.some.inj hu
                obtain ⟨z, hz, hzz⟩ := ok'.run_zero w
                have hzr := zero_rep (w := w) (β := β) (G := ⟨H, L, F⟩) hzz
                have hzl : z.cells.size = j.size := by
                  have := hzr.1
                  simp at this
                  rw [this, ok'.zlen]
                have hz0 : RepL w β ⟨H, L, F⟩ (rep (j.zero.map .p) n) ((Array.range (n * j.size)).map (fun k => z.cells[k % z.cells.size]!)).toList := by
                  refine ⟨by simp [rep_len, ok'.zlen], fun k y v hy hv => ?_⟩
                  have hlt : k < n * j.size := by
                    have := (List.getElem?_eq_some_iff.1 hy).1
                    simpa [rep_len, ok'.zlen] using this
                  rw [rep_get _ (by simp [ok'.zlen]; omega) n k (by simpa [ok'.zlen] using hlt)] at hy
                  simp only [List.length_map, ok'.zlen] at hy
                  have hm : k % j.size < z.cells.size := by rw [hzl]; exact Nat.mod_lt _ (by omega)
                  refine hzr.2 (k % j.size) y v hy ?_
                  simp [hlt, hzl] at hv
                  rw [← hv]
                  rw [hzl] at hm
                  simp [hzl, hm]
                obtain ⟨out, ho1, ho2⟩ := fill_ok (w := w) (β := β) (G := ⟨H, L, F⟩) (fun m => some (m * j.size, j.size)) (evP env parts) (parts.map fun p => (p.1, a.eval p.2)) _ _ e1 e2 hz0 hf
                refine ⟨out, ok.und, ?_, fun w' fr hblk hlt' hst => ?_⟩
                · simp only [execOp, ho, Sem.run_bind, Instr.buildSlice, run_underlying ok.und, Result.andThen_ok, ok'.run_size]
                  rw [if_neg (by omega), if_neg (by rw [Nat.mul_eq_zero]; omega)]
                  simp only [Sem.run_bind, hz, Result.andThen_ok, Sem.run_pure]
                  rw [show (parts.toArray.map fun x => match x with | (i, y) => (i, a.eval y)).toList = parts.map fun p => (p.1, a.eval p.2) by simp, ho1]
                  simp [newRow]
                · obtain ⟨u1, u2⟩ := unpL_ok (w := w) (β := β) (G := ⟨H, L, F⟩) cs' hys
                  have hclen : cs'.length = n * j.size := by
                    have := fillA_len _ _ _ hf
                    rw [this, rep_len]; simp [ok'.zlen]
                  have h1 : ag = false → j.size = 1 := by
                    intro hf
                    subst hf
                    exact ok'.one hag
                  have hlen : (chunk ag j.size n ys').length = n := chunk_len ..
                  have hcg := chunk_get ag j.size h1 n ys' (by omega) (fun _ => noAgg_ok hn)
                  have hcell : ∀ (k : Nat) (x : AV), ys'[k]? = some x → ∃ v, out[k]? = some v ∧ RepA w (Free β ⟨H, L, F⟩) x v := by
                    intro k x hk
                    obtain ⟨zz, h3, h4⟩ := u2 k x hk
                    have hlt : k < out.toList.length := by rw [ho2.1]; exact (List.getElem?_eq_some_iff.1 h3).1
                    exact ⟨out.toList[k], by simp at hlt; simp [hlt], h4 _ (ho2.2 k zz _ h3 (List.getElem?_eq_getElem hlt))⟩
                  have hps := RepA.ps (w := w') (N := Free β ⟨H, L, F⟩) (chunk ag j.size n ys') ⟨w.heap.size, 0, none⟩ n j.size (fun p q => out.getD (p * j.size + q) undef) (free_new hS) hlt'
                    (fun r hr => by obtain ⟨p, hp⟩ := List.getElem?_of_mem hr; exact (hcg p r hp).1)
                    (fun p q hp hq => by
                      rw [hlen] at hp
                      have hlt : p * j.size + q < n * j.size := by
                        have : (p + 1) * j.size ≤ n * j.size := Nat.mul_le_mul_right _ (by omega)
                        rw [Nat.add_mul] at this; omega
                      obtain ⟨v, hv, _⟩ := hcell (p * j.size + q) _ (List.getElem?_eq_getElem (by omega))
                      rw [Addr.add_lit, cell_of_row _ _ _ _ _ _ hblk]
                      simp only [Nat.zero_add, Array.getD_eq_getD_getElem?, hv, Option.getD_some])
                    (fun p q r x hp hq => by
                      have hq' : q < j.size := by rw [← (hcg p r hp).1]; exact (List.getElem?_eq_some_iff.1 hq).1
                      rw [(hcg p r hp).2 q hq'] at hq
                      obtain ⟨v, hv, hr⟩ := hcell _ x hq
                      simp only [Array.getD_eq_getD_getElem?, hv, Option.getD_some]
                      exact hr.mono hst.size hst.frame) (by rw [hlen]; exact Nat.le_refl _)
                  rw [hlen] at hps
                  exact .p hps
              · cases hb
            · cases hb
          · cases hb
        · cases hb
      · cases hb
    · cases hb

/-- '[]byte(..)' of a constant: a literal, marked. -/
theorem J_litmark {o1 o2 : Oper} {d1 t n e : Nat} {parts : List (Nat × Operand)} {cs : List TV} {rows ys : List AV} (hT : TabOk P T) (g1 : o1.guard = none) (g2 : o2.guard = none) (hd1 : o1.dst = some d1) (hlt : Nat.blt d1 Γ.N = true) (hd2 : dstOk Γ.N o2.dst = true) (ho : o1.op = .buildSlice t n parts.toArray) (ho2 : o2.op = .convert t t (.tmp d1))
    (hb : bsl T t n (evP env parts) = some (e, cs, rows)) (hu : unpL cs = some ys) (hn : noAgg ys = true) (h8 : tyD T e = .int .u8) (k : J Γ (putE (putE env (some d1) (.p .top)) o2.dst (.p (.ps rows))) H L (wpList P ops Q rest)) : J Γ env H L (wpList P ops Q (o1 :: o2 :: rest)) := by
  intro a w β s
  obtain ⟨out, hty, hrun, hrep⟩ := lit_core (o := o1) hT ho hb hu hn s.sim s.env
  obtain ⟨u8, q1, q2⟩ := tyD_und hT (t := e) (by rw [h8]; simp)
  rw [h8] at q2
  obtain rfl := chkD_int q2
  have hconv := Go.Joins.run_convert_bytes_const_at (P := P) w t e out n n w.heap.size rfl hty q1
  unfold wpList
  rw [if_pos (by simp [Region.wanted, g1])]
  refine .inl ?_
  unfold Oper.wp
  rw [hrun]
  show wpList P ops Q (o2 :: rest) _ _
  unfold wpList
  rw [if_pos (by simp [Region.wanted, g2])]
  refine .inl ?_
  unfold Oper.wp
  simp only [Nat.blt_eq] at hlt
  have hev : (a.put o1.dst (.slice (some ⟨w.heap.size, 0, none⟩) n n)).eval (.tmp d1) = .slice (some ⟨w.heap.size, 0, none⟩) n n := by
    rw [hd1]
    have : d1 < a.tmps.size := by rw [s.size]; exact hlt
    simp [Act.eval, Act.put, Array.getD, this]
  have hrun2 : (execOp (a.put o1.dst (.slice (some ⟨w.heap.size, 0, none⟩) n n)).eval o2).run P (w.alloc (.cells out e)) = .ok (.value (.slice (some ⟨w.heap.size, 0, none⟩) n n)) (w.alloc (.cells out e (out.size, out.size + 1))) := by
    simp only [execOp, ho2, Sem.run_bind, hev, hconv, Result.andThen_ok, Sem.run_pure]
  rw [hrun2]
  obtain ⟨s1, s2⟩ := step_alloc s.sim (.cells out e (out.size, out.size + 1))
  have hr := hrep _ (out.size, out.size + 1) (alloc_new w _) (by simp) s1
  have st1 := s.next (d := some d1) (x := .p .top) (u := .slice (some ⟨w.heap.size, 0, none⟩) n n) (by simp [dstOk, hlt]) s2 s1 (.p (.top _))
  have st2 := st1.next (d := o2.dst) (x := .p (.ps rows)) hd2 s2 (Step.refl ..) hr
  rw [hd1]
  exact k _ _ _ st2
end
end Go.Awp

/- A callee's array as a value that stays; clear. No program is named here. -/
import Derived.Test.YtfkibkfjebppdaaAwpY
namespace Go.Awp
open Go.RowKit
theorem step_drop {w0 w : World} {β0 β : Hd → Nat} {H0 H L : List AObj} {F : Nat → Prop} (h : Step w0 β0 ⟨H0, [], F⟩ w β ⟨H, L, F⟩) : Step w0 β0 ⟨H0, [], F⟩ w β ⟨H, [], F⟩ := by
  have hlv : ∀ k, (⟨H, [], F⟩ : Hp).live k → (⟨H, L, F⟩ : Hp).live k := fun k hk => by
    cases k with
    | o k => exact hk
    | l i => obtain ⟨o, ho, _⟩ := hk; simp [Hp.get] at ho
  exact ⟨h.os, h.tape, h.output, h.size, fun b hb hf => ⟨(h.frame b hb hf).1, (h.frame b hb hf).2.1, fun k hk => (h.frame b hb hf).2.2 k (hlv k hk)⟩, h.fr, rfl, fun k o ho => by
    cases k with
    | o k => exact h.obj (.o k) o ho
    | l i => simp [Hp.get] at ho⟩
/-- The callee's array: from now on nobody writes it. -/
theorem Con.freeze {P : Program} {f : FuncId} {args : List TV} {H H' : List AObj} {Ty : TypeId} {b : Bool} {e n : Nat} {rows : List AV} (h : Con P f args H (.sl (.l 0) n 0 n) H' [.arr Ty b e rows]) (hn : rows.length = n) : Con P f args H (.p (.ps rows)) H' [] :=
  ⟨h.can, fun F w β vs hS hr => (h.run F w β vs hS hr).mono fun ed w' ⟨β', v, he, hS', hst, hv⟩ => by
    have hJ : J ⟨1, w, β, H, F⟩ [(0, .sl (.l 0) n 0 n)] H' [.arr Ty b e rows] (fun a w2 => ∃ β2, Sim w2 β2 ⟨H', [], F⟩ ∧ Step w β ⟨H, [], F⟩ w2 β2 ⟨H', [], F⟩ ∧ RepT w2 β2 ⟨H', [], F⟩ (.p (.ps rows)) (a.tmps.getD 0 undef)) :=
      J_freeze_all 0 0 rfl rfl hn fun a w2 β2 s => ⟨β2, drop_sim s.sim, step_drop s.step, drop_l (s.env 0) rfl⟩
    obtain ⟨β2, h1, h2, h3⟩ := hJ ⟨#[v], []⟩ w' β' ⟨hS', hst, fun t => by
      cases t with
      | zero => exact hv
      | succ t => exact .p (.top _), rfl, rfl⟩
    exact ⟨β2, v, he, h1, h2, h3⟩⟩

section
variable {P : Program} {T : Tab} {env : Env} {H L : List AObj} {o : Oper} {x : TV}
/-- clear of an own array that is read no more. -/
theorem opr_clear {t : TypeId} {y : Operand} {e n i : Nat} {te : TyI} {rows : List AV} {Ty : TypeId} (hT : TabOk P T) (ho : o.op = .call { callee := .builtin .clear, args := #[y], argTypes := #[t] }) (hd : tyD T t = .slice e) (he : tlk T e = some te) (hcl : te.zero.all cl = true)
    (hy : evA env y = .sl (.l i) n 0 n) (hi : L[i]? = some (.arr Ty true te.size rows)) (hn : rows.length = n) : OpR P o env H L (.p .top) H (L.set i .dead) :=
  opr_set hi (by simp) fun F w β a hS hen => by
    obtain ⟨u, h1, h2⟩ := tyD_und hT (t := t) (by rw [hd]; simp)
    rw [hd] at h2
    obtain rfl := chkD_slice h2
    obtain ⟨inf, ue, ok⟩ := hT.get he
    obtain ⟨zv, hz, hzz⟩ := ok.run_zero w
    obtain ⟨cs, c1, c2, hpos, c3⟩ := objOk_news hS hi
    have hvy := evA_ok hen y
    rw [hy] at hvy
    generalize hvv : a.eval y = vy at hvy
    cases hvy with | sl _ _ _ _ _ _ _ hv =>
    obtain ⟨_, ao, cap, rfl, hlc, hcm, hadd, _⟩ := hv _ _ _ _ hi hn
    obtain rfl := hadd (.inl rfl)
    rw [Nat.zero_mul] at hvv
    have hzl : zv.cells.size = te.size := by
      have := (chkZ_ok hzz).1
      simp at this
      rw [this, ok.zlen]
    have hone : ∀ c ∈ (Builtin.zeroCells zv.cells n).toList, c.oneCell' = true := fun c hc => by
      have hm : c ∈ zv.cells.toList := by
        simp only [Builtin.zeroCells, Array.toList_map, List.mem_map] at hc
        obtain ⟨k, _, rfl⟩ := hc
        have hk : k % zv.cells.size < zv.cells.size := Nat.mod_lt _ (by omega)
        rw [getElem!_pos zv.cells _ hk]
        exact Array.mem_toList_iff.2 (Array.getElem_mem hk)
      obtain ⟨j, hj⟩ := List.getElem?_of_mem hm
      have hjl : j < te.zero.length := by
        have := (List.getElem?_eq_some_iff.1 hj).1
        rw [← (chkZ_ok hzz).1]; exact this
      have hr := (chkZ_ok hzz).2 w (fun _ => False) j _ c (List.getElem?_eq_getElem hjl) hj
      exact cl_ok hr (List.all_eq_true.1 hcl _ (List.getElem_mem hjl))
    have hfit : (Builtin.zeroCells zv.cells n).toList.length ≤ cs.size := by rw [Array.length_toList, size_zeroCells, hzl, ← hn]; exact c2
    have hst := run_storeCells_at P (β (.l i)) 0 Ty (Builtin.zeroCells zv.cells n).toList 0 cs w c1 (by simpa using hfit) hone
    have hrunc : ∀ {w' : World}, (Builtin.clear_ #[t] o.type #[a.eval y]).run P w = .ok (.tuple #[]) w' → (execOp a.eval o).run P w = .ok (.value (.tuple #[])) w' := fun {w'} h => by
      simp only [execOp, ho, resolve, invoke, builtin, Sem.run_bind, Sem.run_pure, Result.andThen_ok, List.map_toArray, List.map_cons, List.map_nil]
      simp [h]
    by_cases h0 : n = 0
    · refine ⟨.tuple #[], w, .inl (hrunc ?_), rfl, rfl, rfl, rfl, fun b _ => rfl, trivial, fun hst => ⟨trivial, .p (.top _)⟩⟩
      rw [hvv, h0]
      simp [Builtin.clear_, run_underlying h1]
    · obtain ⟨m, hm⟩ : ∃ m, n = m + 1 := ⟨n - 1, by omega⟩
      refine ⟨.tuple #[], w.setRow (β (.l i)) (cs.toList.take (0 + 0) ++ (Builtin.zeroCells zv.cells n).toList ++ cs.toList.drop (0 + 0 + (Builtin.zeroCells zv.cells n).toList.length)).toArray, .inl (hrunc ?_), rfl, rfl, rfl, by simp, fun b hb => setRow_other w _ b _ hb, trivial, fun hst => ⟨trivial, .p (.top _)⟩⟩
      rw [hvv]
      subst hm
      simp at hst
      simp [Builtin.clear_, run_underlying h1, hz, hst]
end
end Go.Awp

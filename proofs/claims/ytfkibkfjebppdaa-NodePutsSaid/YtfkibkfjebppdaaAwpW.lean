/- What is gathered by append: nothing yet, or an array of the call's own. No program is named here. -/
import Derived.Test.YtfkibkfjebppdaaAwpV
namespace Go.Awp
open Go.RowKit

def accT (h : Nat) (d : AV) (acc : List AV) : TV := match acc with
  | [] => .p d
  | r :: rs => .sl (.l h) (r :: rs).length 0 (r :: rs).length
def accL (e sz : Nat) (acc : List AV) : List AObj := match acc with
  | [] => []
  | r :: rs => [.arr e true sz (r :: rs)]
def accD (acc : List AV) : List AObj := match acc with
  | [] => []
  | _ :: _ => [.dead]
def accV (d : AV) (acc : List AV) : AV := match acc with
  | [] => d
  | r :: rs => .ps (r :: rs)

theorem accT_ne {h : Nat} {d : AV} {acc : List AV} (hne : acc ≠ []) : accT h d acc = .sl (.l h) acc.length 0 acc.length := by cases acc <;> simp_all [accT]
theorem accL_ne {e sz : Nat} {acc : List AV} (hne : acc ≠ []) : accL e sz acc = [.arr e true sz acc] := by cases acc <;> simp_all [accL]
theorem accV_ne {d : AV} {acc : List AV} (hne : acc ≠ []) : accV d acc = .ps acc := by cases acc <;> simp_all [accV]

section
variable {P : Program} {T : Tab} {Γ : Ctx} {env : Env} {H L : List AObj} {o : Oper} {x : TV} {Φ : Act → World → Prop}

theorem Rd.acc {L0 L1 : List AObj} {e sz : Nat} {d : AV} {acc : List AV} (hd : d = .nils ∨ d = .cz) : Rd H (L0 ++ (accL e sz acc ++ L1)) (accT L0.length d acc) acc := by
  cases acc with
  | nil => rcases hd with rfl | rfl; exact .nils; exact .cz
  | cons r rs => exact Rd.full (Ty := e) (b := true) (e := sz) (by simp [Hp.get, accL]) rfl

/-- append of nothing onto nothing. -/
theorem opr_app_nothing {t tx : TypeId} {y z : Operand} {e : Nat} {te : TyI} {b : Bool} {s : TV} {d : AV} (hT : TabOk P T) (ho : o.op = .call { callee := .builtin .append, args := #[y, z], argTypes := #[t, tx] })
    (ht : appT T t tx = some (e, te, b)) (hd : d = .nils ∨ d = .cz) (hy : evA env y = .p d) (hz : evA env z = s) (hs : SrcA H L s []) (hbs : b = true ↔ ∃ l, s = .p (.str l)) : OpR P o env H L (.p d) H L :=
  opr_pure fun F w β a hS hen => by
    obtain ⟨at', hb1, _⟩ := appT_ok hT ht
    obtain ⟨inf, zv, i1, i2, i3, i4, i5⟩ := at'.info
    have hvz := evA_ok hen z
    rw [hz] at hvz
    obtain ⟨news, n1, n2⟩ := hs.src' hS at' hb1 hvz (by intro r hr; simp at hr) (by intro r hr; simp at hr) hbs
    have hn0 : news = [] := List.eq_nil_of_length_eq_zero (by rw [n2.len]; simp)
    subst hn0
    have hvy := evA_ok hen y
    rw [hy] at hvy
    obtain ⟨ao, hv⟩ : ∃ ao, a.eval y = .slice ao 0 0 := by
      generalize a.eval y = u at hvy
      rcases hd with rfl | rfl <;> cases hvy with | p h => cases h; exact ⟨_, rfl⟩
    refine ⟨_, run_app (P := P) (w' := w) (v := a.eval y) ho rfl ?_, hvy⟩
    have hu := at'.ut
    have hsl := n1.len w
    have hsc := n1.cells
    rw [← i3] at hsc
    simp only [List.length_nil] at hsl hsc
    rw [hv]
    rcases n1.kind with ⟨e', hk⟩ | hk <;> cases ao <;> simp [Builtin.append_, run_underlying hu, run_underlying hk, sizeOf, typeInfo, i1, hsl, hsc, storeCells]

theorem opr_app_acc {L0 : List AObj} {acc : List AV} {t tx : TypeId} {y z : Operand} {e : Nat} {te : TyI} {b : Bool} {s : TV} {d : AV} {rows : List AV} (hT : TabOk P T) (ho : o.op = .call { callee := .builtin .append, args := #[y, z], argTypes := #[t, tx] })
    (ht : appT T t tx = some (e, te, b)) (hL : L = L0 ++ accL e te.size acc) (hd : d = .nils ∨ d = .cz) (hy : evA env y = accT L0.length d acc) (hz : evA env z = s) (hs : SrcA H L s rows) (hbs : b = true ↔ ∃ l, s = .p (.str l)) (hc : clR rows) (he : ∀ r ∈ rows, (cellsOf r).length = te.size)
    (hpos : 0 < te.size) (hb0 : 0 < te.bytes) (hfit : (acc.length + rows.length) * te.bytes ≤ 140737488355328) : OpR P o env H L (accT L0.length d (acc ++ rows)) H (L0 ++ accL e te.size (acc ++ rows)) := by
  subst hL
  cases acc with
  | nil =>
    simp only [accL, List.append_nil] at hs ⊢
    cases rows with
    | nil =>
      have := opr_app_nothing (o := o) hT ho ht hd hy hz hs hbs
      simpa [accT, accL] using this
    | cons r rs =>
      have hy' : evA env y = .p .nils ∨ evA env y = .p .cz := by
        rw [hy]; rcases hd with rfl | rfl
        · exact .inl rfl
        · exact .inr rfl
      exact opr_app_new (o := o) hT ho ht hy' hz hs hbs hc he hpos hb0 (by simp) (by simpa using hfit)
  | cons r rs =>
    have := opr_app_own (o := o) (L := L0 ++ accL e te.size (r :: rs)) (i := L0.length) (rows0 := r :: rs) hT ho ht hy (by simp [accL]) rfl rfl hz hs hbs hc he hb0 hfit
    have e1 : (L0 ++ accL e te.size (r :: rs)).set L0.length (.arr e true te.size (r :: rs ++ rows)) = L0 ++ accL e te.size (r :: rs ++ rows) := by
      rw [List.set_append_right _ _ (Nat.le_refl _), Nat.sub_self]; rfl
    rw [e1] at this
    have e2 : accT L0.length d (r :: rs ++ rows) = .sl (.l L0.length) ((r :: rs).length + rows.length) 0 ((r :: rs).length + rows.length) := by simp [accT]; omega
    rw [e2]
    exact this

theorem J_freeze_acc (t : Nat) {L0 L1 : List AObj} {e sz : Nat} {d : AV} {acc : List AV} (hL : L = L0 ++ (accL e sz acc ++ L1)) (ht : lk env t = accT L0.length d acc) (k : J Γ ((t, .p (accV d acc)) :: env) H (L0 ++ (accD acc ++ L1)) Φ) : J Γ env H L Φ := by
  subst hL
  cases acc with
  | nil =>
    refine J_val t (.p d) ht rfl ?_
    exact k
  | cons r rs =>
    refine J_freeze_all (Ty := e) (b := true) (e := sz) (rows := r :: rs) t L0.length ht (by simp [accL]) rfl ?_
    have e1 : (L0 ++ (accL e sz (r :: rs) ++ L1)).set L0.length .dead = L0 ++ (accD (r :: rs) ++ L1) := by
      rw [List.set_append_right _ _ (Nat.le_refl _), Nat.sub_self]; rfl
    rw [e1]
    exact k

/-- An empty slice's literal. -/
theorem opr_lit0 {t e : Nat} {te : TyI} (hT : TabOk P T) (ho : o.op = .buildSlice t 0 #[]) (hd : tyD T t = .slice e) (he : tlk T e = some te) : OpR P o env H L (.p .cz) H L :=
  opr_alloc fun F w β a hS hen => by
    obtain ⟨u, h1, h2⟩ := tyD_und hT (t := t) (by rw [hd]; simp)
    rw [hd] at h2
    obtain rfl := chkD_slice h2
    obtain ⟨inf, ue, ok⟩ := hT.get he
    refine ⟨.slice (some ⟨w.heap.size, 0, none⟩) 0 0, .cells (Array.map (fun _ => default) (Array.range 0)) e, ?_, fun _ => .p (.cz _)⟩
    simp only [execOp, ho, Sem.run_bind, Instr.buildSlice, run_underlying h1, Result.andThen_ok, ok.run_size]
    simp [Instr.fill, newRow]

theorem Rd.acc0 {L0 : List AObj} {e sz : Nat} {d : AV} {acc : List AV} (hd : d = .nils ∨ d = .cz) : Rd H (L0 ++ accL e sz acc) (accT L0.length d acc) acc := by
  have := Rd.acc (H := H) (L0 := L0) (L1 := []) (e := e) (sz := sz) (acc := acc) hd
  rwa [List.append_nil] at this
theorem J_freeze_acc0 (t : Nat) {L0 : List AObj} {e sz : Nat} {d : AV} {acc : List AV} (hL : L = L0 ++ accL e sz acc) (ht : lk env t = accT L0.length d acc) (k : J Γ ((t, .p (accV d acc)) :: env) H (L0 ++ accD acc) Φ) : J Γ env H L Φ :=
  J_freeze_acc (L1 := []) t (by rw [List.append_nil]; exact hL) ht (by rw [List.append_nil]; exact k)
theorem accT_okL {n : Nat} {d : AV} {acc : List AV} (h : acc ≠ [] → 0 < n) : (accT 0 d acc).okL n = true := by
  cases acc with
  | nil => rfl
  | cons r rs => simpa [accT, TV.okL, Hd.okL] using h (by simp)
theorem accL_okAll (n e sz : Nat) (acc : List AV) : okAll n (accL e sz acc) = true := by cases acc <;> rfl
theorem accL_pos {e sz : Nat} {acc : List AV} (h : acc ≠ []) : 0 < (accL e sz acc).length := by cases acc <;> simp_all [accL]
end
end Go.Awp

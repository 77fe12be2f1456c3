/- 'stepA': the operations of the abstract walk that can be reckoned off the environment and this call's own objects. No program is named here. -/
import Derived.Test.YtfkibkfjebppdaaAwpD
namespace Go.Awp
open Go.RowKit

section
variable {P : Program} {env : Env} {H L : List AObj} {o : Oper} {x : TV}
theorem opr_pure (h : ∀ F w β a, Sim w β ⟨H, L, F⟩ → EnvR w β ⟨H, L, F⟩ env a → ∃ u, (execOp a.eval o).run P w = .ok (.value u) w ∧ RepT w β ⟨H, L, F⟩ x u) : OpR P o env H L x H L := by
  intro F w β a next Q hS he hn
  obtain ⟨u, h1, h2⟩ := h F w β a hS he
  unfold Oper.wp
  rw [h1]
  exact hn w β u hS (Step.refl ..) h2

theorem alloc_old (w : World) (ob : Obj) (b : Nat) (hb : b < w.heap.size) : (w.alloc ob).heap[b]? = w.heap[b]? := by
  show (w.heap.push ob)[b]? = _
  rw [Array.getElem?_push, if_neg (by omega)]
theorem alloc_new (w : World) (ob : Obj) : (w.alloc ob).heap[w.heap.size]? = some ob := by
  show (w.heap.push ob)[_]? = _
  simp
theorem free_new {w : World} {β : Hd → Nat} {G : Hp} (hS : Sim w β G) : Free β G w.heap.size :=
  ⟨fun hb => Nat.lt_irrefl _ (hS.flt _ hb), fun _ hk e => Nat.lt_irrefl _ (e ▸ hS.lt hk)⟩

theorem step_alloc {w : World} {β : Hd → Nat} {G : Hp} (hS : Sim w β G) (ob : Obj) : Step w β G (w.alloc ob) β G ∧ Sim (w.alloc ob) β G := by
  have hb : ∀ b, b < w.heap.size → (w.alloc ob).heap[b]? = w.heap[b]? := fun b hb => alloc_old w ob b hb
  have hst : Step w β G (w.alloc ob) β G := ⟨rfl, rfl, rfl, by simp, fun b h hf => ⟨hb b h, hf⟩, fun b h => hb b (hS.flt b h), rfl,
    fun k o ho => ⟨o, ho, ObjGo.same fun hne => hb _ (hS.lt ⟨o, ho, hne⟩)⟩⟩
  exact ⟨hst, fun k o ho => by
    by_cases hd : o = .dead
    · subst hd; trivial
    · exact (hS.objs k o ho).mono hst (hb _ (hS.lt ⟨o, ho, hd⟩)), hS.inj, hS.ext, hS.disj, fun b h => by have := hS.flt b h; simp; omega⟩

/-- A new block that nobody owns. -/
theorem opr_alloc (h : ∀ F w β a, Sim w β ⟨H, L, F⟩ → EnvR w β ⟨H, L, F⟩ env a → ∃ u ob, (execOp a.eval o).run P w = .ok (.value u) (w.alloc ob) ∧
    (Step w β ⟨H, L, F⟩ (w.alloc ob) β ⟨H, L, F⟩ → RepT (w.alloc ob) β ⟨H, L, F⟩ x u)) : OpR P o env H L x H L := by
  intro F w β a next Q hS he hn
  obtain ⟨u, ob, h1, h2⟩ := h F w β a hS he
  obtain ⟨s1, s2⟩ := step_alloc hS ob
  unfold Oper.wp
  rw [h1]
  exact hn _ β u s2 s1 (h2 s1)

theorem unfrozen0 (n : Nat) : Unfrozen (0, 0) n := fun i _ => by simp

/-- A new object of this call's own. -/
theorem opr_new {ob' : AObj} (h : ∀ F w β a, Sim w β ⟨H, L, F⟩ → EnvR w β ⟨H, L, F⟩ env a → ∃ u ob, (execOp a.eval o).run P w = .ok (.value u) (w.alloc ob) ∧
    ∀ β', (∀ k, β' k = if k = .l L.length then w.heap.size else β k) → Step w β ⟨H, L, F⟩ (w.alloc ob) β' ⟨H, L ++ [ob'], F⟩ →
      ObjOk (w.alloc ob) β' ⟨H, L ++ [ob'], F⟩ w.heap.size ob' ∧ RepT (w.alloc ob) β' ⟨H, L ++ [ob'], F⟩ x u) : OpR P o env H L x H (L ++ [ob']) := by
  intro F w β a next Q hS he hn
  obtain ⟨u, ob, h1, h2⟩ := h F w β a hS he
  obtain ⟨s1, s2⟩ := new (o' := ob') (w' := w.alloc ob) (b' := w.heap.size) hS rfl rfl rfl (by simp) (fun b hb => alloc_old w ob b hb) (Nat.le_refl _)
  obtain ⟨h3, h4⟩ := h2 _ (fun _ => rfl) s1
  unfold Oper.wp
  rw [h1]
  exact hn _ _ u (s2 h3) s1 h4

/-- One of this call's own objects is written where it lies. -/
theorem opr_set {i : Nat} {ob ob' : AObj} (hi : L[i]? = some ob) (hne : ob ≠ .dead) (h : ∀ F w β a, Sim w β ⟨H, L, F⟩ → EnvR w β ⟨H, L, F⟩ env a → ∃ u w', ((execOp a.eval o).run P w = .ok (.value u) w' ∨ (execOp a.eval o).run P w = .ok .skip w' ∧ u = undef) ∧
    w'.os = w.os ∧ w'.tape = w.tape ∧ w'.output = w.output ∧ w'.heap.size = w.heap.size ∧ (∀ b, b ≠ β (.l i) → w'.heap[b]? = w.heap[b]?) ∧ ObjGo w w' (β (.l i)) (β (.l i)) ob ob' ∧
      (Step w β ⟨H, L, F⟩ w' β ⟨H, L.set i ob', F⟩ → ObjOk w' β ⟨H, L.set i ob', F⟩ (β (.l i)) ob' ∧ RepT w' β ⟨H, L.set i ob', F⟩ x u)) : OpR P o env H L x H (L.set i ob') := by
  intro F w β a next Q hS he hn
  obtain ⟨u, w', h1, h2, h3, h4, h5, h6, h7, h8⟩ := h F w β a hS he
  have hlt : i < L.length := (List.getElem?_eq_some_iff.1 hi).1
  obtain ⟨s1, s2⟩ := upd (w' := w') (G' := ⟨H, L.set i ob', F⟩) (h := .l i) (o' := ob') (b' := β (.l i)) hS hi h2 h3 h4 (by omega) (fun b _ hb => h6 b hb) hne (.inl rfl) h7
    (fun k => by
      cases k with
      | o k => simp [Hp.get]
      | l j =>
        simp only [Hp.get, List.getElem?_set, Hd.l.injEq]
        by_cases e : i = j
        · subst e; simp [hlt]
        · rw [if_neg e, if_neg (fun q => e q.symm)]) rfl hS.ext
  have eβ : (fun k => if k = Hd.l i then β (.l i) else β k) = β := by
    funext k
    split
    · rename_i e; rw [e]
    · rfl
  rw [eβ] at s1 s2
  obtain ⟨h9, h10⟩ := h8 s1
  unfold Oper.wp
  rcases h1 with h1 | ⟨h1, rfl⟩
  · rw [h1]; exact hn _ _ u (s2 h9) s1 h10
  · rw [h1]; exact hn _ _ undef (s2 h9) s1 h10
end

/-! ### Cells of a value -/
def tcells : TV → Option (List TV)
  | .agg l => some l
  | .p (.agg l) => some (l.map .p)
  | .p .top => none
  | .tup _ => none
  | .opt _ _ => none
  | x => some [x]
theorem tcells_ok {w : World} {β : Hd → Nat} {G : Hp} {x : TV} {v : Value} {cs : List TV} (h : RepT w β G x v) (hc : tcells x = some cs) : RepL w β G cs v.cells.toList := by
  have one : v.cells = #[v] → RepL w β G [x] v.cells.toList := by
    intro e
    rw [e]
    refine ⟨rfl, fun i y u hy hu => ?_⟩
    cases i with
    | zero => simp at hy hu; subst hy hu; exact h
    | succ i => simp at hy
  have cell : v.oneCell' = true → v.cells = #[v] := by intro hv; cases v <;> first | rfl | (simp [Value.oneCell'] at hv)
  cases h with
  | p h =>
    cases h with
    | agg xs vs hl hr =>
      simp [tcells] at hc; subst hc
      refine ⟨by simp [Value.cells, hl], fun i y u hy hu => ?_⟩
      simp only [List.getElem?_map, Option.map_eq_some_iff] at hy
      obtain ⟨z, hz, rfl⟩ := hy
      exact .p (hr i z u hz (by simpa [Value.cells] using hu))
    | top => simp [tcells] at hc
    | _ => simp [tcells] at hc; subst hc; exact one rfl
  | agg xs vs hl hr =>
    simp [tcells] at hc; subst hc
    exact ⟨by simp [Value.cells, hl], fun i y u hy hu => hr i y u hy (by simpa [Value.cells] using hu)⟩
  | tup => simp [tcells] at hc
  | ad h off v h1 => simp [tcells] at hc; subst hc; exact one (cell h1)
  | sl h n st len v h1 => simp [tcells] at hc; subst hc; exact one (cell h1)
  | el => simp [tcells] at hc; subst hc; exact one rfl
  | fn => simp [tcells] at hc; subst hc; exact one rfl
  | opt => simp [tcells] at hc

def allCell : List TV → Bool
  | [] => true
  | x :: r => cellLike x && allCell r
theorem allCell_get : ∀ {l : List TV} {i : Nat} {x : TV}, allCell l = true → l[i]? = some x → cellLike x = true
  | [], i, x, _, h => by simp at h
  | y :: r, 0, x, h, hx => by
    simp only [allCell, Bool.and_eq_true] at h
    obtain rfl : y = x := by simpa using hx
    exact h.1
  | y :: r, i + 1, x, h, hx => by
    simp only [allCell, Bool.and_eq_true] at h
    exact allCell_get h.2 (by simpa using hx)

/-! ### What binary operations reckon -/
def intA (op : BinOp) (k : IntKind) (a b : Int) : Option TV :=
  match op with
  | .add => some (.p (.int k (k.wrap (a + b))))
  | .sub => some (.p (.int k (k.wrap (a - b))))
  | .mul => some (.p (.int k (k.wrap (a * b))))
  | .quo => match decide (b = 0) with
    | true => none
    | false => some (.p (.int k (k.wrap (a.tdiv b))))
  | .rem => match decide (b = 0) with
    | true => none
    | false => some (.p (.int k (a.tmod b)))
  | .and => some (.p (.int k (k.wrap (BitVec.ofInt k.bits a &&& BitVec.ofInt k.bits b).toNat)))
  | .or => some (.p (.int k (k.wrap (BitVec.ofInt k.bits a ||| BitVec.ofInt k.bits b).toNat)))
  | .eql => some (.p (.bool (a == b)))
  | .neq => some (.p (.bool (a != b)))
  | .lss => some (.p (.bool (decide (a < b))))
  | .leq => some (.p (.bool (decide (a ≤ b))))
  | .gtr => some (.p (.bool (decide (a > b))))
  | .geq => some (.p (.bool (decide (a ≥ b))))
  | _ => none
def shiftA (op : BinOp) (k : IntKind) (a b : Int) : Option TV :=
  match b with
  | .ofNat n => match op with
    | .shl => some (.p (.int k (k.wrap (a * 2 ^ min n k.bits))))
    | .shr => some (.p (.int k (a.fdiv (2 ^ min n k.bits))))
    | _ => none
  | .negSucc _ => none
def isShift : BinOp → Bool
  | .shl | .shr => true
  | _ => false
def strA (op : BinOp) (a b : List UInt8) : Option TV :=
  match op with
  | .eql => some (.p (.bool (a == b)))
  | .neq => some (.p (.bool !(a == b)))
  | .lss => some (.p (.bool (Op.bytesLess a b)))
  | .leq => some (.p (.bool (Op.bytesLess a b || a == b)))
  | .gtr => some (.p (.bool !(Op.bytesLess a b || a == b)))
  | .geq => some (.p (.bool !(Op.bytesLess a b)))
  | _ => none
def eqA (op : BinOp) (b : Bool) : Option TV :=
  match op with
  | .eql => some (.p (.bool b))
  | .neq => some (.p (.bool !b))
  | _ => none
def kEq (k k' : IntKind) : Bool := match decide (k = k') with
  | true => true
  | false => false
def binA (L : List AObj) (op : BinOp) (x y : TV) (d : TyD) : Option TV :=
  match x, y with
  | .p (.int k a), .p (.int k' b) => match isShift op with
    | true => shiftA op k a b
    | false => match kEq k k' with
      | true => intA op k a b
      | false => none
  | .p (.str a), .p (.str b) => strA op a b
  | .p (.bool a), .p (.bool b) => match d with
    | .bool => eqA op (a == b)
    | _ => none
  | .p .nilp, .p .nilp => match d with
    | .ptr => eqA op true
    | _ => none
  | .p (.pp _), .p .nilp => match d with
    | .ptr => eqA op false
    | _ => none
  | .ad (.l i) _, .p .nilp => match d, L[i]? with
    | .ptr, some (.box ..) => eqA op false
    | _, _ => none
  | .p .nils, .p .nils => match d with
    | .slice _ => eqA op true
    | _ => none
  | _, _ => none

theorem run_intBin (P : Program) (w : World) (t : TypeId) {op : BinOp} {k : IntKind} {a b : Int} {x : TV} (hs : isShift op = false) (h : intA op k a b = some x) :
    ∃ y, x = .p y ∧ ∃ u, (Go.binOp op t (.int k a) (.int k b)).run P w = .ok u w ∧ ∀ N, RepA w N y u := by
  cases op <;> simp only [isShift, intA, Option.some.injEq, reduceCtorEq] at hs h
  all_goals first
    | (subst h; exact ⟨_, rfl, _, by simp only [binOp_add, binOp_sub, binOp_mul, Op.intArith, Sem.run_pure], fun _ => .int ..⟩)
    | (subst h; exact ⟨_, rfl, _, by simp only [binOp_and, binOp_or, Op.intBits, Sem.run_pure], fun _ => .int ..⟩)
    | (subst h; exact ⟨_, rfl, _, by simp only [binOp_eql, binOp_neq, binOp_lss, binOp_leq, binOp_gtr, binOp_geq, Sem.run_pure], fun _ => .bool ..⟩)
    | (by_cases hb : b = 0
       · simp [hb] at h
       · rw [decide_eq_false hb] at h
         simp only [Option.some.injEq] at h
         subst h
         exact ⟨_, rfl, _, by simp only [binOp_quo, binOp_rem, Op.intDiv, if_neg hb, Sem.run_pure], fun _ => .int ..⟩)
theorem run_shift (P : Program) (w : World) (t : TypeId) {op : BinOp} {k k' : IntKind} {a b : Int} {x : TV} (h : shiftA op k a b = some x) :
    ∃ y, x = .p y ∧ ∃ u, (Go.binOp op t (.int k a) (.int k' b)).run P w = .ok u w ∧ ∀ N, RepA w N y u := by
  unfold shiftA at h
  split at h
  · rename_i n
    split at h
    · obtain rfl := Option.some.inj h
      refine ⟨_, rfl, .int k (k.wrap (a * 2 ^ min n k.bits)), ?_, fun _ => .int ..⟩
      have : ¬ ((n : Int) < 0) := by omega
      simp only [binOp_shl, Op.shift, Int.ofNat_eq_natCast, Int.toNat_natCast, if_neg this, Sem.run_pure]
    · obtain rfl := Option.some.inj h
      refine ⟨_, rfl, .int k (a.fdiv (2 ^ min n k.bits)), ?_, fun _ => .int ..⟩
      have : ¬ ((n : Int) < 0) := by omega
      simp only [binOp_shr, Op.shift, Int.ofNat_eq_natCast, Int.toNat_natCast, if_neg this, Sem.run_pure]
    · cases h
  · cases h
theorem run_strBin (P : Program) (w : World) (t : TypeId) {op : BinOp} {a b : List UInt8} {x : TV} (h : strA op a b = some x) :
    ∃ c, x = .p (.bool c) ∧ (Go.binOp op t (.string ⟨a.toArray⟩) (.string ⟨b.toArray⟩)).run P w = .ok (.bool c) w := by
  unfold strA at h
  cases op <;> simp at h <;> subst h <;> exact ⟨_, rfl, by simp [Go.binOp, Op.stringOp]⟩
end Go.Awp

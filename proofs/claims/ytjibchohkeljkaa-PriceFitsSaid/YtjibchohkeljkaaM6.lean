/- Contracts and plain laws, several texts joined: Pick, F23d. -/
import Derived.Test.YtjibchohkeljkaaGo
import Derived.Test.YtjibchohkeljkaaM5
/- The own objects in another order. No program is named here. -/
namespace Go.Proofs.Ytjibchohkeljkaa
set_option maxRecDepth 20000
open Go.Awp
/-- The old name of a new handle. -/
def hpk (σ : List Nat) : Hd → Hd
  | .o j => .o j
  | .l i => match σ[i]? with
    | some k => .l k
    | none => .l i
def tpk (σ : List Nat) : TV → TV
  | .p x => .p x
  | .ad h off => .ad (hpk σ h) off
  | .sl h a b c => .sl (hpk σ h) a b c
  | .el s e i off => .el (tpk σ s) e i off
  | .agg l => .agg (pkL σ l)
  | .tup l => .tup (pkL σ l)
  | .fn f l => .fn f (pkL σ l)
  | .opt c x => .opt c (tpk σ x)
where pkL (σ : List Nat) : List TV → List TV
  | [] => []
  | x :: r => tpk σ x :: pkL σ r
def opk (σ : List Nat) : AObj → AObj
  | .box T cells => .box T (tpk.pkL σ cells)
  | o => o
theorem pkL_get (σ : List Nat) : ∀ (l : List TV) (i : Nat), (tpk.pkL σ l)[i]? = (l[i]?).map (tpk σ)
  | [], i => by simp [tpk.pkL]
  | x :: r, 0 => by simp [tpk.pkL]
  | x :: r, i + 1 => by simpa [tpk.pkL] using pkL_get σ r i
theorem pkL_length (σ : List Nat) : ∀ (l : List TV), (tpk.pkL σ l).length = l.length
  | [] => rfl
  | x :: r => by simp [tpk.pkL, pkL_length σ r]
theorem opk_off (σ : List Nat) (o : AObj) : (opk σ o).off = o.off := by cases o <;> simp [opk, AObj.off]
theorem opk_isBox (σ : List Nat) (o : AObj) : (opk σ o).isBox = o.isBox := by cases o <;> rfl
mutual
theorem ext_pk (σ : List Nat) : ∀ (x : TV), x.ext = true → tpk σ x = x
  | .p _, _ => rfl
  | .ad (.o _) _, _ => rfl
  | .ad (.l _) _, h => by simp [TV.ext] at h
  | .sl (.o _) _ _ _, _ => rfl
  | .sl (.l _) _ _ _, h => by simp [TV.ext] at h
  | .el .., h => by simp [TV.ext] at h
  | .agg l, h => by simp only [TV.ext] at h; simp only [tpk]; rw [extL_pk σ l h]
  | .tup l, h => by simp only [TV.ext] at h; simp only [tpk]; rw [extL_pk σ l h]
  | .fn _ l, h => by simp only [TV.ext] at h; simp only [tpk]; rw [extL_pk σ l h]
  | .opt _ x, h => by simp only [TV.ext] at h; simp only [tpk]; rw [ext_pk σ x h]
theorem extL_pk (σ : List Nat) : ∀ (l : List TV), TV.ext.extL l = true → tpk.pkL σ l = l
  | [], _ => rfl
  | x :: r, h => by
    simp only [TV.ext.extL, Bool.and_eq_true] at h
    simp only [tpk.pkL]
    rw [ext_pk σ x h.1, extL_pk σ r h.2]
end
theorem ext_opk (σ : List Nat) (o : AObj) (h : o.ext = true) : opk σ o = o := by
  cases o with
  | box T cells => simp only [opk]; rw [extL_pk σ cells (by simpa [AObj.ext] using h)]
  | _ => rfl
/-- The new objects are these of the old. -/
def Pk (L : List AObj) (σ0 : List Nat) : List Nat → List AObj → Prop
  | [], [] => True
  | k :: r, ob :: obs => (L[k]? = some (opk σ0 ob) ∧ ob.okL σ0.length = true) ∧ Pk L σ0 r obs
  | _, _ => False
theorem Pk.len {L : List AObj} {σ0 : List Nat} : ∀ {σ : List Nat} {L2 : List AObj}, Pk L σ0 σ L2 → L2.length = σ.length
  | [], [], _ => rfl
  | _ :: _, _ :: _, h => by simp [Pk.len h.2]
theorem Pk.get {L : List AObj} {σ0 : List Nat} : ∀ {σ : List Nat} {L2 : List AObj}, Pk L σ0 σ L2 → ∀ {j : Nat} {ob : AObj}, L2[j]? = some ob → ∃ k, σ[j]? = some k ∧ L[k]? = some (opk σ0 ob) ∧ ob.okL σ0.length = true
  | [], [], _, j, ob, hj => by simp at hj
  | k :: r, o :: obs, hl, 0, ob, hj => by
    obtain rfl : o = ob := by simpa using hj
    exact ⟨k, by simp, hl.1.1, hl.1.2⟩
  | k :: r, o :: obs, hl, j + 1, ob, hj => by
    obtain ⟨k', h1, h2⟩ := Pk.get hl.2 (show obs[j]? = some ob by simpa using hj)
    exact ⟨k', by simpa using h1, h2⟩
def nodN : List Nat → Bool
  | [] => true
  | a :: r => !(r.any (Nat.beq a)) && nodN r
theorem nodN_inj : ∀ {σ : List Nat} {i j k : Nat}, nodN σ = true → σ[i]? = some k → σ[j]? = some k → i = j
  | [], _, _, _, _, h, _ => by simp at h
  | a :: r, i, j, k, hn, h1, h2 => by
    simp only [nodN, Bool.and_eq_true, Bool.not_eq_true', List.any_eq_false] at hn
    have ha : ∀ m, r[m]? = some a → False := fun m hm => hn.1 a (List.mem_of_getElem? hm) (by simp)
    cases i with
    | zero =>
      simp at h1; subst h1
      cases j with
      | zero => rfl
      | succ j => exact absurd (by simpa using h2) (fun q => ha j q)
    | succ i =>
      cases j with
      | zero => simp at h2; subst h2; exact absurd (by simpa using h1) (fun q => ha i q)
      | succ j => rw [nodN_inj (i := i) (j := j) (k := k) hn.2 (by simpa using h1) (by simpa using h2)]
section
variable {w : World} {β : Hd → Nat} {H L L2 : List AObj} {F : Nat → Prop} {σ : List Nat}
abbrev pkβ (β : Hd → Nat) (σ : List Nat) : Hd → Nat := fun h => β (hpk σ h)
theorem pk_get (hS : ∀ o ∈ H, o.ext = true) (hl : Pk L σ σ L2) {h : Hd} {o : AObj} (ho : (⟨H, L2, F⟩ : Hp).get h = some o) : (⟨H, L, F⟩ : Hp).get (hpk σ h) = some (opk σ o) := by
  cases h with
  | o j =>
    have ho' : H[j]? = some o := ho
    rw [ext_opk σ o (hS o (List.mem_of_getElem? ho'))]
    exact ho
  | l i =>
    obtain ⟨k, e1, e2, _⟩ := hl.get (show L2[i]? = some o from ho)
    simp only [hpk, e1]
    exact e2
theorem pk_live (hS : ∀ o ∈ H, o.ext = true) (hl : Pk L σ σ L2) {h : Hd} (hh : (⟨H, L2, F⟩ : Hp).live h) : (⟨H, L, F⟩ : Hp).live (hpk σ h) := by
  obtain ⟨o, ho, hne⟩ := hh
  exact ⟨_, pk_get hS hl ho, by rw [opk_off]; exact hne⟩
theorem pk_free (hS : ∀ o ∈ H, o.ext = true) (hl : Pk L σ σ L2) {b : Nat} (h : Free β ⟨H, L, F⟩ b) : Free (pkβ β σ) ⟨H, L2, F⟩ b := ⟨h.1, fun _ hk => h.2 _ (pk_live hS hl hk)⟩
theorem pk_ex (hl : Pk L σ σ L2) {h : Hd} (hh : h.okL σ.length = true) (hx : ∃ o, (⟨H, L, F⟩ : Hp).get (hpk σ h) = some o) : ∃ o, (⟨H, L2, F⟩ : Hp).get h = some o := by
  cases h with
  | o j => exact hx
  | l i =>
    have hi : i < L2.length := by rw [hl.len]; simpa [Hd.okL] using hh
    exact ⟨L2[i], List.getElem?_eq_getElem hi⟩
theorem pk_rep (hS : ∀ o ∈ H, o.ext = true) (hl : Pk L σ σ L2) {y : TV} {v : Value} (h : RepT w β ⟨H, L, F⟩ y v) : ∀ x : TV, tpk σ x = y → x.okL σ.length = true → RepT w (pkβ β σ) ⟨H, L2, F⟩ x v := by
  induction h with
  | p h =>
    intro x hx hc
    cases x <;> simp [tpk] at hx
    subst hx
    exact .p (h.mono (Nat.le_refl _) fun b _ hb => ⟨rfl, pk_free hS hl hb⟩)
  | ad k off v h1 hlv hv =>
    intro x hx hc
    cases x <;> simp [tpk] at hx
    obtain ⟨rfl, rfl⟩ := hx
    refine .ad _ _ _ h1 (pk_ex hl (by simpa [TV.okL] using hc) hlv) fun o' ho' hb => ?_
    exact hv _ (pk_get hS hl ho') (by rw [opk_isBox]; exact hb)
  | sl k n st len v h1 hlv hv =>
    intro x hx hc
    cases x <;> simp [tpk] at hx
    obtain ⟨rfl, rfl, rfl, rfl⟩ := hx
    obtain ⟨o0, g1, g2⟩ := hlv
    obtain ⟨o1, u1⟩ := pk_ex hl (by simpa [TV.okL] using hc) ⟨o0, g1⟩
    refine .sl _ _ _ _ _ h1 ⟨o1, u1, fun T b e rows hr => ?_⟩ fun T b e rows hr hlen => ?_
    · subst hr
      have := pk_get hS hl u1
      rw [g1] at this
      exact g2 _ _ _ _ (Option.some.inj this)
    · exact hv _ _ _ _ (pk_get hS hl hr) hlen
  | el e i off a len c _ hi ih =>
    intro x hx hc
    cases x <;> simp [tpk] at hx
    obtain ⟨rfl, rfl, rfl, rfl⟩ := hx
    exact .el _ _ _ a len c (ih _ rfl (by simpa [TV.okL] using hc)) hi
  | agg xs vs hlen hr ih =>
    intro x hx hc
    cases x <;> simp [tpk] at hx
    subst hx
    refine .agg _ _ (by rw [hlen, pkL_length]) fun i x v h1 h2 => ?_
    exact ih i (tpk σ x) v (by rw [pkL_get, h1]; rfl) h2 x rfl (okLL_get (by simpa [TV.okL] using hc) h1)
  | tup xs vs hlen hr ih =>
    intro x hx hc
    cases x <;> simp [tpk] at hx
    subst hx
    refine .tup _ _ (by rw [hlen, pkL_length]) fun i x v h1 h2 => ?_
    exact ih i (tpk σ x) v (by rw [pkL_get, h1]; rfl) h2 x rfl (okLL_get (by simpa [TV.okL] using hc) h1)
  | fn f xs vs hlen hr ih =>
    intro x hx hc
    cases x <;> simp [tpk] at hx
    obtain ⟨rfl, rfl⟩ := hx
    refine .fn _ _ _ (by rw [hlen, pkL_length]) fun i x v h1 h2 => ?_
    exact ih i (tpk σ x) v (by rw [pkL_get, h1]; rfl) h2 x rfl (okLL_get (by simpa [TV.okL] using hc) h1)
  | opt g y v _ h2 ih =>
    intro x hx hc
    cases x <;> simp [tpk] at hx
    obtain ⟨rfl, rfl⟩ := hx
    exact .opt _ _ _ (fun hg => ih hg _ rfl (by simpa [TV.okL] using hc)) h2
theorem pk_sim (hl : Pk L σ σ L2) (hn : nodN σ = true) (h : Sim w β ⟨H, L, F⟩) : Sim w (pkβ β σ) ⟨H, L2, F⟩ := by
  have hS := h.ext
  have okl : ∀ {k : Hd} {o : AObj}, (⟨H, L2, F⟩ : Hp).get k = some o → o.okL σ.length = true := fun {k} {o} ho => by
    cases k with
    | o j =>
      have ho' : H[j]? = some o := ho
      have hx := hS o (List.mem_of_getElem? ho')
      cases o with
      | box T cells => exact ext_okL.extL_okL _ cells hx
      | _ => rfl
    | l i =>
      obtain ⟨_, _, _, e3⟩ := hl.get (show L2[i]? = some o from ho)
      exact e3
  refine ⟨fun k o ho => ?_, fun k j hk hj he => ?_, hS, fun k hk => h.disj _ (pk_live hS hl hk), h.flt⟩
  · have hc := okl ho
    have := h.objs _ _ (pk_get hS hl ho)
    cases o with
    | dead => trivial
    | box T cells =>
      obtain ⟨cs, h1, h2, h4⟩ := this
      refine ⟨cs, h1, by rw [h2, pkL_length], fun i x hi => ?_⟩
      obtain ⟨v, hv, hr⟩ := h4 i (tpk σ x) (by rw [pkL_get, hi]; rfl)
      exact ⟨v, hv, pk_rep hS hl hr x rfl (okLL_get (by simpa [AObj.okL] using hc) hi)⟩
    | arr T app e rows =>
      refine ⟨this.1, fun hoff => ?_⟩
      obtain ⟨cs, fr, h1, h2, h3, h4, h5, h6, h7⟩ := this.2 hoff
      exact ⟨cs, fr, h1, h2, h3, h4, h5, h6, fun i j r x hr hx => let ⟨v, hv, hr'⟩ := h7 i j r x hr hx; ⟨v, hv, hr'.mono (Nat.le_refl _) fun b _ hb => ⟨rfl, pk_free hS hl hb⟩⟩⟩
    | iter s pos => exact this
  · have := h.inj _ _ (pk_live hS hl hk) (pk_live hS hl hj) he
    obtain ⟨o1, u1, _⟩ := hk
    obtain ⟨o2, u2, _⟩ := hj
    cases k with
    | o a =>
      cases j with
      | o b => exact this
      | l b =>
        obtain ⟨k', e1, _, _⟩ := hl.get (show L2[b]? = some o2 from u2)
        simp [hpk, e1] at this
    | l a =>
      obtain ⟨k', e1, _, _⟩ := hl.get (show L2[a]? = some o1 from u1)
      cases j with
      | o b => simp [hpk, e1] at this
      | l b =>
        obtain ⟨k2, e2, _, _⟩ := hl.get (show L2[b]? = some o2 from u2)
        simp only [hpk, e1, e2, Hd.l.injEq] at this
        subst this
        rw [nodN_inj hn e1 e2]
end
/-- What the slots hold, named anew. -/
def AllPk (σ : List Nat) (env : Env) : Env → Prop
  | [] => True
  | (t, x) :: r => lk env t = tpk σ x ∧ AllPk σ env r
theorem allPk_lk {σ : List Nat} {env : Env} : ∀ {env' : Env}, AllPk σ env env' → ∀ t, lk env' t = .p .top ∨ lk env t = tpk σ (lk env' t)
  | [], _, _ => .inl rfl
  | (s, x) :: r, h, t => by
    rw [lk_cons]
    split
    · rename_i e; subst e; exact .inr h.1
    · exact allPk_lk h.2 t
theorem J_pick {Γ : Ctx} {env : Env} {H L : List AObj} {Φ : Act → World → Prop} (σ : List Nat) (env' : Env) (L2 : List AObj) (hs : AllPk σ env env') (hx : okEnv σ.length env' = true) (hn : nodN σ = true) (hl : Pk L σ σ L2) (k : J Γ env' H L2 Φ) : J Γ env H L Φ := fun a w β s => by
  have hS := s.sim.ext
  refine k a w (pkβ β σ) ⟨pk_sim hl hn s.sim, ?_, fun t => ?_, s.size, s.defers⟩
  · exact ⟨s.step.os, s.step.tape, s.step.output, s.step.size, fun b hb hf => ⟨(s.step.frame b hb hf).1, pk_free hS hl (s.step.frame b hb hf).2⟩, s.step.fr, rfl, fun k o ho => by
      cases k with
      | o k => exact s.step.obj (.o k) o ho
      | l i => simp [Hp.get] at ho⟩
  · rcases allPk_lk hs t with e | e
    · rw [e]; exact .p (.top _)
    · exact pk_rep hS hl (s.env t) _ e.symm (okEnv_lk t hx)
/-- A piece of code in a block that comes to one end in whichever way. -/
theorem J_joinB {P : Program} {Γ : Ctx} {env : Env} {H L : List AObj} {Q : Exit → Act → World → Prop} {b : Nat} (env' : Env) (H' L' : List AObj) {c : Code} {n : Act → World → Prop} (h : J Γ env H L (c.wp P (Only .normal (At Γ env' H' L')))) (k : J Γ env' H' L' n) : J Γ env H L (c.wp P (Exit.inBlock b (Exit.then n Q))) := fun a w β s =>
  wp_mono (h a w β s) fun e a w ⟨he, β', s'⟩ => by subst he; exact k a w β' s'
theorem J_joinN {P : Program} {Γ : Ctx} {env : Env} {H L : List AObj} {Q : Exit → Act → World → Prop} {b : Nat} (env' : Env) (H' L' : List AObj) {c : Code} (h : J Γ env H L (c.wp P (Only .normal (At Γ env' H' L')))) (k : J Γ env' H' L' (Q .normal)) : J Γ env H L (c.wp P (Exit.inBlock b Q)) := fun a w β s =>
  wp_mono (h a w β s) fun e a w ⟨he, β', s'⟩ => by subst he; exact k a w β' s'
theorem Con.arg1 {P : Program} {f : FuncId} {rest : List TV} {H H' news : List AObj} {r : TV} {x y : AV} (h : Con P f (.p y :: rest) H r H' news) (hxy : AVLe x y) : Con P f (.p x :: rest) H r H' news :=
  ⟨h.can, fun F w β vs hS hr => h.run F w β vs hS ⟨hr.1, fun i z v hz hv => by
    cases i with
    | zero =>
      obtain rfl : TV.p y = z := by simpa using hz
      have := hr.2 0 (.p x) v rfl hv
      cases this with | p q => exact .p (hxy _ _ _ q)
    | succ i => exact hr.2 (i + 1) z v hz hv⟩⟩
end Go.Proofs.Ytjibchohkeljkaa

/- price: Tree. -/
-- @D
namespace Go.Proofs.Ytjibchohkeljkaa
set_option maxRecDepth 20000
open Go.Awp Tr
theorem i64_wb (n : Int) : -9223372036854775808 ≤ IntKind.i64.wrap n ∧ IntKind.i64.wrap n ≤ 9223372036854775807 := by
  rw [IntKind.wrap_i64]
  omega
theorem splitK_len (l : List UInt8) : (splitK l).2.2.1.length ≤ l.length := by
  unfold splitK
  split
  · simp
  split
  · simp
  split
  · simp
  split <;> simp
/-- What one key adds to a tree's price. -/
def pstep (s : Int) (x : KV) : Int :=
  if (splitK x.1).1 = 69 then IntKind.i64.wrap (s + (41 + ((splitK x.1).2.2.1.length : Int)))
  else if (splitK x.1).1 = 73 then
    if (splitK x.1).2.1 = 1 then s else match getNode x.2 with
    | none => s
    | some y => if y.1 = 1 then IntKind.i64.wrap (s + IntKind.i64.wrap (50 + IntKind.i64.wrap (103 * blocks (IntKind.i64.wrap y.2.2.1)))) else IntKind.i64.wrap (s + 50)
  else s
def ptree (l : List KV) : Int := l.foldl pstep 50
set_option maxHeartbeats 8000000 in
theorem ptree_spec (t : Tr) (hz : t.size ≤ 1000) (hb : ∀ x ∈ t.row, x.1.length ≤ 1000 ∧ x.2.length ≤ 1000) : Con Try.prog 8 [W t] [] (.p (.int .i64 (ptree t.row))) [] [] := by
  have hrl := row_len t
  refine con_of Try.func8 rfl (by kernel_rfl) rfl fun F w0 β0 => ?_
  refine K_tell rfl ?_
  refine go ?_
  refine K_op rfl rfl (opr_callP rfl rfl (tlen_spec t) rfl rfl rfl rfl) rfl ?_
  refine go ?_
  refine J_loop (fun q : Ix t.size => [(0, W t), (3, .p (.int .i64 (ptree (t.row.take q.i)))), (14, .p (.int .i64 (t.size : Int))), (15, .p (.int .i64 (q.i : Int)))]) (fun _ => []) (fun _ => []) (fun q => t.size - q.i) ⟨0, by omega⟩ ⟨rfl, rfl, rfl, rfl, trivial⟩ rfl rfl (fun q => ?_)
  obtain ⟨i, hi⟩ := q
  dsimp only
  refine go ?_
  by_cases h : i < t.size
  · have hx : t.row[i]? = some (t.row[i]'(by omega)) := List.getElem?_eq_getElem _
    obtain ⟨hx1, hx2⟩ := hb _ (List.getElem_mem (l := t.row) (n := i) (by omega))
    generalize t.row[i]'(by omega) = x at hx hx1 hx2
    have c1 := tat_spec t (i : Int) (by unfold big40; omega) (by omega)
    rw [atZ_row, if_neg (by omega), Int.toNat_natCast, hx] at c1
    have c2 := ksplit_spec x.1 (by omega)
    have c3 := nget_spec x.2 (by omega)
    have hsl := splitK_len x.1
    have hft : ptree (t.row.take (i + 1)) = pstep (ptree (t.row.take i)) x := fold_take _ _ hx
    have hft2 : pstep (ptree (t.row.take i)) x = pstep (ptree (t.row.take i)) x := rfl
    rw (occs := .pos [1]) [pstep] at hft2
    generalize splitK x.1 = r at c2 hsl hft2
    obtain ⟨a, b, c, d⟩ := r
    dsimp only at hsl hft2
    change Con Try.prog _ _ _ (.tup [.p (.int .u8 a), .p (.int .u32 b), .p (.str c), .p (.int .i64 d)]) _ _ at c2
    generalize pstep (ptree (t.row.take i)) x = s' at hft hft2
    refine K_condT rfl (decide_eq_true (by omega)) ?_
    refine go ?_
    refine K_op rfl rfl (opr_callP rfl rfl (c1) rfl rfl rfl rfl) rfl ?_
    refine go ?_
    refine K_op rfl rfl (opr_callP rfl rfl (c2) rfl rfl rfl rfl) rfl ?_
    refine go ?_
    refine J_joinN [(0, W t), (3, .p (.int .i64 s')), (14, .p (.int .i64 (t.size : Int))), (15, .p (.int .i64 (i : Int)))] [] [] ?_ ?_
    · generalize ptree (t.row.take i) = s at hft2
      refine go ?_
      by_cases h69 : a = 69
      · rw [if_pos h69] at hft2
        refine K_condT rfl (decide_eq_true h69) ?_
        refine go ?_
        refine K_op rfl rfl (opr_callP rfl rfl (pentry_spec c (by omega) []) rfl rfl rfl rfl) rfl ?_
        refine go ?_
        rw [hft2]
        refine J_take 0 [(0, W t), (3, .p (.int .i64 s')), (14, .p (.int .i64 (t.size : Int))), (15, .p (.int .i64 (i : Int)))] ⟨rfl, rfl, rfl, rfl, trivial⟩ rfl rfl ?_
        exact J_at ⟨rfl, rfl, rfl, rfl, trivial⟩ rfl rfl
      · rw [if_neg h69] at hft2
        refine K_condF rfl (decide_eq_false h69) ?_
        refine go ?_
        by_cases h73 : a = 73
        · rw [if_pos h73] at hft2
          refine K_condT rfl (decide_eq_true h73) ?_
          refine go ?_
          cases hg : getNode x.2 with
          | none =>
            rw [hg] at c3 hft2
            change Con Try.prog _ _ _ (.tup [.agg [.p (.int .u8 0), .p (.int .u32 0), .p (.int .u32 0), .p (.int .u32 0)], .p (.bool false)]) _ _ at c3
            have e : s = s' := by
              dsimp only at hft2
              split at hft2 <;> exact hft2
            subst e
            refine K_op rfl rfl (opr_callP rfl rfl (c3) rfl rfl rfl rfl) rfl ?_
            refine go ?_
            refine K_condT rfl (by simp) ?_
            refine go ?_
            refine J_take 0 [(0, W t), (3, .p (.int .i64 s)), (14, .p (.int .i64 (t.size : Int))), (15, .p (.int .i64 (i : Int)))] ⟨rfl, rfl, rfl, rfl, trivial⟩ rfl rfl ?_
            exact J_at ⟨rfl, rfl, rfl, rfl, trivial⟩ rfl rfl
          | some y =>
            obtain ⟨y1, y2, y3, y4⟩ := y
            rw [hg] at c3 hft2
            change Con Try.prog _ _ _ (.tup [.agg [.p (.int .u8 y1), .p (.int .u32 y2), .p (.int .u32 y3), .p (.int .u32 y4)], .p (.bool true)]) _ _ at c3
            dsimp only at hft2
            have c4 := pfile_spec (IntKind.i64.wrap y3) (i64_wb y3) []
            refine K_op rfl rfl (opr_callP rfl rfl (c3) rfl rfl rfl rfl) rfl ?_
            refine go ?_
            by_cases hb1 : b = 1
            · rw [if_pos hb1] at hft2
              subst hft2
              refine K_condT rfl (by simp [hb1]) ?_
              refine go ?_
              refine J_take 0 [(0, W t), (3, .p (.int .i64 s)), (14, .p (.int .i64 (t.size : Int))), (15, .p (.int .i64 (i : Int)))] ⟨rfl, rfl, rfl, rfl, trivial⟩ rfl rfl ?_
              exact J_at ⟨rfl, rfl, rfl, rfl, trivial⟩ rfl rfl
            · rw [if_neg hb1] at hft2
              refine K_condF rfl (by simp [hb1]) ?_
              refine go ?_
              by_cases hy : y1 = 1
              · rw [if_pos hy] at hft2
                refine K_condT rfl (decide_eq_true hy) ?_
                refine go ?_
                refine K_op rfl rfl (opr_callP rfl rfl (c4) rfl rfl rfl rfl) rfl ?_
                refine go ?_
                rw [hft2]
                refine J_take 0 [(0, W t), (3, .p (.int .i64 s')), (14, .p (.int .i64 (t.size : Int))), (15, .p (.int .i64 (i : Int)))] ⟨rfl, rfl, rfl, rfl, trivial⟩ rfl rfl ?_
                exact J_at ⟨rfl, rfl, rfl, rfl, trivial⟩ rfl rfl
              · rw [if_neg hy] at hft2
                refine K_condF rfl (decide_eq_false hy) ?_
                refine go ?_
                rw [hft2]
                refine J_take 0 [(0, W t), (3, .p (.int .i64 s')), (14, .p (.int .i64 (t.size : Int))), (15, .p (.int .i64 (i : Int)))] ⟨rfl, rfl, rfl, rfl, trivial⟩ rfl rfl ?_
                exact J_at ⟨rfl, rfl, rfl, rfl, trivial⟩ rfl rfl
        · rw [if_neg h73] at hft2
          refine K_condF rfl (decide_eq_false h73) ?_
          refine go ?_
          rw [hft2]
          refine J_take 0 [(0, W t), (3, .p (.int .i64 s')), (14, .p (.int .i64 (t.size : Int))), (15, .p (.int .i64 (i : Int)))] ⟨rfl, rfl, rfl, rfl, trivial⟩ rfl rfl ?_
          exact J_at ⟨rfl, rfl, rfl, rfl, trivial⟩ rfl rfl
    · rw [← hft]
      refine go ?_
      rw [IntWalk.i64_in ((i : Int) + 1) (by omega)]
      exact fun a w' β st => ⟨⟨i + 1, by omega⟩, β, by show t.size - (i + 1) < t.size - i; omega, st.sim, st.step, st.env.sub (sub_of_all ⟨rfl, rfl, rfl, rfl, trivial⟩), st.size, st.defers⟩
  refine K_condF rfl (decide_eq_false (by omega)) ?_
  rw [List.take_of_length_le (by omega)]
  refine go ?_
  exact J_done hT rfl rfl rfl
end Go.Proofs.Ytjibchohkeljkaa

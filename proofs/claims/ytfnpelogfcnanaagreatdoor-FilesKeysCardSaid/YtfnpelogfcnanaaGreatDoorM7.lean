/- Contracts and plain laws, several texts joined: Pick, F16, F16b, F21, F16c. -/
import Derived.Test.YtfnpelogfcnanaaGreatDoorGo
import Derived.Test.YtfnpelogfcnanaaGreatDoorM6
import Derived.Lib.Bytealg
import Derived.Laws.Externs
import Derived.Test.YtfnpelogfcnanaaGreatDoorM3
/- The own objects in another order. No program is named here. -/
namespace Go.Proofs.YtfnpelogfcnanaaGreatDoor
set_option maxRecDepth 20000
open Go.Awp
/-- The old name of a new handle. -/
def hpk (σ : List Nat) : Hd → Hd
  | .o j => .o j
  | .l i => match σ[i]? with
    | some k => .l k
    | none => .l i
def tpk (σ : List Nat) : TV → TV
  | .p x => .p x
  | .ad h off => .ad (hpk σ h) off
  | .sl h a b c => .sl (hpk σ h) a b c
  | .el s e i off => .el (tpk σ s) e i off
  | .agg l => .agg (pkL σ l)
  | .tup l => .tup (pkL σ l)
  | .fn f l => .fn f (pkL σ l)
  | .opt c x => .opt c (tpk σ x)
where pkL (σ : List Nat) : List TV → List TV
  | [] => []
  | x :: r => tpk σ x :: pkL σ r
def opk (σ : List Nat) : AObj → AObj
  | .box T cells => .box T (tpk.pkL σ cells)
  | o => o
theorem pkL_get (σ : List Nat) : ∀ (l : List TV) (i : Nat), (tpk.pkL σ l)[i]? = (l[i]?).map (tpk σ)
  | [], i => by simp [tpk.pkL]
  | x :: r, 0 => by simp [tpk.pkL]
  | x :: r, i + 1 => by simpa [tpk.pkL] using pkL_get σ r i
theorem pkL_length (σ : List Nat) : ∀ (l : List TV), (tpk.pkL σ l).length = l.length
  | [] => rfl
  | x :: r => by simp [tpk.pkL, pkL_length σ r]
theorem opk_off (σ : List Nat) (o : AObj) : (opk σ o).off = o.off := by cases o <;> simp [opk, AObj.off]
theorem opk_isBox (σ : List Nat) (o : AObj) : (opk σ o).isBox = o.isBox := by cases o <;> rfl
theorem opk_isMap (σ : List Nat) (o : AObj) : (opk σ o).isMap = o.isMap := by cases o <;> rfl
mutual
theorem ext_pk (σ : List Nat) : ∀ (x : TV), x.ext = true → tpk σ x = x
  | .p _, _ => rfl
  | .ad (.o _) _, _ => rfl
  | .ad (.l _) _, h => by simp [TV.ext] at h
  | .sl (.o _) _ _ _, _ => rfl
  | .sl (.l _) _ _ _, h => by simp [TV.ext] at h
  | .el .., h => by simp [TV.ext] at h
  | .agg l, h => by simp only [TV.ext] at h; simp only [tpk]; rw [extL_pk σ l h]
  | .tup l, h => by simp only [TV.ext] at h; simp only [tpk]; rw [extL_pk σ l h]
  | .fn _ l, h => by simp only [TV.ext] at h; simp only [tpk]; rw [extL_pk σ l h]
  | .opt _ x, h => by simp only [TV.ext] at h; simp only [tpk]; rw [ext_pk σ x h]
theorem extL_pk (σ : List Nat) : ∀ (l : List TV), TV.ext.extL l = true → tpk.pkL σ l = l
  | [], _ => rfl
  | x :: r, h => by
    simp only [TV.ext.extL, Bool.and_eq_true] at h
    simp only [tpk.pkL]
    rw [ext_pk σ x h.1, extL_pk σ r h.2]
end
theorem ext_opk (σ : List Nat) (o : AObj) (h : o.ext = true) : opk σ o = o := by
  cases o with
  | box T cells => simp only [opk]; rw [extL_pk σ cells (by simpa [AObj.ext] using h)]
  | _ => rfl
/-- The new objects are these of the old. -/
def Pk (L : List AObj) (σ0 : List Nat) : List Nat → List AObj → Prop
  | [], [] => True
  | k :: r, ob :: obs => (L[k]? = some (opk σ0 ob) ∧ ob.okL σ0.length = true) ∧ Pk L σ0 r obs
  | _, _ => False
theorem Pk.len {L : List AObj} {σ0 : List Nat} : ∀ {σ : List Nat} {L2 : List AObj}, Pk L σ0 σ L2 → L2.length = σ.length
  | [], [], _ => rfl
  | _ :: _, _ :: _, h => by simp [Pk.len h.2]
theorem Pk.get {L : List AObj} {σ0 : List Nat} : ∀ {σ : List Nat} {L2 : List AObj}, Pk L σ0 σ L2 → ∀ {j : Nat} {ob : AObj}, L2[j]? = some ob → ∃ k, σ[j]? = some k ∧ L[k]? = some (opk σ0 ob) ∧ ob.okL σ0.length = true
  | [], [], _, j, ob, hj => by simp at hj
  | k :: r, o :: obs, hl, 0, ob, hj => by
    obtain rfl : o = ob := by simpa using hj
    exact ⟨k, by simp, hl.1.1, hl.1.2⟩
  | k :: r, o :: obs, hl, j + 1, ob, hj => by
    obtain ⟨k', h1, h2⟩ := Pk.get hl.2 (show obs[j]? = some ob by simpa using hj)
    exact ⟨k', by simpa using h1, h2⟩
def nodN : List Nat → Bool
  | [] => true
  | a :: r => !(r.any (Nat.beq a)) && nodN r
theorem nodN_inj : ∀ {σ : List Nat} {i j k : Nat}, nodN σ = true → σ[i]? = some k → σ[j]? = some k → i = j
  | [], _, _, _, _, h, _ => by simp at h
  | a :: r, i, j, k, hn, h1, h2 => by
    simp only [nodN, Bool.and_eq_true, Bool.not_eq_true', List.any_eq_false] at hn
    have ha : ∀ m, r[m]? = some a → False := fun m hm => hn.1 a (List.mem_of_getElem? hm) (by simp)
    cases i with
    | zero =>
      simp at h1; subst h1
      cases j with
      | zero => rfl
      | succ j => exact absurd (by simpa using h2) (fun q => ha j q)
    | succ i =>
      cases j with
      | zero => simp at h2; subst h2; exact absurd (by simpa using h1) (fun q => ha i q)
      | succ j => rw [nodN_inj (i := i) (j := j) (k := k) hn.2 (by simpa using h1) (by simpa using h2)]
section
variable {w : World} {β : Hd → Nat} {H L L2 : List AObj} {F : Nat → Prop} {σ : List Nat}
abbrev pkβ (β : Hd → Nat) (σ : List Nat) : Hd → Nat := fun h => β (hpk σ h)
theorem pk_get (hS : ∀ o ∈ H, o.ext = true) (hl : Pk L σ σ L2) {h : Hd} {o : AObj} (ho : (⟨H, L2, F⟩ : Hp).get h = some o) : (⟨H, L, F⟩ : Hp).get (hpk σ h) = some (opk σ o) := by
  cases h with
  | o j =>
    have ho' : H[j]? = some o := ho
    rw [ext_opk σ o (hS o (List.mem_of_getElem? ho'))]
    exact ho
  | l i =>
    obtain ⟨k, e1, e2, _⟩ := hl.get (show L2[i]? = some o from ho)
    simp only [hpk, e1]
    exact e2
theorem pk_live (hS : ∀ o ∈ H, o.ext = true) (hl : Pk L σ σ L2) {h : Hd} (hh : (⟨H, L2, F⟩ : Hp).live h) : (⟨H, L, F⟩ : Hp).live (hpk σ h) := by
  obtain ⟨o, ho, hne⟩ := hh
  exact ⟨_, pk_get hS hl ho, by rw [opk_off]; exact hne⟩
theorem pk_free (hS : ∀ o ∈ H, o.ext = true) (hl : Pk L σ σ L2) {b : Nat} (h : Free β ⟨H, L, F⟩ b) : Free (pkβ β σ) ⟨H, L2, F⟩ b := ⟨h.1, fun _ hk => h.2 _ (pk_live hS hl hk)⟩
theorem pk_ex (hl : Pk L σ σ L2) {h : Hd} (hh : h.okL σ.length = true) (hx : ∃ o, (⟨H, L, F⟩ : Hp).get (hpk σ h) = some o) : ∃ o, (⟨H, L2, F⟩ : Hp).get h = some o := by
  cases h with
  | o j => exact hx
  | l i =>
    have hi : i < L2.length := by rw [hl.len]; simpa [Hd.okL] using hh
    exact ⟨L2[i], List.getElem?_eq_getElem hi⟩
theorem pk_rep (hS : ∀ o ∈ H, o.ext = true) (hl : Pk L σ σ L2) {y : TV} {v : Value} (h : RepT w β ⟨H, L, F⟩ y v) : ∀ x : TV, tpk σ x = y → x.okL σ.length = true → RepT w (pkβ β σ) ⟨H, L2, F⟩ x v := by
  induction h with
  | p h =>
    intro x hx hc
    cases x <;> simp [tpk] at hx
    subst hx
    exact .p (h.mono (Nat.le_refl _) fun b _ hb => ⟨rfl, pk_free hS hl hb⟩)
  | ad k off v h1 hlv hv =>
    intro x hx hc
    cases x <;> simp [tpk] at hx
    obtain ⟨rfl, rfl⟩ := hx
    refine .ad _ _ _ h1 (pk_ex hl (by simpa [TV.okL] using hc) hlv) fun o' ho' hb => ?_
    have := hv _ (pk_get hS hl ho') (by rw [opk_isBox]; exact hb)
    rwa [opk_isMap] at this
  | sl k n st len v h1 hlv hv =>
    intro x hx hc
    cases x <;> simp [tpk] at hx
    obtain ⟨rfl, rfl, rfl, rfl⟩ := hx
    obtain ⟨o0, g1, g2⟩ := hlv
    obtain ⟨o1, u1⟩ := pk_ex hl (by simpa [TV.okL] using hc) ⟨o0, g1⟩
    refine .sl _ _ _ _ _ h1 ⟨o1, u1, fun T b e rows hr => ?_⟩ fun T b e rows hr hlen => ?_
    · subst hr
      have := pk_get hS hl u1
      rw [g1] at this
      exact g2 _ _ _ _ (Option.some.inj this)
    · exact hv _ _ _ _ (pk_get hS hl hr) hlen
  | el e i off a len c _ hi ih =>
    intro x hx hc
    cases x <;> simp [tpk] at hx
    obtain ⟨rfl, rfl, rfl, rfl⟩ := hx
    exact .el _ _ _ a len c (ih _ rfl (by simpa [TV.okL] using hc)) hi
  | agg xs vs hlen hr ih =>
    intro x hx hc
    cases x <;> simp [tpk] at hx
    subst hx
    refine .agg _ _ (by rw [hlen, pkL_length]) fun i x v h1 h2 => ?_
    exact ih i (tpk σ x) v (by rw [pkL_get, h1]; rfl) h2 x rfl (okLL_get (by simpa [TV.okL] using hc) h1)
  | tup xs vs hlen hr ih =>
    intro x hx hc
    cases x <;> simp [tpk] at hx
    subst hx
    refine .tup _ _ (by rw [hlen, pkL_length]) fun i x v h1 h2 => ?_
    exact ih i (tpk σ x) v (by rw [pkL_get, h1]; rfl) h2 x rfl (okLL_get (by simpa [TV.okL] using hc) h1)
  | fn f xs vs hlen hr ih =>
    intro x hx hc
    cases x <;> simp [tpk] at hx
    obtain ⟨rfl, rfl⟩ := hx
    refine .fn _ _ _ (by rw [hlen, pkL_length]) fun i x v h1 h2 => ?_
    exact ih i (tpk σ x) v (by rw [pkL_get, h1]; rfl) h2 x rfl (okLL_get (by simpa [TV.okL] using hc) h1)
  | opt g y v _ h2 ih =>
    intro x hx hc
    cases x <;> simp [tpk] at hx
    obtain ⟨rfl, rfl⟩ := hx
    exact .opt _ _ _ (fun hg => ih hg _ rfl (by simpa [TV.okL] using hc)) h2
theorem pk_sim (hl : Pk L σ σ L2) (hn : nodN σ = true) (h : Sim w β ⟨H, L, F⟩) : Sim w (pkβ β σ) ⟨H, L2, F⟩ := by
  have hS := h.ext
  have okl : ∀ {k : Hd} {o : AObj}, (⟨H, L2, F⟩ : Hp).get k = some o → o.okL σ.length = true := fun {k} {o} ho => by
    cases k with
    | o j =>
      have ho' : H[j]? = some o := ho
      have hx := hS o (List.mem_of_getElem? ho')
      cases o with
      | box T cells => exact ext_okL.extL_okL _ cells hx
      | _ => rfl
    | l i =>
      obtain ⟨_, _, _, e3⟩ := hl.get (show L2[i]? = some o from ho)
      exact e3
  refine ⟨fun k o ho => ?_, fun k j hk hj he => ?_, hS, fun k hk => h.disj _ (pk_live hS hl hk), h.flt⟩
  · have hc := okl ho
    have := h.objs _ _ (pk_get hS hl ho)
    cases o with
    | dead => trivial
    | box T cells =>
      obtain ⟨cs, h1, h2, h4⟩ := this
      refine ⟨cs, h1, by rw [h2, pkL_length], fun i x hi => ?_⟩
      obtain ⟨v, hv, hr⟩ := h4 i (tpk σ x) (by rw [pkL_get, hi]; rfl)
      exact ⟨v, hv, pk_rep hS hl hr x rfl (okLL_get (by simpa [AObj.okL] using hc) hi)⟩
    | arr T app e rows =>
      refine ⟨this.1, fun hoff => ?_⟩
      obtain ⟨cs, fr, h1, h2, h3, h4, h5, h6, h7⟩ := this.2 hoff
      exact ⟨cs, fr, h1, h2, h3, h4, h5, h6, fun i j r x hr hx => let ⟨v, hv, hr'⟩ := h7 i j r x hr hx; ⟨v, hv, hr'.mono (Nat.le_refl _) fun b _ hb => ⟨rfl, pk_free hS hl hb⟩⟩⟩
    | raw x => exact this
  · have := h.inj _ _ (pk_live hS hl hk) (pk_live hS hl hj) he
    obtain ⟨o1, u1, _⟩ := hk
    obtain ⟨o2, u2, _⟩ := hj
    cases k with
    | o a =>
      cases j with
      | o b => exact this
      | l b =>
        obtain ⟨k', e1, _, _⟩ := hl.get (show L2[b]? = some o2 from u2)
        simp [hpk, e1] at this
    | l a =>
      obtain ⟨k', e1, _, _⟩ := hl.get (show L2[a]? = some o1 from u1)
      cases j with
      | o b => simp [hpk, e1] at this
      | l b =>
        obtain ⟨k2, e2, _, _⟩ := hl.get (show L2[b]? = some o2 from u2)
        simp only [hpk, e1, e2, Hd.l.injEq] at this
        subst this
        rw [nodN_inj hn e1 e2]
end
/-- What the slots hold, named anew. -/
def AllPk (σ : List Nat) (env : Env) : Env → Prop
  | [] => True
  | (t, x) :: r => lk env t = tpk σ x ∧ AllPk σ env r
theorem allPk_lk {σ : List Nat} {env : Env} : ∀ {env' : Env}, AllPk σ env env' → ∀ t, lk env' t = .p .top ∨ lk env t = tpk σ (lk env' t)
  | [], _, _ => .inl rfl
  | (s, x) :: r, h, t => by
    rw [lk_cons]
    split
    · rename_i e; subst e; exact .inr h.1
    · exact allPk_lk h.2 t
theorem J_pick {Γ : Ctx} {env : Env} {H L : List AObj} {Φ : Act → World → Prop} (σ : List Nat) (env' : Env) (L2 : List AObj) (hs : AllPk σ env env') (hx : okEnv σ.length env' = true) (hn : nodN σ = true) (hl : Pk L σ σ L2) (k : J Γ env' H L2 Φ) : J Γ env H L Φ := fun a w β s => by
  have hS := s.sim.ext
  refine k a w (pkβ β σ) ⟨pk_sim hl hn s.sim, ?_, fun t => ?_, s.size, s.defers⟩
  · exact ⟨s.step.os, s.step.tape, s.step.output, s.step.size, fun b hb hf => ⟨(s.step.frame b hb hf).1, pk_free hS hl (s.step.frame b hb hf).2⟩, s.step.fr, rfl, fun k o ho => by
      cases k with
      | o k => exact s.step.obj (.o k) o ho
      | l i => simp [Hp.get] at ho⟩
  · rcases allPk_lk hs t with e | e
    · rw [e]; exact .p (.top _)
    · exact pk_rep hS hl (s.env t) _ e.symm (okEnv_lk t hx)
/-- Appended to an empty slice: an array of one's own, be it without an element. -/
theorem opr_app_lz {P : Program} {T : Tab} {env : Env} {H L : List AObj} {o : Oper} {t tx : TypeId} {y z : Operand} {e : Nat} {te : TyI} {b : Bool} {rows : List AV} {s : TV} {d : AV} (hT : TabOk P T) (ho : o.op = .call { callee := .builtin .append, args := #[y, z], argTypes := #[t, tx] })
    (ht : appT T t tx = some (e, te, b)) (hd : d = .nils ∨ d = .cz) (hy : evA env y = .p d) (hz : evA env z = s) (hs : SrcA H L s rows) (hbs : b = true ↔ ∃ l, s = .p (.str l)) (hc : clR rows) (he : ∀ r ∈ rows, (cellsOf r).length = te.size) (hpos : 0 < te.size) (hb0 : 0 < te.bytes)
    (hfit : rows.length * te.bytes ≤ 140737488355328) : OpR P o env H L (.sl (.l L.length) rows.length 0 rows.length) H (L ++ [.arr e true te.size rows]) := by
  cases rows with
  | nil =>
    have := opr_app_nothing (P := P) (env := env) hT ho ht hd hy hz hs hbs
    intro F w β a next Q hS hE hn
    exact this F w β a next Q hS hE fun w' β' u s1 s2 s3 => by
      obtain ⟨k1, k2⟩ := sim_lazy e hpos s1
      exact hn w' β' u k1 (s2.trans k2) (rep_lazy e te.size hd s3)
  | cons r rs =>
    exact opr_app_new hT ho ht (by rcases hd with rfl | rfl; exact .inl hy; exact .inr hy) hz hs hbs hc he hpos hb0 (by simp) hfit
end Go.Proofs.YtfnpelogfcnanaaGreatDoor

/- names: the library's search for a byte; strings.Split at one byte. -/
-- @D
namespace Go.Proofs.YtfnpelogfcnanaaGreatDoor
set_option maxRecDepth 20000
open Go.Awp Tr
/-- A call of a function of the library's that the model answers itself. -/
theorem opr_ext {P : Program} {env : Env} {H L : List AObj} {o : Oper} {fo : Operand} {as' : List Operand} {ts : Array TypeId} {f : FuncId} {args : List TV} {x : TV} {fn : Func} {e : Array Value → Sem Value} (ho : o.op = .call { callee := .value fo, args := as'.toArray, argTypes := ts }) (hf : evA env fo = .fn f []) (ha : evL env as' = args)
    (hfn : P.funcs[f]? = some fn) (hname : (fn.name == "runtime.NumGoroutine") = false) (hb : fn.body.isNone = true) (hn : Extern.findNext fn = none) (he : Extern.find fn = some e)
    (hrun : ∀ (w : World) (β : Hd → Nat) (G : Hp) (vs : List Value), RepL w β G args vs → ∃ v, (e vs.toArray).run P w = .ok v w ∧ RepT w β G x v) : OpR P o env H L x H L :=
  opr_pure fun F w β a hS hen => by
    have hfo := evA_ok hen fo
    rw [hf] at hfo
    obtain ⟨vs, hvs, hl⟩ : ∃ vs : List Value, a.eval fo = .func (.func f) #[] vs.toArray ∧ vs.length = 0 := by
      generalize hv : a.eval fo = v at hfo
      cases hfo with | fn _ _ vs hl hr => exact ⟨vs, rfl, hl⟩
    obtain rfl := List.length_eq_zero_iff.1 hl
    have hargs := evL_ok hen as'
    rw [ha] at hargs
    obtain ⟨v, hv, hx⟩ := hrun w β _ _ hargs
    refine ⟨v, ?_, hx⟩
    simp only [execOp, ho, resolve, invoke, Deferred.ofValue, hvs, Sem.run_bind, Sem.run_pure, Result.andThen_ok, List.map_toArray, List.nil_append, List.append_toArray, List.append_nil]
    rw [run_callFunc_extern hfn hname hb hn he, hv]
    rfl
theorem u8_nat (c : UInt8) : ((c.toNat : Nat) : Int).toNat.toUInt8 = c := by simp
theorem idx_run {P : Program} {l : List UInt8} {c : UInt8} (w : World) (β : Hd → Nat) (G : Hp) (vs : List Value) (h : RepL w β G [.p (.str l), .p (.int .u8 (c.toNat : Int))] vs) : ∃ v, (Extern.BytealgIndexByte.indexByte vs.toArray).run P w = .ok v w ∧ RepT w β G (.p (.int .i64 (Lib.indexByte l c))) v := by
  obtain ⟨hl, hr⟩ := h
  match vs, hl with
  | [v1, v2], _ =>
    have h1 := hr 0 _ v1 rfl rfl
    have h2 := hr 1 _ v2 rfl rfl
    cases h1 with | p h1 => cases h1; cases h2 with | p h2 => cases h2; exact ⟨_, Lib.run_indexByteString _ _ w, by rw [u8_nat]; exact .p (.int ..)⟩
theorem count_run {P : Program} {l : List UInt8} {c : UInt8} (w : World) (β : Hd → Nat) (G : Hp) (vs : List Value) (h : RepL w β G [.p (.str l), .p (.int .u8 (c.toNat : Int))] vs) : ∃ v, (Extern.BytealgCount.count vs.toArray).run P w = .ok v w ∧ RepT w β G (.p (.int .i64 ((l.count c : Nat) : Int))) v := by
  obtain ⟨hl, hr⟩ := h
  match vs, hl with
  | [v1, v2], _ =>
    have h1 := hr 0 _ v1 rfl rfl
    have h2 := hr 1 _ v2 rfl rfl
    cases h1 with | p h1 => cases h1; cases h2 with | p h2 => cases h2; exact ⟨_, Lib.run_countString _ _ w, by rw [u8_nat]; exact .p (.int ..)⟩
theorem sidx_n (l : List UInt8) (n : Int) (c : UInt8) (h : n = (c.toNat : Int)) : Con Tryz.prog 156 [.p (.str l), .p (.int .u8 n)] [] (.p (.int .i64 (Lib.indexByte l c))) [] [] := by
  have hr := fun (w : World) (β : Hd → Nat) (G : Hp) (vs : List Value) => @idx_run Tryz.prog l c w β G vs
  rw [← h] at hr
  generalize Lib.indexByte l c = z at hr
  refine con_of Tryz.func156 rfl (by kernel_rfl) rfl fun F w0 β0 => ?_
  refine K_tell rfl ?_
  iterate 9 (refine g1 ?_)
  refine K_op rfl rfl (opr_ext (e := Extern.BytealgIndexByte.indexByte) rfl rfl rfl Tryz.func161 (by kernel_rfl) (by kernel_rfl) (by kernel_rfl) (by kernel_rfl) hr) rfl ?_
  refine go ?_
  exact J_done hT rfl rfl rfl
theorem scount_spec (l : List UInt8) : Con Tryz.prog 143 [.p (.str l), .p (.str [47])] [] (.p (.int .i64 ((l.count 47 : Nat) : Int))) [] [] := by
  have hr := fun (w : World) (β : Hd → Nat) (G : Hp) (vs : List Value) => @count_run Tryz.prog l 47 w β G vs
  rw [show ((47 : UInt8).toNat : Int) = 47 from rfl] at hr
  generalize ((l.count 47 : Nat) : Int) = z at hr
  refine con_of Tryz.func143 rfl (by kernel_rfl) rfl fun F w0 β0 => ?_
  refine K_tell rfl ?_
  refine go ?_
  refine K_op rfl rfl (opr_byte hT rfl rfl rfl rfl (by decide) rfl) rfl ?_
  refine K_op rfl rfl (opr_ext (e := Extern.BytealgCount.count) rfl rfl rfl Tryz.func151 (by kernel_rfl) (by kernel_rfl) (by kernel_rfl) (by kernel_rfl) hr) rfl ?_
  refine go ?_
  exact J_done hT rfl rfl rfl
/-- At a text that is not the byte alone. -/
theorem lidx_spec (l : List UInt8) : Con Tryz.prog 152 [.p (.str l), .p (.str [47])] [] (.p (.int .i64 (Lib.indexByte l 47))) [] [] := by
  have c1 := sidx_n l 47 47 rfl
  by_cases h : ([47] : List UInt8) = l
  · subst h
    rw [show Lib.indexByte [47] 47 = 0 from rfl]
    refine con_of Tryz.func152 rfl (by kernel_rfl) rfl fun F w0 β0 => ?_
    refine K_tell rfl ?_
    refine go ?_
    exact J_done hT rfl rfl rfl
  · generalize Lib.indexByte l 47 = z at c1
    refine con_of Tryz.func152 rfl (by kernel_rfl) rfl fun F w0 β0 => ?_
    refine K_tell rfl ?_
    refine go ?_
    refine K_condF rfl (by simp [h]) ?_
    refine go ?_
    refine K_op rfl rfl (opr_byte hT rfl rfl rfl rfl (by decide) rfl) rfl ?_
    refine K_op rfl rfl (opr_callP rfl rfl (c1) rfl rfl rfl rfl) rfl ?_
    refine go ?_
    exact J_done hT rfl rfl rfl
theorem index_spec (l : List UInt8) : Con Tryz.prog 144 [.p (.str l), .p (.str [47])] [] (.p (.int .i64 (Lib.indexByte l 47))) [] [] := by
  have c1 := lidx_spec l
  generalize Lib.indexByte l 47 = z at c1
  refine con_of Tryz.func144 rfl (by kernel_rfl) rfl fun F w0 β0 => ?_
  refine K_tell rfl ?_
  refine go ?_
  refine K_op rfl rfl (opr_callP rfl rfl (c1) rfl rfl rfl rfl) rfl ?_
  refine go ?_
  exact J_done hT rfl rfl rfl
end Go.Proofs.YtfnpelogfcnanaaGreatDoor

/- names: strings.Count, Index, genSplit, Split at one byte. -/
-- @D
namespace Go.Proofs.YtfnpelogfcnanaaGreatDoor
set_option maxRecDepth 20000
open Go.Awp Tr
/-- The parts of a text between the bytes c. -/
def spl (c : UInt8) : List UInt8 → List (List UInt8)
  | [] => [[]]
  | b :: l => if b = c then [] :: spl c l else match spl c l with
    | [] => [[b]]
    | x :: r => (b :: x) :: r
theorem spl_ne (c : UInt8) (l : List UInt8) : spl c l ≠ [] := by
  cases l with
  | nil => simp [spl]
  | cons b l =>
    unfold spl
    split
    · simp
    · split <;> simp
theorem spl_len (c : UInt8) : ∀ l : List UInt8, (spl c l).length = l.count c + 1
  | [] => rfl
  | b :: l => by
    have ih := spl_len c l
    have hne := spl_ne c l
    rw [List.count_cons]
    unfold spl
    by_cases h : b = c
    · rw [if_pos h, if_pos (by simp [h]), List.length_cons, ih]
    · rw [if_neg h, if_neg (by simp [h])]
      cases hs : spl c l with
      | nil => exact absurd hs hne
      | cons x r => rw [hs] at ih; simpa using ih
theorem count_le (c : UInt8) (l : List UInt8) : l.count c ≤ l.length := List.count_le_length
/-- Where the byte is, the parts begin with what stands before it. -/
theorem spl_at (c : UInt8) : ∀ l : List UInt8, 0 < l.count c → ∃ i : Nat, Lib.indexByte l c = (i : Int) ∧ i < l.length ∧ spl c l = l.take i :: spl c (l.drop (i + 1)) ∧ l.count c = (l.drop (i + 1)).count c + 1
  | [], h => by simp at h
  | b :: l, h => by
    by_cases hb : b = c
    · subst hb
      exact ⟨0, by simp [Lib.indexByte], by simp, by simp [spl], by simp⟩
    · have hc : (b :: l).count c = l.count c := by rw [List.count_cons, if_neg (by simp [hb])]; rfl
      rw [hc] at h ⊢
      obtain ⟨i, h1, h2, h3, h4⟩ := spl_at c l h
      refine ⟨i + 1, ?_, by simpa using h2, ?_, h4⟩
      · unfold Lib.indexByte
        rw [if_neg (by simp [hb]), h1, if_neg (by simp)]
        rfl
      · conv => lhs; unfold spl
        rw [if_neg hb, h3]
        rfl
theorem spl_none {c : UInt8} : ∀ {l : List UInt8}, l.count c = 0 → spl c l = [l]
  | [], _ => rfl
  | b :: l, h => by
    have hb : b ≠ c := fun e => by subst e; simp at h
    rw [List.count_cons, if_neg (by simp [hb])] at h
    unfold spl
    rw [if_neg hb, spl_none (l := l) (by omega)]
theorem str_size (l : List (List UInt8)) : ∀ r ∈ l.map AV.str, (cellsOf r).length = 1 := by
  intro r hr
  obtain ⟨y, _, rfl⟩ := List.mem_map.1 hr
  rfl
/-- The whole of a slice, by its upper bound. -/
theorem opr_cut_all {P : Program} {T : Tab} {env : Env} {H L : List AObj} {o : Oper} {t : TypeId} {y : Operand} {hi : Option Operand} {rows : List AV} {e n : Nat} {te : TyI} {h : Hd} (hT : TabOk P T) (ho : o.op = .slice t y none hi none) (hy : evA env y = .sl h n 0 n) (hd : tyD T t = .slice e) (hte : tlk T e = some te) (hr : Rd H L (.sl h n 0 n) rows) (hl : loA env none = some 0) (hn : rows.length = n)
    (hh : hiA env rows.length hi = some (n : Int)) (hE : ∀ r ∈ rows, (cellsOf r).length = te.size) : OpR P o env H L (.sl h n 0 n) H L := by
  have := opr_cut (i := 0) (j := (n : Int)) hT ho hy hd hte hr hl hh (by omega) (by omega) (by omega) hE
  simpa [cutA] using this
structure GSp (l : List UInt8) where
  done : List (List UInt8)
  r : List UInt8
  e : done ++ spl 47 r = spl 47 l
  c : r.count 47 + done.length = l.count 47
  h : r.length ≤ l.length
/-- The array while it is filled. -/
def gRow (n : Nat) (d : List (List UInt8)) : List AV := d.map .str ++ List.replicate (n - d.length) (.str [])
theorem gRow_len {n : Nat} {d : List (List UInt8)} (h : d.length ≤ n) : (gRow n d).length = n := by
  unfold gRow
  simp
  omega
theorem gRow_set {n : Nat} {d : List (List UInt8)} (h : d.length < n) (x : List UInt8) : (gRow n d).set (0 + d.length) (.str x) = gRow n (d ++ [x]) := by
  unfold gRow
  rw [Nat.zero_add, List.set_append_right _ _ (by simp), List.length_map, Nat.sub_self, show n - d.length = (n - (d ++ [x]).length) + 1 by simp; omega, List.replicate_succ, List.set_cons_zero, List.map_append, List.append_assoc]
  rfl
set_option maxHeartbeats 8000000 in
theorem gsplit_spec (l : List UInt8) (hl : l.length ≤ 100000) : Con Tryz.prog 128 [.p (.str l), .p (.str [47]), .p (.int .i64 0), .p (.int .i64 (-1))] [] (.sl (.l 0) (spl 47 l).length 0 (spl 47 l).length) [] [.arr 9 true 1 ((spl 47 l).map .str)] := by
  have hcl := count_le 47 l
  have hsl := spl_len 47 l
  have c1 := scount_spec l
  refine con_of Tryz.func128 rfl (by kernel_rfl) rfl fun F w0 β0 => ?_
  refine K_tell rfl ?_
  refine go ?_
  refine K_op rfl rfl (opr_callP rfl rfl (c1) rfl rfl rfl rfl) rfl ?_
  refine go ?_
  have en : mmA Builtin.min (IntKind.i64.wrap (((l.count 47 : Nat) : Int) + 1)) (IntKind.i64.wrap ((l.length : Int) + 1)) = ((l.count 47 + 1 : Nat) : Int) := by
    rw [IntWalk.i64_in _ (by omega), IntWalk.i64_in _ (by omega)]
    show (if (l.length : Int) + 1 < ((l.count 47 : Nat) : Int) + 1 then (l.length : Int) + 1 else ((l.count 47 : Nat) : Int) + 1) = _
    rw [if_neg (by omega)]
    rfl
  rw [en]
  refine K_op rfl rfl (opr_make (n := l.count 47 + 1) hT rfl rfl rfl rfl rfl rfl rfl rfl rfl (by show _ * 16 ≤ _; omega)) rfl ?_
  refine go ?_
  rw [IntWalk.i64_in (((l.count 47 + 1 : Nat) : Int) - 1) (by omega), show ((l.count 47 + 1 : Nat) : Int) - 1 = ((l.count 47 : Nat) : Int) by omega]
  generalize hcn : l.count 47 = cn at hcl hsl
  refine J_loop (fun q : GSp l => [(0, .p (.str q.r)), (1, .p (.str [47])), (2, .p (.int .i64 0)), (3, .p (.int .i64 (cn : Int))), (9, .sl (.l 0) (cn + 1) 0 (cn + 1)), (10, .p (.int .i64 (q.done.length : Int)))]) (fun _ => []) (fun q => [.arr 9 true 1 (gRow (cn + 1) q.done)]) (fun q => q.r.length) ⟨[], l, rfl, rfl, Nat.le_refl _⟩ ⟨rfl, rfl, rfl, rfl, rfl, rfl, trivial⟩ rfl rfl (fun q => ?_)
  obtain ⟨dn, r, he, hc, hr⟩ := q
  dsimp only
  rw [hcn] at hc
  have hdl : dn.length ≤ cn := by omega
  have hgl := gRow_len (n := cn + 1) (d := dn) (by omega)
  refine go ?_
  by_cases h : dn.length < cn
  · obtain ⟨m, h1, h2, h3, h4⟩ := spl_at 47 r (by omega)
    have c2 := index_spec r
    rw [h1] at c2
    refine K_condT rfl (decide_eq_true (by omega)) ?_
    refine go ?_
    refine K_op rfl rfl (opr_callP rfl rfl (c2) rfl rfl rfl rfl) rfl ?_
    refine go ?_
    rw [IntWalk.i64_in ((m : Int) + 0) (by omega), show (m : Int) + 0 = (m : Int) by omega]
    refine K_op rfl rfl (opr_cut_str (i := 0) (j := (m : Int)) hT rfl rfl rfl rfl rfl (by omega) (by omega) (by omega)) rfl ?_
    refine K_op rfl rfl (opr_index hT rfl rfl rfl rfl rfl (Rd.full rfl hgl) (by omega) (by rw [hgl]; omega)) rfl ?_
    refine K_op rfl rfl (opr_storeEl1 hT rfl rfl rfl hgl rfl rfl rfl rfl) rfl ?_
    have ex : ((r.drop (0 : Int).toNat).take ((m : Int).toNat - (0 : Int).toNat)) = r.take m := by simp
    rw [ex, Int.toNat_natCast, gRow_set (by omega)]
    refine go ?_
    rw [IntWalk.i64_in ((m : Int) + (([47] : List UInt8).length : Int)) (by simp; omega)]
    refine K_op rfl rfl (opr_cut_str (i := (m : Int) + 1) (j := (r.length : Int)) hT rfl rfl rfl rfl rfl (by omega) (by omega) (by omega)) rfl ?_
    have ey : ((r.drop ((m : Int) + 1).toNat).take ((r.length : Int).toNat - ((m : Int) + 1).toNat)) = r.drop (m + 1) := by
      rw [show ((m : Int) + 1).toNat = m + 1 by omega, Int.toNat_natCast]
      exact List.take_of_length_le (by simp)
    rw [ey]
    refine go ?_
    rw [IntWalk.i64_in ((dn.length : Int) + 1) (by omega)]
    exact fun a w' β st => ⟨⟨dn ++ [r.take m], r.drop (m + 1), by rw [List.append_assoc, List.singleton_append, ← h3]; exact he, by rw [hcn, List.length_append]; simp; omega, by simp; omega⟩, β, by show (r.drop (m + 1)).length < r.length; simp; omega, st.sim, st.step, st.env.sub (sub_of_all ⟨rfl, rfl, rfl, rfl, rfl, by rw [List.length_append]; rfl, trivial⟩), st.size, st.defers⟩
  have hdc : dn.length = cn := by omega
  refine K_condF rfl (decide_eq_false (by omega)) ?_
  refine go ?_
  refine K_op rfl rfl (opr_index hT rfl rfl rfl rfl rfl (Rd.full rfl hgl) (by omega) (by rw [hgl]; omega)) rfl ?_
  refine K_op rfl rfl (opr_storeEl1 hT rfl rfl rfl hgl rfl rfl rfl rfl) rfl ?_
  have e2 : dn ++ [r] = spl 47 l := by rw [← he, spl_none (show r.count 47 = 0 by omega)]
  have e3 : gRow (cn + 1) (dn ++ [r]) = (spl 47 l).map .str := by
    unfold gRow
    rw [e2, hsl, Nat.sub_self]
    simp
  have hml : ((spl 47 l).map AV.str).length = cn + 1 := by simp [hsl]
  rw [Int.toNat_natCast, gRow_set (by omega), e3]
  refine go ?_
  rw [IntWalk.i64_in ((dn.length : Int) + 1) (by omega), show (dn.length : Int) + 1 = ((cn + 1 : Nat) : Int) by omega]
  refine K_op rfl rfl (opr_cut_all hT rfl rfl rfl rfl (Rd.full rfl hml) rfl hml rfl (str_size _)) rfl ?_
  rw [hsl]
  refine go ?_
  exact J_give hT rfl rfl
theorem split_spec (l : List UInt8) (hl : l.length ≤ 100000) : Con Tryz.prog 104 [.p (.str l), .p (.str [47])] [] (.p (.ps ((spl 47 l).map .str))) [] [] := by
  have c1 := (gsplit_spec l hl).freeze (by simp)
  generalize (spl 47 l).map AV.str = rows at c1
  refine con_of Tryz.func104 rfl (by kernel_rfl) rfl fun F w0 β0 => ?_
  refine K_tell rfl ?_
  refine go ?_
  refine K_op rfl rfl (opr_callP rfl rfl (c1) rfl rfl rfl rfl) rfl ?_
  refine go ?_
  exact J_done hT rfl rfl rfl
end Go.Proofs.YtfnpelogfcnanaaGreatDoor

/- clash: what slices' Index and IndexFunc find; Clash. -/
-- @D
namespace Go.Proofs.YtfnpelogfcnanaaGreatDoor
set_option maxRecDepth 20000
open Go.Awp Tr
/-- The first place at which something holds. -/
def idxG {α : Type} (g : α → Bool) : List α → Nat → Int
  | [], _ => -1
  | x :: t, i => if g x = true then (i : Int) else idxG g t (i + 1)
theorem idxG_any {α : Type} (g : α → Bool) : ∀ (l : List α) (i : Nat), decide (idxG g l i ≥ 0) = l.any g
  | [], i => rfl
  | x :: t, i => by
    unfold idxG
    rw [List.any_cons]
    split
    · rename_i h
      rw [h, Bool.true_or]
      exact decide_eq_true (by omega)
    · rename_i h
      simp only [Bool.not_eq_true] at h
      rw [h, Bool.false_or]
      exact idxG_any g t (i + 1)
structure IxG {α : Type} (g : α → Bool) (l : List α) where
  i : Nat
  h : i ≤ l.length
  e : idxG g (l.drop i) i = idxG g l 0
theorem idxG_step {α : Type} (g : α → Bool) {l : List α} {i : Nat} {x : α} (hx : l[i]? = some x) : idxG g (l.drop i) i = if g x = true then (i : Int) else idxG g (l.drop (i + 1)) (i + 1) := by
  obtain ⟨h, rfl⟩ := List.getElem?_eq_some_iff.1 hx
  rw [List.drop_eq_getElem_cons h]
  rfl
theorem map_get {α : Type} (f : α → AV) {l : List α} {i : Nat} {x : α} (hx : l[i]? = some x) : (l.map f)[((i : Nat) : Int).toNat]? = some (f x) := by rw [Int.toNat_natCast, List.getElem?_map, hx]; rfl
/-! ### IndexFunc -/
end Go.Proofs.YtfnpelogfcnanaaGreatDoor

/- names: may, Split, Under. -/
-- @D
namespace Go.Proofs.YtfnpelogfcnanaaGreatDoor
set_option maxRecDepth 20000
open Go.Awp Tr
set_option maxHeartbeats 4000000 in
theorem sIndexFunc_spec (s : AV) (l : List (List UInt8)) (f : Nat) (g : List UInt8 → Bool) (hrd : ∀ L, Rd [] L (.p s) (l.map .str)) (hl : l.length ≤ big40) (hf : ∀ x ∈ l, Con Tryz.prog f [.p (.str x)] [] (.p (.bool (g x))) [] []) : Con Tryz.prog 145 [.p s, .fn f []] [] (.p (.int .i64 (idxG g l 0))) [] [] := by
  have hlen : (l.map AV.str).length = l.length := by simp
  unfold big40 at hl
  refine con_of Tryz.func145 rfl (by kernel_rfl) rfl fun F w0 β0 => ?_
  refine K_tell rfl ?_
  refine go ?_
  refine K_op rfl rfl (opr_len_rd hT rfl rfl (hrd _)) rfl ?_
  rw [hlen]
  refine go ?_
  refine J_loop (fun q : IxG g l => [(0, .p s), (1, .fn f []), (7, .p (.int .i64 (l.length : Int))), (8, .p (.int .i64 (q.i : Int)))]) (fun _ => []) (fun _ => []) (fun q => l.length - q.i) ⟨0, by omega, rfl⟩ ⟨rfl, rfl, rfl, rfl, trivial⟩ rfl rfl (fun q => ?_)
  have hi := q.h
  have he := q.e
  refine go ?_
  by_cases h : q.i < l.length
  · have hx : l[q.i]? = some l[q.i] := List.getElem?_eq_getElem h
    have hfx := hf _ (List.getElem_mem h)
    generalize l[q.i] = x at hx hfx
    have hxk := map_get AV.str hx
    rw [idxG_step _ hx] at he
    refine K_condT rfl (decide_eq_true (by omega)) ?_
    refine go ?_
    refine K_op rfl rfl (opr_index hT rfl rfl rfl rfl rfl (hrd _) (by omega) (by rw [hlen]; omega)) rfl ?_
    refine go ?_
    refine K_op rfl rfl (opr_load_el hT rfl rfl (hrd _) hxk rfl rfl) rfl ?_
    refine go ?_
    refine K_op rfl rfl (opr_callP rfl rfl (hfx) rfl rfl rfl rfl) rfl ?_
    refine go ?_
    by_cases hk : g x = true
    · rw [if_pos hk] at he
      rw [← he]
      refine K_condT rfl hk ?_
      refine go ?_
      exact J_done hT rfl rfl rfl
    · rw [if_neg hk] at he
      refine K_condF rfl (by simpa using hk) ?_
      refine go ?_
      refine J_again ⟨q.i + 1, by omega, he⟩ (by show l.length - (q.i + 1) < l.length - q.i; omega) ⟨rfl, rfl, rfl, congrArg (fun z => TV.p (.int .i64 z)) (by rw [IntWalk.i64_in _ (by omega)]; rfl), trivial⟩ rfl rfl
  rw [List.drop_eq_nil_of_le (by omega), idxG] at he
  rw [← he]
  refine K_condF rfl (decide_eq_false (by omega)) ?_
  refine go ?_
  exact J_done hT rfl rfl rfl
theorem sContainsFunc_spec (s : AV) (l : List (List UInt8)) (f : Nat) (g : List UInt8 → Bool) (hrd : ∀ L, Rd [] L (.p s) (l.map .str)) (hl : l.length ≤ big40) (hf : ∀ x ∈ l, Con Tryz.prog f [.p (.str x)] [] (.p (.bool (g x))) [] []) : Con Tryz.prog 129 [.p s, .fn f []] [] (.p (.bool (l.any g))) [] [] := by
  have c1 := sIndexFunc_spec s l f g hrd hl hf
  rw [← idxG_any g l 0]
  generalize idxG g l 0 = z at c1
  refine con_of Tryz.func129 rfl (by kernel_rfl) rfl fun F w0 β0 => ?_
  refine K_tell rfl ?_
  refine go ?_
  refine K_op rfl rfl (opr_callP rfl rfl (c1) rfl rfl rfl rfl) rfl ?_
  refine go ?_
  exact J_done hT rfl rfl rfl
theorem may1_spec (x : List UInt8) : Con Tryz.prog 130 [.p (.str x)] [] (.p (.bool (!nameB x))) [] [] := by
  have c1 := kname_spec x
  generalize nameB x = b at c1
  refine con_of Tryz.func130 rfl (by kernel_rfl) rfl fun F w0 β0 => ?_
  refine K_tell rfl ?_
  refine go ?_
  refine K_op rfl rfl (opr_callP rfl rfl (c1) rfl rfl rfl rfl) rfl ?_
  refine go ?_
  exact J_done hT rfl rfl rfl
/-- May names be a path's? -/
def mayN (l : List (List UInt8)) : Bool := decide ((l.length : Int) ≤ 16) && !(l.any fun x => !nameB x)
theorem may16_spec (s : AV) (l : List (List UInt8)) (hrd : ∀ L, Rd [] L (.p s) (l.map .str)) (hl : l.length ≤ big40) : Con Tryz.prog 105 [.p s] [] (.p (.bool (mayN l))) [] [] := by
  have hlen : (l.map AV.str).length = l.length := by simp
  have c1 := sContainsFunc_spec s l 130 (fun x => !nameB x) hrd hl (fun x _ => may1_spec x)
  unfold mayN
  generalize (l.any fun x => !nameB x) = b at c1
  refine con_of Tryz.func105 rfl (by kernel_rfl) rfl fun F w0 β0 => ?_
  refine K_tell rfl ?_
  refine go ?_
  refine K_op rfl rfl (opr_len_rd hT rfl rfl (hrd _)) rfl ?_
  rw [hlen]
  refine go ?_
  refine K_opt rfl rfl rfl need1 (fun _ => opr_callP rfl rfl (c1) rfl rfl rfl rfl) rfl ?_
  refine go ?_
  exact J_done hT rfl rfl rfl
/-- A path's names: the slice, the names, the error. -/
def splitN (l : List UInt8) : AV × Int :=
  if l = [] ∨ 255 < l.length then (.nils, 17) else if l.headD 0 ≠ 47 then (.nils, 15) else if l = [47] then (.nils, 0)
  else if mayN (spl 47 (l.drop 1)) = true then (.ps ((spl 47 (l.drop 1)).map .str), 0) else (.nils, 17)
set_option maxHeartbeats 4000000 in
theorem nsplit_spec (l : List UInt8) : Con Tryz.prog 64 [.p (.str l)] [] (.tup [.p (splitN l).1, .p (.int .i64 (splitN l).2)]) [] [] := by
  unfold splitN
  by_cases h1 : l = [] ∨ 255 < l.length
  · rw [if_pos h1]
    refine con_of Tryz.func64 rfl (by kernel_rfl) rfl fun F w0 β0 => ?_
    refine K_tell rfl ?_
    refine go ?_
    refine K_condT rfl (by rcases h1 with h | h <;> simp [h] <;> omega) ?_
    refine go ?_
    exact J_done hT rfl rfl rfl
  · rw [if_neg h1]
    have hne : l ≠ [] := fun e => h1 (.inl e)
    have h0 : l[0]? = some (l.headD 0) := by
      cases l with
      | nil => exact absurd rfl hne
      | cons b r => rfl
    by_cases h2 : l.headD 0 ≠ 47
    · rw [if_pos h2]
      refine con_of Tryz.func64 rfl (by kernel_rfl) rfl fun F w0 β0 => ?_
      refine K_tell rfl ?_
      refine go ?_
      refine K_condF rfl (by simp [hne]; omega) ?_
      refine go ?_
      refine K_op rfl rfl (opr_byte hT rfl rfl rfl rfl (by decide) h0) rfl ?_
      refine go ?_
      refine K_condT rfl (by rw [bne_iff_ne]; intro e; exact h2 (UInt8.toNat_inj.1 (by show (l.headD 0).toNat = 47; omega))) ?_
      refine go ?_
      exact J_done hT rfl rfl rfl
    · rw [if_neg h2]
      simp only [ne_eq, Decidable.not_not] at h2
      by_cases h3 : l = [47]
      · subst h3
        rw [if_pos rfl]
        refine con_of Tryz.func64 rfl (by kernel_rfl) rfl fun F w0 β0 => ?_
        refine K_tell rfl ?_
        refine go ?_
        refine K_op rfl rfl (opr_byte hT rfl rfl rfl rfl (by decide) rfl) rfl ?_
        refine go ?_
        exact J_done hT rfl rfl rfl
      · rw [if_neg h3]
        have c1 := split_spec (l.drop 1) (by simp; omega)
        have hbd : (spl 47 (l.drop 1)).length ≤ big40 := by
          rw [spl_len]
          have h5 := count_le 47 (l.drop 1)
          have h6 : (l.drop 1).length ≤ l.length := by simp
          unfold big40
          omega
        have c2 := may16_spec (.ps ((spl 47 (l.drop 1)).map .str)) (spl 47 (l.drop 1)) (fun _ => .ps _) hbd
        have hcut : ((l.drop (1 : Int).toNat).take ((l.length : Int).toNat - (1 : Int).toNat)) = l.drop 1 := List.take_of_length_le (by simp)
        generalize spl 47 (l.drop 1) = p at c1 c2
        refine con_of Tryz.func64 rfl (by kernel_rfl) rfl fun F w0 β0 => ?_
        refine K_tell rfl ?_
        refine go ?_
        refine K_condF rfl (by simp [hne]; omega) ?_
        refine go ?_
        refine K_op rfl rfl (opr_byte hT rfl rfl rfl rfl (by decide) h0) rfl ?_
        rw [h2]
        refine go ?_
        refine K_condF rfl (by simp [h3]) ?_
        refine go ?_
        refine K_op rfl rfl (opr_cut_str (i := 1) (j := (l.length : Int)) hT rfl rfl rfl rfl rfl (by omega) (by have := List.length_pos_iff.2 hne; omega) (by omega)) rfl ?_
        rw [hcut]
        refine K_op rfl rfl (opr_callP rfl rfl (c1) rfl rfl rfl rfl) rfl ?_
        refine go ?_
        refine K_op rfl rfl (opr_callP rfl rfl (c2) rfl rfl rfl rfl) rfl ?_
        by_cases hm : mayN p = true
        · rw [if_pos hm, hm]
          refine go ?_
          exact J_done hT rfl rfl rfl
        · rw [if_neg hm]
          simp only [Bool.not_eq_true] at hm
          rw [hm]
          refine go ?_
          exact J_done hT rfl rfl rfl
end Go.Proofs.YtfnpelogfcnanaaGreatDoor

/- A call as one operation of the abstract walk; a function's end. No program is named here. -/
import Derived.Test.YtfkibkfjebppdaaAwpB
namespace Go.Awp
open Go.RowKit

mutual
theorem ext_shift (n : Nat) : ∀ (x : TV), x.ext = true → x.shift n = x
  | .p _, _ => rfl
  | .ad (.o _) _, _ => rfl
  | .ad (.l _) _, h => by simp [TV.ext] at h
  | .sl (.o _) _ _ _, _ => rfl
  | .sl (.l _) _ _ _, h => by simp [TV.ext] at h
  | .el .., h => by simp [TV.ext] at h
  | .agg l, h => by simp only [TV.shift]; rw [extL_shift n l (by simpa [TV.ext] using h)]
  | .tup l, h => by simp only [TV.shift]; rw [extL_shift n l (by simpa [TV.ext] using h)]
  | .fn f l, h => by simp only [TV.shift]; rw [extL_shift n l (by simpa [TV.ext] using h)]
  | .opt g x, h => by simp only [TV.shift]; rw [ext_shift n x (by simpa [TV.ext] using h)]
theorem extL_shift (n : Nat) : ∀ (l : List TV), TV.ext.extL l = true → TV.shift.shiftL n l = l
  | [], _ => rfl
  | x :: r, h => by
    simp only [TV.ext.extL, Bool.and_eq_true] at h
    simp only [TV.shift.shiftL]
    rw [ext_shift n x h.1, extL_shift n r h.2]
end

theorem shiftL_get (n : Nat) : ∀ (l : List TV) (i : Nat), (TV.shift.shiftL n l)[i]? = (l[i]?).map (TV.shift n)
  | [], i => by simp [TV.shift.shiftL]
  | x :: r, 0 => by simp [TV.shift.shiftL]
  | x :: r, i + 1 => by simpa [TV.shift.shiftL] using shiftL_get n r i
theorem shiftL_length (n : Nat) : ∀ (l : List TV), (TV.shift.shiftL n l).length = l.length
  | [] => rfl
  | x :: r => by simp [TV.shift.shiftL, shiftL_length n r]
theorem extL_get : ∀ {l : List TV} {i : Nat} {x : TV}, TV.ext.extL l = true → l[i]? = some x → x.ext = true
  | [], i, x, _, h => by simp at h
  | y :: r, 0, x, h, hx => by
    simp only [TV.ext.extL, Bool.and_eq_true] at h
    obtain rfl : y = x := by simpa using hx
    exact h.1
  | y :: r, i + 1, x, h, hx => by
    simp only [TV.ext.extL, Bool.and_eq_true] at h
    exact extL_get h.2 (by simpa using hx)

theorem AObj.shift_dead (n : Nat) (o : AObj) : o.shift n = .dead ↔ o = .dead := by cases o <;> simp [AObj.shift]
theorem AObj.shift_isBox (n : Nat) (o : AObj) : (o.shift n).isBox = o.isBox := by cases o <;> rfl
theorem AObj.ext_shift (n : Nat) (o : AObj) (h : o.ext = true) : o.shift n = o := by
  cases o <;> simp only [AObj.shift]
  rw [extL_shift n _ h]

section
variable {w : World} {β : Hd → Nat} {H L : List AObj} {F : Nat → Prop}

/-- What others must not touch while a callee works. -/
def lendF (β : Hd → Nat) (L : List AObj) (F : Nat → Prop) (b : Nat) : Prop := F b ∨ ∃ i o, L[i]? = some o ∧ o ≠ .dead ∧ β (.l i) = b

theorem free_lend (b : Nat) (h : Free β ⟨H, L, F⟩ b) : Free β ⟨H, [], lendF β L F⟩ b := by
  obtain ⟨h1, h2⟩ := h
  refine ⟨fun hb => ?_, fun k hk => ?_⟩
  · rcases hb with hb | ⟨i, o, hi, hne, rfl⟩
    · exact h1 hb
    · exact h2 (.l i) ⟨o, hi, hne⟩ rfl
  · cases k with
    | o k => exact h2 _ hk
    | l i => obtain ⟨o, ho, _⟩ := hk; simp [Hp.get] at ho

/-- Handed to a callee. -/
theorem RepT.lend {x : TV} {v : Value} (h : RepT w β ⟨H, L, F⟩ x v) (hx : x.ext = true) : RepT w β ⟨H, [], lendF β L F⟩ x v := by
  induction h with
  | p h => exact .p (h.mono (Nat.le_refl _) fun b _ hb => ⟨rfl, free_lend b hb⟩)
  | ad h off v h1 hl hv => cases h with
    | o k => exact .ad _ off v h1 hl hv
    | l i => simp [TV.ext] at hx
  | sl h n st len v h1 hl hv => cases h with
    | o k => exact .sl _ n st len v h1 hl hv
    | l i => simp [TV.ext] at hx
  | el => simp [TV.ext] at hx
  | agg xs vs hl hr ih => exact .agg xs vs hl fun i x v h1 h2 => ih i x v h1 h2 (extL_get (by simpa [TV.ext] using hx) h1)
  | tup xs vs hl hr ih => exact .tup xs vs hl fun i x v h1 h2 => ih i x v h1 h2 (extL_get (by simpa [TV.ext] using hx) h1)
  | fn f xs vs hl hr ih => exact .fn f xs vs hl fun i x v h1 h2 => ih i x v h1 h2 (extL_get (by simpa [TV.ext] using hx) h1)
  | opt g x v h1 h2 ih => exact .opt g x v (fun hg => ih hg (by simpa [TV.ext] using hx)) h2

theorem Sim.lend (h : Sim w β ⟨H, L, F⟩) : Sim w β ⟨H, [], lendF β L F⟩ := by
  refine ⟨fun k o ho => ?_, fun k j hk hj => ?_, h.ext, fun k hk hb => ?_, fun b hb => ?_⟩
  · cases k with
    | l i => simp [Hp.get] at ho
    | o k =>
      have hx : o.ext = true := h.ext o (List.mem_of_getElem? ho)
      have := h.objs (.o k) o ho
      cases o with
      | dead => trivial
      | box T cells =>
        obtain ⟨cs, h1, h2, h4⟩ := this
        exact ⟨cs, h1, h2, fun i x hi => let ⟨v, hv, hr⟩ := h4 i x hi; ⟨v, hv, hr.lend (extL_get (by simpa [AObj.ext] using hx) hi)⟩⟩
      | arr T app e rows =>
        obtain ⟨cs, fr, h1, h2, h3, h4, h5, h6, h7⟩ := this
        exact ⟨cs, fr, h1, h2, h3, h4, h5, h6, fun i j r x hr hx => let ⟨v, hv, hr'⟩ := h7 i j r x hr hx; ⟨v, hv, hr'.mono (Nat.le_refl _) fun b _ hb => ⟨rfl, free_lend b hb⟩⟩⟩
      | iter s pos => exact this
  · cases k with
    | l i => obtain ⟨o, ho, _⟩ := hk; simp [Hp.get] at ho
    | o k => cases j with
      | l i => obtain ⟨o, ho, _⟩ := hj; simp [Hp.get] at ho
      | o j => exact h.inj (.o k) (.o j) hk hj
  · cases k with
    | l i => obtain ⟨o, ho, _⟩ := hk; simp [Hp.get] at ho
    | o k =>
      rcases hb with hb | ⟨i, o, hi, hne, he⟩
      · exact h.disj (.o k) hk hb
      · have := h.inj (.l i) (.o k) ⟨o, hi, hne⟩ hk he
        cases this
  · rcases hb with hb | ⟨i, o, hi, hne, rfl⟩
    · exact h.flt b hb
    · exact h.lt ⟨o, hi, hne⟩

variable {w' : World} {β1 : Hd → Nat} {H' news : List AObj}
def joinβ (β β1 : Hd → Nat) (n : Nat) : Hd → Nat
  | .o h => β1 (.o h)
  | .l i => if i < n then β (.l i) else β1 (.l (i - n))

theorem get_join_new (i : Nat) : (⟨H', L ++ news.map (AObj.shift L.length), F⟩ : Hp).get (.l (L.length + i)) = (news[i]?).map (AObj.shift L.length) := by
  simp only [Hp.get, List.getElem?_append, if_neg (show ¬ L.length + i < L.length by omega), Nat.add_sub_cancel_left, List.getElem?_map]
theorem get_join_old {i : Nat} (h : i < L.length) : (⟨H', L ++ news.map (AObj.shift L.length), F⟩ : Hp).get (.l i) = L[i]? := by
  simp [Hp.get, List.getElem?_append, h]

theorem live_join {k : Hd} (h : (⟨H', L ++ news.map (AObj.shift L.length), F⟩ : Hp).live k) :
    (∃ j, k = .o j ∧ (⟨H', news, F⟩ : Hp).live (.o j)) ∨ (∃ i o, k = .l i ∧ i < L.length ∧ L[i]? = some o ∧ o ≠ .dead) ∨ (∃ i, k = .l (L.length + i) ∧ (⟨H', news, F⟩ : Hp).live (.l i)) := by
  obtain ⟨o, ho, hne⟩ := h
  cases k with
  | o j => exact .inl ⟨j, rfl, o, ho, hne⟩
  | l i =>
    by_cases hi : i < L.length
    · rw [get_join_old hi] at ho
      exact .inr (.inl ⟨i, o, rfl, hi, ho, hne⟩)
    · obtain ⟨j, rfl⟩ : ∃ j, i = L.length + j := ⟨i - L.length, by omega⟩
      rw [get_join_new] at ho
      obtain ⟨o1, h1, rfl⟩ := Option.map_eq_some_iff.1 ho
      exact .inr (.inr ⟨j, rfl, o1, h1, fun e => hne ((AObj.shift_dead _ _).2 e)⟩)

theorem free_join {b : Nat} (h : Free β1 ⟨H', news, lendF β L F⟩ b) : Free (joinβ β β1 L.length) ⟨H', L ++ news.map (AObj.shift L.length), F⟩ b := by
  obtain ⟨h1, h2⟩ := h
  refine ⟨fun hb => h1 (.inl hb), fun k hk => ?_⟩
  rcases live_join hk with ⟨j, rfl, hj⟩ | ⟨i, o, rfl, hi, ho, hne⟩ | ⟨i, rfl, hi⟩
  · exact h2 (.o j) hj
  · simp only [joinβ, if_pos hi]
    exact fun e => h1 (.inr ⟨i, o, ho, hne, e⟩)
  · simp only [joinβ, if_neg (show ¬ L.length + i < L.length by omega), Nat.add_sub_cancel_left]
    exact h2 (.l i) hi

/-- Come back from a callee. -/
theorem RepT.join {x : TV} {v : Value} (h : RepT w' β1 ⟨H', news, lendF β L F⟩ x v) : RepT w' (joinβ β β1 L.length) ⟨H', L ++ news.map (AObj.shift L.length), F⟩ (x.shift L.length) v := by
  induction h with
  | p h => exact .p (h.mono (Nat.le_refl _) fun b _ hb => ⟨rfl, free_join hb⟩)
  | ad h off v h1 hl hv => cases h with
    | o k => exact .ad _ off v h1 hl hv
    | l i =>
      obtain ⟨o, ho⟩ := hl
      refine .ad _ off v h1 ⟨o.shift L.length, by rw [get_join_new]; simpa using ⟨o, ho, rfl⟩⟩ fun o2 h2 hb => ?_
      rw [get_join_new] at h2
      obtain ⟨o1, g1, rfl⟩ := Option.map_eq_some_iff.1 h2
      simp only [joinβ, if_neg (show ¬ L.length + i < L.length by omega), Nat.add_sub_cancel_left]
      exact hv o1 g1 (by rwa [AObj.shift_isBox] at hb)
  | sl h n st len v h1 hl hv => cases h with
    | o k => exact .sl _ n st len v h1 hl hv
    | l i =>
      obtain ⟨o, ho, hn⟩ := hl
      refine .sl _ n st len v h1 ⟨o.shift L.length, by rw [get_join_new]; simpa using ⟨o, ho, rfl⟩, fun T b e rows hr => ?_⟩ fun T b e rows hr hlen => ?_
      · cases o <;> simp [AObj.shift] at hr
        obtain ⟨rfl, rfl, rfl, rfl⟩ := hr
        exact hn _ _ _ _ rfl
      · rw [get_join_new] at hr
        obtain ⟨o1, g1, h2⟩ := Option.map_eq_some_iff.1 hr
        cases o1 <;> simp [AObj.shift] at h2
        obtain ⟨rfl, rfl, rfl, rfl⟩ := h2
        simp only [joinβ, if_neg (show ¬ L.length + i < L.length by omega), Nat.add_sub_cancel_left]
        exact hv _ _ _ _ g1 hlen
  | el e i off ao len c _ hi ih => exact .el e i off ao len c ih hi
  | agg xs vs hl _ ih =>
    refine .agg _ vs (by rw [shiftL_length]; exact hl) fun i x v h1 h2 => ?_
    rw [shiftL_get] at h1
    obtain ⟨y, hy, rfl⟩ := Option.map_eq_some_iff.1 h1
    exact ih i y v hy h2
  | tup xs vs hl _ ih =>
    refine .tup _ vs (by rw [shiftL_length]; exact hl) fun i x v h1 h2 => ?_
    rw [shiftL_get] at h1
    obtain ⟨y, hy, rfl⟩ := Option.map_eq_some_iff.1 h1
    exact ih i y v hy h2
  | fn f xs vs hl _ ih =>
    refine .fn f _ vs (by rw [shiftL_length]; exact hl) fun i x v h1 h2 => ?_
    rw [shiftL_get] at h1
    obtain ⟨y, hy, rfl⟩ := Option.map_eq_some_iff.1 h1
    exact ih i y v hy h2
  | opt g x v _ h2 ih => exact .opt g _ v ih h2

theorem ObjGo.same {b : Nat} {o : AObj} (h : o ≠ .dead → w'.heap[b]? = w.heap[b]?) : ObjGo w w' b b o o := by
  cases o with
  | dead => simp [ObjGo]
  | box => simp [ObjGo]
  | iter => simp [ObjGo]
  | arr => simp [ObjGo, csize, h]

theorem back (hS : Sim w β ⟨H, L, F⟩) (hS1 : Sim w' β1 ⟨H', news, lendF β L F⟩) (hst : Step w β ⟨H, [], lendF β L F⟩ w' β1 ⟨H', news, lendF β L F⟩) :
    Sim w' (joinβ β β1 L.length) ⟨H', L ++ news.map (AObj.shift L.length), F⟩ ∧ Step w β ⟨H, L, F⟩ w' (joinβ β β1 L.length) ⟨H', L ++ news.map (AObj.shift L.length), F⟩ := by
  have hLb : ∀ i o, L[i]? = some o → o ≠ .dead → w'.heap[β (.l i)]? = w.heap[β (.l i)]? := fun i o hi hne => hst.fr _ (.inr ⟨i, o, hi, hne, rfl⟩)
  have hstep : Step w β ⟨H, L, F⟩ w' (joinβ β β1 L.length) ⟨H', L ++ news.map (AObj.shift L.length), F⟩ := by
    refine ⟨hst.os, hst.tape, hst.output, hst.size, fun b hb hf => ?_, fun b hb => hst.fr b (.inl hb), rfl, fun k o ho => ?_⟩
    · obtain ⟨h1, h2⟩ := hst.frame b hb (free_lend b hf)
      exact ⟨h1, free_join h2⟩
    · cases k with
      | o k => exact hst.obj (.o k) o ho
      | l i =>
        have hi : i < L.length := by
          rcases Nat.lt_or_ge i L.length with h | h
          · exact h
          · simp [Hp.get, List.getElem?_eq_none h] at ho
        refine ⟨o, by rw [get_join_old hi]; exact ho, ?_⟩
        simp only [joinβ, if_pos hi]
        exact ObjGo.same (hLb i o ho)
  refine ⟨⟨fun k o ho => ?_, fun k j hk hj he => ?_, fun o ho => hS1.ext o ho, fun k hk hb => ?_, fun b hb => Nat.lt_of_lt_of_le (hS.flt b hb) hst.size⟩, hstep⟩
  · have shifted : ∀ k1 o1, (⟨H', news, lendF β L F⟩ : Hp).get k1 = some o1 → ObjOk w' (joinβ β β1 L.length) ⟨H', L ++ news.map (AObj.shift L.length), F⟩ (β1 k1) (o1.shift L.length) := by
      intro k1 o1 h1
      have := hS1.objs k1 o1 h1
      cases o1 with
      | dead => trivial
      | box T cells =>
        obtain ⟨cs, h1, h2, h4⟩ := this
        refine ⟨cs, h1, by rw [shiftL_length]; exact h2, fun i x hx => ?_⟩
        rw [shiftL_get] at hx
        obtain ⟨y, hy, rfl⟩ := Option.map_eq_some_iff.1 hx
        obtain ⟨v, hv, hr⟩ := h4 i y hy
        exact ⟨v, hv, hr.join⟩
      | arr T app e rows =>
        obtain ⟨cs, fr, h1, h2, h3, h4, h5, h6, h7⟩ := this
        exact ⟨cs, fr, h1, h2, h3, h4, h5, h6, fun i j r x hr hx => let ⟨v, hv, hr'⟩ := h7 i j r x hr hx; ⟨v, hv, hr'.mono (Nat.le_refl _) fun b _ hb => ⟨rfl, free_join hb⟩⟩⟩
      | iter s pos => exact this
    cases k with
    | o k =>
      have := shifted (.o k) o ho
      rwa [AObj.ext_shift _ _ (hS1.ext o (List.mem_of_getElem? ho))] at this
    | l i =>
      by_cases hi : i < L.length
      · rw [get_join_old hi] at ho
        simp only [joinβ, if_pos hi]
        by_cases hd : o = .dead
        · subst hd; trivial
        · exact (hS.objs (.l i) o ho).mono hstep (hLb i o ho hd)
      · obtain ⟨j, rfl⟩ : ∃ j, i = L.length + j := ⟨i - L.length, by omega⟩
        rw [get_join_new] at ho
        obtain ⟨o1, h1, rfl⟩ := Option.map_eq_some_iff.1 ho
        simp only [joinβ, if_neg (show ¬ L.length + j < L.length by omega), Nat.add_sub_cancel_left]
        exact shifted (.l j) o1 h1
  · have cross : ∀ k1 i o, (⟨H', news, lendF β L F⟩ : Hp).live k1 → L[i]? = some o → o ≠ .dead → β1 k1 ≠ β (.l i) :=
      fun k1 i o hk ho hne e => hS1.disj k1 hk (.inr ⟨i, o, ho, hne, e.symm⟩)
    rcases live_join hk with ⟨a, rfl, ha⟩ | ⟨a, o, rfl, hal, ho, hne⟩ | ⟨a, rfl, ha⟩ <;> rcases live_join hj with ⟨c, rfl, hc⟩ | ⟨c, o', rfl, hcl, ho', hne'⟩ | ⟨c, rfl, hc⟩
    · simp only [joinβ] at he
      exact hS1.inj (.o a) (.o c) ha hc he
    · simp only [joinβ, if_pos hcl] at he
      exact absurd he (cross _ _ _ ha ho' hne')
    · simp only [joinβ, if_neg (show ¬ L.length + c < L.length by omega), Nat.add_sub_cancel_left] at he
      have := hS1.inj (.o a) (.l c) ha hc he
      cases this
    · simp only [joinβ, if_pos hal] at he
      exact absurd he.symm (cross _ _ _ hc ho hne)
    · simp only [joinβ, if_pos hal, if_pos hcl] at he
      exact hS.inj (.l a) (.l c) ⟨o, ho, hne⟩ ⟨o', ho', hne'⟩ he
    · simp only [joinβ, if_pos hal, if_neg (show ¬ L.length + c < L.length by omega), Nat.add_sub_cancel_left] at he
      exact absurd he.symm (cross _ _ _ hc ho hne)
    · simp only [joinβ, if_neg (show ¬ L.length + a < L.length by omega), Nat.add_sub_cancel_left] at he
      have := hS1.inj (.l a) (.o c) ha hc he
      cases this
    · simp only [joinβ, if_neg (show ¬ L.length + a < L.length by omega), Nat.add_sub_cancel_left, if_pos hcl] at he
      exact absurd he (cross _ _ _ ha ho' hne')
    · simp only [joinβ, if_neg (show ¬ L.length + a < L.length by omega), if_neg (show ¬ L.length + c < L.length by omega), Nat.add_sub_cancel_left] at he
      have := hS1.inj (.l a) (.l c) ha hc he
      injection this with this
      rw [this]
  · rcases live_join hk with ⟨a, rfl, ha⟩ | ⟨a, o, rfl, hal, ho, hne⟩ | ⟨a, rfl, ha⟩
    · exact hS1.disj (.o a) ha (.inl hb)
    · simp only [joinβ, if_pos hal] at hb
      exact hS.disj (.l a) ⟨o, ho, hne⟩ hb
    · simp only [joinβ, if_neg (show ¬ L.length + a < L.length by omega), Nat.add_sub_cancel_left] at hb
      exact hS1.disj (.l a) ha (.inl hb)
end

def evL (env : Env) : List Operand → List TV
  | [] => []
  | x :: r => evA env x :: evL env r
theorem evL_ok {w : World} {β : Hd → Nat} {G : Hp} {env : Env} {a : Act} (he : EnvR w β G env a) : ∀ (l : List Operand), RepL w β G (evL env l) (l.map a.eval)
  | [] => ⟨rfl, by simp [evL]⟩
  | x :: r => by
    obtain ⟨h1, h2⟩ := evL_ok he r
    refine ⟨by simp [evL, h1], fun i y v hy hv => ?_⟩
    cases i with
    | zero => simp [evL] at hy hv; subst hy hv; exact evA_ok he x
    | succ i => exact h2 i y v (by simpa [evL] using hy) (by simpa using hv)
theorem RepL.append {w : World} {β : Hd → Nat} {G : Hp} {xs ys : List TV} {vs us : List Value} (h : RepL w β G xs vs) (k : RepL w β G ys us) : RepL w β G (xs ++ ys) (vs ++ us) := by
  obtain ⟨h1, h2⟩ := h
  obtain ⟨k1, k2⟩ := k
  refine ⟨by simp [h1, k1], fun i x v hx hv => ?_⟩
  rw [List.getElem?_append] at hx hv
  rw [h1] at hv
  split at hx
  · rename_i h; rw [if_pos h] at hv; exact h2 i x v hx hv
  · rename_i h; rw [if_neg h] at hv; exact k2 _ x v hx hv
theorem RepL.lend {w : World} {β : Hd → Nat} {H L : List AObj} {F : Nat → Prop} {xs : List TV} {vs : List Value} (h : RepL w β ⟨H, L, F⟩ xs vs) (hx : TV.ext.extL xs = true) : RepL w β ⟨H, [], lendF β L F⟩ xs vs :=
  ⟨h.1, fun i x v h1 h2 => (h.2 i x v h1 h2).lend (extL_get hx h1)⟩

section
variable {P : Program} {env : Env} {H L : List AObj} {o : Oper}
theorem run_enter {f : FuncId} {args : Array Value} {w : World} (h : callable P f = true) : (callFunc f args).run P w = .ok (.enter f args) w := by
  unfold callable at h
  split at h
  · rename_i fn hf
    simp only [Bool.and_eq_true, bne_iff_ne, ne_eq] at h
    obtain ⟨h1, h2⟩ := h
    obtain ⟨b, hb⟩ := Option.isSome_iff_exists.1 h2
    simp [callFunc, hf, h1, hb]
  · cases h

/-- A CALL. -/
theorem opr_call {fo : Operand} {as : List Operand} {ts : Array TypeId} {f : FuncId} {caps args : List TV} {r : TV} {H' news : List AObj}
    (ho : o.op = .call { callee := .value fo, args := as.toArray, argTypes := ts }) (hf : evA env fo = .fn f caps) (ha : evL env as ++ caps = args) (hx : TV.ext.extL args = true) (sp : Con P f args H r H' news) :
    OpR P o env H L (r.shift L.length) H' (L ++ news.map (AObj.shift L.length)) := by
  intro F w β a next Q hS he hn
  have hfo := evA_ok he fo
  rw [hf] at hfo
  obtain ⟨vs, hvs, hc⟩ : ∃ vs : List Value, a.eval fo = .func (.func f) #[] vs.toArray ∧ RepL w β ⟨H, L, F⟩ caps vs := by
    generalize hv : a.eval fo = v at hfo
    cases hfo with | fn _ _ vs hl hr => exact ⟨vs, rfl, hl, hr⟩
  have hargs := (evL_ok he as).append hc
  rw [ha] at hargs
  have hcall := sp.run (lendF β L F) w β (as.map a.eval ++ vs) hS.lend (hargs.lend hx)
  unfold Oper.wp execOp
  simp only [ho, resolve, invoke, Deferred.ofValue, hvs, Sem.run_bind, Sem.run_pure, Result.andThen_ok, List.map_toArray, List.nil_append, List.append_toArray, run_enter sp.can, Oper.upon]
  refine hcall.mono ?_
  rintro e w' ⟨β1, v, rfl, hS1, hst, hr⟩
  obtain ⟨h1, h2⟩ := back hS hS1 hst
  exact hn w' _ v h1 h2 hr.join
theorem opr_call0 {fo : Operand} {as : List Operand} {ts : Array TypeId} {f : FuncId} {caps args : List TV} {r : TV} {H' : List AObj}
    (ho : o.op = .call { callee := .value fo, args := as.toArray, argTypes := ts }) (hf : evA env fo = .fn f caps) (ha : evL env as ++ caps = args) (hx : TV.ext.extL args = true) (hr : r.ext = true) (sp : Con P f args H r H' []) :
    OpR P o env H L r H' L := by
  have h := opr_call (L := L) ho hf ha hx sp
  rwa [ext_shift _ _ hr, List.map_nil, List.append_nil] at h
end

end Go.Awp

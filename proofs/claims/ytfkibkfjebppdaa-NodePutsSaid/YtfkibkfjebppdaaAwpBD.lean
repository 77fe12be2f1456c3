/- Loops gone through round by round; an own object that becomes the caller's. No program is named here. -/
import Derived.Test.YtfkibkfjebppdaaAwpBC
import Derived.LoopN
namespace Go.Awp
open Go.RowKit

section
variable {P : Program} {Γ : Ctx} {env : Env} {H L : List AObj} {Q : Exit → Act → World → Prop} {c : Code}
theorem J_unroll (n : Nat) (h : J Γ env H L (Code.rounds P c Q n)) : J Γ env H L ((Code.loop c).wp P Q) := J_mono h fun _ _ => wp_loop_rounds _
theorem J_round {n : Nat} (h : J Γ env H L (c.wp P (Exit.then (Code.rounds P c Q n) Q))) : J Γ env H L (Code.rounds P c Q (n + 1)) := fun a w β s => by
  rw [rounds_succ]
  exact h a w β s
end

/-! ### An own object that becomes the caller's -/
def Hd.mv (i k : Nat) : Hd → Hd
  | .l j => match Nat.beq j i with
    | true => .o k
    | false => .l j
  | .o j => .o j
def TV.mv (i k : Nat) : TV → TV
  | .p x => .p x
  | .ad h off => .ad (h.mv i k) off
  | .sl h a b c => .sl (h.mv i k) a b c
  | .el s e j off => .el (s.mv i k) e j off
  | .agg l => .agg (mvL i k l)
  | .tup l => .tup (mvL i k l)
  | .fn f l => .fn f (mvL i k l)
  | .opt c x => .opt c (x.mv i k)
where mvL (i k : Nat) : List TV → List TV
  | [] => []
  | x :: r => x.mv i k :: mvL i k r
def AObj.mv (i k : Nat) : AObj → AObj
  | .box T cells => .box T (TV.mv.mvL i k cells)
  | o => o
theorem mvL_get (i k : Nat) : ∀ (l : List TV) (j : Nat), (TV.mv.mvL i k l)[j]? = (l[j]?).map (TV.mv i k)
  | [], j => by simp [TV.mv.mvL]
  | x :: r, 0 => by simp [TV.mv.mvL]
  | x :: r, j + 1 => by simpa [TV.mv.mvL] using mvL_get i k r j
theorem mvL_length (i k : Nat) : ∀ (l : List TV), (TV.mv.mvL i k l).length = l.length
  | [] => rfl
  | x :: r => by simp [TV.mv.mvL, mvL_length i k r]
theorem AObj.mv_dead (i k : Nat) (o : AObj) : o.mv i k = .dead ↔ o = .dead := by cases o <;> simp [AObj.mv]
theorem AObj.mv_isBox (i k : Nat) (o : AObj) : (o.mv i k).isBox = o.isBox := by cases o <;> rfl
mutual
theorem ext_mv (i k : Nat) : ∀ (x : TV), x.ext = true → x.mv i k = x
  | .p _, _ => rfl
  | .ad (.o _) _, _ => rfl
  | .ad (.l _) _, h => by simp [TV.ext] at h
  | .sl (.o _) _ _ _, _ => rfl
  | .sl (.l _) _ _ _, h => by simp [TV.ext] at h
  | .el .., h => by simp [TV.ext] at h
  | .agg l, h => by simp only [TV.mv]; rw [extL_mv i k l (by simpa [TV.ext] using h)]
  | .tup l, h => by simp only [TV.mv]; rw [extL_mv i k l (by simpa [TV.ext] using h)]
  | .fn f l, h => by simp only [TV.mv]; rw [extL_mv i k l (by simpa [TV.ext] using h)]
  | .opt g x, h => by simp only [TV.mv]; rw [ext_mv i k x (by simpa [TV.ext] using h)]
theorem extL_mv (i k : Nat) : ∀ (l : List TV), TV.ext.extL l = true → TV.mv.mvL i k l = l
  | [], _ => rfl
  | x :: r, h => by
    simp only [TV.ext.extL, Bool.and_eq_true] at h
    simp only [TV.mv.mvL]
    rw [ext_mv i k x h.1, extL_mv i k r h.2]
end
theorem AObj.ext_mv' (i k : Nat) (o : AObj) (h : o.ext = true) : o.mv i k = o := by
  cases o with
  | box T cells => simp only [AObj.mv]; rw [extL_mv i k cells (by simpa [AObj.ext] using h)]
  | _ => rfl
def mvM (i k : Nat) : List AObj → List AObj
  | [] => []
  | x :: r => x.mv i k :: mvM i k r
theorem mvM_get (i k : Nat) : ∀ (l : List AObj) (j : Nat), (mvM i k l)[j]? = (l[j]?).map (AObj.mv i k)
  | [], j => by simp [mvM]
  | x :: r, 0 => by simp [mvM]
  | x :: r, j + 1 => by simpa [mvM] using mvM_get i k r j
def mvE (i k : Nat) : Env → Env
  | [] => []
  | (t, x) :: r => (t, x.mv i k) :: mvE i k r
theorem mvE_lk (i k : Nat) : ∀ (env : Env) (t : Nat), lk (mvE i k env) t = (lk env t).mv i k
  | [], t => rfl
  | (s, x) :: r, t => by
    simp only [mvE, lk_cons]
    split
    · rfl
    · exact mvE_lk i k r t

section
variable {w : World} {β : Hd → Nat} {H L : List AObj} {F : Nat → Prop} {i : Nat} {ob : AObj}
def adoptβ (β : Hd → Nat) (i k : Nat) (h : Hd) : Nat := if h = .o k then β (.l i) else β h
abbrev adoptG (H L : List AObj) (F : Nat → Prop) (i : Nat) (ob : AObj) : Hp := ⟨H ++ [ob.mv i H.length], mvM i H.length (L.set i .dead), F⟩
theorem adopt_get (hi : L[i]? = some ob) (hS : Sim w β ⟨H, L, F⟩) {h : Hd} {o : AObj} (ho : (⟨H, L, F⟩ : Hp).get h = some o) :
    (adoptG H L F i ob).get (h.mv i H.length) = some (o.mv i H.length) ∧ adoptβ β i H.length (h.mv i H.length) = β h := by
  cases h with
  | o j =>
    have hlt : j < H.length := (List.getElem?_eq_some_iff.1 (show H[j]? = some o from ho)).1
    refine ⟨?_, ?_⟩
    · simp only [Hd.mv, Hp.get, List.getElem?_append_left hlt]
      rw [AObj.ext_mv' _ _ _ (hS.ext o (List.mem_of_getElem? ho))]
      exact ho
    · simp only [Hd.mv, adoptβ, Hd.o.injEq]
      rw [if_neg (by omega)]
  | l j =>
    by_cases e : j = i
    · subst e
      have hL : L[j]? = some o := ho
      rw [hi] at hL
      obtain rfl := Option.some.inj hL
      simp [Hd.mv, Hp.get, adoptβ]
    · have hb : Nat.beq j i = false := by
        cases h : Nat.beq j i with
        | false => rfl
        | true => exact absurd (Nat.eq_of_beq_eq_true h) e
      refine ⟨?_, ?_⟩
      · simp only [Hd.mv, hb, Hp.get, mvM_get]
        rw [List.getElem?_set, if_neg (fun q => e q.symm)]
        rw [show L[j]? = some o from ho]; rfl
      · simp [Hd.mv, hb, adoptβ]
theorem adopt_down (hi : L[i]? = some ob) (hS : Sim w β ⟨H, L, F⟩) {h : Hd} {o : AObj} (ho : (adoptG H L F i ob).get h = some o) (hne : o ≠ .dead) :
    ∃ h1 o1, h = h1.mv i H.length ∧ (⟨H, L, F⟩ : Hp).get h1 = some o1 ∧ o = o1.mv i H.length ∧ o1 ≠ .dead ∧ adoptβ β i H.length h = β h1 := by
  cases h with
  | o j =>
    by_cases hj : j < H.length
    · have hH : H[j]? = some o := by simpa [Hp.get, List.getElem?_append_left hj] using ho
      have e := AObj.ext_mv' i H.length o (hS.ext o (List.mem_of_getElem? hH))
      exact ⟨.o j, o, rfl, hH, e.symm, hne, by simp [adoptβ]; omega⟩
    · have hj2 : j = H.length := by
        have := (List.getElem?_eq_some_iff.1 (show (H ++ [ob.mv i H.length])[j]? = some o from ho)).1
        simp at this; omega
      subst hj2
      have : ob.mv i H.length = o := by simpa [Hp.get] using ho
      subst this
      exact ⟨.l i, ob, by simp [Hd.mv], hi, rfl, fun q => hne ((AObj.mv_dead _ _ _).2 q), by simp [adoptβ]⟩
  | l j =>
    have ho' : (L.set i .dead)[j]?.map (AObj.mv i H.length) = some o := by simpa [Hp.get, mvM_get] using ho
    obtain ⟨o1, h1, rfl⟩ := Option.map_eq_some_iff.1 ho'
    have hne1 : o1 ≠ .dead := fun q => hne ((AObj.mv_dead _ _ _).2 q)
    rw [List.getElem?_set] at h1
    split at h1
    · split at h1
      · exact absurd (Option.some.inj h1).symm hne1
      · cases h1
    · rename_i e
      have hb : Nat.beq j i = false := by
        cases h : Nat.beq j i with
        | false => rfl
        | true => exact absurd (Nat.eq_of_beq_eq_true h).symm e
      exact ⟨.l j, o1, by simp [Hd.mv, hb], h1, rfl, hne1, by simp [adoptβ]⟩
theorem free_adopt (hi : L[i]? = some ob) (hS : Sim w β ⟨H, L, F⟩) {b : Nat} (h : Free β ⟨H, L, F⟩ b) : Free (adoptβ β i H.length) (adoptG H L F i ob) b := by
  refine ⟨h.1, fun k hk => ?_⟩
  obtain ⟨o, ho, hne⟩ := hk
  obtain ⟨h1, o1, _, g1, _, n1, e1⟩ := adopt_down hi hS ho hne
  rw [e1]
  exact h.2 h1 ⟨o1, g1, n1⟩
theorem RepT.adopt (hi : L[i]? = some ob) (hS : Sim w β ⟨H, L, F⟩) {x : TV} {v : Value} (h : RepT w β ⟨H, L, F⟩ x v) : RepT w (adoptβ β i H.length) (adoptG H L F i ob) (x.mv i H.length) v := by
  induction h with
  | p h => exact .p (h.mono (Nat.le_refl _) fun b _ hb => ⟨rfl, free_adopt hi hS hb⟩)
  | ad k off v h1 hl hv =>
    obtain ⟨o, ho⟩ := hl
    obtain ⟨e1, e2⟩ := adopt_get hi hS ho
    refine .ad _ _ _ h1 ⟨_, e1⟩ fun o' ho' hb => ?_
    rw [e1] at ho'
    obtain rfl := Option.some.inj ho'
    rw [e2]
    exact hv o ho (by rwa [AObj.mv_isBox] at hb)
  | sl k n' st len v h1 hl hv =>
    obtain ⟨o, ho, hno⟩ := hl
    obtain ⟨e1, e2⟩ := adopt_get hi hS ho
    refine .sl _ _ _ _ _ h1 ⟨_, e1, fun T b e rows hr => ?_⟩ fun T b e rows hr hlen => ?_
    · cases o <;> simp [AObj.mv] at hr
      obtain ⟨rfl, rfl, rfl, rfl⟩ := hr
      exact hno _ _ _ _ rfl
    · rw [e1] at hr
      have hr := Option.some.inj hr
      cases o <;> simp [AObj.mv] at hr
      obtain ⟨rfl, rfl, rfl, rfl⟩ := hr
      rw [e2]
      exact hv _ _ _ _ ho hlen
  | el e j off ao len c _ hj ih => exact .el e j off ao len c ih hj
  | agg xs vs hl _ ih =>
    refine .agg _ vs (by rw [mvL_length]; exact hl) fun j x v h1 h2 => ?_
    rw [mvL_get] at h1
    obtain ⟨y, hy, rfl⟩ := Option.map_eq_some_iff.1 h1
    exact ih j y v hy h2
  | tup xs vs hl _ ih =>
    refine .tup _ vs (by rw [mvL_length]; exact hl) fun j x v h1 h2 => ?_
    rw [mvL_get] at h1
    obtain ⟨y, hy, rfl⟩ := Option.map_eq_some_iff.1 h1
    exact ih j y v hy h2
  | fn f xs vs hl _ ih =>
    refine .fn f _ vs (by rw [mvL_length]; exact hl) fun j x v h1 h2 => ?_
    rw [mvL_get] at h1
    obtain ⟨y, hy, rfl⟩ := Option.map_eq_some_iff.1 h1
    exact ih j y v hy h2
  | opt c x v _ h2 ih => exact .opt c _ v ih h2
theorem objOk_adopt (hi : L[i]? = some ob) (hS : Sim w β ⟨H, L, F⟩) {b : Nat} {o : AObj} (h : ObjOk w β ⟨H, L, F⟩ b o) : ObjOk w (adoptβ β i H.length) (adoptG H L F i ob) b (o.mv i H.length) := by
  cases o with
  | dead => trivial
  | box T cells =>
    obtain ⟨cs, h1, h2, h4⟩ := h
    refine ⟨cs, h1, by rw [mvL_length]; exact h2, fun j x hx => ?_⟩
    rw [mvL_get] at hx
    obtain ⟨y, hy, rfl⟩ := Option.map_eq_some_iff.1 hx
    obtain ⟨v, hv, hr⟩ := h4 j y hy
    exact ⟨v, hv, hr.adopt hi hS⟩
  | arr T app e rows =>
    obtain ⟨cs, fr, h1, h2, h3, h4, h5, h6, h7⟩ := h
    exact ⟨cs, fr, h1, h2, h3, h4, h5, h6, fun i' j r x hr hx => let ⟨v, hv, hr'⟩ := h7 i' j r x hr hx; ⟨v, hv, hr'.mono (Nat.le_refl _) fun b _ hb => ⟨rfl, free_adopt hi hS hb⟩⟩⟩
  | iter s pos => exact h
theorem adopt (hi : L[i]? = some ob) (hx : (ob.mv i H.length).ext = true) (hS : Sim w β ⟨H, L, F⟩) :
    Sim w (adoptβ β i H.length) (adoptG H L F i ob) ∧ Step w β ⟨H, L, F⟩ w (adoptβ β i H.length) (adoptG H L F i ob) := by
  refine ⟨⟨fun k o ho => ?_, fun k j hk hj he => ?_, fun o ho => ?_, fun k hk hb => ?_, hS.flt⟩, rfl, rfl, rfl, Nat.le_refl _, fun b _ hf => ⟨rfl, free_adopt hi hS hf⟩, fun b _ => rfl, rfl, fun k o ho => ?_⟩
  · by_cases hd : o = .dead
    · subst hd; trivial
    · obtain ⟨h1, o1, _, g1, rfl, n1, e1⟩ := adopt_down hi hS ho hd
      rw [e1]
      exact objOk_adopt hi hS (hS.objs h1 o1 g1)
  · obtain ⟨o1, g1, n1⟩ := hk
    obtain ⟨o2, g2, n2⟩ := hj
    obtain ⟨k1, q1, rfl, a1, _, m1, e1⟩ := adopt_down hi hS g1 n1
    obtain ⟨k2, q2, rfl, a2, _, m2, e2⟩ := adopt_down hi hS g2 n2
    rw [e1, e2] at he
    rw [hS.inj k1 k2 ⟨q1, a1, m1⟩ ⟨q2, a2, m2⟩ he]
  · rcases List.mem_append.1 ho with ho | ho
    · exact hS.ext o ho
    · simp at ho; subst ho; exact hx
  · obtain ⟨o1, g1, n1⟩ := hk
    obtain ⟨k1, q1, rfl, a1, _, m1, e1⟩ := adopt_down hi hS g1 n1
    rw [e1] at hb
    exact hS.disj k1 ⟨q1, a1, m1⟩ hb
  · cases k with
    | o j =>
      obtain ⟨u1, u2⟩ := adopt_get hi hS ho
      simp only [Hd.mv] at u1 u2
      refine ⟨_, u1, ?_⟩
      rw [u2, AObj.ext_mv' _ _ _ (hS.ext o (List.mem_of_getElem? ho))]
      exact ObjGo.refl _ _ _
    | l j =>
      by_cases e : j = i
      · subst e
        refine ⟨.dead, ?_, ?_⟩
        · simp only [Hp.get, mvM_get, List.getElem?_set, if_true]
          rw [if_pos (List.getElem?_eq_some_iff.1 hi).1]; rfl
        · cases o <;> simp [ObjGo]
      · have hb : Nat.beq j i = false := by
          cases h : Nat.beq j i with
          | false => rfl
          | true => exact absurd (Nat.eq_of_beq_eq_true h) e
        obtain ⟨u1, u2⟩ := adopt_get hi hS ho
        simp only [Hd.mv, hb] at u1 u2
        refine ⟨_, u1, ?_⟩
        rw [u2]
        cases o <;> simp [AObj.mv, ObjGo, mvL_length]
end
section
variable {Γ : Ctx} {env : Env} {H L : List AObj} {Φ : Act → World → Prop}
/-- An own object becomes the caller's: from now on the caller's objects may lead to it. -/
theorem J_adopt (i : Nat) {ob : AObj} (hi : L[i]? = some ob) (hx : (ob.mv i H.length).ext = true) (k : J Γ (mvE i H.length env) (H ++ [ob.mv i H.length]) (mvM i H.length (L.set i .dead)) Φ) : J Γ env H L Φ := fun a w β s => by
  obtain ⟨h1, h2⟩ := adopt hi hx s.sim
  exact k a w _ ⟨h1, s.step.trans h2, fun t => by rw [mvE_lk]; exact (s.env t).adopt hi s.sim, s.size, s.defers⟩
end
end Go.Awp

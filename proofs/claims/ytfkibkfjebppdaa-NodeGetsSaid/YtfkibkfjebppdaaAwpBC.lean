/- A call to which the caller hands some of its objects: the callee names them anew. No program is named here. -/
import Derived.Test.YtfkibkfjebppdaaAwpBB
import Derived.Test.YtfkibkfjebppdaaAwpU
namespace Go.Awp
open Go.RowKit

def hdEq : Hd → Hd → Bool
  | .o i, .o j => Nat.beq i j
  | .l i, .l j => Nat.beq i j
  | _, _ => false
theorem hdEq_iff {a b : Hd} : hdEq a b = true ↔ a = b := by
  cases a <;> cases b <;> simp [hdEq]
def idxH : List Hd → Nat → Hd → Option Nat
  | [], _, _ => none
  | a :: r, i, h => match hdEq a h with
    | true => some i
    | false => idxH r (i + 1) h
theorem idxH_some : ∀ {σ : List Hd} {i j : Nat} {h : Hd}, idxH σ i h = some j → i ≤ j ∧ σ[j - i]? = some h
  | [], _, _, _, e => by simp [idxH] at e
  | a :: r, i, j, h, e => by
    simp only [idxH] at e
    split at e
    · rename_i he
      obtain rfl := Option.some.inj e
      exact ⟨Nat.le_refl _, by simp [hdEq_iff.1 he]⟩
    · obtain ⟨h1, h2⟩ := idxH_some e
      exact ⟨by omega, by rw [show j - i = (j - (i + 1)) + 1 by omega]; simpa using h2⟩
theorem idxH_none : ∀ {σ : List Hd} {i : Nat} {h : Hd}, idxH σ i h = none → h ∉ σ
  | [], _, _, _ => by simp
  | a :: r, i, h, e => by
    simp only [idxH] at e
    split at e
    · cases e
    · rename_i he
      simp only [List.mem_cons, not_or]
      exact ⟨fun q => absurd (hdEq_iff.2 q.symm) (by rw [he]; simp), idxH_none e⟩
def nodupH : List Hd → Bool
  | [] => true
  | a :: r => (idxH r 0 a).isNone && nodupH r
theorem nodup_inj : ∀ {σ : List Hd} {i j : Nat} {h : Hd}, nodupH σ = true → σ[i]? = some h → σ[j]? = some h → i = j
  | [], _, _, _, _, h, _ => by simp at h
  | a :: r, i, j, h, hn, h1, h2 => by
    simp only [nodupH, Bool.and_eq_true, Option.isNone_iff_eq_none] at hn
    have ha := idxH_none hn.1
    cases i with
    | zero =>
      simp at h1; subst h1
      cases j with
      | zero => rfl
      | succ j => simp at h2; exact absurd (List.mem_of_getElem? h2) ha
    | succ i =>
      cases j with
      | zero =>
        simp only [List.getElem?_cons_zero, Option.some.injEq] at h2
        subst h2
        exact absurd (List.mem_of_getElem? (by simpa using h1)) ha
      | succ j => rw [nodup_inj (i := i) (j := j) (h := h) hn.2 (by simpa using h1) (by simpa using h2)]
theorem idxH_of {σ : List Hd} {j : Nat} {h : Hd} (hn : nodupH σ = true) (hj : σ[j]? = some h) : idxH σ 0 h = some j := by
  cases hx : idxH σ 0 h with
  | none => exact absurd (List.mem_of_getElem? hj) (idxH_none hx)
  | some i =>
    obtain ⟨_, h2⟩ := idxH_some hx
    rw [nodup_inj hn hj (by simpa using h2)]

/-- The caller's name for a handle of the callee's: 'n' own objects the caller had, 'g' more objects the callee's caller has got. -/
def Hd.ren (σ : List Hd) (n g : Nat) : Hd → Hd
  | .o j => match σ[j]? with
    | some h => h
    | none => .l (n + (j - σ.length))
  | .l i => .l (n + g + i)
def TV.ren (σ : List Hd) (n g : Nat) : TV → TV
  | .p x => .p x
  | .ad h off => .ad (h.ren σ n g) off
  | .sl h a b c => .sl (h.ren σ n g) a b c
  | .el s e i off => .el (s.ren σ n g) e i off
  | .agg l => .agg (renL σ n g l)
  | .tup l => .tup (renL σ n g l)
  | .fn f l => .fn f (renL σ n g l)
  | .opt c x => .opt c (x.ren σ n g)
where renL (σ : List Hd) (n g : Nat) : List TV → List TV
  | [] => []
  | x :: r => x.ren σ n g :: renL σ n g r
def AObj.ren (σ : List Hd) (n g : Nat) : AObj → AObj
  | .box T cells => .box T (TV.ren.renL σ n g cells)
  | o => o
theorem renL_get (σ : List Hd) (n g : Nat) : ∀ (l : List TV) (i : Nat), (TV.ren.renL σ n g l)[i]? = (l[i]?).map (TV.ren σ n g)
  | [], i => by simp [TV.ren.renL]
  | x :: r, 0 => by simp [TV.ren.renL]
  | x :: r, i + 1 => by simpa [TV.ren.renL] using renL_get σ n g r i
theorem renL_length (σ : List Hd) (n g : Nat) : ∀ (l : List TV), (TV.ren.renL σ n g l).length = l.length
  | [] => rfl
  | x :: r => by simp [TV.ren.renL, renL_length σ n g r]
theorem AObj.ren_dead (σ : List Hd) (n g : Nat) (o : AObj) : o.ren σ n g = .dead ↔ o = .dead := by cases o <;> simp [AObj.ren]
theorem AObj.ren_isBox (σ : List Hd) (n g : Nat) (o : AObj) : (o.ren σ n g).isBox = o.isBox := by cases o <;> rfl
theorem ObjGo.ren {w w' : World} {b b' : Nat} {o o' : AObj} (σ : List Hd) (n g n' g' : Nat) (h : ObjGo w w' b b' o o') : ObjGo w w' b b' (o.ren σ n g) (o'.ren σ n' g') := by
  cases o <;> cases o' <;> simp_all [ObjGo, AObj.ren, renL_length]

/-- Only handles of the first k of the callee's caller. -/
def Hd.clo (k : Nat) : Hd → Bool
  | .o j => Nat.blt j k
  | .l _ => false
def TV.clo (k : Nat) : TV → Bool
  | .p _ => true
  | .ad h _ => h.clo k
  | .sl h _ _ _ => h.clo k
  | .el _ _ _ _ => false
  | .agg l => cloL k l
  | .tup l => cloL k l
  | .fn _ l => cloL k l
  | .opt _ x => x.clo k
where cloL (k : Nat) : List TV → Bool
  | [] => true
  | x :: r => x.clo k && cloL k r
def AObj.clo (k : Nat) : AObj → Bool
  | .box _ cells => TV.clo.cloL k cells
  | _ => true
theorem cloL_get {k : Nat} : ∀ {l : List TV} {i : Nat} {x : TV}, TV.clo.cloL k l = true → l[i]? = some x → x.clo k = true
  | [], i, x, _, h => by simp at h
  | y :: r, 0, x, h, hx => by
    simp only [TV.clo.cloL, Bool.and_eq_true] at h
    obtain rfl : y = x := by simpa using hx
    exact h.1
  | y :: r, i + 1, x, h, hx => by
    simp only [TV.clo.cloL, Bool.and_eq_true] at h
    exact cloL_get h.2 (by simpa using hx)
mutual
theorem clo_ext (k : Nat) : ∀ (x : TV), x.clo k = true → x.ext = true
  | .p _, _ => rfl
  | .ad (.o _) _, _ => rfl
  | .ad (.l _) _, h => by simp [TV.clo, Hd.clo] at h
  | .sl (.o _) _ _ _, _ => rfl
  | .sl (.l _) _ _ _, h => by simp [TV.clo, Hd.clo] at h
  | .el .., h => by simp [TV.clo] at h
  | .agg l, h => by simp only [TV.ext]; exact cloL_ext k l (by simpa [TV.clo] using h)
  | .tup l, h => by simp only [TV.ext]; exact cloL_ext k l (by simpa [TV.clo] using h)
  | .fn f l, h => by simp only [TV.ext]; exact cloL_ext k l (by simpa [TV.clo] using h)
  | .opt g x, h => by simp only [TV.ext]; exact clo_ext k x (by simpa [TV.clo] using h)
theorem cloL_ext (k : Nat) : ∀ (l : List TV), TV.clo.cloL k l = true → TV.ext.extL l = true
  | [], _ => rfl
  | x :: r, h => by
    simp only [TV.clo.cloL, Bool.and_eq_true] at h
    simp only [TV.ext.extL, Bool.and_eq_true]
    exact ⟨clo_ext k x h.1, cloL_ext k r h.2⟩
end
/-- The callee's objects are these of the caller's. -/
def Lend (H L : List AObj) (σ0 : List Hd) : List Hd → List AObj → Prop
  | [], [] => True
  | h :: r, ob :: obs => ((⟨H, L, noF⟩ : Hp).get h = some (ob.ren σ0 0 0) ∧ ob.clo σ0.length = true) ∧ Lend H L σ0 r obs
  | _, _ => False
theorem Lend.len {H L : List AObj} {σ0 : List Hd} : ∀ {σ : List Hd} {H2 : List AObj}, Lend H L σ0 σ H2 → H2.length = σ.length
  | [], [], _ => rfl
  | _ :: _, _ :: _, h => by simp [Lend.len h.2]
theorem Lend.get {H L : List AObj} {σ0 : List Hd} {F : Nat → Prop} : ∀ {σ : List Hd} {H2 : List AObj}, Lend H L σ0 σ H2 → ∀ {j : Nat} {ob : AObj}, H2[j]? = some ob → ∃ h, σ[j]? = some h ∧ (⟨H, L, F⟩ : Hp).get h = some (ob.ren σ0 0 0) ∧ ob.clo σ0.length = true
  | [], [], _, j, ob, hj => by simp at hj
  | h :: r, o :: obs, hl, 0, ob, hj => by
    obtain rfl : o = ob := by simpa using hj
    exact ⟨h, by simp, by cases h <;> exact hl.1.1, hl.1.2⟩
  | h :: r, o :: obs, hl, j + 1, ob, hj => by
    obtain ⟨h', h1, h2⟩ := Lend.get (F := F) hl.2 (show obs[j]? = some ob by simpa using hj)
    exact ⟨h', by simpa using h1, h2⟩

section
variable {w : World} {β : Hd → Nat} {H L H2 : List AObj} {F : Nat → Prop} {σ : List Hd}
def lendSF (β : Hd → Nat) (G : Hp) (σ : List Hd) (b : Nat) : Prop := G.F b ∨ ∃ h, G.live h ∧ h ∉ σ ∧ β h = b
def lendSβ (β : Hd → Nat) (σ : List Hd) : Hd → Nat
  | .o j => match σ[j]? with
    | some h => β h
    | none => 0
  | .l _ => 0
theorem free_lendS (hl : Lend H L σ σ H2) (b : Nat) (h : Free β ⟨H, L, F⟩ b) : Free (lendSβ β σ) ⟨H2, [], lendSF β ⟨H, L, F⟩ σ⟩ b := by
  obtain ⟨h1, h2⟩ := h
  refine ⟨fun hb => ?_, fun k hk => ?_⟩
  · rcases hb with hb | ⟨k, hk, _, rfl⟩
    · exact h1 hb
    · exact h2 k hk rfl
  · obtain ⟨o, ho, hne⟩ := hk
    cases k with
    | l i => simp [Hp.get] at ho
    | o j =>
      obtain ⟨h', e1, e2, _⟩ := hl.get (F := F) (show H2[j]? = some o from ho)
      simp only [lendSβ, e1]
      exact h2 h' ⟨_, e2, fun q => hne ((AObj.ren_dead _ _ _ _).1 q)⟩
theorem RepT.lendS (hl : Lend H L σ σ H2) {y : TV} {v : Value} (h : RepT w β ⟨H, L, F⟩ y v) : ∀ x : TV, x.ren σ 0 0 = y → x.clo σ.length = true → RepT w (lendSβ β σ) ⟨H2, [], lendSF β ⟨H, L, F⟩ σ⟩ x v := by
  have hin : ∀ j, j < σ.length → ∃ h o, σ[j]? = some h ∧ H2[j]? = some o ∧ (⟨H, L, F⟩ : Hp).get h = some (o.ren σ 0 0) := fun j hj => by
    obtain ⟨o, ho⟩ : ∃ o, H2[j]? = some o := ⟨H2[j]'(by rw [hl.len]; exact hj), List.getElem?_eq_getElem _⟩
    obtain ⟨h', e1, e2, _⟩ := hl.get (F := F) ho
    exact ⟨h', o, e1, ho, e2⟩
  induction h with
  | p h =>
    intro x hx hc
    cases x <;> simp [TV.ren] at hx
    subst hx
    exact .p (h.mono (Nat.le_refl _) fun b _ hb => ⟨rfl, free_lendS hl b hb⟩)
  | ad k off v h1 hlv hv =>
    intro x hx hc
    cases x <;> simp [TV.ren] at hx
    rename_i k2 off2
    obtain ⟨rfl, rfl⟩ := hx
    cases k2 with
    | l i => simp [TV.clo, Hd.clo] at hc
    | o j =>
      obtain ⟨h', o, e1, e2, e3⟩ := hin j (by simpa [TV.clo, Hd.clo] using hc)
      refine .ad _ _ _ h1 ⟨o, e2⟩ fun o' ho' hb => ?_
      obtain rfl : o = o' := by
        have : H2[j]? = some o' := ho'
        rw [e2] at this; exact Option.some.inj this
      simp only [Hd.ren, e1] at hv
      have := hv _ e3 (by rw [AObj.ren_isBox]; exact hb)
      simpa [lendSβ, e1] using this
  | sl k n st len v h1 hlv hv =>
    intro x hx hc
    cases x <;> simp [TV.ren] at hx
    rename_i k2 n2 st2 len2
    obtain ⟨rfl, rfl, rfl, rfl⟩ := hx
    cases k2 with
    | l i => simp [TV.clo, Hd.clo] at hc
    | o j =>
      obtain ⟨h', o, e1, e2, e3⟩ := hin j (by simpa [TV.clo, Hd.clo] using hc)
      simp only [Hd.ren, e1] at hv hlv
      refine .sl _ _ _ _ _ h1 ⟨o, e2, fun T b e rows hr => ?_⟩ fun T b e rows hr hlen => ?_
      · subst hr
        obtain ⟨o1, g1, g2⟩ := hlv
        rw [e3] at g1
        obtain rfl := Option.some.inj g1
        exact g2 _ _ _ _ rfl
      · have hr' : H2[j]? = some (.arr T b e rows) := hr
        rw [e2] at hr'
        obtain rfl := Option.some.inj hr'
        have := hv _ _ _ _ e3 hlen
        simpa [lendSβ, e1] using this
  | el e i off a len c _ hi ih =>
    intro x hx hc
    cases x <;> simp [TV.ren] at hx
    simp [TV.clo] at hc
  | agg xs vs hlen hr ih =>
    intro x hx hc
    cases x <;> simp [TV.ren] at hx
    subst hx
    refine .agg _ _ (by rw [hlen, renL_length]) fun i x v h1 h2 => ?_
    exact ih i (x.ren σ 0 0) v (by rw [renL_get, h1]; rfl) h2 x rfl (cloL_get (by simpa [TV.clo] using hc) h1)
  | tup xs vs hlen hr ih =>
    intro x hx hc
    cases x <;> simp [TV.ren] at hx
    subst hx
    refine .tup _ _ (by rw [hlen, renL_length]) fun i x v h1 h2 => ?_
    exact ih i (x.ren σ 0 0) v (by rw [renL_get, h1]; rfl) h2 x rfl (cloL_get (by simpa [TV.clo] using hc) h1)
  | fn f xs vs hlen hr ih =>
    intro x hx hc
    cases x <;> simp [TV.ren] at hx
    obtain ⟨rfl, rfl⟩ := hx
    refine .fn _ _ _ (by rw [hlen, renL_length]) fun i x v h1 h2 => ?_
    exact ih i (x.ren σ 0 0) v (by rw [renL_get, h1]; rfl) h2 x rfl (cloL_get (by simpa [TV.clo] using hc) h1)
  | opt g y v _ h2 ih =>
    intro x hx hc
    cases x <;> simp [TV.ren] at hx
    obtain ⟨rfl, rfl⟩ := hx
    exact .opt _ _ _ (fun hg => ih hg _ rfl (by simpa [TV.clo] using hc)) h2

theorem Sim.lendS (hl : Lend H L σ σ H2) (hn : nodupH σ = true) (h : Sim w β ⟨H, L, F⟩) : Sim w (lendSβ β σ) ⟨H2, [], lendSF β ⟨H, L, F⟩ σ⟩ := by
  have live2 : ∀ {k : Hd}, (⟨H2, [], lendSF β ⟨H, L, F⟩ σ⟩ : Hp).live k → ∃ j h', k = .o j ∧ σ[j]? = some h' ∧ (⟨H, L, F⟩ : Hp).live h' ∧ lendSβ β σ k = β h' := fun {k} hk => by
    obtain ⟨o, ho, hne⟩ := hk
    cases k with
    | l i => simp [Hp.get] at ho
    | o j =>
      obtain ⟨h', e1, e2, _⟩ := hl.get (F := F) (show H2[j]? = some o from ho)
      exact ⟨j, h', rfl, e1, ⟨_, e2, fun q => hne ((AObj.ren_dead _ _ _ _).1 q)⟩, by simp [lendSβ, e1]⟩
  refine ⟨fun k o ho => ?_, fun k j hk hj he => ?_, fun o ho => ?_, fun k hk hb => ?_, fun b hb => ?_⟩
  · cases k with
    | l i => simp [Hp.get] at ho
    | o j =>
      obtain ⟨h', e1, e2, e3⟩ := hl.get (F := F) (show H2[j]? = some o from ho)
      have := h.objs h' _ e2
      rw [show lendSβ β σ (.o j) = β h' by simp [lendSβ, e1]]
      cases o with
      | dead => trivial
      | box T cells =>
        obtain ⟨cs, h1, h2, h4⟩ := this
        refine ⟨cs, h1, by rw [h2, renL_length], fun i x hi => ?_⟩
        obtain ⟨v, hv, hr⟩ := h4 i (x.ren σ 0 0) (by rw [renL_get, hi]; rfl)
        exact ⟨v, hv, hr.lendS hl x rfl (cloL_get (by simpa [AObj.clo] using e3) hi)⟩
      | arr T app e rows =>
        obtain ⟨cs, fr, h1, h2, h3, h4, h5, h6, h7⟩ := this
        exact ⟨cs, fr, h1, h2, h3, h4, h5, h6, fun i j r x hr hx => let ⟨v, hv, hr'⟩ := h7 i j r x hr hx; ⟨v, hv, hr'.mono (Nat.le_refl _) fun b _ hb => ⟨rfl, free_lendS hl b hb⟩⟩⟩
      | iter s pos => exact this
  · obtain ⟨i1, h1, rfl, e1, l1, b1⟩ := live2 hk
    obtain ⟨i2, h2, rfl, e2, l2, b2⟩ := live2 hj
    rw [b1, b2] at he
    have := h.inj h1 h2 l1 l2 he
    subst this
    rw [nodup_inj hn e1 e2]
  · obtain ⟨j, hj⟩ := List.getElem?_of_mem ho
    obtain ⟨h', e1, e2, e3⟩ := hl.get (F := F) hj
    cases o with
    | box T cells => exact cloL_ext _ _ (by simpa [AObj.clo] using e3)
    | _ => rfl
  · obtain ⟨i1, h1, rfl, e1, l1, b1⟩ := live2 hk
    rw [b1] at hb
    rcases hb with hb | ⟨h2, l2, hni, he⟩
    · exact h.disj h1 l1 hb
    · have := h.inj h2 h1 l2 l1 he
      subst this
      exact hni (List.mem_of_getElem? e1)
  · rcases hb with hb | ⟨h2, l2, hni, rfl⟩
    · exact h.flt b hb
    · exact h.lt l2

/-! ### back -/
def mapI (f : Nat → AObj → AObj) : Nat → List AObj → List AObj
  | _, [] => []
  | i, x :: r => f i x :: mapI f (i + 1) r
theorem mapI_get (f : Nat → AObj → AObj) : ∀ (l : List AObj) (i k : Nat), (mapI f i l)[k]? = (l[k]?).map (f (i + k))
  | [], _, _ => by simp [mapI]
  | x :: r, i, 0 => by simp [mapI]
  | x :: r, i, k + 1 => by simp [mapI, mapI_get f r, Nat.add_assoc, Nat.add_comm 1 k]
theorem mapI_len (f : Nat → AObj → AObj) : ∀ (l : List AObj) (i : Nat), (mapI f i l).length = l.length
  | [], _ => rfl
  | x :: r, i => by simp [mapI, mapI_len f r]
def outO (σ : List Hd) (H3 : List AObj) (n g : Nat) (h : Hd) (old : AObj) : AObj := match idxH σ 0 h with
  | some j => match H3[j]? with
    | some ob => ob.ren σ n g
    | none => old
  | none => old
def renM (σ : List Hd) (n g : Nat) : List AObj → List AObj
  | [] => []
  | x :: r => x.ren σ n g :: renM σ n g r
theorem renM_get (σ : List Hd) (n g : Nat) : ∀ (l : List AObj) (i : Nat), (renM σ n g l)[i]? = (l[i]?).map (AObj.ren σ n g)
  | [], i => by simp [renM]
  | x :: r, 0 => by simp [renM]
  | x :: r, i + 1 => by simpa [renM] using renM_get σ n g r i
theorem renM_len (σ : List Hd) (n g : Nat) : ∀ (l : List AObj), (renM σ n g l).length = l.length
  | [] => rfl
  | x :: r => by simp [renM, renM_len σ n g r]
def outH (σ : List Hd) (H3 : List AObj) (n g : Nat) (H : List AObj) : List AObj := mapI (fun k => outO σ H3 n g (.o k)) 0 H
def outL (σ : List Hd) (H3 news : List AObj) (n g : Nat) (L : List AObj) : List AObj :=
  mapI (fun k => outO σ H3 n g (.l k)) 0 L ++ (renM σ n g (H3.drop σ.length) ++ renM σ n g news)
def joinSβ (β β1 : Hd → Nat) (σ : List Hd) (n g : Nat) (h : Hd) : Nat := match idxH σ 0 h with
  | some j => β1 (.o j)
  | none => match h with
    | .o k => β (.o k)
    | .l i => if i < n then β (.l i) else if i < n + g then β1 (.o (σ.length + (i - n))) else β1 (.l (i - n - g))

variable {w' : World} {β1 : Hd → Nat} {H3 news : List AObj}
/-- What the caller's memory is behind the call. -/
abbrev backG (H L H3 news : List AObj) (F : Nat → Prop) (σ : List Hd) (n g : Nat) : Hp := ⟨outH σ H3 n g H, outL σ H3 news n g L, F⟩
structure BackC (β β1 : Hd → Nat) (H L H3 news : List AObj) (F : Nat → Prop) (σ : List Hd) (n g : Nat) : Prop where
  up : ∀ (k : Hd) (o : AObj), (⟨H3, news, lendSF β ⟨H, L, F⟩ σ⟩ : Hp).get k = some o → (backG H L H3 news F σ n g).get (k.ren σ n g) = some (o.ren σ n g) ∧ joinSβ β β1 σ n g (k.ren σ n g) = β1 k
  down : ∀ (h : Hd) (o : AObj), (backG H L H3 news F σ n g).get h = some o → (∃ k o1, h = k.ren σ n g ∧ (⟨H3, news, lendSF β ⟨H, L, F⟩ σ⟩ : Hp).get k = some o1 ∧ o = o1.ren σ n g) ∨ (h ∉ σ ∧ (⟨H, L, F⟩ : Hp).get h = some o ∧ joinSβ β β1 σ n g h = β h)
  old : ∀ (h : Hd) (o : AObj), h ∉ σ → (⟨H, L, F⟩ : Hp).get h = some o → (backG H L H3 news F σ n g).get h = some o ∧ joinSβ β β1 σ n g h = β h
theorem idxH_not {σ : List Hd} {h : Hd} (hh : h ∉ σ) : idxH σ 0 h = none := by
  cases hx : idxH σ 0 h with
  | none => rfl
  | some j => exact absurd (List.mem_of_getElem? (by simpa using (idxH_some hx).2)) hh
theorem backC (hl : Lend H L σ σ H2) (hn : nodupH σ = true) (hH : σ.length ≤ H3.length) {g : Nat} (hg : H3.length = σ.length + g) {n : Nat} (hnL : n = L.length) : BackC β β1 H L H3 news F σ n g := by
  subst hnL
  have inG : ∀ {j : Nat} {h : Hd}, σ[j]? = some h → ∃ o, (⟨H, L, F⟩ : Hp).get h = some o := fun {j h} hj => by
    obtain ⟨o, ho⟩ : ∃ o, H2[j]? = some o := ⟨H2[j]'(by rw [hl.len]; exact (List.getElem?_eq_some_iff.1 hj).1), List.getElem?_eq_getElem _⟩
    obtain ⟨h', e1, e2, _⟩ := hl.get (F := F) ho
    rw [hj] at e1
    obtain rfl := Option.some.inj e1
    exact ⟨_, e2⟩
  have lnot : ∀ i, L.length ≤ i → Hd.l i ∉ σ := fun i hi hm => by
    obtain ⟨j, hj⟩ := List.getElem?_of_mem hm
    obtain ⟨o, ho⟩ := inG hj
    simp [Hp.get, List.getElem?_eq_none hi] at ho
  have hlenL : (mapI (fun k => outO σ H3 L.length g (.l k)) 0 L).length = L.length := mapI_len ..
  have hd : (renM σ L.length g (H3.drop σ.length)).length = g := by rw [renM_len, List.length_drop]; omega
  have getMid : ∀ m, m < g → (backG H L H3 news F σ L.length g).get (.l (L.length + m)) = (H3[σ.length + m]?).map (AObj.ren σ L.length g) := fun m hm => by
    simp only [Hp.get, outL]
    rw [List.getElem?_append_right (by rw [hlenL]; omega), hlenL, List.getElem?_append_left (by rw [hd]; omega), renM_get, List.getElem?_drop, show L.length + m - L.length = m by omega]
  have getNew : ∀ i, (backG H L H3 news F σ L.length g).get (.l (L.length + g + i)) = (news[i]?).map (AObj.ren σ L.length g) := fun i => by
    simp only [Hp.get, outL]
    rw [List.getElem?_append_right (by rw [hlenL]; omega), hlenL, List.getElem?_append_right (by rw [hd]; omega), hd, renM_get, show L.length + g + i - L.length - g = i by omega]
  have getOld : ∀ h, (∀ i, h = .l i → i < L.length) → (backG H L H3 news F σ L.length g).get h = ((⟨H, L, F⟩ : Hp).get h).map (outO σ H3 L.length g h) := fun h hi => by
    cases h with
    | o k => simp only [Hp.get, outH]; rw [mapI_get]; simp
    | l i =>
      have := hi i rfl
      simp only [Hp.get, outL]
      rw [List.getElem?_append_left (by rw [hlenL]; exact this), mapI_get]; simp
  refine ⟨fun k o ho => ?_, fun h o ho => ?_, fun h o hns ho => ?_⟩
  · cases k with
    | o j =>
      have hj : H3[j]? = some o := ho
      have hlt : j < H3.length := (List.getElem?_eq_some_iff.1 hj).1
      by_cases hs : j < σ.length
      · obtain ⟨h, hh⟩ : ∃ h, σ[j]? = some h := ⟨σ[j], List.getElem?_eq_getElem hs⟩
        obtain ⟨o', ho'⟩ := inG hh
        have hi := idxH_of hn hh
        simp only [Hd.ren, hh]
        refine ⟨?_, by simp [joinSβ, hi]⟩
        rw [getOld h (fun i e => by subst e; exact (List.getElem?_eq_some_iff.1 (show L[i]? = some o' from ho')).1), ho']
        simp [outO, hi, hj]
      · have hh : σ[j]? = none := List.getElem?_eq_none (by omega)
        simp only [Hd.ren, hh]
        refine ⟨?_, ?_⟩
        · rw [getMid _ (by omega), show σ.length + (j - σ.length) = j by omega, hj]; rfl
        · have := idxH_not (lnot (L.length + (j - σ.length)) (by omega))
          simp only [joinSβ, this]
          rw [if_neg (by omega), if_pos (by omega), show σ.length + (L.length + (j - σ.length) - L.length) = j by omega]
    | l i =>
      have hi : news[i]? = some o := ho
      simp only [Hd.ren]
      refine ⟨by rw [getNew, hi]; rfl, ?_⟩
      have := idxH_not (lnot (L.length + g + i) (by omega))
      simp only [joinSβ, this]
      rw [if_neg (by omega), if_neg (by omega), show L.length + g + i - L.length - g = i by omega]
  · have old : (∀ i, h = .l i → i < L.length) → (∃ k o1, h = k.ren σ L.length g ∧ (⟨H3, news, lendSF β ⟨H, L, F⟩ σ⟩ : Hp).get k = some o1 ∧ o = o1.ren σ L.length g) ∨ (h ∉ σ ∧ (⟨H, L, F⟩ : Hp).get h = some o ∧ joinSβ β β1 σ L.length g h = β h) := fun hi => by
      rw [getOld h hi] at ho
      obtain ⟨o', ho', rfl⟩ := Option.map_eq_some_iff.1 ho
      cases hx : idxH σ 0 h with
      | some j =>
        have hj := (idxH_some hx).2
        simp only [Nat.sub_zero] at hj
        have hlt : j < σ.length := (List.getElem?_eq_some_iff.1 hj).1
        obtain ⟨o1, h1⟩ : ∃ o1, H3[j]? = some o1 := ⟨H3[j]'(by omega), List.getElem?_eq_getElem _⟩
        exact .inl ⟨.o j, o1, by simp [Hd.ren, hj], h1, by simp [outO, hx, h1]⟩
      | none =>
        refine .inr ⟨idxH_none hx, by simpa [outO, hx] using ho', ?_⟩
        simp only [joinSβ, hx]
        cases h with
        | o k => rfl
        | l i => simp [hi i rfl]
    cases h with
    | o k => exact old fun i e => by cases e
    | l i =>
      by_cases h1 : i < L.length
      · exact old fun i' e => by cases e; exact h1
      · by_cases h2 : i < L.length + g
        · obtain ⟨m, rfl⟩ : ∃ m, i = L.length + m := ⟨i - L.length, by omega⟩
          rw [getMid m (by omega)] at ho
          obtain ⟨o1, e1, rfl⟩ := Option.map_eq_some_iff.1 ho
          refine .inl ⟨.o (σ.length + m), o1, ?_, e1, rfl⟩
          simp only [Hd.ren]
          rw [List.getElem?_eq_none (by omega)]
          simp
        · obtain ⟨m, rfl⟩ : ∃ m, i = L.length + g + m := ⟨i - L.length - g, by omega⟩
          rw [getNew m] at ho
          obtain ⟨o1, e1, rfl⟩ := Option.map_eq_some_iff.1 ho
          exact .inl ⟨.l m, o1, rfl, e1, rfl⟩
  · have hx := idxH_not hns
    have hi : ∀ i, h = .l i → i < L.length := fun i e => by subst e; exact (List.getElem?_eq_some_iff.1 (show L[i]? = some o from ho)).1
    refine ⟨by rw [getOld h hi, ho]; simp [outO, hx], ?_⟩
    simp only [joinSβ, hx]
    cases h with
    | o k => rfl
    | l i => simp [hi i rfl]

variable {n g : Nat}
theorem free_joinS (hB : BackC β β1 H L H3 news F σ n g) {b : Nat} (h : Free β1 ⟨H3, news, lendSF β ⟨H, L, F⟩ σ⟩ b) : Free (joinSβ β β1 σ n g) (backG H L H3 news F σ n g) b := by
  refine ⟨fun hb => h.1 (.inl hb), fun k hk => ?_⟩
  obtain ⟨o, ho, hne⟩ := hk
  rcases hB.down k o ho with ⟨k1, o1, rfl, h1, rfl⟩ | ⟨h1, h2, h3⟩
  · rw [(hB.up k1 o1 h1).2]
    exact h.2 k1 ⟨o1, h1, fun q => hne ((AObj.ren_dead _ _ _ _).2 q)⟩
  · rw [h3]
    exact fun e => h.1 (.inr ⟨k, ⟨o, h2, hne⟩, h1, e⟩)
theorem RepT.joinS (hB : BackC β β1 H L H3 news F σ n g) {x : TV} {v : Value} (h : RepT w' β1 ⟨H3, news, lendSF β ⟨H, L, F⟩ σ⟩ x v) : RepT w' (joinSβ β β1 σ n g) (backG H L H3 news F σ n g) (x.ren σ n g) v := by
  induction h with
  | p h => exact .p (h.mono (Nat.le_refl _) fun b _ hb => ⟨rfl, free_joinS hB hb⟩)
  | ad k off v h1 hl hv =>
    obtain ⟨o, ho⟩ := hl
    obtain ⟨e1, e2⟩ := hB.up k o ho
    refine .ad _ _ _ h1 ⟨_, e1⟩ fun o' ho' hb => ?_
    rw [e1] at ho'
    obtain rfl := Option.some.inj ho'
    rw [e2]
    exact hv o ho (by rwa [AObj.ren_isBox] at hb)
  | sl k n' st len v h1 hl hv =>
    obtain ⟨o, ho, hno⟩ := hl
    obtain ⟨e1, e2⟩ := hB.up k o ho
    refine .sl _ _ _ _ _ h1 ⟨_, e1, fun T b e rows hr => ?_⟩ fun T b e rows hr hlen => ?_
    · cases o <;> simp [AObj.ren] at hr
      obtain ⟨rfl, rfl, rfl, rfl⟩ := hr
      exact hno _ _ _ _ rfl
    · rw [e1] at hr
      have hr := Option.some.inj hr
      cases o <;> simp [AObj.ren] at hr
      obtain ⟨rfl, rfl, rfl, rfl⟩ := hr
      rw [e2]
      exact hv _ _ _ _ ho hlen
  | el e i off ao len c _ hi ih => exact .el e i off ao len c ih hi
  | agg xs vs hl _ ih =>
    refine .agg _ vs (by rw [renL_length]; exact hl) fun i x v h1 h2 => ?_
    rw [renL_get] at h1
    obtain ⟨y, hy, rfl⟩ := Option.map_eq_some_iff.1 h1
    exact ih i y v hy h2
  | tup xs vs hl _ ih =>
    refine .tup _ vs (by rw [renL_length]; exact hl) fun i x v h1 h2 => ?_
    rw [renL_get] at h1
    obtain ⟨y, hy, rfl⟩ := Option.map_eq_some_iff.1 h1
    exact ih i y v hy h2
  | fn f xs vs hl _ ih =>
    refine .fn f _ vs (by rw [renL_length]; exact hl) fun i x v h1 h2 => ?_
    rw [renL_get] at h1
    obtain ⟨y, hy, rfl⟩ := Option.map_eq_some_iff.1 h1
    exact ih i y v hy h2
  | opt c x v _ h2 ih => exact .opt c _ v ih h2

theorem backS (hl : Lend H L σ σ H2) (hB : BackC β β1 H L H3 news F σ n g) (hS : Sim w β ⟨H, L, F⟩) (hS1 : Sim w' β1 ⟨H3, news, lendSF β ⟨H, L, F⟩ σ⟩) (hst : Step w (lendSβ β σ) ⟨H2, [], lendSF β ⟨H, L, F⟩ σ⟩ w' β1 ⟨H3, news, lendSF β ⟨H, L, F⟩ σ⟩)
    (hext : ∀ o ∈ outH σ H3 n g H, o.ext = true) : Sim w' (joinSβ β β1 σ n g) (backG H L H3 news F σ n g) ∧ Step w β ⟨H, L, F⟩ w' (joinSβ β β1 σ n g) (backG H L H3 news F σ n g) := by
  have same : ∀ h o, h ∉ σ → (⟨H, L, F⟩ : Hp).get h = some o → o ≠ .dead → w'.heap[β h]? = w.heap[β h]? := fun h o h1 h2 h3 => hst.fr _ (.inr ⟨h, ⟨o, h2, h3⟩, h1, rfl⟩)
  have hstep : Step w β ⟨H, L, F⟩ w' (joinSβ β β1 σ n g) (backG H L H3 news F σ n g) := by
    refine ⟨hst.os, hst.tape, hst.output, hst.size, fun b hb hf => ?_, fun b hb => hst.fr b (.inl hb), rfl, fun k o ho => ?_⟩
    · obtain ⟨h1, h2⟩ := hst.frame b hb (free_lendS hl b hf)
      exact ⟨h1, free_joinS hB h2⟩
    · by_cases hk : k ∈ σ
      · obtain ⟨j, hj⟩ := List.getElem?_of_mem hk
        obtain ⟨o2, ho2⟩ : ∃ o, H2[j]? = some o := ⟨H2[j]'(by rw [hl.len]; exact (List.getElem?_eq_some_iff.1 hj).1), List.getElem?_eq_getElem _⟩
        obtain ⟨h', e1, e2, _⟩ := hl.get (F := F) ho2
        rw [hj] at e1
        obtain rfl := Option.some.inj e1
        rw [ho] at e2
        obtain rfl := Option.some.inj e2
        obtain ⟨o3, g1, g2⟩ := hst.obj (.o j) o2 ho2
        obtain ⟨u1, u2⟩ := hB.up (.o j) o3 g1
        simp only [Hd.ren, hj] at u1 u2
        refine ⟨_, u1, ?_⟩
        rw [u2]
        simp only [lendSβ, hj] at g2
        exact g2.ren σ 0 0 n g
      · obtain ⟨u1, u2⟩ := hB.old k o hk ho
        refine ⟨o, u1, ?_⟩
        rw [u2]
        exact ObjGo.same (same k o hk ho)
  refine ⟨⟨fun k o ho => ?_, fun k j hk hj he => ?_, hext, fun k hk hb => ?_, fun b hb => Nat.lt_of_lt_of_le (hS.flt b hb) hst.size⟩, hstep⟩
  · rcases hB.down k o ho with ⟨k1, o1, rfl, h1, rfl⟩ | ⟨h1, h2, h3⟩
    · rw [(hB.up k1 o1 h1).2]
      have := hS1.objs k1 o1 h1
      cases o1 with
      | dead => trivial
      | box T cells =>
        obtain ⟨cs, h1, h2, h4⟩ := this
        refine ⟨cs, h1, by rw [renL_length]; exact h2, fun i x hx => ?_⟩
        rw [renL_get] at hx
        obtain ⟨y, hy, rfl⟩ := Option.map_eq_some_iff.1 hx
        obtain ⟨v, hv, hr⟩ := h4 i y hy
        exact ⟨v, hv, hr.joinS hB⟩
      | arr T app e rows =>
        obtain ⟨cs, fr, h1, h2, h3, h4, h5, h6, h7⟩ := this
        exact ⟨cs, fr, h1, h2, h3, h4, h5, h6, fun i j r x hr hx => let ⟨v, hv, hr'⟩ := h7 i j r x hr hx; ⟨v, hv, hr'.mono (Nat.le_refl _) fun b _ hb => ⟨rfl, free_joinS hB hb⟩⟩⟩
      | iter s pos => exact this
    · rw [h3]
      by_cases hd : o = .dead
      · subst hd; trivial
      · exact (hS.objs k o h2).mono hstep (same k o h1 h2 hd)
  · obtain ⟨o1, g1, n1⟩ := hk
    obtain ⟨o2, g2, n2⟩ := hj
    have cross : ∀ k1 h o o', (⟨H3, news, lendSF β ⟨H, L, F⟩ σ⟩ : Hp).get k1 = some o → o ≠ .dead → h ∉ σ → (⟨H, L, F⟩ : Hp).get h = some o' → o' ≠ .dead → β1 k1 ≠ β h :=
      fun k1 h o o' a1 a2 a3 a4 a5 e => hS1.disj k1 ⟨o, a1, a2⟩ (.inr ⟨h, ⟨o', a4, a5⟩, a3, e.symm⟩)
    rcases hB.down k o1 g1 with ⟨k1, q1, rfl, a1, rfl⟩ | ⟨a1, a2, a3⟩ <;> rcases hB.down j o2 g2 with ⟨k2, q2, rfl, b1, rfl⟩ | ⟨b1, b2, b3⟩
    · rw [(hB.up k1 q1 a1).2, (hB.up k2 q2 b1).2] at he
      rw [hS1.inj k1 k2 ⟨q1, a1, fun q => n1 ((AObj.ren_dead _ _ _ _).2 q)⟩ ⟨q2, b1, fun q => n2 ((AObj.ren_dead _ _ _ _).2 q)⟩ he]
    · rw [(hB.up k1 q1 a1).2, b3] at he
      exact absurd he (cross k1 j q1 o2 a1 (fun q => n1 ((AObj.ren_dead _ _ _ _).2 q)) b1 b2 n2)
    · rw [(hB.up k2 q2 b1).2, a3] at he
      exact absurd he.symm (cross k2 k q2 o1 b1 (fun q => n2 ((AObj.ren_dead _ _ _ _).2 q)) a1 a2 n1)
    · rw [a3, b3] at he
      exact hS.inj k j ⟨o1, a2, n1⟩ ⟨o2, b2, n2⟩ he
  · obtain ⟨o, ho, hne⟩ := hk
    rcases hB.down k o ho with ⟨k1, q1, rfl, a1, rfl⟩ | ⟨a1, a2, a3⟩
    · rw [(hB.up k1 q1 a1).2] at hb
      exact hS1.disj k1 ⟨q1, a1, fun q => hne ((AObj.ren_dead _ _ _ _).2 q)⟩ (.inl hb)
    · rw [a3] at hb
      exact hS.disj k ⟨o, a2, hne⟩ hb
end

/-- The caller's names for the callee's arguments. -/
theorem RepL.lendS {w : World} {β : Hd → Nat} {H L H2 : List AObj} {F : Nat → Prop} {σ : List Hd} (hl : Lend H L σ σ H2) {xs ys : List TV} {vs : List Value} (h : RepL w β ⟨H, L, F⟩ ys vs) (hy : TV.ren.renL σ 0 0 xs = ys) (hx : TV.clo.cloL σ.length xs = true) : RepL w (lendSβ β σ) ⟨H2, [], lendSF β ⟨H, L, F⟩ σ⟩ xs vs := by
  subst hy
  exact ⟨by rw [h.1, renL_length], fun i x v h1 h2 => (h.2 i _ v (by rw [renL_get, h1]; rfl) h2).lendS hl x rfl (cloL_get hx h1)⟩
def extM : List AObj → Bool
  | [] => true
  | x :: r => x.ext && extM r
theorem extM_ok : ∀ {l : List AObj}, extM l = true → ∀ o ∈ l, o.ext = true
  | [], _, o, h => by simp at h
  | x :: r, h, o, ho => by
    simp only [extM, Bool.and_eq_true] at h
    rcases List.mem_cons.1 ho with rfl | ho
    · exact h.1
    · exact extM_ok h.2 o ho
def tellT (x : TV) : Option TV := frcU x some
def tellM (l : List AObj) : Option (List AObj) := frcM l some
theorem tellT_eq {x y : TV} (h : tellT x = some y) : x = y := by unfold tellT at h; rw [frcU_eq] at h; exact Option.some.inj h
theorem tellM_eq {x y : List AObj} (h : tellM x = some y) : x = y := by unfold tellM at h; rw [frcM_eq] at h; exact Option.some.inj h

section
variable {P : Program} {env : Env} {H L : List AObj} {o : Oper}
/-- A CALL, SOME OF THE CALLER's OBJECTS HANDED TO IT. -/
theorem opr_callS (σ : List Hd) {fo : Operand} {as : List Operand} {ts : Array TypeId} {f : FuncId} {caps args : List TV} {r x : TV} {H2 H3 news H' L' : List AObj}
    (ho : o.op = .call { callee := .value fo, args := as.toArray, argTypes := ts }) (hf : evA env fo = .fn f caps) (sp : Con P f args H2 r H3 news) (ha : TV.ren.renL σ 0 0 args = unpOr (evL env as ++ caps)) (hx : TV.clo.cloL σ.length args = true)
    (hn : nodupH σ = true) (hl : Lend H L σ σ H2) (hH : extM (outH σ H3 L.length (H3.length - σ.length) H) = true) (h1 : tellT (r.ren σ L.length (H3.length - σ.length)) = some x)
    (h2 : tellM (outH σ H3 L.length (H3.length - σ.length) H) = some H') (h3 : tellM (outL σ H3 news L.length (H3.length - σ.length) L) = some L') : OpR P o env H L x H' L' := by
  have e1 := tellT_eq h1
  have e2 := tellM_eq h2
  have e3 := tellM_eq h3
  subst e1 e2 e3
  intro F w β a next Q hS he hnx
  have hfo := evA_ok he fo
  rw [hf] at hfo
  obtain ⟨vs, hvs, hc⟩ : ∃ vs : List Value, a.eval fo = .func (.func f) #[] vs.toArray ∧ RepL w β ⟨H, L, F⟩ caps vs := by
    generalize hv : a.eval fo = v at hfo
    cases hfo with | fn _ _ vs hl hr => exact ⟨vs, rfl, hl, hr⟩
  have hargs := unpOr_rep ((evL_ok he as).append hc)
  have hcall := sp.run (lendSF β ⟨H, L, F⟩ σ) w (lendSβ β σ) (as.map a.eval ++ vs) (hS.lendS hl hn) (hargs.lendS hl ha hx)
  unfold Oper.wp execOp
  simp only [ho, resolve, invoke, Deferred.ofValue, hvs, Sem.run_bind, Sem.run_pure, Result.andThen_ok, List.map_toArray, List.nil_append, List.append_toArray, run_enter sp.can, Oper.upon]
  refine hcall.mono ?_
  rintro e w' ⟨β1, v, rfl, hS1, hst, hr⟩
  have hlen : σ.length ≤ H3.length := by
    rcases Nat.eq_zero_or_pos σ.length with h0 | h0
    · omega
    · have hlt : σ.length - 1 < H2.length := by rw [hl.len]; omega
      obtain ⟨o', g1, _⟩ := hst.obj (.o (σ.length - 1)) _ (List.getElem?_eq_getElem hlt)
      have := (List.getElem?_eq_some_iff.1 (show H3[σ.length - 1]? = some o' from g1)).1
      omega
  have hB : BackC β β1 H L H3 news F σ L.length (H3.length - σ.length) := backC hl hn hlen (by omega) rfl
  obtain ⟨k1, k2⟩ := backS hl hB hS hS1 hst (extM_ok hH)
  exact hnx w' _ v k1 k2 (hr.joinS hB)

theorem mapI_id {f : Nat → AObj → AObj} (hf : ∀ i x, f i x = x) : ∀ (l : List AObj) (i : Nat), mapI f i l = l
  | [], _ => rfl
  | x :: r, i => by simp [mapI, hf, mapI_id hf r]
/-- A CALL TO WHICH NO OBJECT IS HANDED: what it answers leads to new ones, or to none. -/
theorem opr_callP {fo : Operand} {as : List Operand} {ts : Array TypeId} {f : FuncId} {caps args : List TV} {r x : TV} {news news' : List AObj}
    (ho : o.op = .call { callee := .value fo, args := as.toArray, argTypes := ts }) (hf : evA env fo = .fn f caps) (sp : Con P f args [] r [] news) (ha : TV.ren.renL [] 0 0 args = unpOr (evL env as ++ caps)) (hx : TV.clo.cloL 0 args = true)
    (h1 : tellT (r.ren [] L.length 0) = some x) (h3 : tellM (renM [] L.length 0 news) = some news') : OpR P o env H L x H (L ++ news') := by
  have e1 := tellT_eq h1
  have e3 := tellM_eq h3
  subst e1 e3
  intro F w β a next Q hS he hnx
  have hfo := evA_ok he fo
  rw [hf] at hfo
  obtain ⟨vs, hvs, hc⟩ : ∃ vs : List Value, a.eval fo = .func (.func f) #[] vs.toArray ∧ RepL w β ⟨H, L, F⟩ caps vs := by
    generalize hv : a.eval fo = v at hfo
    cases hfo with | fn _ _ vs hl hr => exact ⟨vs, rfl, hl, hr⟩
  have hl : Lend H L [] [] [] := trivial
  have hargs := unpOr_rep ((evL_ok he as).append hc)
  have hcall := sp.run (lendSF β ⟨H, L, F⟩ []) w (lendSβ β []) (as.map a.eval ++ vs) (hS.lendS hl rfl) (hargs.lendS hl ha hx)
  unfold Oper.wp execOp
  simp only [ho, resolve, invoke, Deferred.ofValue, hvs, Sem.run_bind, Sem.run_pure, Result.andThen_ok, List.map_toArray, List.nil_append, List.append_toArray, run_enter sp.can, Oper.upon]
  refine hcall.mono ?_
  rintro e w' ⟨β1, v, rfl, hS1, hst, hr⟩
  have hB : BackC β β1 H L [] news F [] L.length 0 := backC hl rfl (Nat.le_refl _) rfl rfl
  have idH : outH [] [] L.length 0 H = H := mapI_id (fun i x => rfl) H 0
  have idL : outL [] [] news L.length 0 L = L ++ renM [] L.length 0 news := by
    unfold outL
    rw [mapI_id (f := fun k => outO [] [] L.length 0 (.l k)) (fun i x => rfl) L 0]
    rfl
  obtain ⟨k1, k2⟩ := backS hl hB hS hS1 hst (by rw [idH]; exact hS.ext)
  have k3 := hr.joinS hB
  unfold backG at k1 k2 k3
  rw [idH, idL] at k1 k2 k3
  exact hnx w' _ v k1 k2 k3
end
end Go.Awp

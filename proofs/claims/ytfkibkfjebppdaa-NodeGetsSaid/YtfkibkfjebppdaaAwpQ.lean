/- Joining ways again, and clearing away. No program is named here. -/
import Derived.Test.YtfkibkfjebppdaaAwpO
namespace Go.Awp
open Go.RowKit
theorem hbs_ps {rows : List AV} : false = true ↔ ∃ l, TV.p (.ps rows) = .p (.str l) := by simp
theorem hbs_sl {h : Hd} {a b c : Nat} : false = true ↔ ∃ l, TV.sl h a b c = .p (.str l) := by simp
theorem hbs_str {l : List UInt8} : true = true ↔ ∃ l', TV.p (.str l) = .p (.str l') := by simp

section
variable {P : Program} {T : Tab} {Γ : Ctx} {env : Env} {H L : List AObj} {Φ : Act → World → Prop} {Q : Exit → Act → World → Prop}

theorem J_freeze_all (t i : Nat) {Ty : TypeId} {b : Bool} {e n : Nat} {rows : List AV} (ht : lk env t = .sl (.l i) n 0 n) (hi : L[i]? = some (.arr Ty b e rows)) (hn : rows.length = n)
    (k : J Γ ((t, .p (.ps rows)) :: env) H (L.set i .dead) Φ) : J Γ env H L Φ :=
  J_freeze t i ht hi hn (by subst hn; simpa using k)

/-- A value told anew. -/
theorem J_val (d : Nat) {x : TV} (y : TV) (hx : lk env d = x) (he : x = y) (k : J Γ ((d, y) :: env) H L Φ) : J Γ env H L Φ := fun a w β s => by
  subst he
  refine k a w β ⟨s.sim, s.step, fun t => ?_, s.size, s.defers⟩
  rw [lk_cons]
  split
  · rename_i e; subst e; rw [← hx]; exact s.env t
  · exact s.env t
theorem J_true (d : Nat) {b : Bool} (hx : lk env d = .p (.bool b)) (he : b = true) (k : J Γ ((d, .p (.bool true)) :: env) H L Φ) : J Γ env H L Φ :=
  J_val d (.p (.bool true)) hx (by rw [he]) k
theorem J_false (d : Nat) {b : Bool} (hx : lk env d = .p (.bool b)) (he : b = false) (k : J Γ ((d, .p (.bool false)) :: env) H L Φ) : J Γ env H L Φ :=
  J_val d (.p (.bool false)) hx (by rw [he]) k

/-- The loop's next round, behind 'J_then'. -/
theorem J_again {ι : Type} {ei : ι → Env} {Hi Li : ι → List AObj} {m : ι → Nat} {i : ι} (j : ι) (hm : m j < m i) (hs : AllLk env (ei j)) (hH : Hi j = H) (hL : Li j = L) :
    J Γ env H L (fun a w => ∃ j β, m j < m i ∧ St Γ (ei j) (Hi j) (Li j) a w β) := by
  subst hH hL
  exact fun a w β s => ⟨j, β, hm, s.sim, s.step, s.env.sub (sub_of_all hs), s.size, s.defers⟩

/-- What is at an end. -/
def At (Γ : Ctx) (env : Env) (H L : List AObj) (a : Act) (w : World) : Prop := ∃ β, St Γ env H L a w β
def Only (e0 : Exit) (φ : Act → World → Prop) (e : Exit) (a : Act) (w : World) : Prop := e = e0 ∧ φ a w
theorem J_at {env' : Env} {H' L' : List AObj} (hs : AllLk env env') (hH : H = H') (hL : L = L') : J Γ env H L (Only .normal (At Γ env' H' L') .normal) := by
  subst hH hL
  exact fun a w β s => ⟨rfl, β, s.sim, s.step, s.env.sub (sub_of_all hs), s.size, s.defers⟩
/-- A piece of code that comes to one end in whichever way. -/
theorem J_join (env' : Env) (H' L' : List AObj) {c : Code} {n : Act → World → Prop} (h : J Γ env H L (c.wp P (Only .normal (At Γ env' H' L')))) (k : J Γ env' H' L' n) : J Γ env H L (c.wp P (Exit.then n Q)) := fun a w β s =>
  wp_mono (h a w β s) fun e a w ⟨he, β', s'⟩ => by subst he; exact k a w β' s'

end

/-! ### Forgetting the last of the own objects -/
def Hd.okL (n : Nat) : Hd → Bool
  | .l i => Nat.blt i n
  | _ => true
def TV.okL (n : Nat) : TV → Bool
  | .p _ => true
  | .ad h _ => h.okL n
  | .sl h _ _ _ => h.okL n
  | .el s _ _ _ => s.okL n
  | .agg l => okLL n l
  | .tup l => okLL n l
  | .fn _ l => okLL n l
  | .opt _ x => x.okL n
where okLL (n : Nat) : List TV → Bool
  | [] => true
  | x :: r => x.okL n && okLL n r
def AObj.okL (n : Nat) : AObj → Bool
  | .box _ cells => TV.okL.okLL n cells
  | _ => true
def okAll (n : Nat) : List AObj → Bool
  | [] => true
  | x :: r => x.okL n && okAll n r
def okEnv (n : Nat) : Env → Bool
  | [] => true
  | (_, x) :: r => x.okL n && okEnv n r
theorem okLL_get {n : Nat} : ∀ {l : List TV} {i : Nat} {x : TV}, TV.okL.okLL n l = true → l[i]? = some x → x.okL n = true
  | [], _, _, _, h => by simp at h
  | y :: r, 0, x, h, hx => by
    simp only [TV.okL.okLL, Bool.and_eq_true] at h
    simp at hx; subst hx; exact h.1
  | y :: r, i + 1, x, h, hx => by
    simp only [TV.okL.okLL, Bool.and_eq_true] at h
    exact okLL_get h.2 (by simpa using hx)
theorem okAll_get {n : Nat} : ∀ {l : List AObj} {i : Nat} {x : AObj}, okAll n l = true → l[i]? = some x → x.okL n = true
  | [], _, _, _, h => by simp at h
  | y :: r, 0, x, h, hx => by
    simp only [okAll, Bool.and_eq_true] at h
    simp at hx; subst hx; exact h.1
  | y :: r, i + 1, x, h, hx => by
    simp only [okAll, Bool.and_eq_true] at h
    exact okAll_get h.2 (by simpa using hx)
theorem okEnv_lk {n : Nat} : ∀ {env : Env} (t : Nat), okEnv n env = true → (lk env t).okL n = true
  | [], _, _ => rfl
  | (s, x) :: r, t, h => by
    simp only [okEnv, Bool.and_eq_true] at h
    rw [lk_cons]
    split
    · exact h.1
    · exact okEnv_lk t h.2

section
variable {w : World} {β : Hd → Nat} {H L : List AObj} {F : Nat → Prop} {n : Nat}
theorem get_take {h : Hd} (hh : h.okL n = true) : (⟨H, L.take n, F⟩ : Hp).get h = (⟨H, L, F⟩ : Hp).get h := by
  cases h with
  | o k => rfl
  | l i =>
    simp only [Hd.okL, Nat.blt_eq] at hh
    simp only [Hp.get, List.getElem?_take, if_pos hh]
theorem live_take {h : Hd} (hh : (⟨H, L.take n, F⟩ : Hp).live h) : (⟨H, L, F⟩ : Hp).live h := by
  obtain ⟨o, ho, hne⟩ := hh
  cases h with
  | o k => exact ⟨o, ho, hne⟩
  | l i =>
    simp only [Hp.get, List.getElem?_take] at ho
    split at ho
    · exact ⟨o, ho, hne⟩
    · cases ho
theorem free_take {b : Nat} (hb : Free β ⟨H, L, F⟩ b) : Free β ⟨H, L.take n, F⟩ b := ⟨hb.1, fun k hk => hb.2 k (live_take hk)⟩
theorem take_rep {x : TV} {v : Value} (h : RepT w β ⟨H, L, F⟩ x v) (hx : x.okL n = true) : RepT w β ⟨H, L.take n, F⟩ x v := by
  induction h with
  | p h => exact .p (h.mono (Nat.le_refl _) fun b _ hb => ⟨rfl, free_take hb⟩)
  | ad h off v h1 hl hv => exact .ad _ off v h1 (by rw [get_take hx]; exact hl) (by rw [get_take hx]; exact hv)
  | sl h n' st len v h1 hl hv => exact .sl _ n' st len v h1 (by rw [get_take hx]; exact hl) (by rw [get_take hx]; exact hv)
  | el e i off a len c hs hi ih => exact .el e i off a len c (ih hx) hi
  | agg xs vs hl hr ih => exact .agg xs vs hl fun i x v h1 h2 => ih i x v h1 h2 (okLL_get (by simpa [TV.okL] using hx) h1)
  | tup xs vs hl hr ih => exact .tup xs vs hl fun i x v h1 h2 => ih i x v h1 h2 (okLL_get (by simpa [TV.okL] using hx) h1)
  | fn f xs vs hl hr ih => exact .fn f xs vs hl fun i x v h1 h2 => ih i x v h1 h2 (okLL_get (by simpa [TV.okL] using hx) h1)
  | opt g x v h1 h2 ih => exact .opt g x v (fun hg => ih hg (by simpa [TV.okL] using hx)) h2
theorem ext_okL (n : Nat) : ∀ (x : TV), x.ext = true → x.okL n = true
  | .p _, _ => rfl
  | .ad (.o _) _, _ => rfl
  | .ad (.l _) _, h => by simp [TV.ext] at h
  | .sl (.o _) _ _ _, _ => rfl
  | .sl (.l _) _ _ _, h => by simp [TV.ext] at h
  | .el .., h => by simp [TV.ext] at h
  | .agg l, h => by simp only [TV.ext] at h; simp only [TV.okL]; exact extL_okL n l h
  | .tup l, h => by simp only [TV.ext] at h; simp only [TV.okL]; exact extL_okL n l h
  | .fn _ l, h => by simp only [TV.ext] at h; simp only [TV.okL]; exact extL_okL n l h
  | .opt _ x, h => by simp only [TV.ext] at h; simp only [TV.okL]; exact ext_okL n x h
where extL_okL (n : Nat) : ∀ (l : List TV), TV.ext.extL l = true → TV.okL.okLL n l = true
  | [], _ => rfl
  | x :: r, h => by
    simp only [TV.ext.extL, Bool.and_eq_true] at h
    simp only [TV.okL.okLL, Bool.and_eq_true]
    exact ⟨ext_okL n x h.1, extL_okL n r h.2⟩
theorem obj_take {b : Nat} {o : AObj} (h : ObjOk w β ⟨H, L, F⟩ b o) (ho : o.okL n = true) : ObjOk w β ⟨H, L.take n, F⟩ b o := by
  cases o with
  | dead => trivial
  | box T cells =>
    obtain ⟨cs, h1, h2, h4⟩ := h
    exact ⟨cs, h1, h2, fun i x hi => let ⟨v, hv, hr⟩ := h4 i x hi; ⟨v, hv, take_rep hr (okLL_get (by simpa [AObj.okL] using ho) hi)⟩⟩
  | arr T app e rows =>
    obtain ⟨cs, fr, h1, h2, h3, h4, h5, h6, h7⟩ := h
    exact ⟨cs, fr, h1, h2, h3, h4, h5, h6, fun i j r x hr hx => let ⟨v, hv, hr'⟩ := h7 i j r x hr hx; ⟨v, hv, hr'.mono (Nat.le_refl _) fun b _ hb => ⟨rfl, free_take hb⟩⟩⟩
  | iter s pos => exact h
theorem sim_take (h : Sim w β ⟨H, L, F⟩) (hL : okAll n (L.take n) = true) : Sim w β ⟨H, L.take n, F⟩ := by
  refine ⟨fun k o ho => ?_, fun k j hk hj => h.inj k j (live_take hk) (live_take hj), h.ext, fun k hk => h.disj k (live_take hk), h.flt⟩
  cases k with
  | o k =>
    refine obj_take (h.objs (.o k) o ho) ?_
    have hx := h.ext o (List.mem_of_getElem? ho)
    cases o with
    | box T cells => exact ext_okL.extL_okL n cells hx
    | _ => rfl
  | l i =>
    have hok := okAll_get hL (show (L.take n)[i]? = some o from ho)
    simp only [Hp.get, List.getElem?_take] at ho
    split at ho
    · exact obj_take (h.objs (.l i) o ho) hok
    · cases ho
end
theorem J_take {Γ : Ctx} {env : Env} {H L : List AObj} {Φ : Act → World → Prop} (n : Nat) (env' : Env) (hs : AllLk env env') (hx : okEnv n env' = true) (hL : okAll n (L.take n) = true) (k : J Γ env' H (L.take n) Φ) : J Γ env H L Φ := fun a w β s => by
  refine k a w β ⟨sim_take s.sim hL, ?_, fun t => take_rep (s.env.sub (sub_of_all hs) t) (okEnv_lk t hx), s.size, s.defers⟩
  exact ⟨s.step.os, s.step.tape, s.step.output, s.step.size, fun b hb hf => ⟨(s.step.frame b hb hf).1, free_take (s.step.frame b hb hf).2⟩, s.step.fr, rfl, fun k o ho => by
    cases k with
    | o k => exact s.step.obj (.o k) o ho
    | l i => simp [Hp.get] at ho⟩
end Go.Awp

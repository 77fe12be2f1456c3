/- Joining ways again, and clearing away. No program is named here. -/
import Derived.Test.YtfkibkfjebppdaaAwpO
namespace Go.Awp
open Go.RowKit
theorem hbs_ps {rows : List AV} : false = true ↔ ∃ l, TV.p (.ps rows) = .p (.str l) := by simp
theorem hbs_sl {h : Hd} {a b c : Nat} : false = true ↔ ∃ l, TV.sl h a b c = .p (.str l) := by simp
theorem hbs_str {l : List UInt8} : true = true ↔ ∃ l', TV.p (.str l) = .p (.str l') := by simp

section
variable {P : Program} {T : Tab} {Γ : Ctx} {env : Env} {H L : List AObj} {Φ : Act → World → Prop} {Q : Exit → Act → World → Prop}

theorem J_freeze_all (t i : Nat) {Ty : TypeId} {b : Bool} {e n : Nat} {rows : List AV} (ht : lk env t = .sl (.l i) n 0 n) (hi : L[i]? = some (.arr Ty b e rows)) (hn : rows.length = n)
    (k : J Γ ((t, .p (.ps rows)) :: env) H (L.set i .dead) Φ) : J Γ env H L Φ :=
  J_freeze t i ht hi hn (by subst hn; simpa using k)

/-- A value told anew. -/
theorem J_val (d : Nat) {x : TV} (y : TV) (hx : lk env d = x) (he : x = y) (k : J Γ ((d, y) :: env) H L Φ) : J Γ env H L Φ := fun a w β s => by
  subst he
  refine k a w β ⟨s.sim, s.step, fun t => ?_, s.size, s.defers⟩
  rw [lk_cons]
  split
  · rename_i e; subst e; rw [← hx]; exact s.env t
  · exact s.env t
theorem J_true (d : Nat) {b : Bool} (hx : lk env d = .p (.bool b)) (he : b = true) (k : J Γ ((d, .p (.bool true)) :: env) H L Φ) : J Γ env H L Φ :=
  J_val d (.p (.bool true)) hx (by rw [he]) k
theorem J_false (d : Nat) {b : Bool} (hx : lk env d = .p (.bool b)) (he : b = false) (k : J Γ ((d, .p (.bool false)) :: env) H L Φ) : J Γ env H L Φ :=
  J_val d (.p (.bool false)) hx (by rw [he]) k

/-- The loop's next round, behind 'J_then'. -/
theorem J_again {ι : Type} {ei : ι → Env} {Hi Li : ι → List AObj} {m : ι → Nat} {i : ι} (j : ι) (hm : m j < m i) (hs : AllLk env (ei j)) (hH : Hi j = H) (hL : Li j = L) :
    J Γ env H L (fun a w => ∃ j β, m j < m i ∧ St Γ (ei j) (Hi j) (Li j) a w β) := by
  subst hH hL
  exact fun a w β s => ⟨j, β, hm, s.sim, s.step, s.env.sub (sub_of_all hs), s.size, s.defers⟩

/-- What is at an end. -/
def At (Γ : Ctx) (env : Env) (H L : List AObj) (a : Act) (w : World) : Prop := ∃ β, St Γ env H L a w β
def Only (e0 : Exit) (φ : Act → World → Prop) (e : Exit) (a : Act) (w : World) : Prop := e = e0 ∧ φ a w
theorem J_at {env' : Env} {H' L' : List AObj} (hs : AllLk env env') (hH : H = H') (hL : L = L') : J Γ env H L (Only .normal (At Γ env' H' L') .normal) := by
  subst hH hL
  exact fun a w β s => ⟨rfl, β, s.sim, s.step, s.env.sub (sub_of_all hs), s.size, s.defers⟩
/-- A piece of code that comes to one end in whichever way. -/
theorem J_join (env' : Env) (H' L' : List AObj) {c : Code} {n : Act → World → Prop} (h : J Γ env H L (c.wp P (Only .normal (At Γ env' H' L')))) (k : J Γ env' H' L' n) : J Γ env H L (c.wp P (Exit.then n Q)) := fun a w β s =>
  wp_mono (h a w β s) fun e a w ⟨he, β', s'⟩ => by subst he; exact k a w β' s'

end
end Go.Awp

import Derived.Test.YtdkegmmigongoaaGreatDoorGo
import Derived.Test.YtdkegmmigongoaaGreatDoorM20
import Derived.Test.YtdkegmmigongoaaGreatDoorM2
namespace Go.Proofs.YtdkegmmigongoaaGreatDoor
set_option maxRecDepth 20000
open Go.Awp Tr
def Keep (m m' : MF) (P : Int → List UInt8 → Prop) : Prop := ∀ d x, m.at d = some x → x.k = 2 → ∃ x', m'.at d = some x' ∧ x'.k = 2 ∧ ∀ nm, ¬ P d nm → lget nm x'.e = lget nm x.e
theorem Keep.refl (m : MF) : Keep m m (fun _ _ => False) := fun d x h k => ⟨x, h, k, fun _ _ => rfl⟩
theorem Keep.trans {m m' m'' : MF} {P Q : Int → List UInt8 → Prop} (h : Keep m m' P) (h2 : Keep m' m'' Q) : Keep m m'' (fun d nm => P d nm ∨ Q d nm) := fun d x hx hk => by
 obtain ⟨x', a1, a2, a3⟩ := h d x hx hk
 obtain ⟨x'', b1, b2, b3⟩ := h2 d x' a1 a2
 exact ⟨x'', b1, b2, fun nm q => (b3 nm fun e => q (.inr e)).trans (a3 nm fun e => q (.inl e))⟩
theorem Keep.linked (m : MF) (j b : Int) : Keep m (m.linked j b) (fun _ _ => False) := fun d x h k => by
 rw [at_linked]
 split
 ·rename_i e; subst e; rw [h]; exact ⟨_, rfl, k, fun _ _ => rfl⟩
 ·exact ⟨x, h, k, fun _ _ => rfl⟩
theorem nmE_ne {e : List KV} (h : Rises e) {nm m : List UInt8} (j : Int) (hne : nm ≠ m) : lget nm (nmE e m j) = lget nm e := by
 unfold nmE
 split
 ·rw [lget_lcut, if_neg hne]
 ·rw [lget_lset h, if_neg hne]
theorem Keep.named {m : MF} {c : Nat} (hw : m.wk c) (d0 : Int) (n0 : List UInt8) (j : Int) : Keep m (m.named d0 n0 j) (fun d nm => d = d0 ∧ nm = n0) := fun d x h k => by
 rw [at_named]
 split
 ·rename_i e; subst e; rw [h]
  exact ⟨_, rfl, k, fun nm q => nmE_ne (hw.r x (at_mem h).1) j fun e => q ⟨rfl, e⟩⟩
 ·exact ⟨x, h, k, fun _ _ => rfl⟩
theorem Keep.without {m : MF} {j : Int} (hj : m.kind j ≠ 2) : Keep m (m.without j) (fun _ _ => False) := fun d x h k => by
 rw [at_without, if_neg]
 ·exact ⟨x, h, k, fun _ _ => rfl⟩
 ·intro e; subst e; unfold MF.kind at hj; rw [h] at hj; exact hj k
def Lacks (m : MF) (d : Int) (nm : List UInt8) : Prop := ∀ x, m.at d = some x → lget nm x.e = none
theorem Lacks.named {m : MF} {c : Nat} (hw : m.wk c) {d : Int} {nm : List UInt8} (h : Lacks m d nm) {d' : Int} {nm' : List UInt8} (hne : ¬ (d = d' ∧ nm = nm')) (j : Int) : Lacks (m.named d' nm' j) d nm := fun x hx => by
 rw [at_named] at hx
 split at hx
 ·rename_i e
  subst e
  cases hm : m.at d with
  | none => rw [hm] at hx; cases hx
  | some y =>
   rw [hm] at hx
   obtain rfl := Option.some.inj hx
   dsimp only
   rw [nmE_ne (hw.r y (at_mem hm).1) j (fun e => hne ⟨rfl, e⟩)]
   exact h y hm
 ·exact h x hx
theorem Lacks.linked {m : MF} {d : Int} {nm : List UInt8} (h : Lacks m d nm) (j b : Int) : Lacks (m.linked j b) d nm := fun x hx => by
 rw [at_linked] at hx
 split at hx
 ·rename_i e
  subst e
  cases hm : m.at d with
  | none => rw [hm] at hx; cases hx
  | some y =>
   rw [hm] at hx
   obtain rfl := Option.some.inj hx
   exact h y hm
 ·exact h x hx
end Go.Proofs.YtdkegmmigongoaaGreatDoor

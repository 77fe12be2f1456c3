import Derived.Test.YtdkegmmigongoaaGreatDoorGo
import Derived.Test.YtdkegmmigongoaaGreatDoorM19
import Derived.Test.YtdkegmmigongoaaGreatDoorM2
namespace Go.Proofs.YtdkegmmigongoaaGreatDoor
set_option maxRecDepth 20000
open Go.Awp Tr
def Keep (m m' : MF) (P : Int → List UInt8 → Prop) : Prop := ∀ d x, m.at d = some x → x.k = 2 → ∃ x', m'.at d = some x' ∧ x'.k = 2 ∧ ∀ nm, ¬ P d nm → lget nm x'.e = lget nm x.e
theorem Keep.refl (m : MF) : Keep m m (fun _ _ => False) := fun d x h k => ⟨x, h, k, fun _ _ => rfl⟩
theorem Keep.trans {m m' m'' : MF} {P Q : Int → List UInt8 → Prop} (h : Keep m m' P) (h2 : Keep m' m'' Q) : Keep m m'' (fun d nm => P d nm ∨ Q d nm) := fun d x hx hk => by
 obtain ⟨x', a1, a2, a3⟩ := h d x hx hk
 obtain ⟨x'', b1, b2, b3⟩ := h2 d x' a1 a2
 exact ⟨x'', b1, b2, fun nm q => (b3 nm fun e => q (.inr e)).trans (a3 nm fun e => q (.inl e))⟩
theorem Keep.linked (m : MF) (j b : Int) : Keep m (m.linked j b) (fun _ _ => False) := fun d x h k => by
 rw [at_linked]
 split
 ·rename_i e; subst e; rw [h]; exact ⟨_, rfl, k, fun _ _ => rfl⟩
 ·exact ⟨x, h, k, fun _ _ => rfl⟩
theorem nmE_ne {e : List KV} (h : Rises e) {nm m : List UInt8} (j : Int) (hne : nm ≠ m) : lget nm (nmE e m j) = lget nm e := by
 unfold nmE
 split
 ·rw [lget_lcut, if_neg hne]
 ·rw [lget_lset h, if_neg hne]
theorem Keep.named {m : MF} {c : Nat} (hw : m.wk c) (d0 : Int) (n0 : List UInt8) (j : Int) : Keep m (m.named d0 n0 j) (fun d nm => d = d0 ∧ nm = n0) := fun d x h k => by
 rw [at_named]
 split
 ·rename_i e; subst e; rw [h]
  exact ⟨_, rfl, k, fun nm q => nmE_ne (hw.r x (at_mem h).1) j fun e => q ⟨rfl, e⟩⟩
 ·exact ⟨x, h, k, fun _ _ => rfl⟩
theorem Keep.without {m : MF} {j : Int} (hj : m.kind j ≠ 2) : Keep m (m.without j) (fun _ _ => False) := fun d x h k => by
 rw [at_without, if_neg]
 ·exact ⟨x, h, k, fun _ _ => rfl⟩
 ·intro e; subst e; unfold MF.kind at hj; rw [h] at hj; exact hj k
def Lacks (m : MF) (d : Int) (nm : List UInt8) : Prop := ∀ x, m.at d = some x → lget nm x.e = none
theorem Lacks.named {m : MF} {c : Nat} (hw : m.wk c) {d : Int} {nm : List UInt8} (h : Lacks m d nm) {d' : Int} {nm' : List UInt8} (hne : ¬ (d = d' ∧ nm = nm')) (j : Int) : Lacks (m.named d' nm' j) d nm := fun x hx => by
 rw [at_named] at hx
 split at hx
 ·rename_i e
  subst e
  cases hm : m.at d with
  | none => rw [hm] at hx; cases hx
  | some y =>
   rw [hm] at hx
   obtain rfl := Option.some.inj hx
   dsimp only
   rw [nmE_ne (hw.r y (at_mem hm).1) j (fun e => hne ⟨rfl, e⟩)]
   exact h y hm
 ·exact h x hx
theorem Lacks.linked {m : MF} {d : Int} {nm : List UInt8} (h : Lacks m d nm) (j b : Int) : Lacks (m.linked j b) d nm := fun x hx => by
 rw [at_linked] at hx
 split at hx
 ·rename_i e
  subst e
  cases hm : m.at d with
  | none => rw [hm] at hx; cases hx
  | some y =>
   rw [hm] at hx
   obtain rfl := Option.some.inj hx
   exact h y hm
 ·exact h x hx
theorem getNode_inj {v w : List UInt8} {g : Nd} (hv : getNode v = some g) (hw : getNode w = some g) : v = w := by
 have key : ∀ {v : List UInt8}, getNode v = some g → v = nodeB g.1 g.2.1 g.2.2.1 g.2.2.2 := fun {v} h => by
  unfold getNode at h
  split at h
  ·rename_i hh
   injection h with h
   subst h
   exact (nodeB_get hh.1).symm
  ·cases h
 rw [key hv, key hw]
theorem par_at {l : List KV} {m : MF} {par : Int → Int} (R : Rel l m par) {j : Int} {x : MN} (hx : m.at j = some x) (hk : x.k = 2) (h1 : j ≠ 1) : ∃ d y nm, m.at d = some y ∧ lget nm y.e = some (beB 4 j) ∧ par j = d := by
 have hr := R.one j x hx hk
 rw [if_neg h1] at hr
 have hp : 0 < refs j l := by omega
 obtain ⟨y, hy, hb⟩ := List.countP_pos_iff.1 hp
 obtain ⟨c, d, r, hc, hd, hkey⟩ := R.key y hy
 unfold refB at hb
 rw [Bool.and_eq_true, hkey, head_key] at hb
 have hc8 : L8 c := by unfold L8; omega
 obtain rfl := ofNat69 hc8 hb.1
 have hv : y.2 = beB 4 j := by simpa using hb.2
 have hm : (r, y.2) ∈ subL 69 d l := sub_mem.2 (by rw [← hkey]; exact hy)
 cases hA : m.at d with
 | none => rw [R.eno d hd hA] at hm; cases hm
 | some z =>
  have hg : lget r z.e = some (beB 4 j) := by
   rw [R.ent d z hA]
   exact (lget_some (sub_rises R.ri)).2 (by rw [← hv]; exact hm)
  obtain ⟨_, c, w, g1, g2, g3, g4⟩ := R.nam d z hA r _ hg
  have hju := (R.u j x hx).1
  have := (be4_inj hju (R.u c w g2).1).1 g1
  subst this
  obtain rfl : x = w := Option.some.inj (hx.symm.trans g2)
  exact ⟨d, z, r, hA, hg, g4 hk⟩
theorem row_eq {l l' : List KV} {m m' : MF} {par par' : Int → Int} (R : Rel l m par) (R' : Rel l' m' par') (ha : m'.at = m.at) (h1 : lget (keyH 73 1) l' = none ↔ lget (keyH 73 1) l = none) : l' = l := by
 have hpar : ∀ j x, m.at j = some x → par' j = par j := fun j x hx => by
  rcases R.kin j x hx with ⟨k2, _⟩ | ⟨_, _, q⟩
  ·by_cases e : j = 1
   ·rw [e, R.rpar, R'.rpar]
   ·obtain ⟨d, y, nm, g1, g2, g3⟩ := par_at R hx k2 e
    obtain ⟨_, c, w, f1, f2, f3, f4⟩ := R'.nam d y (by rw [ha]; exact g1) nm _ g2
    have := (be4_inj (R.u j x hx).1 (R'.u c w f2).1).1 f1
    subst this
    rw [ha, hx] at f2
    obtain rfl := Option.some.inj f2
    rw [f4 k2, g3]
  ·rcases R'.kin j x (by rw [ha]; exact hx) with ⟨k2, _⟩ | ⟨_, _, q'⟩
   ·have := R.kin j x hx
    omega
   ·rw [q, q']
 have key : ∀ c j r, (c = 73 ∧ r = [] ∨ c = 69 ∨ c = 68) → U32 j → lget (keyH c j ++ r) l' = lget (keyH c j ++ r) l := fun c j r hc hj => by
  rcases hc with ⟨rfl, rfl⟩ | rfl | rfl
  ·rw [List.append_nil]
   cases hm : m.at j with
   | none => rw [R.non j hj hm, R'.non j hj (by rw [ha]; exact hm)]
   | some x =>
    have n1 := R.nod j x hm
    have n2 := R'.nod j x (by rw [ha]; exact hm)
    rw [hpar j x hm, ← n1] at n2
    cases q1 : lget (keyH 73 j) l with
    | none =>
     cases q2 : lget (keyH 73 j) l' with
     | none => rfl
     | some v =>
      have : j = 1 := by
       rw [q1] at n1
       unfold ndOf at n1
       dsimp only at n1
       split at n1
       ·rename_i e; exact e
       ·cases n1
      subst this
      rw [h1.2 q1] at q2; cases q2
    | some v =>
     cases q2 : lget (keyH 73 j) l' with
     | none =>
      have : j = 1 := by
       rw [q2, n1] at n2
       unfold ndOf at n2
       dsimp only at n2
       split at n2
       ·rename_i e; exact e
       ·cases n2
      subst this
      rw [h1.1 q2] at q1; cases q1
     | some w =>
      rw [q1] at n1
      rw [q1, q2, n1] at n2
      exact congrArg some (getNode_inj n2 n1)
  ·rw [← sub_get R.ri, ← sub_get R'.ri]
   cases hm : m.at j with
   | none => rw [R.eno j hj hm, R'.eno j hj (by rw [ha]; exact hm)]
   | some x => rw [← R.ent j x hm, ← R'.ent j x (by rw [ha]; exact hm)]
  ·rw [← sub_get R.ri, ← sub_get R'.ri]
   cases hm : m.at j with
   | none => rw [R.bno j hj hm, R'.bno j hj (by rw [ha]; exact hm)]
   | some x => rw [R.blk j x hm, R'.blk j x (by rw [ha]; exact hm)]
 refine lget_ext R'.ri R.ri fun k => ?_
 cases q1 : lget k l with
 | some v =>
  obtain ⟨c, j, r, hc, hj, hk⟩ := R.key (k, v) ((lget_some R.ri).1 q1)
  dsimp only at hk
  rw [hk] at q1 ⊢
  rw [key c j r hc hj, q1]
 | none =>
  cases q2 : lget k l' with
  | none => rfl
  | some v =>
   obtain ⟨c, j, r, hc, hj, hk⟩ := R'.key (k, v) ((lget_some R'.ri).1 q2)
   dsimp only at hk
   rw [hk, key c j r hc hj, ← hk, q1] at q2
   cases q2
end Go.Proofs.YtdkegmmigongoaaGreatDoor

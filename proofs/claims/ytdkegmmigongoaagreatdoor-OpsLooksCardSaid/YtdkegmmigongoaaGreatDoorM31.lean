import Derived.Test.YtdkegmmigongoaaGreatDoorGo
import Derived.Test.YtdkegmmigongoaaGreatDoorM30
import Derived.Test.YtdkegmmigongoaaGreatDoorM29
import Derived.Test.YtdkegmmigongoaaGreatDoorM19
namespace Go.Proofs.YtdkegmmigongoaaGreatDoor
set_option maxRecDepth 20000
open Go.Awp Tr
def openL : List Int → Nat → List Int
 | [], _ => []
 | x :: r, i => if x = 0 then openL r (i + 1) else (i : Int) :: openL r (i + 1)
structure OpI (l : List Int) where
 i : Nat
 h : i ≤ l.length
 acc : List Int
 hl : acc.length ≤ i
 e : acc ++ openL (l.drop i) i = openL l 0
theorem make_al {m : MF} {P : Int → Prop} (h : m.al P) (p : List UInt8) (k i : Int) (he : (m.make p k i).1 ≠ 0) : (m.make p k i).2.al P := by
 unfold MF.make at he ⊢
 split
 ·exact h
 split
 ·exact h
 rename_i h1 h2
 rw [if_neg h1, if_neg h2] at he
 exact absurd rfl he
theorem mdo_al2 {m : MF} {P : Int → Prop} (h : m.al P) (h1 : P 1) (l : List Int) (o : Op20) (i : Int) (hn : ¬ ((o.kind = 4 ∨ o.kind = 5) ∧ (mdo m l o i).1.e = 0)) : (mdo m l o i).2.1.al P := by
 by_cases k4 : o.kind = 4
 ·have he : (mdo m l o i).1.e ≠ 0 := fun e => hn ⟨.inl k4, e⟩
  unfold mdo at he ⊢
  rw [if_pos k4] at he ⊢
  exact make_al h _ _ _ he
 by_cases k5 : o.kind = 5
 ·have he : (mdo m l o i).1.e ≠ 0 := fun e => hn ⟨.inr k5, e⟩
  unfold mdo at he ⊢
  rw [if_neg k4, if_pos k5] at he ⊢
  exact make_al h _ _ _ he
 have e : mdo m l o i = mdo m l o 1 := by
  unfold mdo
  rw [if_neg k4, if_neg k5, if_neg k4, if_neg k5]
 rw [e]
 exact mdo_al h l o h1
theorem D20.stepF {s : VS} {l : List Int} {m : MF} {fr : Int} {i : Nat} (d : D20 s l m (· < fr) i) (hi : i ≤ 200) (o : Op20) (h2 : 2 ≤ fr) (hf : fr ≤ 4294967290) :
  (sdo s l o fr).1.e = 21 ∨ ((sdo s l o fr).1 = (mdo m l o fr).1 ∧ (sdo s l o fr).2.2 = (mdo m l o fr).2.2 ∧ D20 (sdo s l o fr).2.1 (sdo s l o fr).2.2 (mdo m l o fr).2.1 (· < mfr m l o fr) (i + 1)) := by
 refine (d.step (Q := (· < fr + 1)) hi o (j := fr) (by unfold U32; omega) (by omega) (by omega) (fun k h => by omega) (by omega)).imp_right fun ⟨q1, q2, q3⟩ => ⟨q1, q2, ?_⟩
 refine ⟨q3.v, q3.r, q3.w, ?_, q3.l⟩
 unfold mfr
 by_cases hc : (o.kind = 4 ∨ o.kind = 5) ∧ (mdo m l o fr).1.e = 0
 ·rw [if_pos hc]; exact q3.p
 ·rw [if_neg hc]; exact mdo_al2 d.p (by show (1 : Int) < fr; omega) l o fr hc
theorem mdo_names {m : MF} {c : Nat} (h : m.wk c) (l : List Int) (o : Op20) (i : Int) : (mdo m l o i).1.names.length ≤ c := by
 by_cases k15 : o.kind = 15
 ·unfold mdo
  rw [if_neg (show ¬ o.kind = 4 by omega), if_neg (show ¬ o.kind = 5 by omega), if_neg (show ¬ o.kind = 6 by omega), if_neg (show ¬ o.kind = 7 by omega), if_neg (show ¬ o.kind = 8 by omega), if_neg (show ¬ o.kind = 9 by omega), if_neg (show ¬ o.kind = 10 by omega), if_neg (show ¬ o.kind = 11 by omega), if_neg (show ¬ o.kind = 12 by omega), if_neg (show ¬ o.kind = 13 by omega), if_neg (show ¬ o.kind = 14 by omega), if_pos k15]
  show (m.list o.path).1.length ≤ c
  unfold MF.list
  split
  ·exact Nat.zero_le _
  split
  ·exact Nat.zero_le _
  split
  ·exact Nat.zero_le _
  ·rename_i n hn
   split
   ·exact Nat.zero_le _
   ·rw [List.length_map]; exact h.e n (at_mem hn).1
 ·have : (mdo m l o i).1.names = [] := by
   unfold mdo
   by_cases k4 : o.kind = 4
   ·rw [if_pos k4]
    repeat' split
    all_goals rfl
   rw [if_neg k4]
   by_cases k5 : o.kind = 5
   ·rw [if_pos k5]
    repeat' split
    all_goals rfl
   rw [if_neg k5]
   by_cases k6 : o.kind = 6
   ·rw [if_pos k6]
    repeat' split
    all_goals rfl
   rw [if_neg k6]
   by_cases k7 : o.kind = 7
   ·rw [if_pos k7]
    repeat' split
    all_goals rfl
   rw [if_neg k7]
   by_cases k8 : o.kind = 8
   ·rw [if_pos k8]
    repeat' split
    all_goals rfl
   rw [if_neg k8]
   by_cases k9 : o.kind = 9
   ·rw [if_pos k9]
    repeat' split
    all_goals rfl
   rw [if_neg k9]
   by_cases k10 : o.kind = 10
   ·rw [if_pos k10]
    repeat' split
    all_goals rfl
   rw [if_neg k10]
   by_cases k11 : o.kind = 11
   ·rw [if_pos k11]
    repeat' split
    all_goals rfl
   rw [if_neg k11]
   by_cases k12 : o.kind = 12
   ·rw [if_pos k12]
    repeat' split
    all_goals rfl
   rw [if_neg k12]
   by_cases k13 : o.kind = 13
   ·rw [if_pos k13]
    repeat' split
    all_goals rfl
   rw [if_neg k13]
   by_cases k14 : o.kind = 14
   ·rw [if_pos k14]
    repeat' split
    all_goals rfl
   rw [if_neg k14]
   rw [if_neg k15]
   by_cases k16 : o.kind = 16
   ·rw [if_pos k16]
    repeat' split
    all_goals rfl
   rw [if_neg k16]
   rfl
  rw [this]
  exact Nat.zero_le _
theorem TVLe.trans {x y z : TV} (h : TVLe x y) (k : TVLe y z) : TVLe x z := fun w β G v q => k _ _ _ _ (h _ _ _ _ q)
theorem sl_ps {α : Type} {mk : α → AV} {x : AV} {l : List α} (h : Sl mk x l) : AVLe x (.ps (l.map mk)) := by
 cases h with
 | nils => exact nils_ps
 | ps => exact AVLe.refl _
theorem res_le {r : RS} {x n : AV} (hx : Bs x r.data) (hn : Sl AV.str n r.names) : TVLe (resT r x n) (resT r (.ps (bv r.data)) (.ps (r.names.map .str))) :=
 TVLe.trans (agg_rep (xs := [.p (.int .i64 r.e), .p (.int .i64 r.n), .p x, .p n, .p (.int .u8 r.st.1), .p (.int .u32 r.st.2.1), .p (.int .u32 r.st.2.2.1), .p (.int .u32 r.st.2.2.2)]) 2 rfl (bs_ps hx)) (agg_rep 3 rfl (sl_ps hn))
end Go.Proofs.YtdkegmmigongoaaGreatDoor
namespace Go.Proofs.YtdkegmmigongoaaGreatDoor
set_option maxRecDepth 20000
open Go.Awp Go.RowKit
section
variable {P : Program} {T : Tab} {env : Env} {H L : List AObj} {o : Oper} {x : TV}
theorem opr_eqSame {op : BinOp} {t t2 : TypeId} {y z : Operand} {i off b e : Nat} {te : TyI} {cs : List TV} (hT : TabOk P T) (ho : o.op = .binOp op t y z t2) (h1 : P.underlying t = some (.pointer e)) (hte : tlk T e = some te) (hy : evA env y = .ad (.l i) off) (hz : evA env z = .ad (.l i) off) (hi : L[i]? = some (.box b cs)) (hx : eqA op true = some x) : OpR P o env H L x H L :=
 opr_pure fun F w β a hS he => by
  have val : ∀ q : Operand, evA env q = .ad (.l i) off → a.eval q = .pointer (some ⟨β (.l i), off, none⟩) := fun q hq => by
   have hp := evA_ok he q
   rw [hq] at hp
   cases hp with | ad _ _ _ _ _ hv => exact hv _ hi rfl
  have hv := val y hy
  have hv2 := val z hz
  obtain ⟨inf, ue, ok⟩ := hT.get hte
  have hr : (Op.equal t (.pointer (some ⟨β (.l i), off, none⟩)) (.pointer (some ⟨β (.l i), off, none⟩))).run P w = .ok true w := by
   have key : ∀ d, (Op.equalIn (d + 1) t (.pointer (some ⟨β (.l i), off, none⟩)) (.pointer (some ⟨β (.l i), off, none⟩))).run P w = .ok true w := by
    intro d
    simp [Op.equalIn, run_underlying h1, ok.run_size, sameAddr]
   exact key 9999
  obtain ⟨c, rfl, h3⟩ := run_eq_of (P := P) (w := w) (t := t) hx hr (bin_eq_ptr t _ _) (bin_ne_ptr ..)
  refine ⟨.bool c, ?_, .p (.bool ..)⟩
  simp only [execOp, ho, hv, hv2, Sem.run_bind]
  rw [eqGuard_at_pointer]
  simp [h3]
end
end Go.Proofs.YtdkegmmigongoaaGreatDoor

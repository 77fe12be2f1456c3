/- view: Writes. -/
import Derived.Test.YtbdijekfplpnlaaGo
import Derived.Test.YtbdijekfplpnlaaF14c
-- @D
namespace Go.Proofs.Ytbdijekfplpnlaa
set_option maxRecDepth 20000
open Go.Awp Tr
/-- A write, as it is told: the value stands behind a mark; without one the key is gone. -/
def wr (x : KV) : PW := (x.1, x.2.drop 1, x.2 == [])
theorem set_mid {α : Type} (A : List α) (x y : α) (B : List α) (i : Nat) (h : A.length = i) : (A ++ x :: B).set (0 + i) y = A ++ y :: B := by
  subst h
  rw [Nat.zero_add, List.set_append_right _ _ (Nat.le_refl _), Nat.sub_self]
  rfl
theorem get_mid {α : Type} (A : List α) (x : α) (B : List α) (i : Nat) (h : A.length = i) : (A ++ x :: B)[i]? = some x := by
  subst h
  rw [List.getElem?_append_right (Nat.le_refl _), Nat.sub_self]
  rfl
/-- So far as they are told. -/
def wrS (l : List KV) (i : Nat) : List AV := (l.take i).map (fun x => pwV (wr x)) ++ (l.drop i).map kvV
set_option maxHeartbeats 8000000 in
theorem vwrites_spec (s : VS) (hw : s.writes.size ≤ big40) : Con Try.prog 36 [vP] (vH s) (.sl (.l 0) s.writes.size 0 s.writes.size) (vH s) [.arr 99 true 3 (s.writes.row.map fun x => pwV (wr x))] := by
  have hrl := row_len s.writes
  have c1 := vall_spec s.writes hw
  generalize s.writes.row = l at hrl c1
  have hlk : (kvs l).length = s.writes.size := by simpa using hrl
  unfold big40 at hw
  refine con_of Try.func36 rfl (by kernel_rfl) rfl fun F w0 β0 => ?_
  refine K_tell rfl ?_
  refine go ?_
  refine K_op rfl rfl (opr_callP rfl rfl (c1) rfl rfl rfl rfl) rfl ?_
  refine go ?_
  refine K_op rfl rfl (opr_len_rd hT rfl rfl (Rd.own rfl hlk)) rfl ?_
  rw [hlk]
  refine go ?_
  refine J_loop (fun q : Ix s.writes.size => [(0, vP), (3, .sl (.l 0) s.writes.size 0 s.writes.size), (13, .sl (.l 0) s.writes.size 0 s.writes.size), (14, .p (.int .i64 (s.writes.size : Int))), (15, .p (.int .i64 (q.i : Int)))]) (fun _ => vH s) (fun q => [.arr 99 true 3 (wrS l q.i)]) (fun q => s.writes.size - q.i) ⟨0, by omega⟩ ⟨rfl, rfl, rfl, rfl, rfl, trivial⟩ rfl rfl (fun q => ?_)
  have hi := q.h
  refine go ?_
  by_cases h : q.i < s.writes.size
  · have hil : q.i < l.length := by omega
    have hx : l[q.i]? = some l[q.i] := List.getElem?_eq_getElem hil
    have hdr : l.drop q.i = l[q.i] :: l.drop (q.i + 1) := List.drop_eq_getElem_cons hil
    have hmt := map_take1 (fun x => pwV (wr x)) hx
    have hA : ((l.take q.i).map fun x => pwV (wr x)).length = q.i := by simp; omega
    have hB : ((l.drop (q.i + 1)).map kvV).length = s.writes.size - (q.i + 1) := by simp; omega
    have e0 : wrS l q.i = ((l.take q.i).map fun x => pwV (wr x)) ++ kvV l[q.i] :: (l.drop (q.i + 1)).map kvV := by unfold wrS; rw [hdr]; rfl
    have e1 : wrS l (q.i + 1) = ((l.take q.i).map fun x => pwV (wr x)) ++ pwV (wr l[q.i]) :: (l.drop (q.i + 1)).map kvV := by
      unfold wrS; rw [← hmt, List.append_assoc]; rfl
    generalize l[q.i] = x at hx e0 e1
    rw [e0]
    generalize hC : wrS l (q.i + 1) = C at e1
    generalize (l.take q.i).map (fun x => pwV (wr x)) = A at hA e1
    generalize (l.drop (q.i + 1)).map kvV = B at hB e1
    have hl1 : ∀ y : AV, (A ++ y :: B).length = s.writes.size := fun y => by simp [hA, hB]; omega
    have hg : ∀ y : AV, (A ++ y :: B)[((q.i : Nat) : Int).toNat]? = some y := fun y => by rw [Int.toNat_natCast]; exact get_mid A y B q.i hA
    refine K_condT rfl (decide_eq_true (by omega)) ?_
    refine go ?_
    refine K_op rfl rfl (opr_index hT rfl rfl rfl rfl rfl (Rd.own rfl (hl1 _)) (by omega) (by rw [hl1]; omega)) rfl ?_
    refine go ?_
    refine K_op rfl rfl (opr_load_el hT rfl rfl (Rd.own rfl (hl1 _)) (hg _) rfl rfl) rfl ?_
    refine go ?_
    refine K_op rfl rfl (opr_index hT rfl rfl rfl rfl rfl (Rd.own rfl (hl1 _)) (by omega) (by rw [hl1]; omega)) rfl ?_
    refine go ?_
    refine K_op rfl rfl (opr_storeEl hT rfl rfl rfl (hl1 _) rfl rfl rfl (by rw [Nat.zero_add]; exact hg _) rfl (Nat.le_of_ble_eq_true rfl) (by simp [cl]) (fun _ => rfl)) rfl ?_
    rw [Int.toNat_natCast, set_mid A _ _ B q.i hA, show rowSet (kvV x) (0 + 2) [.bool (x.2 == [])] = pwV (x.1, x.2, x.2 == []) from rfl]
    refine go ?_
    have hmin : mmA .min 1 (x.2.length : Int) = ((min 1 x.2.length : Nat) : Int) := by unfold mmA; simp only []; split <;> omega
    rw [hmin]
    refine K_op rfl rfl (opr_cut_str hT rfl rfl rfl rfl rfl (by omega) (by omega) (by omega)) rfl ?_
    have hcut : ((x.2.drop ((min 1 x.2.length : Nat) : Int).toNat).take ((x.2.length : Int).toNat - ((min 1 x.2.length : Nat) : Int).toNat)) = x.2.drop 1 := by
      cases hx2 : x.2 with
      | nil => rfl
      | cons a r =>
        rw [show min 1 (a :: r).length = 1 by simp]
        simp
    rw [hcut]
    refine go ?_
    refine K_op rfl rfl (opr_index hT rfl rfl rfl rfl rfl (Rd.own rfl (hl1 _)) (by omega) (by rw [hl1]; omega)) rfl ?_
    refine go ?_
    refine K_op rfl rfl (opr_storeEl hT rfl rfl rfl (hl1 _) rfl rfl rfl (by rw [Nat.zero_add]; exact hg _) rfl (Nat.le_of_ble_eq_true rfl) (by simp [cl]) (fun _ => rfl)) rfl ?_
    rw [Int.toNat_natCast, set_mid A _ _ B q.i hA, show rowSet (pwV (x.1, x.2, x.2 == [])) (0 + 1) [.str (x.2.drop 1)] = pwV (wr x) from rfl, ← e1]
    refine go ?_
    refine J_take 1 [(0, vP), (3, .sl (.l 0) s.writes.size 0 s.writes.size), (13, .sl (.l 0) s.writes.size 0 s.writes.size), (14, .p (.int .i64 (s.writes.size : Int))), (15, .p (.int .i64 (IntKind.i64.wrap ((q.i : Int) + 1))))] ⟨rfl, rfl, rfl, rfl, rfl, trivial⟩ rfl rfl ?_
    refine J_again ⟨q.i + 1, by omega⟩ (by show s.writes.size - (q.i + 1) < s.writes.size - q.i; omega) ⟨rfl, rfl, rfl, rfl, congrArg (fun z => TV.p (.int .i64 z)) (by rw [IntWalk.i64_in _ (by omega)]; rfl), trivial⟩ rfl (by rw [← hC]; rfl)
  have e : wrS l q.i = l.map fun x => pwV (wr x) := by
    unfold wrS
    rw [List.take_of_length_le (by omega), List.drop_eq_nil_of_le (by omega)]
    simp
  rw [e]
  refine K_condF rfl (decide_eq_false (by omega)) ?_
  refine go ?_
  exact J_give hT rfl rfl
end Go.Proofs.Ytbdijekfplpnlaa

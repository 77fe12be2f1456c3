/- The law NamesJoin: its contract. -/
import Derived.Test.YtjibchohkeljkaaDoorGo
import Derived.Test.YtjibchohkeljkaaDoorM8
-- @D
namespace Go.Proofs.YtjibchohkeljkaaDoor
set_option maxRecDepth 20000
open Go.Awp Tr
def slash (l : List (List UInt8)) : List UInt8 := l.flatMap fun x => 47 :: x
theorem slash_join : ∀ {l : List (List UInt8)}, l ≠ [] → slash l = 47 :: Lib.join l [47]
  | [], h => absurd rfl h
  | [x], _ => by simp [slash, Lib.join]
  | x :: y :: r, _ => by
    have ih := slash_join (l := y :: r) (by simp)
    unfold slash at ih ⊢
    rw [List.flatMap_cons, ih]
    simp [Lib.join]
theorem slash_snoc (l : List (List UInt8)) (x : List UInt8) : slash (l ++ [x]) = slash l ++ 47 :: x := by simp [slash]
def wJ (l : List (List UInt8)) : Nat := (l.map fun x => min x.length 9000 + 1).sum
theorem wJ_take {l : List (List UInt8)} {i : Nat} {x : List UInt8} (hx : l[i]? = some x) : wJ (l.take (i + 1)) = wJ (l.take i) + (min x.length 9000 + 1) := by
  unfold wJ
  rw [List.take_add_one, hx]
  simp
theorem wJ_b (l : List (List UInt8)) : wJ l ≤ 9001 * l.length ∧ l.length ≤ wJ l := by
  unfold wJ
  induction l with
  | nil => simp
  | cons x r ih => simp; omega
theorem wJ_slash {l : List (List UInt8)} (h : wJ l ≤ 5000) : (slash l).length ≤ wJ l := by
  unfold wJ slash at *
  induction l with
  | nil => simp
  | cons x r ih =>
    simp at h ⊢
    have := ih (by omega)
    simp at this
    omega
theorem wJ_le (l : List (List UInt8)) (i : Nat) : wJ (l.take i) ≤ wJ l := by
  unfold wJ
  have := List.take_append_drop i l
  conv => rhs; rw [← this, List.map_append, List.sum_append]
  omega
structure RJq (l : List (List UInt8)) where
  i : Nat
  h : i ≤ l.length
  ok : ∀ x ∈ l.take i, nameB x = true
set_option maxHeartbeats 8000000 in
theorem rjoin_spec {s : AV} {l : List (List UInt8)} (hs : Sl .str s l) (hw : wJ l ≤ 5000) : Con Tryd.prog 14 [.p s] [] (.tup [.p (.str (joinN l).1), .p (.int .i64 (joinN l).2)]) [] [] := by
  have hlen : (l.map AV.str).length = l.length := by simp
  have hb := wJ_b l
  have hsl := wJ_slash hw
  unfold joinN
  by_cases h16 : (l.length : Int) > 16
  · have hm : mayN l = false := by unfold mayN; rw [decide_eq_false (by omega), Bool.false_and]
    rw [hm]
    refine con_of Tryd.func14 rfl (by kernel_rfl) rfl fun F w0 β0 => ?_
    refine K_tell rfl ?_
    refine go ?_
    refine K_op rfl rfl (opr_len_rd hT rfl rfl (hs.rd _ _)) rfl ?_
    rw [hlen]
    refine go ?_
    refine K_condT rfl (decide_eq_true h16) ?_
    refine go ?_
    exact J_done hT rfl rfl rfl
  refine con_of Tryd.func14 rfl (by kernel_rfl) rfl fun F w0 β0 => ?_
  refine K_tell rfl ?_
  refine go ?_
  refine K_op rfl rfl (opr_len_rd hT rfl rfl (hs.rd _ _)) rfl ?_
  rw [hlen]
  refine go ?_
  refine K_condF rfl (decide_eq_false h16) ?_
  refine go ?_
  refine K_op rfl rfl (opr_len_rd hT rfl rfl (hs.rd _ _)) rfl ?_
  rw [hlen]
  refine go ?_
  refine J_loop (fun q : RJq l => [(0, .p s), (4, .p (.str (slash (l.take q.i)))), (10, .p (.int .i64 (l.length : Int))), (11, .p (.int .i64 (q.i : Int)))]) (fun _ => []) (fun _ => []) (fun q => l.length - q.i) ⟨0, by omega, by simp⟩ ⟨rfl, rfl, rfl, rfl, trivial⟩ rfl rfl (fun q => ?_)
  have hi := q.h
  have hok := q.ok
  refine go ?_
  by_cases h : q.i < l.length
  · have hx : l[q.i]? = some l[q.i] := List.getElem?_eq_getElem h
    have hxm := List.getElem_mem h
    generalize l[q.i] = x at hx hxm
    have hxk := map_get AV.str hx
    have hts := take_snoc hx
    have hwt := wJ_take hx
    have hw1 := wJ_le l (q.i + 1)
    have hw0 := wJ_le l q.i
    have hs0 := wJ_slash (l := l.take q.i) (by omega)
    have c1 := rname_spec x (by omega)
    refine K_condT rfl (decide_eq_true (by omega)) ?_
    refine go ?_
    refine K_op rfl rfl (opr_index hT rfl rfl rfl rfl rfl (hs.rd _ _) (by omega) (by rw [hlen]; omega)) rfl ?_
    refine K_op rfl rfl (opr_load_el hT rfl rfl (hs.rd _ _) hxk rfl rfl) rfl ?_
    refine go ?_
    refine K_op rfl rfl (opr_callP rfl rfl (c1) rfl rfl rfl rfl) rfl ?_
    cases hnm : nameB x with
    | false =>
      rw [mayN_no hxm hnm]
      refine go ?_
      exact J_done hT rfl rfl rfl
    | true =>
      refine go ?_
      refine K_op rfl rfl (opr_cat (m := [47]) rfl rfl rfl (by simp; omega)) rfl ?_
      refine go ?_
      refine K_op rfl rfl (opr_index hT rfl rfl rfl rfl rfl (hs.rd _ _) (by omega) (by rw [hlen]; omega)) rfl ?_
      refine K_op rfl rfl (opr_load_el hT rfl rfl (hs.rd _ _) hxk rfl rfl) rfl ?_
      refine K_op rfl rfl (opr_cat rfl rfl rfl (by simp; omega)) rfl ?_
      rw [List.append_assoc, List.singleton_append, ← slash_snoc, ← hts]
      refine go ?_
      refine J_again ⟨q.i + 1, by omega, fun y hy => by rw [hts] at hy; rcases List.mem_append.1 hy with hy | hy; exact hok y hy; rw [List.mem_singleton.1 hy]; exact hnm⟩ (by show l.length - (q.i + 1) < l.length - q.i; omega) ⟨rfl, rfl, rfl, congrArg (fun z => TV.p (.int .i64 z)) (by rw [IntWalk.i64_in _ (by omega)]; rfl), trivial⟩ rfl rfl
  · refine K_condF rfl (decide_eq_false (by omega)) ?_
    rw [List.take_of_length_le (by omega)] at hok ⊢
    have hm : mayN l = true := by rw [mayN_yes hok]; exact decide_eq_true (by omega)
    rw [hm]
    refine go ?_
    refine K_op rfl rfl (opr_len_rd hT rfl rfl (hs.rd _ _)) rfl ?_
    rw [hlen]
    refine go ?_
    refine J_join [(4, .p (.str (47 :: Lib.join l [47])))] [] [] ?_ ?_
    · by_cases h0 : l = []
      · subst h0
        refine K_condT rfl (by simp) ?_
        refine go ?_
        exact J_at ⟨rfl, trivial⟩ rfl rfl
      · refine K_condF rfl (by simp [h0]) ?_
        refine go ?_
        rw [slash_join h0]
        exact J_at ⟨rfl, trivial⟩ rfl rfl
    refine go ?_
    by_cases h255 : (((47 :: Lib.join l [47]).length : Nat) : Int) > 255
    · rw [decide_eq_true h255]
      refine K_condT rfl rfl ?_
      refine go ?_
      exact J_done hT rfl rfl rfl
    · rw [decide_eq_false h255]
      refine K_condF rfl rfl ?_
      refine go ?_
      exact J_done hT rfl rfl rfl
theorem name_ok {x : List UInt8} (h : nameB x = true) : x.count 47 = 0 ∧ x ≠ [] := by
  unfold nameB at h
  simp only [Bool.and_eq_true] at h
  obtain ⟨⟨⟨⟨h1, h2⟩, _⟩, _⟩, _⟩ := h
  refine ⟨List.count_eq_zero.2 fun hm => ?_, fun e => by subst e; simp at h2⟩
  obtain ⟨j, hj⟩ := List.getElem?_of_mem hm
  exact (okB_iff.1 h1 j 47 hj).2 rfl
theorem spl_join : ∀ {l : List (List UInt8)}, l ≠ [] → (∀ x ∈ l, x.count 47 = 0) → spl 47 (Lib.join l [47]) = l
  | [], h, _ => absurd rfl h
  | [x], _, hx => by simpa [Lib.join] using spl_none (hx x (by simp))
  | x :: y :: r, _, hx => by
    have ih := spl_join (l := y :: r) (by simp) (fun z hz => hx z (List.mem_cons_of_mem _ hz))
    have e : Lib.join (x :: y :: r) [47] = x ++ 47 :: Lib.join (y :: r) [47] := by simp [Lib.join]
    rw [e, spl_cut _ (hx x (by simp)), ih]
theorem mayN_all {l : List (List UInt8)} (h : mayN l = true) : ∀ x ∈ l, nameB x = true := by
  intro x hx
  cases hn : nameB x with
  | true => rfl
  | false => rw [mayN_no hx hn] at h; cases h
theorem split_join {l : List (List UInt8)} (h : (joinN l).2 = 0) : ∃ rv, splitN (joinN l).1 = (rv, 0) ∧ Sl .str rv l := by
  unfold joinN at h ⊢
  by_cases hc : (!mayN l || decide (((47 :: Lib.join l [47]).length : Int) > 255)) = true
  · rw [if_pos hc] at h
    cases h
  · rw [if_neg hc]
    simp only [Bool.or_eq_true, Bool.not_eq_true', not_or, decide_eq_true_eq, Bool.not_eq_false] at hc
    obtain ⟨hm, h255⟩ := hc
    have hall := mayN_all hm
    unfold splitN
    rw [if_neg (by intro q; rcases q with q | q; cases q; have q2 : 255 < (47 :: Lib.join l [47]).length := q; omega), if_neg (by simp)]
    by_cases h0 : l = []
    · subst h0
      exact ⟨_, by rw [if_pos (by simp [Lib.join])], .nils⟩
    · have hsj := spl_join h0 (fun x hx => (name_ok (hall x hx)).1)
      have hne : 47 :: Lib.join l [47] ≠ [47] := by
        intro q
        have hj : Lib.join l [47] = [] := by simpa using q
        rw [hj] at hsj
        have : l = [[]] := by rw [← hsj]; rfl
        exact (name_ok (hall [] (by rw [this]; simp))).2 rfl
      rw [if_neg hne, show (47 :: Lib.join l [47]).drop 1 = Lib.join l [47] from rfl, hsj, if_pos hm]
      exact ⟨_, rfl, .ps _⟩
structure NJq (l : List (List UInt8)) where
  i : Nat
  h : i ≤ l.length
namespace namesJoin
set_option maxHeartbeats 8000000 in
theorem con {a0 : AV} (s0 : Shp tab 8 22 a0) : Con Tryd.prog 5 [.p a0] [] (.p (.bool true)) [] [] := by
  obtain ⟨l, hs, _, hl⟩ := strs_shp s0
  have hlen : (l.map AV.str).length = l.length := by simp
  refine con_of Tryd.func5 rfl (by kernel_rfl) rfl fun F w0 β0 => ?_
  refine K_tell rfl ?_
  refine go ?_
  refine K_op rfl rfl (opr_len_rd hT rfl rfl (hs.rd _ _)) rfl ?_
  rw [hlen]
  refine go ?_
  refine J_loop (fun q : NJq l => [(0, .p a0), (3, .p (.int .i64 (wJ (l.take q.i) : Int))), (12, .p a0), (13, .p (.int .i64 (l.length : Int))), (14, .p (.int .i64 (q.i : Int)))]) (fun _ => []) (fun _ => []) (fun q => l.length - q.i) ⟨0, by omega⟩ ⟨rfl, rfl, rfl, rfl, rfl, trivial⟩ rfl rfl (fun q => ?_)
  have hi := q.h
  refine go ?_
  by_cases h : q.i < l.length
  · have hx : l[q.i]? = some l[q.i] := List.getElem?_eq_getElem h
    generalize l[q.i] = x at hx
    have hxk := map_get AV.str hx
    have hwt := wJ_take hx
    have hwb := wJ_b (l.take (q.i + 1))
    have htl : (l.take (q.i + 1)).length ≤ l.length := by rw [List.length_take]; omega
    have emm : mmA Builtin.min (x.length : Int) 9000 = ((min x.length 9000 : Nat) : Int) := by
      show (if (9000 : Int) < (x.length : Int) then (9000 : Int) else (x.length : Int)) = _
      split <;> omega
    refine K_condT rfl (decide_eq_true (by omega)) ?_
    refine go ?_
    refine K_op rfl rfl (opr_index hT rfl rfl rfl rfl rfl (hs.rd _ _) (by omega) (by rw [hlen]; omega)) rfl ?_
    refine K_op rfl rfl (opr_load_el hT rfl rfl (hs.rd _ _) hxk rfl rfl) rfl ?_
    refine go ?_
    rw [emm, IntWalk.i64_in (((min x.length 9000 : Nat) : Int) + 1) (by omega), IntWalk.i64_in ((wJ (l.take q.i) : Int) + (((min x.length 9000 : Nat) : Int) + 1)) (by omega), show (wJ (l.take q.i) : Int) + (((min x.length 9000 : Nat) : Int) + 1) = (wJ (l.take (q.i + 1)) : Int) by omega]
    refine J_again ⟨q.i + 1, by omega⟩ (by show l.length - (q.i + 1) < l.length - q.i; omega) ⟨rfl, rfl, rfl, rfl, congrArg (fun z => TV.p (.int .i64 z)) (by rw [IntWalk.i64_in _ (by omega)]; rfl), trivial⟩ rfl rfl
  refine K_condF rfl (decide_eq_false (by omega)) ?_
  rw [List.take_of_length_le (by omega)]
  refine go ?_
  refine J_cond rfl (fun hc => ?_) (fun hc => ?_)
  · refine go ?_
    refine K_op rfl rfl (opr_callP rfl rfl (fixed16_spec) rfl rfl rfl rfl) rfl ?_
    refine go ?_
    exact J_done hT rfl rfl rfl
  have hw : wJ l ≤ 5000 := by
    have := of_decide_eq_false hc
    omega
  have hwb := wJ_b l
  have hsl := wJ_slash hw
  have hjl : (Lib.join l [47]).length ≤ 5000 := by
    by_cases h0 : l = []
    · subst h0; simp [Lib.join]
    · rw [slash_join h0, List.length_cons] at hsl; omega
  have c1 := njoin_spec hs (by unfold big40; omega) (by omega)
  have c2 := rjoin_spec hs hw
  have hsj := @split_join l
  generalize (joinN l).2 = e at c1 c2 hsj
  generalize (joinN l).1 = t at c1 c2 hsj
  refine go ?_
  refine K_op rfl rfl (opr_callP rfl rfl (c1) rfl rfl rfl rfl) rfl ?_
  refine go ?_
  refine K_op rfl rfl (opr_callP rfl rfl (c2) rfl rfl rfl rfl) rfl ?_
  refine go ?_
  refine K_op rfl rfl (opr_callP rfl rfl (fixed16_spec) rfl rfl rfl rfl) rfl ?_
  refine gx ?_
  rw [show (!(t == t)) = false from by simp]
  refine gx ?_
  rw [show (e != e) = false from by simp]
  refine go ?_
  by_cases he : e = 0
  · obtain ⟨rv, hrv, hrs⟩ := hsj he
    have c3 := nsplit_spec t
    rw [hrv] at c3
    have c4 := same16_spec a0 rv l l (fun _ => hs.rd _ _) (fun _ => hrs.rd _ _) (by unfold big40; omega)
    rw [decide_eq_true rfl] at c4
    refine K_condF rfl (by simp [he]) ?_
    refine go ?_
    refine K_op rfl rfl (opr_callP rfl rfl (c3) rfl rfl rfl rfl) rfl ?_
    refine go ?_
    refine K_yes rfl rfl rfl (opr_callP rfl rfl (c4) rfl rfl rfl rfl) rfl ?_
    refine go ?_
    exact J_done hT rfl rfl rfl
  · refine K_condT rfl (by simp [he]) ?_
    refine go ?_
    exact J_done hT rfl rfl rfl
end namesJoin
end Go.Proofs.YtjibchohkeljkaaDoor

/- The law NamesUnder: its contract. -/
import Derived.Test.YtjibchohkeljkaaDoorGo
import Derived.Test.YtjibchohkeljkaaDoorM8
-- @D
namespace Go.Proofs.YtjibchohkeljkaaDoor
set_option maxRecDepth 20000
open Go.Awp Tr
structure WQ (a b : List (List UInt8)) where
  i : Nat
  w : Bool
  h : i ≤ a.length
  e : w = (decide ((a.length : Int) < (b.length : Int)) && decide (a.take i = b.take i))
theorem under_app (a b : List (List UInt8)) : underB a (a ++ b) = decide ((b.length : Int) > 0) := by
  unfold underB
  rw [List.take_left, decide_eq_true rfl, Bool.and_true]
  exact decide_eq_decide.2 (by simp; omega)
theorem under_self (a : List (List UInt8)) : underB a a = false := by
  unfold underB
  rw [decide_eq_false (by omega), Bool.false_and]
theorem str_cl (l : List (List UInt8)) : clR (l.map AV.str) := by
  intro r hr x hx
  obtain ⟨y, _, rfl⟩ := List.mem_map.1 hr
  simp [cellsOf] at hx
  subst hx
  rfl
theorem sl_not {α : Type} {mk : α → AV} {s : AV} {l : List α} (h : Sl mk s l) : false = true ↔ ∃ m, TV.p s = .p (.str m) := by
  cases h with
  | nils => simp
  | ps => simp
namespace namesUnder
set_option maxHeartbeats 8000000 in
theorem con {a0 a1 : AV} (s0 : Shp tab 8 22 a0) (s1 : Shp tab 8 22 a1) : Con Tryd.prog 3 [.p a0, .p a1] [] (.p (.bool true)) [] [] := by
  obtain ⟨a, ha, _, ma⟩ := strs_shp s0
  obtain ⟨b, hb, _, mb⟩ := strs_shp s1
  have na : (a.map AV.str).length = a.length := by simp
  have nb : (b.map AV.str).length = b.length := by simp
  refine con_of Tryd.func3 rfl (by kernel_rfl) rfl fun F w0 β0 => ?_
  refine K_tell rfl ?_
  refine go ?_
  refine K_op rfl rfl (opr_len_rd hT rfl rfl (ha.rd _ _)) rfl ?_
  rw [na]
  refine go ?_
  refine K_opt rfl rfl rfl need1 (fun _ => opr_len_rd hT rfl rfl (hb.rd _ _)) rfl ?_
  rw [nb]
  refine go ?_
  refine J_cond rfl (fun hc => ?_) (fun hc => ?_)
  · refine go ?_
    refine K_op rfl rfl (opr_callP rfl rfl (fixed16_spec) rfl rfl rfl rfl) rfl ?_
    refine go ?_
    exact J_done hT rfl rfl rfl
  simp only [Bool.or_eq_false_iff, decide_eq_false_iff_not] at hc
  have c1 := under_spec a0 a1 a b ha hb (by unfold big40; omega)
  have c2 := under_spec a0 (.ps ((a ++ b).map .str)) a (a ++ b) ha (.ps _) (by unfold big40; omega)
  have c3 := under_spec a0 a0 a a ha ha (by unfold big40; omega)
  rw [under_app] at c2
  rw [under_self] at c3
  refine go ?_
  refine K_op rfl rfl (opr_app_lz hT rfl rfl (.inr rfl) rfl rfl (.rd (ha.rd _ _)) (sl_not ha) (str_cl a) (str_size a) (by decide) (by decide) (by rw [na]; show _ * 16 ≤ _; omega)) rfl ?_
  rw [na]
  refine go ?_
  refine K_op rfl rfl (opr_app_own hT rfl rfl rfl rfl na rfl rfl (.rd (hb.rd _ _)) (sl_not hb) (str_cl b) (str_size b) (by decide) (by rw [nb]; show (_ + _) * 16 ≤ _; omega)) rfl ?_
  rw [← List.map_append, nb]
  refine J_freeze_all 21 0 rfl rfl (by simp) ?_
  refine go ?_
  refine K_op rfl rfl (opr_len_rd hT rfl rfl (ha.rd _ _)) rfl ?_
  rw [na]
  refine go ?_
  refine K_op rfl rfl (opr_len_rd hT rfl rfl (hb.rd _ _)) rfl ?_
  rw [nb]
  refine go ?_
  refine J_take 0 [(0, .p a0), (1, .p a1), (5, .p (.ps ((a ++ b).map .str))), (6, .p (.bool (decide ((a.length : Int) < (b.length : Int))))), (7, .p (.int .i64 0))] ⟨rfl, rfl, rfl, rfl, rfl, trivial⟩ rfl rfl ?_
  refine J_loop (fun q : WQ a b => [(0, .p a0), (1, .p a1), (5, .p (.ps ((a ++ b).map .str))), (6, .p (.bool q.w)), (7, .p (.int .i64 (q.i : Int)))]) (fun _ => []) (fun _ => []) (fun q => a.length - q.i) ⟨0, decide ((a.length : Int) < (b.length : Int)), by omega, by rw [List.take_zero, List.take_zero, decide_eq_true (rfl : ([] : List (List UInt8)) = []), Bool.and_true]⟩ ⟨rfl, rfl, rfl, rfl, rfl, trivial⟩ rfl rfl (fun q => ?_)
  obtain ⟨i, w, hi, he⟩ := q
  dsimp only
  cases w with
  | false =>
    have hu : underB a b = false := by
      unfold underB
      cases hl : decide ((a.length : Int) < (b.length : Int)) with
      | false => rfl
      | true =>
        rw [hl, Bool.true_and] at he
        rw [Bool.true_and]
        refine decide_eq_false fun e => ?_
        have h2 := of_decide_eq_false he.symm
        refine h2 ?_
        conv => lhs; rw [e]
        rw [List.take_take, Nat.min_eq_left hi]
    rw [hu] at c1
    refine go ?_
    refine K_op rfl rfl (opr_callP rfl rfl (fixed16_spec) rfl rfl rfl rfl) rfl ?_
    refine go ?_
    refine K_yes rfl rfl rfl (opr_callP rfl rfl (c1) rfl rfl rfl rfl) rfl ?_
    refine go ?_
    refine K_yes rfl rfl rfl (opr_callP rfl rfl (c2) rfl rfl rfl rfl) rfl ?_
    refine go ?_
    refine K_yes rfl rfl rfl (opr_len_rd hT rfl rfl (hb.rd _ _)) rfl ?_
    rw [nb]
    refine gx ?_
    rw [show (decide ((b.length : Int) > 0) == decide ((b.length : Int) > 0)) = true from beq_self_eq_true _]
    refine gx ?_
    refine K_yes rfl rfl rfl (opr_callP rfl rfl (c3) rfl rfl rfl rfl) rfl ?_
    refine go ?_
    exact J_done hT rfl rfl rfl
  | true =>
    obtain ⟨hlt, het⟩ := Bool.and_eq_true_iff.1 he.symm
    have hlt := of_decide_eq_true hlt
    have het := of_decide_eq_true het
    refine go ?_
    refine K_yes rfl rfl rfl (opr_len_rd hT rfl rfl (ha.rd _ _)) rfl ?_
    rw [na]
    refine go ?_
    by_cases h : i < a.length
    · have hx : a[i]? = some a[i] := List.getElem?_eq_getElem h
      have hy : b[i]? = some (b[i]'(by omega)) := List.getElem?_eq_getElem _
      have hta := take_snoc hx
      have htb := take_snoc hy
      generalize a[i] = x at hx hta
      generalize b[i]'(by omega) = y at hy htb
      have hxk := map_get AV.str hx
      have hyk := map_get AV.str hy
      have hw : (x == y) = (decide ((a.length : Int) < (b.length : Int)) && decide (a.take (i + 1) = b.take (i + 1))) := by
        rw [decide_eq_true hlt, Bool.true_and, hta, htb, het]
        by_cases e : x = y
        · rw [e, beq_self_eq_true, decide_eq_true rfl]
        · rw [beq_eq_false_iff_ne.2 e, decide_eq_false (fun q => e (by simpa using List.append_cancel_left q))]
      refine K_condT rfl (decide_eq_true (by omega)) ?_
      refine go ?_
      refine J_draw [_] [] (by kernel_rfl) (by kernel_rfl) rfl ?_
      refine gd ?_
      refine T_opD rfl rfl rfl rfl rfl (opr_index hT rfl rfl rfl rfl rfl (ha.rd _ _) (by omega) (by rw [na]; omega)) rfl ?_
      refine T_opD rfl rfl rfl rfl rfl (opr_load_el hT rfl rfl (ha.rd _ _) hxk rfl rfl) rfl ?_
      refine gd ?_
      refine T_opD rfl rfl rfl rfl rfl (opr_index hT rfl rfl rfl rfl rfl (hb.rd _ _) (by omega) (by rw [nb]; omega)) rfl ?_
      refine T_opD rfl rfl rfl rfl rfl (opr_load_el hT rfl rfl (hb.rd _ _) hyk rfl rfl) rfl ?_
      refine gd ?_
      refine go ?_
      rw [IntWalk.i64_in ((i : Int) + 1) (by omega)]
      exact fun a' w' β st => ⟨⟨i + 1, x == y, by omega, hw⟩, β, by show a.length - (i + 1) < a.length - i; omega, st.sim, st.step, st.env.sub (sub_of_all ⟨rfl, rfl, rfl, rfl, rfl, trivial⟩), st.size, st.defers⟩
    have hu : underB a b = true := by
      unfold underB
      rw [decide_eq_true hlt, Bool.true_and]
      rw [show i = a.length by omega, List.take_length] at het
      exact decide_eq_true het
    rw [hu] at c1
    refine K_condF rfl (decide_eq_false (by omega)) ?_
    refine go ?_
    refine K_op rfl rfl (opr_callP rfl rfl (fixed16_spec) rfl rfl rfl rfl) rfl ?_
    refine go ?_
    refine K_yes rfl rfl rfl (opr_callP rfl rfl (c1) rfl rfl rfl rfl) rfl ?_
    refine go ?_
    refine K_yes rfl rfl rfl (opr_callP rfl rfl (c2) rfl rfl rfl rfl) rfl ?_
    refine go ?_
    refine K_yes rfl rfl rfl (opr_len_rd hT rfl rfl (hb.rd _ _)) rfl ?_
    rw [nb]
    refine gx ?_
    rw [show (decide ((b.length : Int) > 0) == decide ((b.length : Int) > 0)) = true from beq_self_eq_true _]
    refine gx ?_
    refine K_yes rfl rfl rfl (opr_callP rfl rfl (c3) rfl rfl rfl rfl) rfl ?_
    refine go ?_
    exact J_done hT rfl rfl rfl
end namesUnder
end Go.Proofs.YtjibchohkeljkaaDoor

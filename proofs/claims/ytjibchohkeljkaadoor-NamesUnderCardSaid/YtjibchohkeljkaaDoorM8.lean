/- Contracts and plain laws, several texts joined: F16d. -/
import Derived.Test.YtjibchohkeljkaaDoorGo
import Derived.Test.YtjibchohkeljkaaDoorM7
/- names: Under; the reference's Same; the laws' example. -/
-- @D
namespace Go.Proofs.YtjibchohkeljkaaDoor
set_option maxRecDepth 20000
open Go.Awp Tr
structure SmQ (a b : List (List UInt8)) where
  i : Nat
  h : i ≤ a.length
  e : a.take i = b.take i
theorem take_snoc {α : Type} {l : List α} {i : Nat} {x : α} (hx : l[i]? = some x) : l.take (i + 1) = l.take i ++ [x] := by
  obtain ⟨h, rfl⟩ := List.getElem?_eq_some_iff.1 hx
  exact List.take_succ_eq_append_getElem h
set_option maxHeartbeats 4000000 in
theorem same16_spec (s1 s2 : AV) (a b : List (List UInt8)) (h1 : ∀ L, Rd [] L (.p s1) (a.map .str)) (h2 : ∀ L, Rd [] L (.p s2) (b.map .str)) (la : a.length ≤ big40) : Con Tryd.prog 12 [.p s1, .p s2] [] (.p (.bool (decide (a = b)))) [] [] := by
  have n1 : (a.map AV.str).length = a.length := by simp
  have n2 : (b.map AV.str).length = b.length := by simp
  unfold big40 at la
  refine con_of Tryd.func12 rfl (by kernel_rfl) rfl fun F w0 β0 => ?_
  refine K_tell rfl ?_
  refine go ?_
  refine K_op rfl rfl (opr_len_rd hT rfl rfl (h1 _)) rfl ?_
  rw [n1]
  refine go ?_
  refine K_op rfl rfl (opr_len_rd hT rfl rfl (h2 _)) rfl ?_
  rw [n2]
  refine go ?_
  by_cases hl : a.length = b.length
  · refine K_condF rfl (by simp [hl]) ?_
    refine go ?_
    refine K_op rfl rfl (opr_len_rd hT rfl rfl (h1 _)) rfl ?_
    rw [n1]
    refine go ?_
    refine J_loop (fun q : SmQ a b => [(0, .p s1), (1, .p s2), (12, .p (.int .i64 (a.length : Int))), (13, .p (.int .i64 (q.i : Int)))]) (fun _ => []) (fun _ => []) (fun q => a.length - q.i) ⟨0, by omega, rfl⟩ ⟨rfl, rfl, rfl, rfl, trivial⟩ rfl rfl (fun q => ?_)
    have hi := q.h
    have he := q.e
    refine go ?_
    by_cases h : q.i < a.length
    · have hx : a[q.i]? = some a[q.i] := List.getElem?_eq_getElem h
      have hy : b[q.i]? = some (b[q.i]'(by omega)) := List.getElem?_eq_getElem _
      have hta := take_snoc hx
      have htb := take_snoc hy
      generalize a[q.i] = x at hx hta
      generalize b[q.i]'(by omega) = y at hy htb
      have hxk := map_get AV.str hx
      have hyk := map_get AV.str hy
      refine K_condT rfl (decide_eq_true (by omega)) ?_
      refine go ?_
      refine J_draw [_] [] (by kernel_rfl) (by kernel_rfl) rfl ?_
      refine gd ?_
      refine T_opD rfl rfl rfl rfl rfl (opr_index hT rfl rfl rfl rfl rfl (h1 _) (by omega) (by rw [n1]; omega)) rfl ?_
      refine T_opD rfl rfl rfl rfl rfl (opr_load_el hT rfl rfl (h1 _) hxk rfl rfl) rfl ?_
      refine gd ?_
      refine T_opD rfl rfl rfl rfl rfl (opr_index hT rfl rfl rfl rfl rfl (h2 _) (by omega) (by rw [n2]; omega)) rfl ?_
      refine T_opD rfl rfl rfl rfl rfl (opr_load_el hT rfl rfl (h2 _) hyk rfl rfl) rfl ?_
      refine gd ?_
      refine go ?_
      by_cases hk : x = y
      · refine K_condF rfl (by simp [hk]) ?_
        refine go ?_
        refine J_again ⟨q.i + 1, by omega, by rw [hta, htb, he, hk]⟩ (by show a.length - (q.i + 1) < a.length - q.i; omega) ⟨rfl, rfl, rfl, congrArg (fun z => TV.p (.int .i64 z)) (by rw [IntWalk.i64_in _ (by omega)]; rfl), trivial⟩ rfl rfl
      · refine K_condT rfl (by simp [hk]) ?_
        refine go ?_
        rw [show decide (a = b) = false from decide_eq_false fun e => by subst e; rw [hx] at hy; exact hk (Option.some.inj hy)]
        exact J_done hT rfl rfl rfl
    · refine K_condF rfl (decide_eq_false (by omega)) ?_
      refine go ?_
      rw [show decide (a = b) = true from decide_eq_true (by rw [List.take_of_length_le (by omega), List.take_of_length_le (by omega)] at he; exact he)]
      exact J_done hT rfl rfl rfl
  · refine K_condT rfl (by simp; omega) ?_
    refine go ?_
    rw [show decide (a = b) = false from decide_eq_false fun e => hl (by rw [e])]
    exact J_done hT rfl rfl rfl
set_option maxHeartbeats 4000000 in
theorem sEqual_spec (s1 s2 : AV) (a b : List (List UInt8)) (h1 : ∀ L, Rd [] L (.p s1) (a.map .str)) (h2 : ∀ L, Rd [] L (.p s2) (b.map .str)) (la : a.length ≤ big40) : Con Tryd.prog 30 [.p s1, .p s2] [] (.p (.bool (decide (a = b)))) [] [] := by
  have n1 : (a.map AV.str).length = a.length := by simp
  have n2 : (b.map AV.str).length = b.length := by simp
  unfold big40 at la
  refine con_of Tryd.func30 rfl (by kernel_rfl) rfl fun F w0 β0 => ?_
  refine K_tell rfl ?_
  refine go ?_
  refine K_op rfl rfl (opr_len_rd hT rfl rfl (h1 _)) rfl ?_
  rw [n1]
  refine go ?_
  refine K_op rfl rfl (opr_len_rd hT rfl rfl (h2 _)) rfl ?_
  rw [n2]
  refine go ?_
  by_cases hl : a.length = b.length
  · refine K_condF rfl (by simp [hl]) ?_
    refine go ?_
    refine K_op rfl rfl (opr_len_rd hT rfl rfl (h1 _)) rfl ?_
    rw [n1]
    refine go ?_
    refine J_loop (fun q : SmQ a b => [(0, .p s1), (1, .p s2), (12, .p (.int .i64 (a.length : Int))), (13, .p (.int .i64 (q.i : Int)))]) (fun _ => []) (fun _ => []) (fun q => a.length - q.i) ⟨0, by omega, rfl⟩ ⟨rfl, rfl, rfl, rfl, trivial⟩ rfl rfl (fun q => ?_)
    have hi := q.h
    have he := q.e
    refine go ?_
    by_cases h : q.i < a.length
    · have hx : a[q.i]? = some a[q.i] := List.getElem?_eq_getElem h
      have hy : b[q.i]? = some (b[q.i]'(by omega)) := List.getElem?_eq_getElem _
      have hta := take_snoc hx
      have htb := take_snoc hy
      generalize a[q.i] = x at hx hta
      generalize b[q.i]'(by omega) = y at hy htb
      have hxk := map_get AV.str hx
      have hyk := map_get AV.str hy
      refine K_condT rfl (decide_eq_true (by omega)) ?_
      refine go ?_
      refine J_draw [_] [] (by kernel_rfl) (by kernel_rfl) rfl ?_
      refine gd ?_
      refine T_opD rfl rfl rfl rfl rfl (opr_index hT rfl rfl rfl rfl rfl (h1 _) (by omega) (by rw [n1]; omega)) rfl ?_
      refine T_opD rfl rfl rfl rfl rfl (opr_load_el hT rfl rfl (h1 _) hxk rfl rfl) rfl ?_
      refine gd ?_
      refine T_opD rfl rfl rfl rfl rfl (opr_index hT rfl rfl rfl rfl rfl (h2 _) (by omega) (by rw [n2]; omega)) rfl ?_
      refine T_opD rfl rfl rfl rfl rfl (opr_load_el hT rfl rfl (h2 _) hyk rfl rfl) rfl ?_
      refine gd ?_
      refine go ?_
      by_cases hk : x = y
      · refine K_condF rfl (by simp [hk]) ?_
        refine go ?_
        refine J_again ⟨q.i + 1, by omega, by rw [hta, htb, he, hk]⟩ (by show a.length - (q.i + 1) < a.length - q.i; omega) ⟨rfl, rfl, rfl, congrArg (fun z => TV.p (.int .i64 z)) (by rw [IntWalk.i64_in _ (by omega)]; rfl), trivial⟩ rfl rfl
      · refine K_condT rfl (by simp [hk]) ?_
        refine go ?_
        rw [show decide (a = b) = false from decide_eq_false fun e => by subst e; rw [hx] at hy; exact hk (Option.some.inj hy)]
        exact J_done hT rfl rfl rfl
    · refine K_condF rfl (decide_eq_false (by omega)) ?_
      refine go ?_
      rw [show decide (a = b) = true from decide_eq_true (by rw [List.take_of_length_le (by omega), List.take_of_length_le (by omega)] at he; exact he)]
      exact J_done hT rfl rfl rfl
  · refine K_condT rfl (by simp; omega) ?_
    refine go ?_
    rw [show decide (a = b) = false from decide_eq_false fun e => hl (by rw [e])]
    exact J_done hT rfl rfl rfl
/-- Do names begin others? -/
def underB (a b : List (List UInt8)) : Bool := decide ((a.length : Int) < (b.length : Int)) && decide (a = b.take a.length)
set_option maxHeartbeats 4000000 in
theorem under_spec (s1 s2 : AV) (a b : List (List UInt8)) (h1 : Sl .str s1 a) (h2 : Sl .str s2 b) (la : a.length ≤ big40) : Con Tryd.prog 9 [.p s1, .p s2] [] (.p (.bool (underB a b))) [] [] := by
  have n1 : (a.map AV.str).length = a.length := by simp
  have n2 : (b.map AV.str).length = b.length := by simp
  unfold underB
  by_cases h : (a.length : Int) < (b.length : Int)
  · rw [decide_eq_true h, Bool.true_and]
    obtain rfl : s2 = .ps (b.map .str) := by
      cases h2 with
      | nils => simp at h; omega
      | ps => rfl
    have c1 := sEqual_spec s1 (.ps ((b.take a.length).map .str)) a (b.take a.length) (fun _ => h1.rd _ _) (fun _ => .ps _) la
    generalize decide (a = b.take a.length) = e at c1
    have hcut : ((b.map AV.str).drop (0 : Int).toNat).take (((a.length : Int)).toNat - (0 : Int).toNat) = (b.take a.length).map .str := by simp
    refine con_of Tryd.func9 rfl (by kernel_rfl) rfl fun F w0 β0 => ?_
    refine K_tell rfl ?_
    refine go ?_
    refine K_op rfl rfl (opr_len_rd hT rfl rfl (h1.rd _ _)) rfl ?_
    rw [n1]
    refine gx ?_
    rw [n2, show decide ((a.length : Int) < (b.length : Int)) = true from decide_eq_true h]
    refine gx ?_
    refine K_yes rfl rfl rfl (opr_len_rd hT rfl rfl (h1.rd _ _)) rfl ?_
    rw [n1]
    refine gx ?_
    refine K_yes rfl rfl rfl (opr_cut (i := 0) (j := (a.length : Int)) hT rfl rfl rfl rfl (.ps _) rfl rfl (by omega) (by omega) (by rw [n2]; omega) (str_size b)) rfl ?_
    rw [hcut]
    refine K_yes rfl rfl rfl (opr_callP rfl rfl (c1) rfl rfl rfl rfl) rfl ?_
    refine go ?_
    exact J_done hT rfl rfl rfl
  · rw [decide_eq_false h, Bool.false_and]
    refine con_of Tryd.func9 rfl (by kernel_rfl) rfl fun F w0 β0 => ?_
    refine K_tell rfl ?_
    refine go ?_
    refine K_op rfl rfl (opr_len_rd hT rfl rfl (h1.rd _ _)) rfl ?_
    rw [n1]
    refine gx ?_
    refine K_op rfl rfl (opr_len_rd hT rfl rfl (h2.rd _ _)) rfl ?_
    rw [n2]
    refine gx ?_
    rw [show decide ((a.length : Int) < (b.length : Int)) = false from decide_eq_false h]
    refine go ?_
    exact J_done hT rfl rfl rfl
theorem fixed16_spec : Con Tryd.prog 8 [] [] (.p (.bool true)) [] [] := by
  have c1 := nsplit_spec [47, 97, 47, 98, 99]
  rw [show splitN [47, 97, 47, 98, 99] = (.ps [.str [97], .str [98, 99]], 0) by kernel_rfl] at c1
  have c2 := same16_spec (.ps [.str [97], .str [98, 99]]) (.ps [.str [97], .str [98, 99]]) [[97], [98, 99]] [[97], [98, 99]] (fun _ => .ps _) (fun _ => .ps _) (by decide)
  rw [decide_eq_true rfl] at c2
  refine con_of Tryd.func8 rfl (by kernel_rfl) rfl fun F w0 β0 => ?_
  refine K_tell rfl ?_
  refine go ?_
  refine K_op rfl rfl (opr_callP rfl rfl (c1) rfl rfl rfl rfl) rfl ?_
  refine go ?_
  refine K_yes rfl rfl rfl (opr_callP rfl rfl (c2) rfl rfl rfl rfl) rfl ?_
  refine go ?_
  exact J_done hT rfl rfl rfl
end Go.Proofs.YtjibchohkeljkaaDoor

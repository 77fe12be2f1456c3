/- The reference of layer 10: Get, Rank. -/
import Derived.Test.YtbdijekfplpnlaaGo
import Derived.Test.YtbdijekfplpnlaaF10g
-- @D
namespace Go.Proofs.Ytbdijekfplpnlaa
set_option maxRecDepth 20000
open Go.Awp Tr
theorem kvs_get {l : List KV} {i : Nat} {x : KV} (h : l[i]? = some x) : (kvs l)[i]? = some (kvV x) := by simp [kvs, h]
structure RG (k : List UInt8) (l : List KV) (g : Option (List UInt8)) where
  i : Nat
  h : i ≤ l.length
  e : lget k (l.drop i) = g
set_option maxHeartbeats 4000000 in
theorem rget10_rd (s : AV) (l : List KV) (k : List UInt8) (hrd : ∀ L, Rd [] L (.p s) (kvs l)) (hl : l.length ≤ 140737488355328) : Con Try.prog 28 [.p s, .p (.str k)] [] (getT (lget k l)) [] [] := by
  have hrd := hrd []
  have hlen : (kvs l).length = l.length := by simp
  generalize hg : lget k l = g
  refine con_of Try.func28 rfl (by kernel_rfl) rfl fun F w0 β0 => ?_
  refine K_tell rfl ?_
  refine go ?_
  refine K_opM rfl rfl (opr_len_rd hT rfl rfl hrd) rfl ?_
  rw [hlen]
  refine go ?_
  refine J_loop (fun q : RG k l g => [(0, .p s), (1, .p (.str k)), (8, .p (.int .i64 (l.length : Int))), (9, .p (.int .i64 (q.i : Int)))]) (fun _ => []) (fun _ => []) (fun q => l.length - q.i) ⟨0, by omega, by simpa using hg⟩ ⟨rfl, rfl, rfl, rfl, trivial⟩ rfl rfl (fun q => ?_)
  have hi := q.h
  have he := q.e
  clear hg
  refine go ?_
  by_cases h : q.i < l.length
  · have hx : l[q.i]? = some l[q.i] := List.getElem?_eq_getElem h
    generalize l[q.i] = x at hx
    have hd2 : l.drop q.i = x :: l.drop (q.i + 1) := by
      rw [List.drop_eq_getElem_cons h]
      congr 1
      exact (List.getElem?_eq_some_iff.1 hx).2
    have hxk : (kvs l)[((q.i : Nat) : Int).toNat]? = some (kvV x) := kvs_get hx
    rw [hd2] at he
    simp only [lget] at he
    refine K_condT rfl (decide_eq_true (by omega)) ?_
    refine go ?_
    refine go ?_
    refine K_op rfl rfl (opr_index hT rfl rfl rfl rfl rfl hrd (by omega) (by rw [hlen]; omega)) rfl ?_
    refine go ?_
    refine K_op rfl rfl (opr_load_el hT rfl rfl hrd hxk rfl rfl) rfl ?_
    refine go ?_
    by_cases hk : x.1 = k
    · rw [if_pos hk] at he
      obtain rfl := he
      refine K_condT rfl (by simp [hk]) ?_
      refine go ?_
      refine go ?_
      refine K_op rfl rfl (opr_index hT rfl rfl rfl rfl rfl hrd (by omega) (by rw [hlen]; omega)) rfl ?_
      refine go ?_
      refine K_op rfl rfl (opr_load_el hT rfl rfl hrd hxk rfl rfl) rfl ?_
      refine go ?_
      exact J_done hT rfl rfl rfl
    · rw [if_neg hk] at he
      refine K_condF rfl (by simp [hk]) ?_
      refine go ?_
      refine J_again ⟨q.i + 1, by omega, he⟩ (by show l.length - (q.i + 1) < l.length - q.i; omega) ⟨rfl, rfl, rfl, congrArg (fun z => TV.p (.int .i64 z)) (by dsimp only; rw [IntWalk.i64_in _ (by omega)]; rfl), trivial⟩ rfl rfl
  · rw [List.drop_of_length_le (by omega)] at he
    obtain rfl := he
    refine K_condF rfl (decide_eq_false (by omega)) ?_
    refine go ?_
    exact J_done hT rfl rfl rfl
theorem rget10_spec (d : AV) (hd : d = .nils ∨ d = .cz) (l : List KV) (k : List UInt8) (hl : l.length ≤ 140737488355328) : Con Try.prog 28 [.p (accV d (kvs l)), .p (.str k)] [] (getT (lget k l)) [] [] :=
  rget10_rd _ l k (fun _ => accV_rd hd) hl
end Go.Proofs.Ytbdijekfplpnlaa

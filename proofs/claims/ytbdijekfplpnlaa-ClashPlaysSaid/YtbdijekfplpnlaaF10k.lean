/- The reference of layer 10: Range, Rank. -/
import Derived.Test.YtbdijekfplpnlaaGo
import Derived.Test.YtbdijekfplpnlaaF10j
-- @D
namespace Go.Proofs.Ytbdijekfplpnlaa
set_option maxRecDepth 20000
open Go.Awp Tr
set_option maxHeartbeats 8000000 in
theorem rrange10_rd (s : AV) (l : List KV) (a b : List UInt8) (hrd : ∀ L, Rd [] L (.p s) (kvs l)) (hl : l.length ≤ big40) : Con Try.prog 32 [.p s, .p (.str a), .p (.str b)] [] (accT 0 .cz (kvs (lrange a b l))) [] (accL 99 3 (kvs (lrange a b l))) := by
  have hlen : (kvs l).length = l.length := by simp
  unfold big40 at hl
  refine con_of Try.func32 rfl (by kernel_rfl) rfl fun F w0 β0 => ?_
  refine K_tell rfl ?_
  refine go ?_
  refine K_opM rfl rfl (opr_len_rd hT rfl rfl (hrd _)) rfl ?_
  rw [hlen]
  refine go ?_
  refine J_loop (fun q : RI l => [(0, .p s), (1, .p (.str a)), (2, .p (.str b)), (7, accT 0 .cz (kvs (lrange a b (l.take q.i)))), (11, .p (.int .i64 (l.length : Int))), (12, .p (.int .i64 (q.i : Int)))]) (fun _ => []) (fun q => accL 99 3 (kvs (lrange a b (l.take q.i)))) (fun q => l.length - q.i) ⟨0, by omega⟩ ⟨rfl, rfl, rfl, rfl, rfl, rfl, trivial⟩ rfl rfl (fun q => ?_)
  have hi := q.h
  refine go ?_
  by_cases h : q.i < l.length
  · have hx : l[q.i]? = some l[q.i] := List.getElem?_eq_getElem h
    generalize l[q.i] = x at hx
    have hxk : (kvs l)[((q.i : Nat) : Int).toNat]? = some (kvV x) := kvs_get hx
    have hft := filter_take (fun y => inR y.1 a b) hx
    have hAl : (lrange a b (l.take q.i)).length ≤ l.length := Nat.le_trans (List.length_filter_le _ _) (by simp; omega)
    refine K_condT rfl (decide_eq_true (by omega)) ?_
    refine go ?_
    refine K_op rfl rfl (opr_index hT rfl rfl rfl rfl rfl (hrd _) (by omega) (by rw [hlen]; omega)) rfl ?_
    refine go ?_
    refine K_op rfl rfl (opr_load_el hT rfl rfl (hrd _) hxk rfl rfl) rfl ?_
    refine go ?_
    refine K_opt rfl rfl rfl need2 (fun _ => opr_index hT rfl rfl rfl rfl rfl (hrd _) (by omega) (by rw [hlen]; omega)) rfl ?_
    refine go ?_
    refine K_opt rfl rfl rfl need1 (fun _ => opr_load_el hT rfl rfl (hrd _) hxk rfl rfl) rfl ?_
    refine go ?_
    refine J_weak [(0, .p s), (1, .p (.str a)), (2, .p (.str b)), (7, accT 0 .cz (kvs (lrange a b (l.take q.i)))), (8, .p (.int .i64 (q.i : Int))), (11, .p (.int .i64 (l.length : Int))), (12, .p (.int .i64 (q.i : Int))), (30, .p (.bool (inR x.1 a b)))] ⟨rfl, rfl, rfl, rfl, rfl, rfl, rfl, rfl, trivial⟩ ?_
    by_cases hk : inR x.1 a b = true
    · have e : lrange a b (l.take (q.i + 1)) = lrange a b (l.take q.i) ++ [x] := by
        unfold lrange; rw [hft, if_pos hk]
      have emap : kvs (lrange a b (l.take (q.i + 1))) = kvs (lrange a b (l.take q.i)) ++ [kvV x] := by rw [e]; simp
      generalize lrange a b (l.take q.i) = A at hAl e emap
      refine K_condT rfl hk ?_
      refine go ?_
      refine K_opM rfl rfl (opr_mv (accT 0 .cz (kvs A)) (.inl rfl) rfl) rfl ?_
      refine go ?_
      refine K_op rfl rfl (opr_index hT rfl rfl rfl rfl rfl (hrd _) (by omega) (by rw [hlen]; omega)) rfl ?_
      refine K_op rfl rfl (opr_load_el hT rfl rfl (hrd _) hxk rfl rfl) rfl ?_
      refine go ?_
      refine K_opM rfl rfl (opr_app_acc (te := pairI) (L0 := []) (acc := kvs A) (rows := [kvV x]) hT rfl rfl rfl (.inr rfl) rfl rfl (.rd (.ps _)) hbs_ps (kvs_cl [x]) (kvs_size [x]) (by decide) (by decide) (by simp; omega)) rfl ?_
      refine K_opM rfl rfl (opr_mv (accT 0 .cz (kvs A ++ [kvV x])) (.inr rfl) rfl) rfl ?_
      refine go ?_
      refine J_again ⟨q.i + 1, by omega⟩ (by show l.length - (q.i + 1) < l.length - q.i; omega) ⟨rfl, rfl, rfl, by rw [emap]; rfl, rfl, congrArg (fun z => TV.p (.int .i64 z)) (by rw [IntWalk.i64_in _ (by omega)]; rfl), trivial⟩ rfl (by rw [emap]; rfl)
    · have e : lrange a b (l.take (q.i + 1)) = lrange a b (l.take q.i) := by
        unfold lrange; rw [hft, if_neg hk, List.append_nil]
      refine K_condF rfl (by simpa using hk) ?_
      refine go ?_
      refine J_again ⟨q.i + 1, by omega⟩ (by show l.length - (q.i + 1) < l.length - q.i; omega) ⟨rfl, rfl, rfl, by rw [e]; rfl, rfl, congrArg (fun z => TV.p (.int .i64 z)) (by rw [IntWalk.i64_in _ (by omega)]; rfl), trivial⟩ rfl (by rw [e])
  · rw [show q.i = l.length by omega, List.take_length]
    generalize lrange a b l = A
    refine K_condF rfl (decide_eq_false (by omega)) ?_
    refine go ?_
    refine K_opM rfl rfl (opr_mv (accT 0 .cz (kvs A)) (.inl rfl) rfl) rfl ?_
    refine K_opM rfl rfl (opr_mv (accT 0 .cz (kvs A)) (.inr rfl) rfl) rfl ?_
    refine go ?_
    exact J_give hT rfl rfl
set_option maxHeartbeats 4000000 in
theorem rrank10_rd (s : AV) (l : List KV) (k : List UInt8) (hrd : ∀ L, Rd [] L (.p s) (kvs l)) (hl : l.length ≤ big40) : Con Try.prog 31 [.p s, .p (.str k)] [] (.p (.int .i64 (lrank k l : Int))) [] [] := by
  have hlen : (kvs l).length = l.length := by simp
  unfold big40 at hl
  refine con_of Try.func31 rfl (by kernel_rfl) rfl fun F w0 β0 => ?_
  refine K_tell rfl ?_
  refine go ?_
  refine K_op rfl rfl (opr_len_rd hT rfl rfl (hrd _)) rfl ?_
  rw [hlen]
  refine go ?_
  refine J_loop (fun q : RI l => [(0, .p s), (1, .p (.str k)), (5, .p (.int .i64 (lrank k (l.take q.i) : Int))), (8, .p (.int .i64 (l.length : Int))), (9, .p (.int .i64 (q.i : Int)))]) (fun _ => []) (fun _ => []) (fun q => l.length - q.i) ⟨0, by omega⟩ ⟨rfl, rfl, rfl, rfl, rfl, trivial⟩ rfl rfl (fun q => ?_)
  have hi := q.h
  refine go ?_
  by_cases h : q.i < l.length
  · have hx : l[q.i]? = some l[q.i] := List.getElem?_eq_getElem h
    generalize l[q.i] = x at hx
    have hxk : (kvs l)[((q.i : Nat) : Int).toNat]? = some (kvV x) := kvs_get hx
    have hft := filter_take (fun y => Op.bytesLess y.1 k) hx
    have hAl : lrank k (l.take q.i) ≤ l.length := Nat.le_trans (List.length_filter_le _ _) (by simp; omega)
    refine K_condT rfl (decide_eq_true (by omega)) ?_
    refine go ?_
    refine K_op rfl rfl (opr_index hT rfl rfl rfl rfl rfl (hrd _) (by omega) (by rw [hlen]; omega)) rfl ?_
    refine go ?_
    refine K_op rfl rfl (opr_load_el hT rfl rfl (hrd _) hxk rfl rfl) rfl ?_
    refine go ?_
    by_cases hk : Op.bytesLess x.1 k = true
    · have e : lrank k (l.take (q.i + 1)) = lrank k (l.take q.i) + 1 := by
        unfold lrank; rw [hft, if_pos hk]; simp
      refine K_condT rfl hk ?_
      refine go ?_
      refine J_again ⟨q.i + 1, by omega⟩ (by show l.length - (q.i + 1) < l.length - q.i; omega) ⟨rfl, rfl, congrArg (fun z => TV.p (.int .i64 z)) (by rw [IntWalk.i64_in _ (by omega), e]; rfl), rfl, congrArg (fun z => TV.p (.int .i64 z)) (by rw [IntWalk.i64_in _ (by omega)]; rfl), trivial⟩ rfl rfl
    · have e : lrank k (l.take (q.i + 1)) = lrank k (l.take q.i) := by
        unfold lrank; rw [hft, if_neg hk, List.append_nil]
      refine K_condF rfl (by simpa using hk) ?_
      refine go ?_
      refine J_again ⟨q.i + 1, by omega⟩ (by show l.length - (q.i + 1) < l.length - q.i; omega) ⟨rfl, rfl, by rw [e]; rfl, rfl, congrArg (fun z => TV.p (.int .i64 z)) (by rw [IntWalk.i64_in _ (by omega)]; rfl), trivial⟩ rfl rfl
  · rw [show q.i = l.length by omega, List.take_length]
    refine K_condF rfl (decide_eq_false (by omega)) ?_
    refine go ?_
    exact J_done hT rfl rfl rfl
theorem rrange10_acc (d : AV) (hd : d = .nils ∨ d = .cz) (l : List KV) (a b : List UInt8) (hl : l.length ≤ big40) : Con Try.prog 32 [R d l, .p (.str a), .p (.str b)] [] (accT 0 .cz (kvs (lrange a b l))) [] (accL 99 3 (kvs (lrange a b l))) :=
  rrange10_rd _ l a b (fun _ => accV_rd hd) hl
theorem rrank10_spec (d : AV) (hd : d = .nils ∨ d = .cz) (l : List KV) (k : List UInt8) (hl : l.length ≤ big40) : Con Try.prog 31 [R d l, .p (.str k)] [] (.p (.int .i64 (lrank k l : Int))) [] [] :=
  rrank10_rd _ l k (fun _ => accV_rd hd) hl
end Go.Proofs.Ytbdijekfplpnlaa

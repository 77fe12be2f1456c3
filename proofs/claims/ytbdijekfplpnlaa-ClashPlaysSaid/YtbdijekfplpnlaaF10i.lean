/- The reference of layer 10: Cut, Rank. -/
import Derived.Test.YtbdijekfplpnlaaGo
import Derived.Test.YtbdijekfplpnlaaF10h
-- @D
namespace Go.Proofs.Ytbdijekfplpnlaa
set_option maxRecDepth 20000
open Go.Awp Tr
/-- A row, as a value that is handed on. -/
abbrev R (d : AV) (l : List KV) : TV := .p (accV d (kvs l))
theorem filter_take (p : KV → Bool) {l : List KV} {i : Nat} {x : KV} (hx : l[i]? = some x) : (l.take (i + 1)).filter p = (l.take i).filter p ++ (if p x = true then [x] else []) := by
  obtain ⟨h, rfl⟩ := List.getElem?_eq_some_iff.1 hx
  rw [List.take_succ_eq_append_getElem h, List.filter_append, List.filter_cons, List.filter_nil]
structure RI (l : List KV) where
  i : Nat
  h : i ≤ l.length
set_option maxHeartbeats 4000000 in
theorem rcut10_rd (s : AV) (l : List KV) (k : List UInt8) (hrd : ∀ L, Rd [] L (.p s) (kvs l)) (hl : l.length ≤ big40) : Con Try.prog 26 [.p s, .p (.str k)] [] (accT 0 .cz (kvs (lcut k l))) [] (accL 99 3 (kvs (lcut k l))) := by
  have hlen : (kvs l).length = l.length := by simp
  unfold big40 at hl
  refine con_of Try.func26 rfl (by kernel_rfl) rfl fun F w0 β0 => ?_
  refine K_tell rfl ?_
  refine go ?_
  refine K_opM rfl rfl (opr_len_rd hT rfl rfl (hrd _)) rfl ?_
  rw [hlen]
  refine go ?_
  refine J_loop (fun q : RI l => [(0, .p s), (1, .p (.str k)), (5, accT 0 .cz (kvs (lcut k (l.take q.i)))), (9, .p (.int .i64 (l.length : Int))), (10, .p (.int .i64 (q.i : Int)))]) (fun _ => []) (fun q => accL 99 3 (kvs (lcut k (l.take q.i)))) (fun q => l.length - q.i) ⟨0, by omega⟩ ⟨rfl, rfl, rfl, rfl, rfl, trivial⟩ rfl rfl (fun q => ?_)
  have hi := q.h
  refine go ?_
  by_cases h : q.i < l.length
  · have hx : l[q.i]? = some l[q.i] := List.getElem?_eq_getElem h
    generalize l[q.i] = x at hx
    have hxk : (kvs l)[((q.i : Nat) : Int).toNat]? = some (kvV x) := kvs_get hx
    have hft := filter_take (fun y => !(y.1 == k)) hx
    have hAl : (lcut k (l.take q.i)).length ≤ l.length := Nat.le_trans (List.length_filter_le _ _) (by simp; omega)
    refine K_condT rfl (decide_eq_true (by omega)) ?_
    refine go ?_
    refine K_op rfl rfl (opr_index hT rfl rfl rfl rfl rfl (hrd _) (by omega) (by rw [hlen]; omega)) rfl ?_
    refine go ?_
    refine K_op rfl rfl (opr_load_el hT rfl rfl (hrd _) hxk rfl rfl) rfl ?_
    refine go ?_
    by_cases hk : x.1 = k
    · have e : lcut k (l.take (q.i + 1)) = lcut k (l.take q.i) := by
        unfold lcut; rw [hft, if_neg (by simp [hk]), List.append_nil]
      refine K_condF rfl (by simp [hk]) ?_
      refine go ?_
      refine J_again ⟨q.i + 1, by omega⟩ (by show l.length - (q.i + 1) < l.length - q.i; omega) ⟨rfl, rfl, by rw [e]; rfl, rfl, congrArg (fun z => TV.p (.int .i64 z)) (by rw [IntWalk.i64_in _ (by omega)]; rfl), trivial⟩ rfl (by rw [e])
    · have e : lcut k (l.take (q.i + 1)) = lcut k (l.take q.i) ++ [x] := by
        unfold lcut; rw [hft, if_pos (by simp [hk])]
      have emap : kvs (lcut k (l.take (q.i + 1))) = kvs (lcut k (l.take q.i)) ++ [kvV x] := by rw [e]; simp
      generalize lcut k (l.take q.i) = A at hAl e emap
      refine K_condT rfl (by simp [hk]) ?_
      refine go ?_
      refine K_opM rfl rfl (opr_mv (accT 0 .cz (kvs A)) (.inl rfl) rfl) rfl ?_
      refine go ?_
      refine K_op rfl rfl (opr_index hT rfl rfl rfl rfl rfl (hrd _) (by omega) (by rw [hlen]; omega)) rfl ?_
      refine K_op rfl rfl (opr_load_el hT rfl rfl (hrd _) hxk rfl rfl) rfl ?_
      refine go ?_
      refine K_opM rfl rfl (opr_app_acc (te := pairI) (L0 := []) (acc := kvs A) (rows := [kvV x]) hT rfl rfl rfl (.inr rfl) rfl rfl (.rd (.ps _)) hbs_ps (kvs_cl [x]) (kvs_size [x]) (by decide) (by decide) (by simp; omega)) rfl ?_
      refine K_opM rfl rfl (opr_mv (accT 0 .cz (kvs A ++ [kvV x])) (.inr rfl) rfl) rfl ?_
      refine go ?_
      refine J_again ⟨q.i + 1, by omega⟩ (by show l.length - (q.i + 1) < l.length - q.i; omega) ⟨rfl, rfl, by rw [emap]; rfl, rfl, congrArg (fun z => TV.p (.int .i64 z)) (by rw [IntWalk.i64_in _ (by omega)]; rfl), trivial⟩ rfl (by rw [emap]; rfl)
  · rw [show q.i = l.length by omega, List.take_length]
    generalize lcut k l = A
    refine K_condF rfl (decide_eq_false (by omega)) ?_
    refine go ?_
    refine K_opM rfl rfl (opr_mv (accT 0 .cz (kvs A)) (.inl rfl) rfl) rfl ?_
    refine K_opM rfl rfl (opr_mv (accT 0 .cz (kvs A)) (.inr rfl) rfl) rfl ?_
    refine go ?_
    exact J_give hT rfl rfl
theorem rcut10_acc (d : AV) (hd : d = .nils ∨ d = .cz) (l : List KV) (k : List UInt8) (hl : l.length ≤ big40) : Con Try.prog 26 [R d l, .p (.str k)] [] (accT 0 .cz (kvs (lcut k l))) [] (accL 99 3 (kvs (lcut k l))) :=
  rcut10_rd _ l k (fun _ => accV_rd hd) hl
end Go.Proofs.Ytbdijekfplpnlaa

/- The law TreeLow: its contract. -/
import Derived.Test.YtbdijekfplpnlaaCTreeStays
import Derived.Test.YtbdijekfplpnlaaTr6
import Derived.Test.YtbdijekfplpnlaaGo3
-- @D
namespace Go.Proofs.Ytbdijekfplpnlaa
set_option maxRecDepth 20000
open Go.Awp Tr
theorem low_ok {t : Tr} (h : Bal t) : lowB t.size t.high = true := by
  unfold lowB
  have := bal_log h
  exact decide_eq_true (by omega)
structure LS (n : Nat) where
  i : Nat
  t : Tr
  h : i ≤ n
  b : Bal t
  s : t.size ≤ i
structure LM (l : List TOp) where
  i : Nat
  t : Tr
  h : i ≤ l.length
  b : Bal t
  s : t.size ≤ 2000 + i
structure LE (n : Nat) where
  i : Nat
  t : Tr
  h : i ≤ n + 1
  b : Bal t
  s : t.size ≤ 2200
namespace treeLow
set_option maxHeartbeats 8000000 in
theorem con {a0 a1 : AV} (s0 : Shp tab 8 22 a0) (s1 : Shp tab 8 23 a1) : Con Try.prog 3 [.p a0, .p a1] [] (.p (.bool true)) [] [] := by
  obtain ⟨la, ha, oka, la40⟩ := shp_ops s0
  obtain ⟨b0, hb0, c0⟩ := cut10_spec ha oka la40
  have n0 : (la.take (cutN la 0)).length ≤ 200 := by have := cutN_200 la 0 (by omega); simp; omega
  generalize la.take (cutN la 0) = l at hb0 n0
  obtain ⟨n, rfl, hn⟩ := s1.int rfl
  change 0 ≤ n ∧ n ≤ 65535 at hn
  obtain ⟨m, rfl⟩ : ∃ m : Nat, n = (m : Int) := ⟨n.toNat, by omega⟩
  have hrd := hb0.rd []
  have hlen : (l.map opV).length = l.length := by simp
  have p6 := fixed10_spec
  refine con_of Try.func3 rfl (by kernel_rfl) rfl fun F w0 β0 => ?_
  refine K_tell rfl ?_
  refine go ?_
  refine K_op rfl rfl (opr_callP rfl rfl (tnew_spec) rfl rfl rfl rfl) rfl ?_
  refine go ?_
  have ek : (IntKind.i64.wrap (m : Int)).tmod 2000 = ((m % 2000 : Nat) : Int) := by
    rw [IntWalk.i64_in _ (by omega)]; exact Int.ofNat_tmod m 2000 ▸ rfl
  rw [ek]
  have hk : m % 2000 < 2000 := Nat.mod_lt _ (by omega)
  generalize m % 2000 = k at hk
  refine go ?_
  refine J_loop (fun q : LS k => [(0, .p a0), (5, W q.t), (6, .p (.int .i64 (k : Int))), (15, .p (.int .i64 (k : Int))), (16, .p (.int .i64 (q.i : Int)))]) (fun _ => []) (fun _ => []) (fun q => k - q.i) ⟨0, .nil, by omega, trivial, Nat.zero_le _⟩ ⟨rfl, rfl, rfl, rfl, rfl, trivial⟩ rfl rfl (fun q => ?_)
  have hi := q.h
  have hb := q.b
  have hs := q.s
  refine go ?_
  by_cases h : q.i < k
  · refine K_condT rfl (decide_eq_true (by omega)) ?_
    refine go ?_
    obtain ⟨c1, e1⟩ := u8_byte ((q.i : Int).fdiv (2 ^ Min.min 8 IntKind.i64.bits))
    obtain ⟨c2, e2⟩ := u8_byte (q.i : Int)
    refine K_op rfl rfl (opr_to_str (l := [c1, c2]) hT rfl rfl rfl rfl rfl (show Rd _ _ (.p (.ps [.int .u8 (IntKind.u8.wrap ((q.i : Int).fdiv (2 ^ Min.min 8 IntKind.i64.bits))), .int .u8 (IntKind.u8.wrap (q.i : Int))])) (bv [c1, c2]) from by rw [e1, e2]; exact .ps _)) rfl ?_
    refine go ?_
    have hsz := set_size [c1, c2] [] q.t
    have hbl := (set_bal [c1, c2] [] q.t hb).1
    refine K_op rfl rfl (opr_callP rfl rfl (tset_spec [c1, c2] [] q.t (by unfold big40; omega)) rfl rfl rfl rfl) rfl ?_
    generalize q.t.set [c1, c2] [] = u at hsz hbl
    refine go ?_
    refine J_again ⟨q.i + 1, u, by omega, hbl, by omega⟩ (by show k - (q.i + 1) < k - q.i; omega) ⟨rfl, rfl, rfl, rfl, congrArg (fun z => TV.p (.int .i64 z)) (by rw [IntWalk.i64_in _ (by omega)]; rfl), trivial⟩ rfl rfl
  generalize q.t = t at hb hs ⊢
  have hts : t.size ≤ 2000 := by omega
  clear hs
  refine K_condF rfl (decide_eq_false (by omega)) ?_
  refine go ?_
  refine K_op rfl rfl (opr_callP rfl rfl (c0) rfl rfl rfl rfl) rfl ?_
  refine go ?_
  refine K_op rfl rfl (opr_len_rd hT rfl rfl (hrd _)) rfl ?_
  rw [hlen]
  refine go ?_
  refine J_loop (fun q : LM l => [(5, W q.t), (6, .p (.int .i64 (k : Int))), (30, .p b0), (31, .p (.int .i64 (l.length : Int))), (32, .p (.int .i64 (q.i : Int)))]) (fun _ => []) (fun _ => []) (fun q => l.length - q.i) ⟨0, t, by omega, hb, hts⟩ ⟨rfl, rfl, rfl, rfl, rfl, trivial⟩ rfl rfl (fun q => ?_)
  have hj := q.h
  have hb := q.b
  have hs := q.s
  refine go ?_
  by_cases h : q.i < l.length
  · have hx : l[q.i]? = some l[q.i] := List.getElem?_eq_getElem h
    generalize l[q.i] = x at hx
    have hxk : (l.map opV)[((q.i : Nat) : Int).toNat]? = some (opV x) := ops_get hx
    have ht : q.t.size + 2 ≤ big40 := by unfold big40; omega
    refine K_condT rfl (decide_eq_true (by omega)) ?_
    refine go ?_
    refine K_op rfl rfl (opr_index hT rfl rfl rfl rfl rfl (hrd _) (by omega) (by rw [hlen]; omega)) rfl ?_
    refine go ?_
    refine K_op rfl rfl (opr_load_el hT rfl rfl (hrd _) hxk rfl rfl) rfl ?_
    refine go ?_
    by_cases hk : x.kind = 0
    · refine K_condT rfl (by simp [hk]) ?_
      refine go ?_
      have hsz := set_size x.key x.val q.t
      have hbl := (set_bal x.key x.val q.t hb).1
      refine K_op rfl rfl (opr_callP rfl rfl (tset_spec x.key x.val q.t ht) rfl rfl rfl rfl) rfl ?_
      generalize q.t.set x.key x.val = u at hsz hbl
      have hu := low_ok hbl
      have c1 := rlow10_spec u.size u.high (by omega) (by have := high_le u; omega)
      rw [hu] at c1
      refine go ?_
      refine K_op rfl rfl (opr_callP rfl rfl (tlen_spec u) rfl rfl rfl rfl) rfl ?_
      refine go ?_
      refine K_op rfl rfl (opr_callP rfl rfl (thigh_spec u) rfl rfl rfl rfl) rfl ?_
      refine go ?_
      refine K_op rfl rfl (opr_callP rfl rfl (c1) rfl rfl rfl rfl) rfl ?_
      refine go ?_
      refine J_take 0 [(5, W u), (6, .p (.int .i64 (k : Int))), (30, .p b0), (31, .p (.int .i64 (l.length : Int))), (32, .p (.int .i64 (IntKind.i64.wrap ((q.i : Int) + 1))))] ⟨rfl, rfl, rfl, rfl, rfl, trivial⟩ rfl rfl ?_
      refine J_again ⟨q.i + 1, u, by omega, hbl, by omega⟩ (by show l.length - (q.i + 1) < l.length - q.i; omega) ⟨rfl, rfl, rfl, rfl, congrArg (fun z => TV.p (.int .i64 z)) (by rw [IntWalk.i64_in _ (by omega)]; rfl), trivial⟩ rfl rfl
    · refine K_condF rfl (by simp [hk]) ?_
      refine go ?_
      have hsz := cut_size q.t x.key
      have hbl := (cut_bal q.t x.key hb).1
      refine K_op rfl rfl (opr_callP rfl rfl (tcut_spec q.t x.key ht) rfl rfl rfl rfl) rfl ?_
      generalize q.t.cut x.key = u at hsz hbl
      have hu := low_ok hbl
      have c1 := rlow10_spec u.size u.high (by omega) (by have := high_le u; omega)
      rw [hu] at c1
      refine go ?_
      refine K_op rfl rfl (opr_callP rfl rfl (tlen_spec u) rfl rfl rfl rfl) rfl ?_
      refine go ?_
      refine K_op rfl rfl (opr_callP rfl rfl (thigh_spec u) rfl rfl rfl rfl) rfl ?_
      refine go ?_
      refine K_op rfl rfl (opr_callP rfl rfl (c1) rfl rfl rfl rfl) rfl ?_
      refine go ?_
      refine J_take 0 [(5, W u), (6, .p (.int .i64 (k : Int))), (30, .p b0), (31, .p (.int .i64 (l.length : Int))), (32, .p (.int .i64 (IntKind.i64.wrap ((q.i : Int) + 1))))] ⟨rfl, rfl, rfl, rfl, rfl, trivial⟩ rfl rfl ?_
      refine J_again ⟨q.i + 1, u, by omega, hbl, by omega⟩ (by show l.length - (q.i + 1) < l.length - q.i; omega) ⟨rfl, rfl, rfl, rfl, congrArg (fun z => TV.p (.int .i64 z)) (by rw [IntWalk.i64_in _ (by omega)]; rfl), trivial⟩ rfl rfl
  generalize q.t = t at hb hs ⊢
  have hts : t.size ≤ 2200 := by omega
  clear hs
  refine K_condF rfl (decide_eq_false (by omega)) ?_
  refine go ?_
  refine J_loop (fun q : LE k => [(5, W q.t), (6, .p (.int .i64 (k : Int))), (10, .p (.int .i64 (q.i : Int)))]) (fun _ => []) (fun _ => []) (fun q => k + 1 - q.i) ⟨0, t, by omega, hb, hts⟩ ⟨rfl, rfl, rfl, trivial⟩ rfl rfl (fun q => ?_)
  have hi := q.h
  have hb := q.b
  have hs := q.s
  refine go ?_
  by_cases h : q.i < k
  · refine K_condT rfl (decide_eq_true (by omega)) ?_
    refine go ?_
    obtain ⟨c1, e1⟩ := u8_byte ((q.i : Int).fdiv (2 ^ Min.min 8 IntKind.i64.bits))
    obtain ⟨c2, e2⟩ := u8_byte (q.i : Int)
    refine K_op rfl rfl (opr_to_str (l := [c1, c2]) hT rfl rfl rfl rfl rfl (show Rd _ _ (.p (.ps [.int .u8 (IntKind.u8.wrap ((q.i : Int).fdiv (2 ^ Min.min 8 IntKind.i64.bits))), .int .u8 (IntKind.u8.wrap (q.i : Int))])) (bv [c1, c2]) from by rw [e1, e2]; exact .ps _)) rfl ?_
    refine go ?_
    have hsz := cut_size q.t [c1, c2]
    have hbl := (cut_bal q.t [c1, c2] hb).1
    refine K_op rfl rfl (opr_callP rfl rfl (tcut_spec q.t [c1, c2] (by unfold big40; omega)) rfl rfl rfl rfl) rfl ?_
    generalize q.t.cut [c1, c2] = u at hsz hbl
    refine go ?_
    refine J_again ⟨q.i + 2, u, by omega, hbl, by omega⟩ (by show k + 1 - (q.i + 2) < k + 1 - q.i; omega) ⟨rfl, rfl, congrArg (fun z => TV.p (.int .i64 z)) (by rw [IntWalk.i64_in _ (by omega)]; rfl), trivial⟩ rfl rfl
  refine K_condF rfl (decide_eq_false (by omega)) ?_
  generalize q.t = t at hb hs ⊢
  have hu := low_ok hb
  have c1 := rlow10_spec t.size t.high (by omega) (by have := high_le t; omega)
  rw [hu] at c1
  refine go ?_
  refine K_op rfl rfl (opr_callP rfl rfl (p6) rfl rfl rfl rfl) rfl ?_
  refine go ?_
  refine K_yes rfl rfl rfl (opr_callP rfl rfl (tlen_spec t) rfl rfl rfl rfl) rfl ?_
  refine go ?_
  refine K_yes rfl rfl rfl (opr_callP rfl rfl (thigh_spec t) rfl rfl rfl rfl) rfl ?_
  refine go ?_
  refine K_yes rfl rfl rfl (opr_callP rfl rfl (c1) rfl rfl rfl rfl) rfl ?_
  refine go ?_
  exact J_done hT rfl rfl rfl
end treeLow
end Go.Proofs.Ytbdijekfplpnlaa

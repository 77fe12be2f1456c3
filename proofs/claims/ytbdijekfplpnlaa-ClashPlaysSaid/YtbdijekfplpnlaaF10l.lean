/- The reference of layer 10: Same. -/
import Derived.Test.YtbdijekfplpnlaaGo
import Derived.Test.YtbdijekfplpnlaaF10k
-- @D
namespace Go.Proofs.Ytbdijekfplpnlaa
set_option maxRecDepth 20000
open Go.Awp Tr
/-- A pair that may be gone. -/
abbrev PW := List UInt8 × List UInt8 × Bool
def pwV (x : PW) : AV := .agg [.str x.1, .str x.2.1, .bool x.2.2]
def kp (x : KV) : PW := (x.1, x.2, false)
theorem kvs_pw (l : List KV) : kvs l = (l.map kp).map pwV := by rw [List.map_map]; rfl
theorem kp_inj {l m : List KV} : l.map kp = m.map kp ↔ l = m := by
  refine ⟨fun h => ?_, fun h => by rw [h]⟩
  have := congrArg (List.map fun x : PW => ((x.1, x.2.1) : KV)) h
  simpa [List.map_map, Function.comp_def, kp] using this
structure SI (l m : List PW) where
  i : Nat
  h : i ≤ l.length
  e : l.take i = m.take i
theorem pair_eq (x y : PW) : (decide (x.1 = y.1) && (decide (x.2.1 = y.2.1) && (decide (x.2.2 = y.2.2) && true))) = decide (x = y) := by
  obtain ⟨a, b, e⟩ := x
  obtain ⟨c, d, f⟩ := y
  by_cases h1 : a = c
  · by_cases h2 : b = d
    · simp [h1, h2]
    · simp [h1, h2]
  · simp [h1]
theorem take_same {α : Type} {l m : List α} {i : Nat} {x y : α} (h : l.take i = m.take i) (hx : l[i]? = some x) (hy : m[i]? = some y) : l.take (i + 1) = m.take (i + 1) ↔ x = y := by
  obtain ⟨h1, rfl⟩ := List.getElem?_eq_some_iff.1 hx
  obtain ⟨h2, rfl⟩ := List.getElem?_eq_some_iff.1 hy
  rw [List.take_succ_eq_append_getElem h1, List.take_succ_eq_append_getElem (l := m) h2, h]
  constructor
  · intro e
    exact (List.cons.inj (List.append_cancel_left e)).1
  · intro e
    rw [e]
set_option maxHeartbeats 8000000 in
theorem rsame10_rd (s s2 : AV) (l m : List PW) (hrd : ∀ L, Rd [] L (.p s) (l.map pwV)) (hrd2 : ∀ L, Rd [] L (.p s2) (m.map pwV)) (_hl : l.length ≤ big40) (hm : m.length ≤ big40) : Con Try.prog 24 [.p s, .p s2] [] (.p (.bool (decide (l = m)))) [] [] := by
  have hlen : (l.map pwV).length = l.length := by simp
  have hlen2 : (m.map pwV).length = m.length := by simp
  unfold big40 at hm
  refine con_of Try.func24 rfl (by kernel_rfl) rfl fun F w0 β0 => ?_
  refine K_tell rfl ?_
  refine go ?_
  refine K_op rfl rfl (opr_len_rd hT rfl rfl (hrd _)) rfl ?_
  refine go ?_
  refine K_op rfl rfl (opr_len_rd hT rfl rfl (hrd2 _)) rfl ?_
  refine go ?_
  rw [hlen, hlen2]
  by_cases hll : l.length = m.length
  · refine K_condF rfl (by simp [hll]) ?_
    refine go ?_
    refine K_op rfl rfl (opr_len_rd hT rfl rfl (hrd _)) rfl ?_
    rw [hlen]
    refine go ?_
    refine J_loop (fun q : SI l m => [(0, .p s), (1, .p s2), (12, .p (.int .i64 (l.length : Int))), (13, .p (.int .i64 (q.i : Int)))]) (fun _ => []) (fun _ => []) (fun q => l.length - q.i) ⟨0, by omega, rfl⟩ ⟨rfl, rfl, rfl, rfl, trivial⟩ rfl rfl (fun q => ?_)
    have hi := q.h
    refine go ?_
    by_cases h : q.i < l.length
    · have hx : l[q.i]? = some l[q.i] := List.getElem?_eq_getElem h
      have hy : m[q.i]? = some (m[q.i]'(by omega)) := List.getElem?_eq_getElem (by omega)
      generalize l[q.i] = x at hx
      generalize m[q.i]'(by omega) = y at hy
      have hxk : (l.map pwV)[((q.i : Nat) : Int).toNat]? = some (pwV x) := by rw [Int.toNat_natCast, List.getElem?_map, hx]; rfl
      have hyk : (m.map pwV)[((q.i : Nat) : Int).toNat]? = some (pwV y) := by rw [Int.toNat_natCast, List.getElem?_map, hy]; rfl
      have ht := take_same q.e hx hy
      refine K_condT rfl (decide_eq_true (by omega)) ?_
      refine go ?_
      refine J_draw [[]] [] (by kernel_rfl) (by kernel_rfl) rfl ?_
      refine gd ?_
      refine T_opD rfl rfl rfl rfl rfl (opr_index hT rfl rfl rfl rfl rfl (hrd _) (by omega) (by rw [hlen]; omega)) rfl ?_
      refine T_opD rfl rfl rfl rfl rfl (opr_load_el hT rfl rfl (hrd _) hxk rfl rfl) rfl ?_
      refine gd ?_
      refine T_opD rfl rfl rfl rfl rfl (opr_index hT rfl rfl rfl rfl rfl (hrd2 _) (by omega) (by rw [hlen2]; omega)) rfl ?_
      refine T_opD rfl rfl rfl rfl rfl (opr_load_el hT rfl rfl (hrd2 _) hyk rfl rfl) rfl ?_
      refine T_opD rfl rfl rfl rfl rfl (opr_eqAgg hT rfl (by kernel_rfl) rfl rfl rfl rfl rfl) rfl ?_
      refine J_weak [(0, .p s), (1, .p s2), (12, .p (.int .i64 (l.length : Int))), (13, .p (.int .i64 (q.i : Int))), (24, .p (.bool !(decide (x = y))))] ⟨rfl, rfl, rfl, rfl, (by rw [← pair_eq x y]; rfl), trivial⟩ ?_
      by_cases hk : x = y
      · refine K_condF rfl (by simp [hk]) ?_
        refine go ?_
        refine J_again ⟨q.i + 1, by omega, ht.2 hk⟩ (by show l.length - (q.i + 1) < l.length - q.i; omega) ⟨rfl, rfl, rfl, congrArg (fun z => TV.p (.int .i64 z)) (by rw [IntWalk.i64_in _ (by omega)]; rfl), trivial⟩ rfl rfl
      · rw [decide_eq_false (fun e : l = m => hk (ht.1 (congrArg (List.take (q.i + 1)) e)))]
        refine K_condT rfl (by simp [hk]) ?_
        refine go ?_
        exact J_done hT rfl rfl rfl
    · have e : l = m := by
        have := q.e
        rw [show q.i = l.length by omega, List.take_length, hll, List.take_length] at this
        exact this
      rw [decide_eq_true e]
      refine K_condF rfl (decide_eq_false (by omega)) ?_
      refine go ?_
      exact J_done hT rfl rfl rfl
  · rw [decide_eq_false (fun e => hll (by rw [e]))]
    refine K_condT rfl (by simp; omega) ?_
    refine go ?_
    exact J_done hT rfl rfl rfl
theorem rsame10_spec (d1 d2 : AV) (hd1 : d1 = .nils ∨ d1 = .cz) (hd2 : d2 = .nils ∨ d2 = .cz) (l m : List KV) (hl : l.length ≤ big40) (hm : m.length ≤ big40) : Con Try.prog 24 [R d1 l, R d2 m] [] (.p (.bool (decide (l = m)))) [] [] := by
  have := rsame10_rd (accV d1 (kvs l)) (accV d2 (kvs m)) (l.map kp) (m.map kp) (fun L => by rw [← kvs_pw]; exact accV_rd hd1) (fun L => by rw [← kvs_pw]; exact accV_rd hd2) (by simpa using hl) (by simpa using hm)
  rwa [decide_eq_decide.2 kp_inj] at this
end Go.Proofs.Ytbdijekfplpnlaa

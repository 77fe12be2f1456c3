/- The reference of layer 10: Low. -/
import Derived.Test.YtbdijekfplpnlaaGo
import Derived.Test.YtbdijekfplpnlaaF10l
-- @D
namespace Go.Proofs.Ytbdijekfplpnlaa
set_option maxRecDepth 20000
open Go.Awp Tr
/-- The greatest k of which 2 to the k is at most the square of n and 1. -/
structure LI (n : Nat) where
  k : Nat
  h : 2 ^ k ≤ (n + 1) * (n + 1)
/-- What Low answers: high is at most two more than that k. -/
def lowB (n high : Nat) : Bool := decide (high ≤ ((n + 1) * (n + 1)).log2 + 2)
theorem log_step {k m : Nat} (h : 2 ^ k ≤ m) : 2 ^ k * 2 ≤ m ∨ k = m.log2 := by
  by_cases h2 : 2 ^ k * 2 ≤ m
  · exact .inl h2
  · refine .inr ?_
    have hm : m ≠ 0 := by have := Nat.two_pow_pos k; omega
    exact ((Nat.log2_eq_iff hm).2 ⟨h, by rw [Nat.pow_succ]; omega⟩).symm
theorem pow_lt {k m : Nat} (h : 2 ^ k ≤ m) : k < m := Nat.lt_of_lt_of_le Nat.lt_two_pow_self h
set_option maxHeartbeats 4000000 in
theorem rlow10_spec (n high : Nat) (hn : n ≤ 2 ^ 20) (_hh : high ≤ 2 ^ 40) : Con Try.prog 19 [.p (.int .i64 (n : Int)), .p (.int .i64 (high : Int))] [] (.p (.bool (lowB n high))) [] [] := by
  have hsq : (n + 1) * (n + 1) ≤ (2 ^ 20 + 1) * (2 ^ 20 + 1) := Nat.mul_le_mul (by omega) (by omega)
  refine con_of Try.func19 rfl (by kernel_rfl) rfl fun F w0 β0 => ?_
  refine K_tell rfl ?_
  refine go ?_
  refine J_loop (fun q : LI n => [(0, .p (.int .i64 (n : Int))), (1, .p (.int .i64 (high : Int))), (5, .p (.int .i64 (q.k : Int))), (6, .p (.int .i64 ((2 ^ q.k : Nat) : Int)))]) (fun _ => []) (fun _ => []) (fun q => (n + 1) * (n + 1) - q.k) ⟨0, by simp; exact Nat.mul_pos (by omega) (by omega)⟩ ⟨rfl, rfl, rfl, rfl, trivial⟩ rfl rfl (fun q => ?_)
  have hi := q.h
  have hk0 := pow_lt hi
  have en : ((n : Int) + 1) = ((n + 1 : Nat) : Int) := by omega
  generalize hM : (n + 1) * (n + 1) = M at hsq hi hk0
  generalize hP : 2 ^ q.k = p at hi
  have w1 : IntKind.i64.wrap ((n : Int) + 1) = ((n + 1 : Nat) : Int) := by rw [IntWalk.i64_in _ (by omega)]; rfl
  have w2 : IntKind.i64.wrap (((n + 1 : Nat) : Int) * ((n + 1 : Nat) : Int)) = (M : Int) := by
    rw [← Int.natCast_mul, hM, IntWalk.i64_in _ (by omega)]
  have w3 : IntKind.i64.wrap ((p : Int) * 2) = ((p * 2 : Nat) : Int) := by rw [IntWalk.i64_in _ (by omega)]; rfl
  refine go ?_
  rw [w1, w2, w3]
  by_cases h2 : p * 2 ≤ M
  · refine K_condT rfl (decide_eq_true (Int.ofNat_le.2 h2)) ?_
    have hp1 : 2 ^ (q.k + 1) = p * 2 := by rw [Nat.pow_succ, hP]
    refine go ?_
    refine J_again ⟨q.k + 1, by rw [hM, hp1]; exact h2⟩ (by show M - (q.k + 1) < M - q.k; omega) ⟨rfl, rfl, congrArg (fun z => TV.p (.int .i64 z)) (by rw [IntWalk.i64_in _ (by omega)]; rfl), congrArg (fun z => TV.p (.int .i64 z)) (by show IntKind.i64.wrap ((p : Int) * 2) = ((2 ^ (q.k + 1) : Nat) : Int); rw [w3, hp1]), trivial⟩ rfl rfl
  · have hlog : q.k = M.log2 := by
      rcases log_step (k := q.k) (m := M) (by rw [hP]; exact hi) with h | h
      · rw [hP] at h; omega
      · exact h
    have w4 : IntKind.i64.wrap ((q.k : Int) + 2) = ((M.log2 + 2 : Nat) : Int) := by rw [IntWalk.i64_in _ (by omega), hlog]; rfl
    refine K_condF rfl (decide_eq_false (fun h => h2 (Int.ofNat_le.1 h))) ?_
    refine go ?_
    rw [w4]
    have er : lowB n high = decide ((high : Int) ≤ ((M.log2 + 2 : Nat) : Int)) := by
      unfold lowB
      rw [hM]
      exact decide_eq_decide.2 Int.ofNat_le.symm
    rw [er]
    exact J_done hT rfl rfl rfl
end Go.Proofs.Ytbdijekfplpnlaa

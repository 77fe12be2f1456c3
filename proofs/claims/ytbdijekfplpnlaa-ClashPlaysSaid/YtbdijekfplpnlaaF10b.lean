/- tree: join, Get. -/
import Derived.Test.YtbdijekfplpnlaaGo
import Derived.Test.YtbdijekfplpnlaaF10
-- @D
namespace Go.Proofs.Ytbdijekfplpnlaa
set_option maxRecDepth 20000
open Go.Awp Tr
set_option maxHeartbeats 4000000 in
theorem tjoin_spec (k v : List UInt8) (l0 r0 l r : Tr) (h : 1 + l.size + r.size ≤ big40) : Con Try.prog 59 [W (node k v l0 r0), W l, W r] [] (W (Tr.join k v l r)) [] [] := by
  have c1 := twith_spec k v l0 r0 l r (by omega) (by omega)
  have c2 := tlean_spec k v l r (by omega) (by omega)
  by_cases h1 : (node k v l r).lean > 1
  · match l, h1 with
    | nil, h1 => simp [Tr.lean, Tr.high] at h1; omega
    | node k2 v2 a b, h1 =>
    simp only [Tr.size] at h
    have c3 := tlean_spec k2 v2 a b (by omega) (by omega)
    by_cases h2 : (node k2 v2 a b).lean < 0
    · match b, h2 with
      | nil, h2 => simp [Tr.lean, Tr.high] at h2; omega
      | node k3 v3 b1 b2, h2 =>
      have e : Tr.join k v (node k2 v2 a (node k3 v3 b1 b2)) r = node k3 v3 (node k2 v2 a b1) (node k v b2 r) := by
        unfold Tr.join; rw [if_pos h1, if_pos h2]; rfl
      simp only [Tr.size] at h
      have c4 := trotL_spec k2 v2 a k3 v3 b1 b2 (by simp only [Tr.size]; omega)
      have c5 := twith_spec k v l0 r0 (node k3 v3 (node k2 v2 a b1) b2) r (by simp only [Tr.size]; omega) (by omega)
      have c6 := trotR_spec k v k3 v3 (node k2 v2 a b1) b2 r (by simp only [Tr.size]; omega)
      rw [e]
      refine con_of Try.func59 rfl (by kernel_rfl) rfl fun F w0 β0 => ?_
      refine K_tell rfl ?_
      refine go ?_
      refine K_op rfl rfl (opr_callP rfl rfl (c1) rfl rfl rfl rfl) rfl ?_
      refine go ?_
      refine K_op rfl rfl (opr_callP rfl rfl (c2) rfl rfl rfl rfl) rfl ?_
      refine go ?_
      refine K_condT rfl (decide_eq_true h1) ?_
      refine go ?_
      refine K_op rfl rfl (opr_callP rfl rfl (c3) rfl rfl rfl rfl) rfl ?_
      refine go ?_
      refine K_condT rfl (decide_eq_true h2) ?_
      refine go ?_
      refine K_op rfl rfl (opr_callP rfl rfl (c4) rfl rfl rfl rfl) rfl ?_
      refine go ?_
      refine K_op rfl rfl (opr_callP rfl rfl (c5) rfl rfl rfl rfl) rfl ?_
      refine go ?_
      refine K_op rfl rfl (opr_callP rfl rfl (c6) rfl rfl rfl rfl) rfl ?_
      refine go ?_
      exact J_done hT rfl rfl rfl
    · have e : Tr.join k v (node k2 v2 a b) r = node k2 v2 a (node k v b r) := by
        unfold Tr.join; rw [if_pos h1, if_neg h2]; rfl
      have c6 := trotR_spec k v k2 v2 a b r (by simp only [Tr.size]; omega)
      rw [e]
      refine con_of Try.func59 rfl (by kernel_rfl) rfl fun F w0 β0 => ?_
      refine K_tell rfl ?_
      refine go ?_
      refine K_op rfl rfl (opr_callP rfl rfl (c1) rfl rfl rfl rfl) rfl ?_
      refine go ?_
      refine K_op rfl rfl (opr_callP rfl rfl (c2) rfl rfl rfl rfl) rfl ?_
      refine go ?_
      refine K_condT rfl (decide_eq_true h1) ?_
      refine go ?_
      refine K_op rfl rfl (opr_callP rfl rfl (c3) rfl rfl rfl rfl) rfl ?_
      refine go ?_
      refine K_condF rfl (decide_eq_false h2) ?_
      refine go ?_
      refine K_op rfl rfl (opr_callP rfl rfl (c6) rfl rfl rfl rfl) rfl ?_
      refine go ?_
      exact J_done hT rfl rfl rfl
  by_cases h3 : (node k v l r).lean < -1
  · match r, h1, h3 with
    | nil, h1, h3 => simp [Tr.lean, Tr.high] at h3; omega
    | node k2 v2 a b, h1, h3 =>
    simp only [Tr.size] at h
    have c3 := tlean_spec k2 v2 a b (by omega) (by omega)
    by_cases h2 : (node k2 v2 a b).lean > 0
    · match a, h2 with
      | nil, h2 => simp [Tr.lean, Tr.high] at h2; omega
      | node k3 v3 b1 b2, h2 =>
      have e : Tr.join k v l (node k2 v2 (node k3 v3 b1 b2) b) = node k3 v3 (node k v l b1) (node k2 v2 b2 b) := by
        unfold Tr.join; rw [if_neg h1, if_pos h3, if_pos h2]; rfl
      simp only [Tr.size] at h
      have c4 := trotR_spec k2 v2 k3 v3 b1 b2 b (by simp only [Tr.size]; omega)
      have c5 := twith_spec k v l0 r0 l (node k3 v3 b1 (node k2 v2 b2 b)) (by omega) (by simp only [Tr.size]; omega)
      have c6 := trotL_spec k v l k3 v3 b1 (node k2 v2 b2 b) (by simp only [Tr.size]; omega)
      rw [e]
      refine con_of Try.func59 rfl (by kernel_rfl) rfl fun F w0 β0 => ?_
      refine K_tell rfl ?_
      refine go ?_
      refine K_op rfl rfl (opr_callP rfl rfl (c1) rfl rfl rfl rfl) rfl ?_
      refine go ?_
      refine K_op rfl rfl (opr_callP rfl rfl (c2) rfl rfl rfl rfl) rfl ?_
      refine go ?_
      refine K_condF rfl (decide_eq_false h1) ?_
      refine go ?_
      refine K_condT rfl (decide_eq_true h3) ?_
      refine go ?_
      refine K_op rfl rfl (opr_callP rfl rfl (c3) rfl rfl rfl rfl) rfl ?_
      refine go ?_
      refine K_condT rfl (decide_eq_true h2) ?_
      refine go ?_
      refine K_op rfl rfl (opr_callP rfl rfl (c4) rfl rfl rfl rfl) rfl ?_
      refine go ?_
      refine K_op rfl rfl (opr_callP rfl rfl (c5) rfl rfl rfl rfl) rfl ?_
      refine go ?_
      refine K_op rfl rfl (opr_callP rfl rfl (c6) rfl rfl rfl rfl) rfl ?_
      refine go ?_
      exact J_done hT rfl rfl rfl
    · have e : Tr.join k v l (node k2 v2 a b) = node k2 v2 (node k v l a) b := by
        unfold Tr.join; rw [if_neg h1, if_pos h3, if_neg h2]; rfl
      have c6 := trotL_spec k v l k2 v2 a b (by simp only [Tr.size]; omega)
      rw [e]
      refine con_of Try.func59 rfl (by kernel_rfl) rfl fun F w0 β0 => ?_
      refine K_tell rfl ?_
      refine go ?_
      refine K_op rfl rfl (opr_callP rfl rfl (c1) rfl rfl rfl rfl) rfl ?_
      refine go ?_
      refine K_op rfl rfl (opr_callP rfl rfl (c2) rfl rfl rfl rfl) rfl ?_
      refine go ?_
      refine K_condF rfl (decide_eq_false h1) ?_
      refine go ?_
      refine K_condT rfl (decide_eq_true h3) ?_
      refine go ?_
      refine K_op rfl rfl (opr_callP rfl rfl (c3) rfl rfl rfl rfl) rfl ?_
      refine go ?_
      refine K_condF rfl (decide_eq_false h2) ?_
      refine go ?_
      refine K_op rfl rfl (opr_callP rfl rfl (c6) rfl rfl rfl rfl) rfl ?_
      refine go ?_
      exact J_done hT rfl rfl rfl
  · have e : Tr.join k v l r = node k v l r := by
      unfold Tr.join; rw [if_neg h1, if_neg h3]
    rw [e]
    refine con_of Try.func59 rfl (by kernel_rfl) rfl fun F w0 β0 => ?_
    refine K_tell rfl ?_
    refine go ?_
    refine K_op rfl rfl (opr_callP rfl rfl (c1) rfl rfl rfl rfl) rfl ?_
    refine go ?_
    refine K_op rfl rfl (opr_callP rfl rfl (c2) rfl rfl rfl rfl) rfl ?_
    refine go ?_
    refine K_condF rfl (decide_eq_false h1) ?_
    refine go ?_
    refine K_condF rfl (decide_eq_false h3) ?_
    refine go ?_
    exact J_done hT rfl rfl rfl
end Go.Proofs.Ytbdijekfplpnlaa

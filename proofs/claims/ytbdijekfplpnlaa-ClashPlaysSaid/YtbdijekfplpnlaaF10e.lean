/- tree: Cut. -/
import Derived.Test.YtbdijekfplpnlaaGo
import Derived.Test.YtbdijekfplpnlaaF10d
-- @D
namespace Go.Proofs.Ytbdijekfplpnlaa
set_option maxRecDepth 20000
open Go.Awp Tr
structure MinJ (m : List UInt8 × List UInt8) where
  k : List UInt8
  v : List UInt8
  l : Tr
  r : Tr
  h : (node k v l r).min = m
set_option maxHeartbeats 8000000 in
theorem tcut_spec : ∀ (t : Tr) (k : List UInt8), t.size + 2 ≤ big40 → Con Try.prog 18 [W t, .p (.str k)] [] (W (t.cut k)) [] []
  | .nil, k, h => by
    have c1 := tget_spec k .nil
    refine con_of Try.func18 rfl (by kernel_rfl) rfl fun F w0 β0 => ?_
    refine K_tell rfl ?_
    refine go ?_
    refine K_op rfl rfl (opr_callP rfl rfl (c1) rfl rfl rfl rfl) rfl ?_
    refine go ?_
    exact J_done hT rfl rfl rfl
  | .node k0 v0 l r, k, h => by
    have c1 := tget_spec k (.node k0 v0 l r)
    simp only [Tr.size] at h
    cases hg : (node k0 v0 l r).get k with
    | none =>
      rw [hg] at c1
      have e : (node k0 v0 l r).cut k = node k0 v0 l r := by rw [cut_node, if_pos hg]
      rw [e]
      refine con_of Try.func18 rfl (by kernel_rfl) rfl fun F w0 β0 => ?_
      refine K_tell rfl ?_
      refine go ?_
      refine K_op rfl rfl (opr_callP rfl rfl (c1) rfl rfl rfl rfl) rfl ?_
      refine go ?_
      exact J_done hT rfl rfl rfl
    | some w =>
      rw [hg] at c1
      have hne : ¬ (node k0 v0 l r).get k = none := by rw [hg]; simp
      have hl := cut_size l k
      have hr := cut_size r k
      by_cases h1 : Op.bytesLess k k0 = true
      · have e : (node k0 v0 l r).cut k = Tr.join k0 v0 (l.cut k) r := by rw [cut_node, if_neg hne, if_pos h1]
        have c2 := tcut_spec l k (by omega)
        have c3 := tjoin_spec k0 v0 l r (l.cut k) r (by omega)
        rw [e]
        refine con_of Try.func18 rfl (by kernel_rfl) rfl fun F w0 β0 => ?_
        refine K_tell rfl ?_
        refine go ?_
        refine K_op rfl rfl (opr_callP rfl rfl (c1) rfl rfl rfl rfl) rfl ?_
        refine go ?_
        refine K_condT rfl h1 ?_
        refine J_seq ?_
        refine J_draw [[]] [] (by kernel_rfl) (by kernel_rfl) rfl ?_
        refine gd ?_
        refine T_opD rfl rfl rfl rfl rfl (opr_call0P rfl rfl (c2) rfl rfl rfl) rfl ?_
        refine gd ?_
        refine T_opD rfl rfl rfl rfl rfl (opr_call0P rfl rfl (c3) rfl rfl rfl) rfl ?_
        refine gd ?_
        refine J_then ?_
        refine K_tell rfl ?_
        refine go ?_
        exact J_done hT rfl rfl rfl
      have h1' : Op.bytesLess k k0 = false := by simpa using h1
      by_cases h2 : k = k0
      · match l, r, h with
        | .nil, r, h =>
          have e : (node k0 v0 .nil r).cut k = r := by rw [cut_node, if_neg hne, if_neg h1, if_pos h2]
          rw [e]
          refine con_of Try.func18 rfl (by kernel_rfl) rfl fun F w0 β0 => ?_
          refine K_tell rfl ?_
          refine go ?_
          refine K_op rfl rfl (opr_callP rfl rfl (c1) rfl rfl rfl rfl) rfl ?_
          refine go ?_
          refine K_condF rfl h1' ?_
          refine go ?_
          refine K_condF rfl (by simp [h2]) ?_
          refine go ?_
          exact J_done hT rfl rfl rfl
        | .node a b c d, .nil, h =>
          have e : (node k0 v0 (.node a b c d) .nil).cut k = .node a b c d := by rw [cut_node, if_neg hne, if_neg h1, if_pos h2]
          rw [e]
          refine con_of Try.func18 rfl (by kernel_rfl) rfl fun F w0 β0 => ?_
          refine K_tell rfl ?_
          refine go ?_
          refine K_op rfl rfl (opr_callP rfl rfl (c1) rfl rfl rfl rfl) rfl ?_
          refine go ?_
          refine K_condF rfl h1' ?_
          refine go ?_
          refine K_condF rfl (by simp [h2]) ?_
          refine go ?_
          exact J_done hT rfl rfl rfl
        | .node a b c d, .node e f g i, h =>
          have e0 : (node k0 v0 (.node a b c d) (.node e f g i)).cut k = Tr.join (node e f g i).min.1 (node e f g i).min.2 (node a b c d) ((node e f g i).cut (node e f g i).min.1) := by
            rw [cut_node, if_neg hne, if_neg h1, if_pos h2]
          rw [e0]
          have c2 := tcut_spec (node e f g i) (node e f g i).min.1 (by simp only [Tr.size] at h ⊢; omega)
          have hs := cut_size (node e f g i) (node e f g i).min.1
          have c3 := fun l0 r0 => tjoin_spec (node e f g i).min.1 (node e f g i).min.2 l0 r0 (node a b c d) ((node e f g i).cut (node e f g i).min.1) (by simp only [Tr.size] at h hs ⊢; omega)
          generalize hm : (node e f g i).min = m at c2 c3
          generalize hB : (node e f g i).cut m.1 = B at c2 c3
          refine con_of Try.func18 rfl (by kernel_rfl) rfl fun F w0 β0 => ?_
          refine K_tell rfl ?_
          refine go ?_
          refine K_op rfl rfl (opr_callP rfl rfl (c1) rfl rfl rfl rfl) rfl ?_
          refine go ?_
          refine K_condF rfl h1' ?_
          refine go ?_
          refine K_condF rfl (by simp [h2]) ?_
          refine go ?_
          refine J_loop (fun s : MinJ m => [(0, W (node k0 v0 (.node a b c d) (.node e f g i))), (7, W (node s.k s.v s.l s.r))]) (fun _ => []) (fun _ => []) (fun s => (node s.k s.v s.l s.r).size) ⟨e, f, g, i, hm⟩ ⟨rfl, rfl, trivial⟩ rfl rfl (fun s => ?_)
          obtain ⟨k', v', l', r', hmin⟩ := s
          cases l' with
          | nil =>
            have hm2 : m = (k', v') := hmin.symm
            subst hm2
            refine go ?_
            refine J_draw [[]] [] (by kernel_rfl) (by kernel_rfl) rfl ?_
            refine gd ?_
            refine T_opD rfl rfl rfl rfl rfl (opr_call0P rfl rfl (c2) rfl rfl rfl) rfl ?_
            refine gd ?_
            refine T_opD rfl rfl rfl rfl rfl (opr_call0P rfl rfl (c3 .nil r') rfl rfl rfl) rfl ?_
            refine gd ?_
            refine J_then ?_
            refine K_tell rfl ?_
            refine go ?_
            exact J_done hT rfl rfl rfl
          | node k2 v2 l2 r2 =>
            refine go ?_
            refine J_again ⟨k2, v2, l2, r2, hmin⟩ (by show (node k2 v2 l2 r2).size < (node k' v' (node k2 v2 l2 r2) r').size; simp only [Tr.size]; omega) ⟨rfl, rfl, trivial⟩ rfl rfl
      · have e : (node k0 v0 l r).cut k = Tr.join k0 v0 l (r.cut k) := by rw [cut_node, if_neg hne, if_neg h1, if_neg h2]
        have c2 := tcut_spec r k (by omega)
        have c3 := tjoin_spec k0 v0 l r l (r.cut k) (by omega)
        rw [e]
        refine con_of Try.func18 rfl (by kernel_rfl) rfl fun F w0 β0 => ?_
        refine K_tell rfl ?_
        refine go ?_
        refine K_op rfl rfl (opr_callP rfl rfl (c1) rfl rfl rfl rfl) rfl ?_
        refine go ?_
        refine K_condF rfl h1' ?_
        refine go ?_
        refine K_condT rfl (by simp [h1', h2]) ?_
        refine J_seq ?_
        refine J_draw [[]] [] (by kernel_rfl) (by kernel_rfl) rfl ?_
        refine gd ?_
        refine T_opD rfl rfl rfl rfl rfl (opr_call0P rfl rfl (c2) rfl rfl rfl) rfl ?_
        refine gd ?_
        refine T_opD rfl rfl rfl rfl rfl (opr_call0P rfl rfl (c3) rfl rfl rfl) rfl ?_
        refine gd ?_
        refine J_then ?_
        refine K_tell rfl ?_
        refine go ?_
        exact J_done hT rfl rfl rfl
end Go.Proofs.Ytbdijekfplpnlaa

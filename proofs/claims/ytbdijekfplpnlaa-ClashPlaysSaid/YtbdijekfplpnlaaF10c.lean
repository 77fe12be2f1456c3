/- tree: Set. -/
import Derived.Test.YtbdijekfplpnlaaGo
import Derived.Test.YtbdijekfplpnlaaF10b
import Derived.Test.YtbdijekfplpnlaaTr2
-- @D
namespace Go.Proofs.Ytbdijekfplpnlaa
set_option maxRecDepth 20000
open Go.Awp Tr
set_option maxHeartbeats 8000000 in
theorem tset_spec (k v : List UInt8) : ∀ (t : Tr), t.size + 2 ≤ big40 → Con Try.prog 16 [W t, .p (.str k), .p (.str v)] [] (W (t.set k v)) [] []
  | .nil, h => by
    refine con_of Try.func16 rfl (by kernel_rfl) rfl fun F w0 β0 => ?_
    refine K_tell rfl ?_
    refine go ?_
    refine J_freeze_box 6 0 rfl rfl rfl ?_
    refine J_le 6 ((Tr.node k v .nil .nil).av) rfl (pp_le (.cons (.refl _) (.cons (.refl _) (.cons (cell_le rfl) (.cons (cell_le rfl) (.cons (.refl _) (.cons (.refl _) .nil))))))) ?_
    refine J_wrap 6 rfl rfl ?_
    exact J_done hT rfl rfl rfl
  | .node k0 v0 l r, h => by
    simp only [Tr.size] at h
    have hl := set_size k v l
    have hr := set_size k v r
    have c1 := tset_spec k v l (by omega)
    have c2 := tset_spec k v r (by omega)
    have c3 := tjoin_spec k0 v0 l r (l.set k v) r (by omega)
    have c4 := tjoin_spec k0 v0 l r l (r.set k v) (by omega)
    by_cases h1 : Op.bytesLess k k0 = true
    · have e : (node k0 v0 l r).set k v = Tr.join k0 v0 (l.set k v) r := by simp only [Tr.set]; rw [if_pos h1]
      rw [e]
      refine con_of Try.func16 rfl (by kernel_rfl) rfl fun F w0 β0 => ?_
      refine K_tell rfl ?_
      refine go ?_
      refine K_condT rfl h1 ?_
      refine J_seq ?_
      refine J_draw [[]] [] (by kernel_rfl) (by kernel_rfl) rfl ?_
      refine gd ?_
      refine T_opD rfl rfl rfl rfl rfl (opr_call0P rfl rfl (c1) rfl rfl rfl) rfl ?_
      refine gd ?_
      refine T_opD rfl rfl rfl rfl rfl (opr_call0P rfl rfl (c3) rfl rfl rfl) rfl ?_
      refine gd ?_
      refine J_then ?_
      refine K_tell rfl ?_
      refine go ?_
      exact J_done hT rfl rfl rfl
    · have h1' : Op.bytesLess k k0 = false := by simpa using h1
      by_cases h2 : k = k0
      · have e : (node k0 v0 l r).set k v = node k v l r := by simp only [Tr.set]; rw [if_neg h1, if_pos h2]
        rw [e]
        refine con_of Try.func16 rfl (by kernel_rfl) rfl fun F w0 β0 => ?_
        refine K_tell rfl ?_
        refine go ?_
        refine K_condF rfl h1' ?_
        refine go ?_
        refine K_condF rfl (by simp [h2]) ?_
        refine go ?_
        refine J_draw [[]] [] (by kernel_rfl) (by kernel_rfl) rfl ?_
        refine gd ?_
        refine J_then ?_
        refine K_tell rfl ?_
        refine go ?_
        refine J_wrap 6 rfl rfl ?_
        exact J_done hT rfl rfl rfl
      · have e : (node k0 v0 l r).set k v = Tr.join k0 v0 l (r.set k v) := by simp only [Tr.set]; rw [if_neg h1, if_neg h2]
        rw [e]
        refine con_of Try.func16 rfl (by kernel_rfl) rfl fun F w0 β0 => ?_
        refine K_tell rfl ?_
        refine go ?_
        refine K_condF rfl h1' ?_
        refine go ?_
        refine K_condT rfl (by simp [h1', h2]) ?_
        refine J_seq ?_
        refine J_draw [[]] [] (by kernel_rfl) (by kernel_rfl) rfl ?_
        refine gd ?_
        refine T_opD rfl rfl rfl rfl rfl (opr_call0P rfl rfl (c2) rfl rfl rfl) rfl ?_
        refine gd ?_
        refine T_opD rfl rfl rfl rfl rfl (opr_call0P rfl rfl (c4) rfl rfl rfl) rfl ?_
        refine gd ?_
        refine J_then ?_
        refine K_tell rfl ?_
        refine go ?_
        exact J_done hT rfl rfl rfl
end Go.Proofs.Ytbdijekfplpnlaa

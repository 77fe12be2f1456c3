/- tree: Get, Rank. -/
import Derived.Test.YtbdijekfplpnlaaGo
import Derived.Test.YtbdijekfplpnlaaF10c
-- @D
namespace Go.Proofs.Ytbdijekfplpnlaa
set_option maxRecDepth 20000
open Go.Awp Tr
def getT : Option (List UInt8) → TV
  | some v => .tup [.p (.str v), .p (.bool true)]
  | none => .tup [.p (.str []), .p (.bool false)]
structure GetJ (k : List UInt8) (g : Option (List UInt8)) where
  t : Tr
  h : t.get k = g
set_option maxHeartbeats 4000000 in
theorem tget_spec (k : List UInt8) (t : Tr) : Con Try.prog 27 [W t, .p (.str k)] [] (getT (t.get k)) [] [] := by
  generalize hg : t.get k = g
  refine con_of Try.func27 rfl (by kernel_rfl) rfl fun F w0 β0 => ?_
  refine K_tell rfl ?_
  refine go ?_
  refine J_loop (fun s : GetJ k g => [(0, W s.t), (1, .p (.str k))]) (fun _ => []) (fun _ => []) (fun s => s.t.size) ⟨t, hg⟩ ⟨rfl, rfl, trivial⟩ rfl rfl (fun s => ?_)
  obtain ⟨t', ht⟩ := s
  clear hg t
  cases t' with
  | nil =>
    obtain rfl := ht
    refine go ?_
    exact J_done hT rfl rfl rfl
  | node k0 v0 l r =>
    by_cases h1 : k0 = k
    · have e : g = some v0 := by rw [← ht]; simp only [Tr.get]; rw [if_pos h1]
      subst e
      refine go ?_
      refine K_condF rfl (by simp [h1]) ?_
      refine go ?_
      exact J_done hT rfl rfl rfl
    · have e : g = if Op.bytesLess k k0 = true then l.get k else r.get k := by rw [← ht]; simp only [Tr.get]; rw [if_neg h1]
      refine go ?_
      refine K_condT rfl (by simp [h1]) ?_
      refine go ?_
      refine J_cond rfl (fun h2 => ?_) (fun h2 => ?_)
      · rw [if_pos h2] at e
        refine go ?_
        refine J_again ⟨l, e.symm⟩ (by simp only [Tr.size]; omega) ⟨rfl, rfl, trivial⟩ rfl rfl
      · rw [h2, if_neg (by simp)] at e
        refine go ?_
        refine J_again ⟨r, e.symm⟩ (by simp only [Tr.size]; omega) ⟨rfl, rfl, trivial⟩ rfl rfl
end Go.Proofs.Ytbdijekfplpnlaa

/- tree: Len, High, with, turnRight, turnLeft, lean, join. -/
import Derived.Test.YtbdijekfplpnlaaGo
import Derived.Test.YtbdijekfplpnlaaTr1
import Derived.Test.YtbdijekfplpnlaaProg
-- @D
namespace Go.Proofs.Ytbdijekfplpnlaa
set_option maxRecDepth 20000
open Go.Awp Tr
theorem tnew_spec : Con Try.prog 15 [] [] (W .nil) [] [] := by
  refine con_of Try.func15 rfl (by kernel_rfl) rfl fun F w0 β0 => ?_
  refine K_tell rfl ?_
  refine go ?_
  refine J_wrap 0 rfl rfl ?_
  exact J_done hT rfl rfl rfl
theorem tlen_spec (t : Tr) : Con Try.prog 20 [W t] [] (.p (.int .i64 (t.size : Int))) [] [] := by
  cases t with
  | nil =>
    refine con_of Try.func20 rfl (by kernel_rfl) rfl fun F w0 β0 => ?_
    refine K_tell rfl ?_
    refine go ?_
    exact J_done hT rfl rfl rfl
  | node k v l r =>
    refine con_of Try.func20 rfl (by kernel_rfl) rfl fun F w0 β0 => ?_
    refine K_tell rfl ?_
    refine go ?_
    exact J_done hT rfl rfl rfl
theorem thigh_spec (t : Tr) : Con Try.prog 21 [W t] [] (.p (.int .i64 (t.high : Int))) [] [] := by
  cases t with
  | nil =>
    refine con_of Try.func21 rfl (by kernel_rfl) rfl fun F w0 β0 => ?_
    refine K_tell rfl ?_
    refine go ?_
    exact J_done hT rfl rfl rfl
  | node k v l r =>
    refine con_of Try.func21 rfl (by kernel_rfl) rfl fun F w0 β0 => ?_
    refine K_tell rfl ?_
    refine go ?_
    exact J_done hT rfl rfl rfl
theorem tmax (a b : Nat) : mmA .max (a : Int) (b : Int) = ((max a b : Nat) : Int) := by unfold mmA; simp only []; split <;> omega
def big40 : Nat := 1099511627776
set_option maxHeartbeats 4000000 in
theorem twith_spec (k v : List UInt8) (l0 r0 l r : Tr) (hl : l.size ≤ big40) (hr : r.size ≤ big40) : Con Try.prog 77 [W (node k v l0 r0), W l, W r] [] (W (node k v l r)) [] [] := by
  unfold big40 at hl hr
  have h1 := high_le l
  have h2 := high_le r
  have e22 : IntKind.i64.wrap (IntKind.i64.wrap (1 + (l.size : Int)) + (r.size : Int)) = ((1 + l.size + r.size : Nat) : Int) := by rw [IntWalk.i64_in (1 + _) (by omega), IntWalk.i64_in _ (by omega)]; omega
  have e28 : IntKind.i64.wrap (1 + mmA .max (l.high : Int) (r.high : Int)) = ((1 + max l.high r.high : Nat) : Int) := by rw [tmax, IntWalk.i64_in _ (by omega)]; omega
  have ex : AV.pp [.str k, .str v, .cell l.av, .cell r.av, .int .i64 (IntKind.i64.wrap (IntKind.i64.wrap (1 + (l.size : Int)) + (r.size : Int))), .int .i64 (IntKind.i64.wrap (1 + mmA .max (l.high : Int) (r.high : Int)))] = (node k v l r).av := by rw [e22, e28]; rfl
  have c1 := tlen_spec l
  have c2 := tlen_spec r
  have c3 := thigh_spec l
  have c4 := thigh_spec r
  refine con_of Try.func77 rfl (by kernel_rfl) rfl fun F w0 β0 => ?_
  refine K_tell rfl ?_
  refine go ?_
  refine J_draw [[]] [] (by kernel_rfl) (by kernel_rfl) rfl ?_
  refine gd ?_
  refine T_opD rfl rfl rfl rfl rfl (opr_call0P rfl rfl (c1) rfl rfl rfl) rfl ?_
  refine gd ?_
  refine T_opD rfl rfl rfl rfl rfl (opr_call0P rfl rfl (c2) rfl rfl rfl) rfl ?_
  refine gd ?_
  refine T_opD rfl rfl rfl rfl rfl (opr_call0P rfl rfl (c3) rfl rfl rfl) rfl ?_
  refine gd ?_
  refine T_opD rfl rfl rfl rfl rfl (opr_call0P rfl rfl (c4) rfl rfl rfl) rfl ?_
  refine gd ?_
  refine J_then ?_
  refine K_tell rfl ?_
  refine go ?_
  refine J_val 6 _ rfl (congrArg TV.p ex) ?_
  refine J_wrap 6 rfl rfl ?_
  exact J_done hT rfl rfl rfl
theorem tlean_spec (k v : List UInt8) (l r : Tr) (hl : l.size ≤ big40) (hr : r.size ≤ big40) : Con Try.prog 78 [W (node k v l r)] [] (.p (.int .i64 (node k v l r).lean)) [] [] := by
  unfold big40 at hl hr
  have h1 := high_le l
  have h2 := high_le r
  have c3 := thigh_spec l
  have c4 := thigh_spec r
  have e : IntKind.i64.wrap ((l.high : Int) - (r.high : Int)) = (l.high : Int) - (r.high : Int) := IntWalk.i64_in _ (by omega)
  refine con_of Try.func78 rfl (by kernel_rfl) rfl fun F w0 β0 => ?_
  refine K_tell rfl ?_
  refine go ?_
  refine J_draw [[]] [] (by kernel_rfl) (by kernel_rfl) rfl ?_
  refine gd ?_
  refine T_opD rfl rfl rfl rfl rfl (opr_call0P rfl rfl (c3) rfl rfl rfl) rfl ?_
  refine gd ?_
  refine T_opD rfl rfl rfl rfl rfl (opr_call0P rfl rfl (c4) rfl rfl rfl) rfl ?_
  refine gd ?_
  refine J_then ?_
  refine K_tell rfl ?_
  refine go ?_
  refine J_val 2 _ rfl (congrArg (fun z => TV.p (.int .i64 z)) e) ?_
  exact J_done hT rfl rfl rfl
set_option maxHeartbeats 4000000 in
theorem trotL_spec (k v : List UInt8) (a : Tr) (k2 v2 : List UInt8) (b c : Tr) (h : (node k v a (node k2 v2 b c)).size ≤ big40) : Con Try.prog 79 [W (node k v a (node k2 v2 b c))] [] (W (node k2 v2 (node k v a b) c)) [] [] := by
  simp only [Tr.size] at h
  have c1 := twith_spec k v a (node k2 v2 b c) a b (by omega) (by omega)
  have c2 := twith_spec k2 v2 b c (node k v a b) c (by simp only [Tr.size]; omega) (by omega)
  refine con_of Try.func79 rfl (by kernel_rfl) rfl fun F w0 β0 => ?_
  refine K_tell rfl ?_
  refine go ?_
  refine J_draw [[]] [] (by kernel_rfl) (by kernel_rfl) rfl ?_
  refine gd ?_
  refine T_opD rfl rfl rfl rfl rfl (opr_call0P rfl rfl (c1) rfl rfl rfl) rfl ?_
  refine gd ?_
  refine T_opD rfl rfl rfl rfl rfl (opr_call0P rfl rfl (c2) rfl rfl rfl) rfl ?_
  refine gd ?_
  refine J_then ?_
  refine K_tell rfl ?_
  refine go ?_
  exact J_done hT rfl rfl rfl
set_option maxHeartbeats 4000000 in
theorem trotR_spec (k v : List UInt8) (k2 v2 : List UInt8) (a b c : Tr) (h : (node k v (node k2 v2 a b) c).size ≤ big40) : Con Try.prog 80 [W (node k v (node k2 v2 a b) c)] [] (W (node k2 v2 a (node k v b c))) [] [] := by
  simp only [Tr.size] at h
  have c1 := twith_spec k v (node k2 v2 a b) c b c (by omega) (by omega)
  have c2 := twith_spec k2 v2 a b a (node k v b c) (by omega) (by simp only [Tr.size]; omega)
  refine con_of Try.func80 rfl (by kernel_rfl) rfl fun F w0 β0 => ?_
  refine K_tell rfl ?_
  refine go ?_
  refine J_draw [[]] [] (by kernel_rfl) (by kernel_rfl) rfl ?_
  refine gd ?_
  refine T_opD rfl rfl rfl rfl rfl (opr_call0P rfl rfl (c1) rfl rfl rfl) rfl ?_
  refine gd ?_
  refine T_opD rfl rfl rfl rfl rfl (opr_call0P rfl rfl (c2) rfl rfl rfl) rfl ?_
  refine gd ?_
  refine J_then ?_
  refine K_tell rfl ?_
  refine go ?_
  exact J_done hT rfl rfl rfl
end Go.Proofs.Ytbdijekfplpnlaa

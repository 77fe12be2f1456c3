/- clash: a history; Add, Forget. -/
import Derived.Test.YtbdijekfplpnlaaGo
import Derived.Test.YtbdijekfplpnlaaF21e
-- @D
namespace Go.Proofs.Ytbdijekfplpnlaa
set_option maxRecDepth 20000
open Go.Awp Tr
theorem happ (g : List (List PW)) (w : List PW) : g.map prow ++ [prow w] = (g ++ [w]).map prow := by simp
set_option maxHeartbeats 4000000 in
theorem hadd_spec (d : Nat) (g : List (List PW)) (w : List PW) (h : d + g.length ≤ 900) (hw : w.length ≤ 100000) : Con Try.prog 54 [.ad (.o 0) 0, .sl (.o 2) w.length 0 w.length] (hH d g ++ [pA w]) (.p (.int .u64 ((d + g.length + 1 : Nat) : Int))) (hH d (g ++ [w]) ++ [pA w]) [] := by
  have c1 := pwClone_spec w hw
  have c2 := hnow_spec d (g ++ [w]) (by simp; omega)
  have e1 : hH d (g ++ [w]) ++ [pA w] = [hB (.o 1) d (g.length + 1), .arr 37 true 1 (g.map prow ++ [prow w]), pA w] := by
    simp [hH, hB, hA]
  rw [show d + (g ++ [w]).length = d + g.length + 1 by simp; omega] at c2
  have e2 : hH d (g ++ [w]) = [hB (.o 1) d (g.length + 1), .arr 37 true 1 (g.map prow ++ [prow w])] := by
    simp [hH, hB, hA]
  rw [e2] at c2
  rw [e1]
  refine con_of Try.func54 rfl (by kernel_rfl) rfl fun F w0 β0 => ?_
  refine K_tell rfl ?_
  refine go ?_
  refine J_drawH [[hB (.o 1) d g.length, hA g, pA w], [hB (.o 1) d g.length, .arr 37 true 1 (g.map prow ++ [prow w]), pA w], [hB (.o 1) d (g.length + 1), .arr 37 true 1 (g.map prow ++ [prow w]), pA w]]
    [[], [], []] [8, 11] (by kernel_rfl) (by kernel_rfl) rfl rfl ?_
  refine gdH ?_
  refine T_opH rfl rfl rfl rfl rfl rfl (opr_callS [.o 2] rfl rfl c1 rfl rfl rfl ⟨⟨rfl, rfl⟩, trivial⟩ rfl rfl rfl rfl) rfl ?_
  refine gdH ?_
  refine T_stH rfl rfl rfl rfl rfl rfl (opr_app_ownH (i := 1) (n := g.length) (rows0 := g.map prow) (rows := [prow w]) (Ty := 37) (te := ⟨.slice 99, 1, 24, [.nils]⟩) hT rfl rfl rfl rfl (by simp) rfl rfl (.rd (.ps _)) hbs_ps (prow_cl [w]) (prow_size [w]) (by decide) (by show (g.length + 1) * 24 ≤ _; omega)) rfl ?_
  refine gdH ?_
  refine go ?_
  refine K_op rfl rfl (opr_callS [.o 0, .o 1] rfl rfl (c2) rfl rfl rfl ⟨⟨rfl, rfl⟩, ⟨rfl, rfl⟩, trivial⟩ rfl rfl rfl rfl) rfl ?_
  refine go ?_
  exact J_done hT rfl rfl rfl
/-- The rest of a whole slice. -/
theorem opr_cut_full {P : Program} {T : Tab} {env : Env} {H L : List AObj} {o : Oper} {t : TypeId} {y : Operand} {lo : Option Operand} {rows : List AV} {e n k : Nat} {te : TyI} {h : Hd} (hT : TabOk P T) (ho : o.op = .slice t y lo none none) (hy : evA env y = .sl h n 0 n) (hd : tyD T t = .slice e) (hte : tlk T e = some te) (hr : Rd H L (.sl h n 0 n) rows) (hl : loA env lo = some (k : Int)) (hn : rows.length = n)
    (hk : k ≤ n) (hE : ∀ r ∈ rows, (cellsOf r).length = te.size) : OpR P o env H L (.sl h n k (n - k)) H L := by
  have := opr_cut (i := (k : Int)) (j := (n : Int)) hT ho hy hd hte hr hl (by rw [hn]; rfl) (by omega) (by omega) (by omega) hE
  simpa [cutA] using this
theorem min_mm (n m : Nat) : mmA Builtin.min (n : Int) (m : Int) = ((min n m : Nat) : Int) := by
  show (if (m : Int) < n then (m : Int) else n) = _
  split <;> omega
theorem max_mm (n m : Nat) : mmA Builtin.max (n : Int) (m : Int) = ((max n m : Nat) : Int) := by
  show (if (n : Int) < m then (m : Int) else n) = _
  split <;> omega
set_option maxHeartbeats 4000000 in
theorem hforget_no (d : Nat) (g : List (List PW)) (n : Nat) (h : d + g.length ≤ 900) (hn : min n (d + g.length) ≤ d) : Con Try.prog 55 [.ad (.o 0) 0, .p (.int .u64 (n : Int))] (hH d g) (.tup []) (hH d g) [] := by
  have c2 := hnow_spec d g (by omega)
  refine con_of Try.func55 rfl (by kernel_rfl) rfl fun F w0 β0 => ?_
  refine K_tell rfl ?_
  refine go ?_
  refine K_op rfl rfl (opr_callS [.o 0, .o 1] rfl rfl (c2) rfl rfl rfl ⟨⟨rfl, rfl⟩, ⟨rfl, rfl⟩, trivial⟩ rfl rfl rfl rfl) rfl ?_
  refine go ?_
  rw [min_mm]
  refine K_condT rfl (decide_eq_true (by omega)) ?_
  refine go ?_
  exact J_done hT rfl rfl rfl
set_option maxHeartbeats 4000000 in
theorem hforget_yes (d : Nat) (g : List (List PW)) (n : Nat) (h : d + g.length ≤ 900) (hm1 : d < min n (d + g.length)) : Con Try.prog 55 [.ad (.o 0) 0, .p (.int .u64 (n : Int))] (hH d g) (.tup []) [hB (.o 2) (min n (d + g.length)) (g.drop (min n (d + g.length) - d)).length, hA g, hA (g.drop (min n (d + g.length) - d))] [] := by
  have c2 := hnow_spec d g (by omega)
  have hlen : (g.map prow).length = g.length := by simp
  have hm2 : min n (d + g.length) ≤ d + g.length := by omega
  have c1 := hClone_spec g (min n (d + g.length) - d) (by omega) (by omega)
  refine con_of Try.func55 rfl (by kernel_rfl) rfl fun F w0 β0 => ?_
  refine K_tell rfl ?_
  refine go ?_
  refine K_op rfl rfl (opr_callS [.o 0, .o 1] rfl rfl (c2) rfl rfl rfl ⟨⟨rfl, rfl⟩, ⟨rfl, rfl⟩, trivial⟩ rfl rfl rfl rfl) rfl ?_
  refine go ?_
  rw [min_mm]
  generalize min n (d + g.length) = m at hm1 hm2 c1
  generalize g.drop (m - d) = g2 at c1
  refine K_condF rfl (decide_eq_false (by omega)) ?_
  refine go ?_
  refine J_drawH [[hB (.o 1) d g.length, hA g], [hB (.o 1) d g.length, hA g], [hB (.o 2) d g2.length, hA g, hA g2]] [[], [hA g2], [.dead]] [12, 15] (by kernel_rfl) (by kernel_rfl) rfl rfl ?_
  refine gdH ?_
  rw [show IntKind.u64.wrap ((m : Int) - d) = ((m - d : Nat) : Int) by rw [u64_in _ (by omega)]; omega]
  refine T_opH rfl rfl rfl rfl rfl rfl (opr_cut_full hT rfl rfl rfl rfl (Rd.full rfl hlen) rfl hlen (by omega) (prow_size g)) rfl ?_
  refine T_stH rfl rfl rfl rfl rfl rfl (opr_callS [.o 1] rfl rfl c1 rfl rfl rfl ⟨⟨rfl, rfl⟩, trivial⟩ rfl rfl rfl rfl) rfl ?_
  refine gdH ?_
  refine T_stH rfl rfl rfl rfl rfl rfl (opr_adoptThen 0 rfl rfl (stepG_ok hT rfl)) rfl ?_
  refine gdH ?_
  refine go ?_
  exact J_done hT rfl rfl rfl
end Go.Proofs.Ytbdijekfplpnlaa

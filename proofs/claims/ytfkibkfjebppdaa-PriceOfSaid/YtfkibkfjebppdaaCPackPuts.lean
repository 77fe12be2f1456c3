/- The law PackPuts: its contract. -/
import Derived.Test.YtfkibkfjebppdaaGo
import Derived.Test.YtfkibkfjebppdaaCPackGets
-- @N
namespace Go.Proofs.Ytfkibkfjebppdaa
open Go.Awp
theorem bs_accV (l : List UInt8) : Bs (accV .cz (bv l)) l := by
  cases l with
  | nil => exact .cz
  | cons b l => exact .ps (b :: l)
theorem opr_move_to {P : Program} {env : Env} {H L : List AObj} {o : Oper} {x : Operand} (y : TV) (ho : o.op = .move x ∨ o.op = .assign x) (he : evA env x = y) : OpR P o env H L y H L := by
  subst he
  exact opr_move ho
namespace packPuts
set_option maxHeartbeats 8000000 in
theorem con {a0 a1 a2 a3 : AV} (s0 : Shp tab 8 40 a0) (s1 : Shp tab 8 3 a1) (s2 : Shp tab 8 41 a2) (s3 : Shp tab 8 9 a3) : Con Try.prog 9 [.p a0, .p a1, .p a2, .p a3] [] (.p (.bool true)) [] [] := by
  obtain ⟨l, hs, hl⟩ := shp_bytes s0
  obtain ⟨w, rfl, _⟩ := s1.int rfl
  obtain ⟨v, rfl, hv⟩ := s2.int rfl
  obtain ⟨m, rfl, hm⟩ := s3.str rfl
  change 0 ≤ v ∧ v ≤ 18446744073709551615 at hv
  unfold Go.Awp.reach at hm
  have hbig : l.length ≤ big := by unfold big; omega
  have p1 := put_own (bs_accV l) w v hv.1 hbig []
  have p2 := puttext_own (bs_accV l) m hbig (by omega) []
  have p3 := (rput_spec hs w v hv hbig []).freeze (by simp [beB_len])
  have p4 := rputtext_spec hs m hbig (by omega) []
  generalize hB : l ++ beB (wide w).toNat v = B at p1 p3
  generalize hC : l ++ txt m = C at p2 p4
  have hBl : (bv B).length = l.length + (wide w).toNat := by rw [← hB]; simp [beB_len]
  have hCl : (bv C).length = l.length + (1 + min m.length 255) := by rw [← hC]; simp [txt]; omega
  generalize l.length + (wide w).toNat = nB at p1 hBl
  generalize l.length + (1 + min m.length 255) = nC at p2 hCl
  refine con_of Try.func9 rfl (by kernel_rfl) rfl fun F w0 β0 => ?_
  refine goN ?_
  refine J_op rfl rfl (opr_len_rd hT rfl rfl hs.rd) ?_
  refine goN ?_
  refine J_split 15 rfl (fun hc => ?_) (fun hc => ?_)
  · refine goN ?_
    refine J_cond rfl (fun _ => ?_) (fun h => Bool.noConfusion h)
    refine goN ?_
    refine J_op rfl rfl (opr_call0 rfl rfl rfl rfl rfl (fixed03_spec [])) ?_
    refine goN ?_
    exact J_done hT rfl rfl rfl
  refine goN ?_
  refine J_cond rfl (fun hd => ?_) (fun hd => ?_)
  · refine goN ?_
    refine J_op rfl rfl (opr_call0 rfl rfl rfl rfl rfl (fixed03_spec [])) ?_
    refine goN ?_
    exact J_done hT rfl rfl rfl
  refine goN ?_
  refine J_op rfl rfl (opr_lit0 hT rfl rfl rfl) ?_
  refine goN ?_
  refine J_op rfl rfl (opr_app_acc (L0 := []) (acc := []) hT rfl rfl rfl (.inr rfl) rfl rfl (.rd hs.rd) hs.not (bv_cl l) (bv_size l) (by decide) (by decide) (by simp; omega)) ?_
  refine J_op rfl rfl (stepA_ok hT rfl) ?_
  refine J_nil ?_
  refine J_then ?_
  refine J_freeze_acc0 9 (L0 := []) (e := 5) (sz := 1) (acc := bv l) rfl rfl ?_
  refine J_take 0 [(0, .p a0), (1, .p (.int .i64 w)), (2, .p (.int .u64 v)), (3, .p (.str m)), (9, .p (accV .cz (bv l)))] ⟨rfl, rfl, rfl, rfl, rfl, trivial⟩ rfl rfl ?_
  refine goN ?_
  refine J_op rfl rfl (opr_call rfl rfl rfl rfl p1) ?_
  refine goN ?_
  refine J_op rfl rfl (opr_call rfl rfl rfl rfl p2) ?_
  refine goN ?_
  refine J_weak [(0, .p a0), (1, .p (.int .i64 w)), (2, .p (.int .u64 v)), (3, .p (.str m)), (9, .p (accV .cz (bv l))), (10, .sl (.l 0) nB 0 nB), (11, .sl (.l 1) nC 0 nC)] ⟨rfl, rfl, rfl, rfl, rfl, rfl, rfl, trivial⟩ ?_
  have r1 : Rd [] [AObj.arr 5 true 1 (bv B), AObj.arr 5 true 1 (bv C)] (.sl (.l 0) nB 0 nB) (bv B) := Rd.full rfl hBl
  have r2 : Rd [] [AObj.arr 5 true 1 (bv B), AObj.arr 5 true 1 (bv C)] (.sl (.l 1) nC 0 nC) (bv C) := Rd.full rfl hCl
  refine J_draw [[AObj.arr 5 true 1 (bv B), AObj.arr 5 true 1 (bv C)]] [] (by kernel_rfl) (by kernel_rfl) rfl ?_
  repeat (first | refine T_nil ?_ | refine T_no rfl rfl rfl rfl ?_ | refine T_yes rfl rfl rfl rfl rfl rfl (stepN_ok hT rfl) rfl ?_ | refine T_op rfl rfl rfl rfl rfl (stepN_ok hT rfl) rfl ?_)
  refine T_op rfl rfl rfl rfl rfl (opr_to_str hT rfl rfl rfl rfl rfl r1) rfl ?_
  refine T_op rfl rfl rfl rfl rfl (opr_move_to (.p a0) (.inl rfl) rfl) rfl ?_
  repeat (first | refine T_nil ?_ | refine T_no rfl rfl rfl rfl ?_ | refine T_yes rfl rfl rfl rfl rfl rfl (stepN_ok hT rfl) rfl ?_ | refine T_op rfl rfl rfl rfl rfl (stepN_ok hT rfl) rfl ?_)
  refine T_op rfl rfl rfl rfl rfl (opr_call0 rfl rfl rfl rfl rfl p3) rfl ?_
  refine T_op rfl rfl rfl rfl rfl (opr_to_str hT rfl rfl rfl rfl rfl (.ps _)) rfl ?_
  repeat (first | refine T_nil ?_ | refine T_no rfl rfl rfl rfl ?_ | refine T_yes rfl rfl rfl rfl rfl rfl (stepN_ok hT rfl) rfl ?_ | refine T_op rfl rfl rfl rfl rfl (stepN_ok hT rfl) rfl ?_)
  refine T_false 8 rfl (by simp) rfl ?_
  repeat (first | refine T_nil ?_ | refine T_no rfl rfl rfl rfl ?_ | refine T_yes rfl rfl rfl rfl rfl rfl (stepN_ok hT rfl) rfl ?_ | refine T_op rfl rfl rfl rfl rfl (stepN_ok hT rfl) rfl ?_)
  refine T_yes rfl rfl rfl rfl rfl rfl (opr_to_str hT rfl rfl rfl rfl rfl r2) rfl ?_
  refine T_yes rfl rfl rfl rfl rfl rfl (opr_move_to (.p a0) (.inl rfl) rfl) rfl ?_
  repeat (first | refine T_nil ?_ | refine T_no rfl rfl rfl rfl ?_ | refine T_yes rfl rfl rfl rfl rfl rfl (stepN_ok hT rfl) rfl ?_ | refine T_op rfl rfl rfl rfl rfl (stepN_ok hT rfl) rfl ?_)
  refine T_yes rfl rfl rfl rfl rfl rfl (opr_call0 rfl rfl rfl rfl rfl p4) rfl ?_
  refine T_yes rfl rfl rfl rfl rfl rfl (opr_to_str hT rfl rfl rfl rfl rfl (.ps _)) rfl ?_
  repeat (first | refine T_nil ?_ | refine T_no rfl rfl rfl rfl ?_ | refine T_yes rfl rfl rfl rfl rfl rfl (stepN_ok hT rfl) rfl ?_ | refine T_op rfl rfl rfl rfl rfl (stepN_ok hT rfl) rfl ?_)
  refine T_false 17 rfl (by simp) rfl ?_
  refine T_yes rfl rfl rfl rfl rfl rfl (opr_move_to (.p (accV .cz (bv l))) (.inl rfl) rfl) rfl ?_
  refine T_yes rfl rfl rfl rfl rfl rfl (opr_to_str hT rfl rfl rfl rfl rfl (bs_accV l).rd) rfl ?_
  refine T_yes rfl rfl rfl rfl rfl rfl (opr_move_to (.p a0) (.inl rfl) rfl) rfl ?_
  refine T_yes rfl rfl rfl rfl rfl rfl (opr_to_str hT rfl rfl rfl rfl rfl hs.rd) rfl ?_
  repeat (first | refine T_nil ?_ | refine T_no rfl rfl rfl rfl ?_ | refine T_yes rfl rfl rfl rfl rfl rfl (stepN_ok hT rfl) rfl ?_ | refine T_op rfl rfl rfl rfl rfl (stepN_ok hT rfl) rfl ?_)
  refine J_weak [(0, .p a0), (9, .p (accV .cz (bv l))), (10, .sl (.l 0) nB 0 nB), (11, .sl (.l 1) nC 0 nC), (54, .p (.bool false))] ⟨rfl, rfl, rfl, rfl, ?_, trivial⟩ ?_
  · show TV.p (.bool _) = _
    simp
  refine J_then ?_
  change J _ _ _ [AObj.arr 5 true 1 (bv B), AObj.arr 5 true 1 (bv C)] _
  refine J_cond rfl (fun h => Bool.noConfusion h) (fun _ => ?_)
  refine goN ?_
  refine J_op rfl rfl (opr_clear hT rfl rfl rfl rfl rfl rfl hBl) ?_
  refine goN ?_
  refine J_op rfl rfl (opr_clear hT rfl rfl rfl rfl rfl rfl hCl) ?_
  refine goN ?_
  refine J_op rfl rfl (opr_call0 rfl rfl rfl rfl rfl (fixed03_spec [])) ?_
  refine goN ?_
  refine J_yes rfl rfl rfl (opr_to_str hT rfl rfl rfl rfl rfl (bs_accV l).rd) ?_
  refine goN ?_
  refine J_yes rfl rfl rfl (opr_to_str hT rfl rfl rfl rfl rfl hs.rd) ?_
  refine goN ?_
  refine J_true 8 rfl (by simp) ?_
  exact J_done hT rfl rfl rfl
end packPuts
end Go.Proofs.Ytfkibkfjebppdaa

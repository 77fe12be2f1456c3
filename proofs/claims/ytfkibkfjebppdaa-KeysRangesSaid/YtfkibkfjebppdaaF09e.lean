/- keys.Split and the reference's. -/
import Derived.Test.YtfkibkfjebppdaaGo
import Derived.Test.YtfkibkfjebppdaaF09d
import Derived.Test.YtfkibkfjebppdaaCNodeGets
namespace Go.Proofs.Ytfkibkfjebppdaa
open Go.Awp
/-- What a text was made of. -/
def splitK (l : List UInt8) : Int × Int × List UInt8 × Int :=
  if l.length < 5 then (0, 0, [], 0) else
  if b0 l = 73 ∧ l.drop 5 = [] then (73, gF l 1, [], 0) else
  if b0 l = 69 ∧ l.drop 5 ≠ [] ∧ (l.drop 5).length ≤ 32 then (69, gF l 1, l.drop 5, 0) else
  if b0 l = 68 ∧ (l.drop 5).length = 2 then (68, gF l 1, [], beV (l.drop 5)) else (0, 0, [], 0)
def splitT (r : Int × Int × List UInt8 × Int) : TV := .tup [.p (.int .u8 r.1), .p (.int .u32 r.2.1), .p (.str r.2.2.1), .p (.int .i64 r.2.2.2)]
theorem mm_min (n : Nat) (h : 1 ≤ n) : mmA .min 1 (n : Int) = 1 := by unfold mmA; simp only []; rw [if_neg (by omega)]
theorem beV_2 {l : List UInt8} (h : l.length = 2) : 0 ≤ beV l ∧ beV l < 65536 := by
  have := beV_bound l
  rw [h] at this
  exact this
theorem get2 (l : List UInt8) (h : (l.drop 5).length = 2) (hl : l.length ≤ 140737488355328) : Con Try.prog 27 [.p (.ps (bv l)), .p (.int .i64 5), .p (.int .i64 2)] [] (.tup [.p (.int .u64 (beV (l.drop 5))), .p (.int .i64 7), .p (.int .i64 0)]) [] [] := by
  have p1 := get_spec (.ps l) 5 2 (by decide) hl []
  have hl7 : l.length = 7 := by simp at h; omega
  rw [show (wide 2).toNat = 2 by decide] at p1
  unfold getR at p1
  rw [if_neg (by omega), if_neg (by omega), show ((l.drop (5 : Int).toNat).take 2) = l.drop 5 from List.take_of_length_le (by simp; omega)] at p1
  exact p1
theorem get0 (l : List UInt8) (h : l.length < 5) : ∃ a, 0 ≤ a ∧ mmA .min 1 (l.length : Int) = a ∧ Con Try.prog 27 [.p (.ps (bv l)), .p (.int .i64 a), .p (.int .i64 4)] [] (.tup [.p (.int .u64 0), .p (.int .i64 0), .p (.int .i64 3)]) [] [] := by
  refine ⟨mmA .min 1 (l.length : Int), by unfold mmA; simp only []; split <;> omega, rfl, ?_⟩
  have hm : mmA .min 1 (l.length : Int) ≤ l.length ∧ 0 ≤ mmA .min 1 (l.length : Int) ∧ (l.length : Int) - mmA .min 1 (l.length : Int) < 4 := by unfold mmA; simp only []; split <;> omega
  generalize mmA .min 1 (l.length : Int) = a at hm
  have p1 := get_spec (.ps l) a 4 (by omega) (by omega) []
  rw [show (wide 4).toNat = 4 by decide] at p1
  unfold getR at p1
  rw [if_neg (by omega), if_pos (by omega)] at p1
  exact p1
theorem b0_get {l : List UInt8} (h : ¬ l.length < 5) : l[0]? = some (l.headD 0) := by
  cases l with
  | nil => simp at h
  | cons b r => rfl
set_option maxHeartbeats 4000000 in
theorem ksplit_spec (l : List UInt8) (hl : l.length ≤ 140737488355328) : Con Try.prog 47 [.p (.str l)] [] (splitT (splitK l)) [] [] := by
  by_cases h5 : l.length < 5
  · have e : splitK l = (0, 0, [], 0) := by unfold splitK; rw [if_pos h5]
    rw [e]
    obtain ⟨a, _, ha, c1⟩ := get0 l h5
    refine con_of Try.func47 rfl (by kernel_rfl) rfl fun F w0 β0 => ?_
    refine K_tell rfl ?_
    refine go ?_
    refine J_val 20 _ rfl (congrArg (fun z => TV.p (.int .i64 z)) (show mmA .min 1 ((bv l).length : Int) = a by rw [bv_length]; exact ha)) ?_
    refine K_op rfl rfl (opr_callP rfl rfl (c1) rfl rfl rfl rfl) rfl ?_
    refine go ?_
    exact J_done hT rfl rfl rfl
  have c1 := get4 l 1 (by omega) hl
  have g1 := gF_bd l 1
  have hb := b0_get h5
  have hb0 : b0 l = ((l.headD 0).toNat : Int) := rfl
  have hcut : (l.drop (5 : Int).toNat).take ((l.length : Int).toNat - (5 : Int).toNat) = l.drop 5 := List.take_of_length_le (by simp)
  have w1 : IntKind.u32.wrap (gF l 1) = gF l 1 := u32_in _ g1
  have hm := mm_min l.length (by omega)
  generalize hx : ((l.headD 0).toNat : Int) = x at hb0
  have hb1 : TV.p (AV.int .u8 ((l.headD 0).toNat : Int)) = .p (.int .u8 x) := by rw [hx]
  refine con_of Try.func47 rfl (by kernel_rfl) rfl fun F w0 β0 => ?_
  refine K_tell rfl ?_
  refine go ?_
  refine J_val 20 _ rfl (congrArg (fun z => TV.p (.int .i64 z)) (show mmA .min 1 ((bv l).length : Int) = ((1 : Nat) : Int) by rw [bv_length]; exact hm)) ?_
  refine K_op rfl rfl (opr_callP rfl rfl (c1) rfl rfl rfl rfl) rfl ?_
  refine go ?_
  refine K_op rfl rfl (opr_cut_str hT rfl rfl rfl rfl rfl (by decide) (by show (5 : Int) ≤ _; omega) (by omega)) rfl ?_
  refine J_val 29 (.p (.str (l.drop 5))) rfl (congrArg (fun z => TV.p (.str z)) hcut) ?_
  refine go ?_
  refine K_op rfl rfl (opr_byte hT rfl rfl rfl rfl (by decide) hb) rfl ?_
  refine J_val 32 _ rfl hb1 ?_
  refine go ?_
  refine J_cond rfl (fun hc => ?_) (fun hc => ?_)
  · have hc1 : x = 73 ∧ l.drop 5 = [] := by simpa using hc
    have e : splitK l = (73, gF l 1, [], 0) := by unfold splitK; rw [if_neg h5, hb0, if_pos hc1]
    rw [e]
    refine go ?_
    refine J_val 3 _ rfl (congrArg (fun z => TV.p (.int .u32 z)) w1) ?_
    exact J_done hT rfl rfl rfl
  have hc1 : ¬ (x = 73 ∧ l.drop 5 = []) := by intro h; rw [h.1, h.2] at hc; simp at hc
  refine go ?_
  refine K_op rfl rfl (opr_byte hT rfl rfl rfl rfl (by decide) hb) rfl ?_
  refine J_val 42 _ rfl hb1 ?_
  refine go ?_
  refine J_cond rfl (fun hd => ?_) (fun hd => ?_)
  · have hd1 : x = 69 ∧ l.drop 5 ≠ [] ∧ (l.drop 5).length ≤ 32 := by
      simp only [Bool.and_eq_true, beq_iff_eq, Bool.not_eq_true', beq_eq_false_iff_ne, decide_eq_true_eq] at hd
      exact ⟨hd.1.1, hd.1.2, by omega⟩
    have e : splitK l = (69, gF l 1, l.drop 5, 0) := by unfold splitK; rw [if_neg h5, hb0, if_neg hc1, if_pos hd1]
    rw [e]
    refine go ?_
    refine J_val 3 _ rfl (congrArg (fun z => TV.p (.int .u32 z)) w1) ?_
    exact J_done hT rfl rfl rfl
  have hd1 : ¬ (x = 69 ∧ l.drop 5 ≠ [] ∧ (l.drop 5).length ≤ 32) := by
    intro h
    have : ((l.drop 5).length : Int) ≤ 32 := by omega
    have h6 : 0 < (l.drop 5).length := List.length_pos_iff.2 h.2.1
    simp at h6 this
    simp [h.1] at hd
    omega
  refine go ?_
  refine K_op rfl rfl (opr_byte hT rfl rfl rfl rfl (by decide) hb) rfl ?_
  refine J_val 58 _ rfl hb1 ?_
  refine go ?_
  refine J_cond rfl (fun he => ?_) (fun he => ?_)
  · have he1 : x = 68 ∧ (l.drop 5).length = 2 := by
      simp only [Bool.and_eq_true, beq_iff_eq] at he
      exact ⟨he.1, by omega⟩
    have e : splitK l = (68, gF l 1, [], beV (l.drop 5)) := by unfold splitK; rw [if_neg h5, hb0, if_neg hc1, if_neg hd1, if_pos he1]
    have b2 := beV_2 he1.2
    rw [e]
    refine go ?_
    refine K_op rfl rfl (opr_callP rfl rfl (get2 l he1.2 hl) rfl rfl rfl rfl) rfl ?_
    refine go ?_
    refine J_val 3 _ rfl (congrArg (fun z => TV.p (.int .u32 z)) w1) ?_
    refine J_val 5 _ rfl (congrArg (fun z => TV.p (.int .i64 z)) (IntWalk.i64_in _ (by omega))) ?_
    exact J_done hT rfl rfl rfl
  · have he1 : ¬ (x = 68 ∧ (l.drop 5).length = 2) := by
      intro h
      have : ((l.drop 5).length : Int) = 2 := by omega
      simp [h.1] at he
      simp at this
      omega
    have e : splitK l = (0, 0, [], 0) := by unfold splitK; rw [if_neg h5, hb0, if_neg hc1, if_neg hd1, if_neg he1]
    rw [e]
    refine go ?_
    exact J_done hT rfl rfl rfl
set_option maxHeartbeats 4000000 in
theorem rsplit_spec (l : List UInt8) (hl : l.length ≤ 140737488355328) : Con Try.prog 38 [.p (.str l)] [] (splitT (splitK l)) [] [] := by
  by_cases h5 : l.length < 5
  · have e : splitK l = (0, 0, [], 0) := by unfold splitK; rw [if_pos h5]
    rw [e]
    refine con_of Try.func38 rfl (by kernel_rfl) rfl fun F w0 β0 => ?_
    refine K_tell rfl ?_
    refine go ?_
    refine J_true 12 rfl (by simp; omega) ?_
    refine go ?_
    exact J_done hT rfl rfl rfl
  have c1 := rget4 l 1 (by omega) hl
  have g1 := gF_bd l 1
  have hb := b0_get h5
  have hb0 : b0 l = ((l.headD 0).toNat : Int) := rfl
  have hcut : (l.drop (5 : Int).toNat).take ((l.length : Int).toNat - (5 : Int).toNat) = l.drop 5 := List.take_of_length_le (by simp)
  have w1 : IntKind.u32.wrap (gF l 1) = gF l 1 := u32_in _ g1
  generalize hx : ((l.headD 0).toNat : Int) = x at hb0
  have hb1 : TV.p (AV.int .u8 ((l.headD 0).toNat : Int)) = .p (.int .u8 x) := by rw [hx]
  refine con_of Try.func38 rfl (by kernel_rfl) rfl fun F w0 β0 => ?_
  refine K_tell rfl ?_
  refine go ?_
  refine J_false 12 rfl (by simp; omega) ?_
  refine go ?_
  refine K_op rfl rfl (opr_callP rfl rfl (c1) rfl rfl rfl rfl) rfl ?_
  refine go ?_
  refine K_op rfl rfl (opr_cut_str hT rfl rfl rfl rfl rfl (by decide) (by show (5 : Int) ≤ _; omega) (by omega)) rfl ?_
  refine J_val 21 (.p (.str (l.drop 5))) rfl (congrArg (fun z => TV.p (.str z)) hcut) ?_
  refine go ?_
  refine K_op rfl rfl (opr_byte hT rfl rfl rfl rfl (by decide) hb) rfl ?_
  refine J_val 23 _ rfl hb1 ?_
  refine go ?_
  refine J_cond rfl (fun hc => ?_) (fun hc => ?_)
  · have hc0 : x = 73 := by simpa using hc
    refine go ?_
    refine J_cond rfl (fun hd => ?_) (fun hd => ?_)
    · have hc1 : x = 73 ∧ l.drop 5 = [] := by
        refine ⟨hc0, List.eq_nil_of_length_eq_zero ?_⟩
        have := of_decide_eq_true hd
        omega
      have e : splitK l = (73, gF l 1, [], 0) := by unfold splitK; rw [if_neg h5, hb0, if_pos hc1]
      rw [e]
      refine go ?_
      refine J_val 3 _ rfl (congrArg (fun z => TV.p (.int .u32 z)) w1) ?_
      exact J_done hT rfl rfl rfl
    · have hne : l.drop 5 ≠ [] := by
        intro h
        rw [h] at hd
        simp at hd
      have e : splitK l = (0, 0, [], 0) := by unfold splitK; rw [if_neg h5, hb0, hc0]; simp [hne]
      rw [e]
      refine go ?_
      exact J_done hT rfl rfl rfl
  have hc0 : ¬ x = 73 := by simpa using hc
  refine go ?_
  refine J_cond rfl (fun hd => ?_) (fun hd => ?_)
  · have hd0 : x = 69 := by simpa using hd
    refine go ?_
    refine J_cond rfl (fun he => ?_) (fun he => ?_)
    · have hd1 : x = 69 ∧ l.drop 5 ≠ [] ∧ (l.drop 5).length ≤ 32 := by
        simp only [Bool.and_eq_true, decide_eq_true_eq] at he
        refine ⟨hd0, fun h => ?_, by omega⟩
        rw [h] at he
        simp at he
      have e : splitK l = (69, gF l 1, l.drop 5, 0) := by unfold splitK; rw [if_neg h5, hb0, if_neg (by omega), if_pos hd1]
      rw [e]
      refine go ?_
      refine J_val 3 _ rfl (congrArg (fun z => TV.p (.int .u32 z)) w1) ?_
      exact J_done hT rfl rfl rfl
    · have hd1 : ¬ (x = 69 ∧ l.drop 5 ≠ [] ∧ (l.drop 5).length ≤ 32) := by
        intro h
        simp only [Bool.and_eq_false_iff, decide_eq_false_iff_not] at he
        have : 0 < (l.drop 5).length := List.length_pos_iff.2 h.2.1
        omega
      have e : splitK l = (0, 0, [], 0) := by unfold splitK; rw [if_neg h5, hb0, if_neg (by omega), if_neg hd1, if_neg (by omega)]
      rw [e]
      refine go ?_
      exact J_done hT rfl rfl rfl
  have hd0 : ¬ x = 69 := by simpa using hd
  refine go ?_
  refine J_cond rfl (fun he => ?_) (fun he => ?_)
  · have he0 : x = 68 := by simpa using he
    refine go ?_
    refine J_cond rfl (fun hf => ?_) (fun hf => ?_)
    · have he1 : x = 68 ∧ (l.drop 5).length = 2 := by
        have := of_decide_eq_true hf
        exact ⟨he0, by omega⟩
      have e : splitK l = (68, gF l 1, [], beV (l.drop 5)) := by unfold splitK; rw [if_neg h5, hb0, if_neg (by omega), if_neg (by omega), if_pos he1]
      rw [e]
      have h2 := he1.2
      generalize l.drop 5 = m at h2
      match m, h2 with
      | [u, v], _ =>
      have hu := u.toNat_lt
      have hv := v.toNat_lt
      have ev : IntKind.i64.wrap (IntKind.i64.wrap (256 * IntKind.i64.wrap (u.toNat : Int)) + IntKind.i64.wrap (v.toNat : Int)) = beV [u, v] := by
        rw [IntWalk.i64_in (u.toNat : Int) (by omega), IntWalk.i64_in (v.toNat : Int) (by omega), IntWalk.i64_in (256 * (u.toNat : Int)) (by omega), IntWalk.i64_in _ (by omega)]
        simp [beV]
      refine K_only [2, 3, 4, 5, 6, 9] rfl ?_
      refine J_seq ?_
      refine J_draw [[]] [] (by kernel_rfl) (by kernel_rfl) rfl ?_
      repeat (first | refine T_nil ?_ | refine T_no rfl rfl rfl rfl ?_ | refine T_yes rfl rfl rfl rfl rfl rfl (stepN_ok hT rfl) rfl ?_ | refine T_op rfl rfl rfl rfl rfl (stepN_ok hT rfl) rfl ?_)
      refine T_op rfl rfl rfl rfl rfl (opr_byte (b := u) hT rfl rfl rfl rfl (by decide) rfl) rfl ?_
      repeat (first | refine T_nil ?_ | refine T_no rfl rfl rfl rfl ?_ | refine T_yes rfl rfl rfl rfl rfl rfl (stepN_ok hT rfl) rfl ?_ | refine T_op rfl rfl rfl rfl rfl (stepN_ok hT rfl) rfl ?_)
      refine T_op rfl rfl rfl rfl rfl (opr_byte (b := v) hT rfl rfl rfl rfl (by decide) rfl) rfl ?_
      repeat (first | refine T_nil ?_ | refine T_no rfl rfl rfl rfl ?_ | refine T_yes rfl rfl rfl rfl rfl rfl (stepN_ok hT rfl) rfl ?_ | refine T_op rfl rfl rfl rfl rfl (stepN_ok hT rfl) rfl ?_)
      refine J_then ?_
      refine K_tell rfl ?_
      refine go ?_
      refine J_val 3 _ rfl (congrArg (fun z => TV.p (.int .u32 z)) w1) ?_
      refine J_val 5 _ rfl (congrArg (fun z => TV.p (.int .i64 z)) ev) ?_
      exact J_done hT rfl rfl rfl
    · have he1 : ¬ (x = 68 ∧ (l.drop 5).length = 2) := by
        intro h
        have := of_decide_eq_false hf
        omega
      have e : splitK l = (0, 0, [], 0) := by unfold splitK; rw [if_neg h5, hb0, if_neg (by omega), if_neg (by omega), if_neg he1]
      rw [e]
      refine go ?_
      exact J_done hT rfl rfl rfl
  · have he0 : ¬ x = 68 := by simpa using he
    have e : splitK l = (0, 0, [], 0) := by unfold splitK; rw [if_neg h5, hb0, if_neg (by omega), if_neg (by omega), if_neg (by omega)]
    rw [e]
    refine go ?_
    exact J_done hT rfl rfl rfl
end Go.Proofs.Ytfkibkfjebppdaa

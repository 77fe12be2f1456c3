/- The law NamesSplit: its contract. -/
import Derived.Test.YtjibchohkeljkaaDoorGo
import Derived.Test.YtjibchohkeljkaaDoorM8
-- @D
namespace Go.Proofs.YtjibchohkeljkaaDoor
set_option maxRecDepth 20000
open Go.Awp Tr
theorem head_cons {l : List UInt8} (hne : l ≠ []) (h : l.headD 0 = 47) : 47 :: l.drop 1 = l := by
  cases l with
  | nil => exact absurd rfl hne
  | cons b r => simp at h; rw [h]; rfl
/-- What both splits tell. -/
theorem split_both (l : List UInt8) : ∃ (sv rv : AV) (p : List (List UInt8)) (e : Int), splitN l = (sv, e) ∧ rsplitN l = (rv, e) ∧ Sl .str sv p ∧ (∀ L, Rd [] L (.p rv) (p.map .str)) ∧ p.length ≤ 1000 ∧ (e = 0 → joinN p = (l, 0) ∧ (Lib.join p [47]).length ≤ 1000) := by
  unfold splitN rsplitN
  by_cases h1 : l = [] ∨ 255 < l.length
  · rw [if_pos h1, if_pos h1]
    exact ⟨_, _, [], 17, rfl, rfl, .nils, fun _ => .cz, by simp, fun h => by cases h⟩
  rw [if_neg h1, if_neg h1]
  by_cases h2 : l.headD 0 ≠ 47
  · rw [if_pos h2, if_pos h2]
    exact ⟨_, _, [], 15, rfl, rfl, .nils, fun _ => .cz, by simp, fun h => by cases h⟩
  rw [if_neg h2, if_neg h2]
  simp only [ne_eq, Decidable.not_not] at h2
  by_cases h3 : l = [47]
  · rw [if_pos h3, if_pos h3]
    subst h3
    exact ⟨_, _, [], 0, rfl, rfl, .nils, fun _ => .cz, by simp, fun _ => ⟨by rfl, by decide⟩⟩
  rw [if_neg h3, if_neg h3]
  have hbd : (spl 47 (l.drop 1)).length ≤ 1000 := by
    rw [spl_len]
    have h5 := count_le 47 (l.drop 1)
    have h6 : (l.drop 1).length ≤ l.length := by simp
    omega
  by_cases hm : mayN (spl 47 (l.drop 1)) = true
  · rw [if_pos hm, if_pos hm]
    refine ⟨_, _, spl 47 (l.drop 1), 0, rfl, rfl, .ps _, fun _ => .ps _, hbd, fun _ => ?_⟩
    have hh := head_cons (fun e => h1 (.inl e)) h2
    unfold joinN
    rw [join_spl, hh, hm]
    refine ⟨?_, by simp; omega⟩
    rw [if_neg (by simp; omega)]
  · rw [if_neg hm, if_neg hm]
    exact ⟨_, _, [], 17, rfl, rfl, .nils, fun _ => .cz, by simp, fun h => by cases h⟩
namespace namesSplit
set_option maxHeartbeats 8000000 in
theorem con {a0 : AV} (s0 : Shp tab 8 9 a0) : Con Tryd.prog 4 [.p a0] [] (.p (.bool true)) [] [] := by
  obtain ⟨l, rfl, hl⟩ := s0.str rfl
  have c1 := nsplit_spec l
  have c2 := rsplit16_spec l
  obtain ⟨sv, rv, p, e, e1, e2, hsv, hrv, hp, hj⟩ := split_both l
  rw [e1] at c1
  rw [e2] at c2
  have c3 := same16_spec sv rv p p (fun _ => hsv.rd _ _) hrv (by unfold big40; omega)
  rw [decide_eq_true rfl] at c3
  refine con_of Tryd.func4 rfl (by kernel_rfl) rfl fun F w0 β0 => ?_
  refine K_tell rfl ?_
  refine go ?_
  refine J_cond rfl (fun hc => ?_) (fun hc => ?_)
  · refine go ?_
    refine K_op rfl rfl (opr_callP rfl rfl (fixed16_spec) rfl rfl rfl rfl) rfl ?_
    refine go ?_
    exact J_done hT rfl rfl rfl
  refine go ?_
  refine K_op rfl rfl (opr_callP rfl rfl (c1) rfl rfl rfl rfl) rfl ?_
  refine go ?_
  refine K_op rfl rfl (opr_callP rfl rfl (c2) rfl rfl rfl rfl) rfl ?_
  refine go ?_
  refine K_op rfl rfl (opr_callP rfl rfl (fixed16_spec) rfl rfl rfl rfl) rfl ?_
  refine go ?_
  refine K_yes rfl rfl rfl (opr_callP rfl rfl (c3) rfl rfl rfl rfl) rfl ?_
  refine gx ?_
  rw [show (e != e) = false from by simp]
  refine go ?_
  by_cases he : e = 0
  · obtain ⟨hj1, hj2⟩ := hj he
    have c4 := njoin_spec hsv (by unfold big40; omega) (by omega)
    rw [hj1] at c4
    refine K_condF rfl (by simp [he]) ?_
    refine go ?_
    refine K_op rfl rfl (opr_callP rfl rfl (c4) rfl rfl rfl rfl) rfl ?_
    refine gx ?_
    rw [show (l == l) = true from beq_self_eq_true _]
    refine go ?_
    exact J_done hT rfl rfl rfl
  · refine K_condT rfl (by simp [he]) ?_
    refine go ?_
    exact J_done hT rfl rfl rfl
end namesSplit
end Go.Proofs.YtjibchohkeljkaaDoor

/- The law ClashMore: its contract. -/
import Derived.Test.YtbdijekfplpnlaaGo
import Derived.Test.YtbdijekfplpnlaaCClashIs
-- @D
namespace Go.Proofs.Ytbdijekfplpnlaa
set_option maxRecDepth 20000
open Go.Awp Tr
theorem hit_more {r q : List (List UInt8)} {g : List Rg} {k : List UInt8} (h : hitB r g k = true) : hitB (q ++ r) g k = true := by
  unfold hitB at h ⊢
  rw [List.any_append]
  revert h
  cases q.any fun x => k == x <;> simp
theorem clash_more {r q : List (List UInt8)} {g : List Rg} {w v : List PW} (h : clashB r g w = true) : clashB (q ++ r) g (v ++ w) = true := by
  unfold clashB at h ⊢
  rw [List.any_append, Bool.or_eq_true]
  right
  rw [List.any_eq_true] at h ⊢
  obtain ⟨p, hp, hh⟩ := h
  exact ⟨p, hp, hit_more hh⟩
namespace clashMore
set_option maxHeartbeats 8000000 in
theorem con {a0 a1 a2 a3 a4 : AV} (s0 : Shp tab 8 41 a0) (s1 : Shp tab 8 41 a1) (s2 : Shp tab 8 54 a2) (s3 : Shp tab 8 37 a3) (s4 : Shp tab 8 37 a4) : Con Try.prog 13 [.p a0, .p a1, .p a2, .p a3, .p a4] [] (.p (.bool true)) [] [] := by
  obtain ⟨l0, h0, _, m0⟩ := strs_shp s0
  obtain ⟨l1, h1, _, m1⟩ := strs_shp s1
  obtain ⟨l2, h2, _, m2⟩ := rgs_shp s2
  obtain ⟨l3, h3, _, m3⟩ := pws_shp s3
  obtain ⟨l4, h4, _, m4⟩ := pws_shp s4
  have n0 : (l0.map AV.str).length = l0.length := by simp
  have n1 : (l1.map AV.str).length = l1.length := by simp
  have n2 : (l2.map rgV).length = l2.length := by simp
  have n3 : (l3.map pwV).length = l3.length := by simp
  have n4 : (l4.map pwV).length = l4.length := by simp
  refine con_of Try.func13 rfl (by kernel_rfl) rfl fun F w0 β0 => ?_
  refine K_tell rfl ?_
  refine go ?_
  refine K_op rfl rfl (opr_len_rd hT rfl rfl (h0.rd _ _)) rfl ?_
  rw [n0]
  refine go ?_
  refine K_opt rfl rfl rfl need1 (fun _ => opr_len_rd hT rfl rfl (h2.rd _ _)) rfl ?_
  rw [n2]
  refine go ?_
  refine K_opt rfl rfl rfl need1 (fun _ => opr_len_rd hT rfl rfl (h3.rd _ _)) rfl ?_
  rw [n3]
  refine go ?_
  refine K_opt rfl rfl rfl need1 (fun _ => opr_len_rd hT rfl rfl (h1.rd _ _)) rfl ?_
  rw [n1]
  refine go ?_
  refine K_opt rfl rfl rfl need1 (fun _ => opr_len_rd hT rfl rfl (h4.rd _ _)) rfl ?_
  rw [n4]
  refine go ?_
  refine J_cond rfl (fun hc => ?_) (fun hc => ?_)
  · refine go ?_
    refine K_op rfl rfl (opr_callP rfl rfl (fixed21_spec) rfl rfl rfl rfl) rfl ?_
    refine go ?_
    exact J_done hT rfl rfl rfl
  simp only [Bool.or_eq_false_iff, decide_eq_false_iff_not] at hc
  have r0 := fun L => h0.rd [] L
  have r1 := fun L => h1.rd [] L
  have r2 := fun L => h2.rd [] L
  have r3 := fun L => h3.rd [] L
  have r4 := fun L => h4.rd [] L
  have c1 := clash_spec a0 a2 a3 l0 l2 l3 r0 r2 r3 (by unfold big40; omega) (by unfold big40; omega) (by unfold big40; omega)
  have hm := @clash_more l0 l1 l2 l3 l4
  generalize clashB l0 l2 l3 = b at c1 hm
  refine go ?_
  refine K_op rfl rfl (opr_callP rfl rfl (c1) rfl rfl rfl rfl) rfl ?_
  refine go ?_
  refine J_cond rfl (fun hb => ?_) (fun hb => ?_)
  · refine go ?_
    refine K_op rfl rfl (opr_callP rfl rfl (fixed21_spec) rfl rfl rfl rfl) rfl ?_
    refine go ?_
    exact J_done hT rfl rfl rfl
  refine go ?_
  refine K_opM rfl rfl (opr_app_acc (L0 := []) (acc := []) (rows := l1.map .str) hT rfl rfl rfl (.inr rfl) rfl rfl (.rd (h1.rd _ _)) h1.not (str_cl l1) (str_size l1) (by decide) (by decide) (by simp; omega)) rfl ?_
  refine go ?_
  refine K_opM rfl rfl (opr_app_acc (L0 := []) (acc := l1.map .str) (rows := l0.map .str) hT rfl rfl rfl (.inr rfl) rfl rfl (.rd (h0.rd _ _)) h0.not (str_cl l0) (str_size l0) (by decide) (by decide) (by simp; omega)) rfl ?_
  rw [← List.map_append]
  refine J_freeze_acc0 47 (L0 := []) rfl rfl ?_
  refine go ?_
  refine K_opM rfl rfl (opr_app_acc (L0 := accD ((l1 ++ l0).map .str)) (acc := []) (rows := l4.map pwV) hT rfl rfl (List.append_nil _).symm (.inr rfl) rfl rfl (.rd (h4.rd _ _)) h4.not (pw_cl l4) (pw_size l4) (by decide) (by decide) (by simp; omega)) rfl ?_
  refine go ?_
  refine K_opM rfl rfl (opr_app_acc (L0 := accD ((l1 ++ l0).map .str)) (acc := l4.map pwV) (rows := l3.map pwV) hT rfl rfl rfl (.inr rfl) rfl rfl (.rd (h3.rd _ _)) h3.not (pw_cl l3) (pw_size l3) (by decide) (by decide) (by simp; omega)) rfl ?_
  rw [← List.map_append]
  refine J_freeze_acc0 52 (L0 := accD ((l1 ++ l0).map .str)) rfl rfl ?_
  refine go ?_
  refine J_take 0 [(2, .p a2), (11, .p (accV .cz ((l1 ++ l0).map .str))), (12, .p (accV .cz ((l4 ++ l3).map pwV)))] ⟨rfl, rfl, rfl, trivial⟩ rfl rfl ?_
  refine go ?_
  refine K_op rfl rfl (opr_callP rfl rfl (fixed21_spec) rfl rfl rfl rfl) rfl ?_
  refine go ?_
  have c2 := clash_spec (accV .cz ((l1 ++ l0).map .str)) a2 (accV .cz ((l4 ++ l3).map pwV)) (l1 ++ l0) l2 (l4 ++ l3) (fun _ => accV_rd (.inr rfl)) r2 (fun _ => accV_rd (.inr rfl)) (by unfold big40; simp; omega) (by unfold big40; omega) (by unfold big40; simp; omega)
  rw [hm (by simpa using hb)] at c2
  refine K_yes rfl rfl rfl (opr_callP rfl rfl (c2) rfl rfl rfl rfl) rfl ?_
  refine go ?_
  exact J_done hT rfl rfl rfl
end clashMore
end Go.Proofs.Ytbdijekfplpnlaa

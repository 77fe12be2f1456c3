/- The reference's GetText; what the laws of chapter 03 fix. -/
import Derived.Test.YtfkibkfjebppdaaGo
import Derived.Test.YtfkibkfjebppdaaF03f
-- @OLD
namespace Go.Proofs.Ytfkibkfjebppdaa
open Go.Awp
structure RTxtI (l : List UInt8) (p v : Int) where
  i : Nat
  h : (i : Int) ≤ v
  h2 : p + i ≤ l.length
set_option maxHeartbeats 8000000 in
theorem rgettext_spec {s : AV} {l : List UInt8} (hs : Bs s l) (a b : Int) (ha : -9223372036854775808 ≤ a ∧ a ≤ 9223372036854775807) (hl : l.length ≤ 140737488355328) (H : List AObj) :
    Con Try.prog 30 [.p s, .p (.int .i64 a), .p (.int .i64 b)] H (textT (getTextR l a b)) H [] := by
  have hget := rget_spec hs a 1 ha hl H
  rw [show (wide 1).toNat = 1 by decide] at hget
  refine con_of Try.func30 rfl (by kernel_rfl) rfl fun F w0 β0 => ?_
  have hone := getR_one l a
  unfold getTextR
  generalize getR l a 1 = r at hget hone
  obtain ⟨v, p, er⟩ := r
  dsimp only at hone ⊢
  refine go0 ?_
  refine J_op rfl rfl (opr_call0 rfl rfl rfl rfl rfl hget) ?_
  refine go0 ?_
  refine J_cond rfl (fun hc => ?_) (fun hc => ?_)
  · have hc1 : er ≠ 0 := by simpa using hc
    rw [if_pos hc1]
    refine go0 ?_
    exact J_done hT rfl rfl rfl
  have hc1 : ¬ er ≠ 0 := by simpa using hc
  obtain ⟨h0, h1, hp, h2, h3⟩ : 0 ≤ a ∧ a < l.length ∧ p = a + 1 ∧ 0 ≤ v ∧ v < 256 := by rcases hone with h | h; exact absurd h hc1; exact h
  have ev : IntKind.i64.wrap v = v := IntWalk.i64_in _ (by omega)
  rw [if_neg hc1]
  refine go0 ?_
  refine J_cond rfl (fun hd => ?_) (fun hd => ?_)
  · have hd1 := of_decide_eq_true hd
    rw [ev] at hd1
    rw [if_pos hd1]
    refine go0 ?_
    exact J_done hT rfl rfl rfl
  have hd1 := of_decide_eq_false hd
  rw [ev] at hd1
  rw [if_neg hd1]
  refine go0 ?_
  refine J_loop (ι := RTxtI l p v) (fun i => [(0, .p s), (9, .p (.int .u64 v)), (10, .p (.int .i64 p)), (12, .p (.str ((l.drop p.toNat).take i.i))), (13, .p (.int .i64 i.i))]) (fun _ => H) (fun _ => []) (fun i => v.toNat - i.i) ⟨0, by omega, by omega⟩ ⟨rfl, rfl, rfl, rfl, rfl, trivial⟩ rfl rfl fun i => ?_
  obtain ⟨i, hi, hi2⟩ := i
  dsimp only
  refine go0 ?_
  refine J_cond rfl (fun hf => ?_) (fun hf => ?_)
  · have hf1 := of_decide_eq_true hf
    rw [ev] at hf1
    have e27 : IntKind.i64.wrap (p + (i : Int)) = p + (i : Int) := IntWalk.i64_in _ (by omega)
    refine go0 ?_
    refine J_op rfl rfl (opr_len_rd hT rfl rfl hs.rd) ?_
    rw [bv_length]
    refine go0 ?_
    refine J_cond rfl (fun hg => ?_) (fun hg => ?_)
    · have hg1 := of_decide_eq_true hg
      rw [e27] at hg1
      rw [if_pos (by omega)]
      refine go0 ?_
      exact J_done hT rfl rfl rfl
    · have hg1 := of_decide_eq_false hg
      rw [e27] at hg1
      have hk : l[(p + (i : Int)).toNat]? = some (l[(p + (i : Int)).toNat]'(by omega)) := List.getElem?_eq_getElem _
      generalize l[(p + (i : Int)).toNat]'(by omega) = q at hk
      have htk : (l.drop p.toNat).take (i + 1) = (l.drop p.toNat).take i ++ [q] := by
        rw [List.take_add_one, List.getElem?_drop, show p.toNat + i = (p + (i : Int)).toNat by omega, hk]; rfl
      refine go0 ?_
      refine J_val 44 _ rfl (congrArg (fun z => TV.p (.int .i64 z)) e27) ?_
      refine J_op rfl rfl (opr_index hT rfl rfl rfl rfl rfl hs.rd (by omega) (by rw [bv_length]; omega)) ?_
      refine J_op rfl rfl (opr_load_el hT rfl rfl hs.rd (by rw [bv_get, hk]; rfl) rfl rfl) ?_
      refine go0 ?_
      refine J_op rfl rfl (opr_to_str (l := [q]) hT rfl rfl rfl rfl rfl (.ps _)) ?_
      refine J_op rfl rfl (opr_cat rfl rfl rfl (by simp; omega)) ?_
      refine go0 ?_
      have e24 : IntKind.i64.wrap ((i : Int) + 1) = ((i + 1 : Nat) : Int) := by rw [IntWalk.i64_in _ (by omega)]; rfl
      exact J_again (ι := RTxtI l p v) (i := ⟨i, hi, hi2⟩) ⟨i + 1, by omega, by omega⟩ (by dsimp only; omega) ⟨rfl, rfl, rfl, congrArg (fun z => TV.p (.str z)) htk.symm, congrArg (fun z => TV.p (.int .i64 z)) e24, trivial⟩ rfl rfl
  · have hf1 := of_decide_eq_false hf
    rw [ev] at hf1
    have hiv : v.toNat = i := by omega
    rw [if_neg (by omega), hiv]
    have e45 : IntKind.i64.wrap (p + IntKind.i64.wrap v) = p + v := by rw [ev, IntWalk.i64_in _ (by omega)]
    refine go0 ?_
    refine J_val 7 _ rfl (congrArg (fun z => TV.p (.int .i64 z)) e45) ?_
    exact J_done hT rfl rfl rfl
set_option maxHeartbeats 4000000 in
theorem fixed03_spec (H : List AObj) : Con Try.prog 26 [] H (.p (.bool true)) H [] := by
  have h1 := gettext_spec (s := .ps (bv [2, 97, 98])) (.ps [2, 97, 98]) 0 5 (by decide) (by decide) H
  rw [show getTextR [2, 97, 98] 0 5 = ([97, 98], 3, 0) by rfl] at h1
  have h2 := put_spec .nils 2 258 (by decide) (by decide) H
  rw [show ([] ++ beB (wide 2).toNat 258 : List UInt8) = [1, 2] by rfl] at h2
  refine con_of Try.func26 rfl (by kernel_rfl) rfl fun F w0 β0 => ?_
  refine J_seq ?_
  refine J_region ?_
  refine J_op rfl rfl (stepA_ok hT rfl) ?_
  refine J_nil ?_
  refine J_then ?_
  refine J_seq ?_
  refine J_region ?_
  refine J_litmark hT rfl rfl rfl rfl rfl rfl rfl rfl rfl rfl rfl ?_
  refine go0 ?_
  refine J_op rfl rfl (opr_call0 rfl rfl rfl rfl rfl h1) ?_
  refine go0 ?_
  refine J_op rfl rfl (opr_call0 rfl rfl rfl rfl rfl h2) ?_
  refine J_op rfl rfl (opr_to_str (l := [1, 2]) hT rfl rfl rfl rfl rfl (.ps _)) ?_
  refine go0 ?_
  exact J_done hT rfl rfl rfl
end Go.Proofs.Ytfkibkfjebppdaa

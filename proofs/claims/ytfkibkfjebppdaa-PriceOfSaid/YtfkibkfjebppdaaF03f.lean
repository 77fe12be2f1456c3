/- The reference's Get; pack.GetText. -/
import Derived.Test.YtfkibkfjebppdaaGo
import Derived.Test.YtfkibkfjebppdaaF03e
-- @OLD
namespace Go.Proofs.Ytfkibkfjebppdaa
open Go.Awp
structure RGetI (l : List UInt8) (a : Int) (n : Nat) where
  i : Nat
  h : i ≤ n
  h2 : a + i ≤ l.length
set_option maxHeartbeats 4000000 in
theorem rget_spec {s : AV} {l : List UInt8} (hs : Bs s l) (a w : Int) (ha : -9223372036854775808 ≤ a ∧ a ≤ 9223372036854775807) (hl : l.length ≤ 140737488355328) (H : List AObj) :
    Con Try.prog 28 [.p s, .p (.int .i64 a), .p (.int .i64 w)] H (getT (getR l a (wide w).toNat)) H [] := by
  obtain ⟨n, hn⟩ : ∃ n : Nat, wide w = n := ⟨(wide w).toNat, by unfold wide; omega⟩
  have hn8 : 1 ≤ n ∧ n ≤ 8 := by unfold wide at hn; omega
  have hw : Con Try.prog 54 [.p (.int .i64 w)] H (.p (.int .i64 n)) H [] := by rw [← hn]; exact rwide_spec w H
  rw [hn, Int.toNat_natCast]
  refine con_of Try.func28 rfl (by kernel_rfl) rfl fun F w0 β0 => ?_
  refine go0 ?_
  refine J_split 13 rfl (fun hc => ?_) (fun hc => ?_)
  · have hc1 : a < 0 := of_decide_eq_true hc
    have e : getR l a n = (0, 0, 1) := by simp [getR, hc1]
    rw [e]
    refine go0 ?_
    refine J_cond rfl (fun _ => ?_) (fun h => Bool.noConfusion h)
    refine go0 ?_
    exact J_done hT rfl rfl rfl
  have hc1 : ¬ a < 0 := of_decide_eq_false hc
  refine go0 ?_
  refine J_yes rfl rfl rfl (opr_len_rd hT rfl rfl hs.rd) ?_
  rw [bv_length]
  refine go0 ?_
  refine J_cond rfl (fun hd => ?_) (fun hd => ?_)
  · have hd1 : a > (l.length : Int) := of_decide_eq_true hd
    have e : getR l a n = (0, 0, 1) := by simp [getR, hd1]
    rw [e]
    refine go0 ?_
    exact J_done hT rfl rfl rfl
  have hd1 : ¬ a > (l.length : Int) := of_decide_eq_false hd
  refine go0 ?_
  refine J_loop (ι := RGetI l a n) (fun i => [(0, .p s), (1, .p (.int .i64 a)), (2, .p (.int .i64 w)), (9, .p (.int .u64 (beV ((l.drop a.toNat).take i.i)))), (10, .p (.int .i64 i.i))]) (fun _ => H) (fun _ => []) (fun i => n - i.i) ⟨0, by omega, by omega⟩ ⟨rfl, rfl, rfl, by simp [beV]; rfl, rfl, trivial⟩ rfl rfl fun i => ?_
  obtain ⟨i, hi, hi2⟩ := i
  dsimp only
  refine go0 ?_
  refine J_op rfl rfl (opr_call0 rfl rfl rfl rfl rfl hw) ?_
  refine go0 ?_
  refine J_cond rfl (fun hf => ?_) (fun hf => ?_)
  · have hf1 : (i : Int) < n := of_decide_eq_true hf
    have e27 : IntKind.i64.wrap (a + (i : Int)) = a + (i : Int) := IntWalk.i64_in _ (by omega)
    refine go0 ?_
    refine J_op rfl rfl (opr_len_rd hT rfl rfl hs.rd) ?_
    rw [bv_length]
    refine go0 ?_
    refine J_cond rfl (fun hg => ?_) (fun hg => ?_)
    · have hg1 := of_decide_eq_true hg
      rw [e27] at hg1
      have e : getR l a n = (0, 0, 3) := by simp only [getR]; rw [if_neg (by omega), if_pos (by omega)]
      rw [e]
      refine go0 ?_
      exact J_done hT rfl rfl rfl
    · have hg1 := of_decide_eq_false hg
      rw [e27] at hg1
      have hk : l[(a + (i : Int)).toNat]? = some (l[(a + (i : Int)).toNat]'(by omega)) := List.getElem?_eq_getElem _
      generalize l[(a + (i : Int)).toNat]'(by omega) = b at hk
      have htk : (l.drop a.toNat).take (i + 1) = (l.drop a.toNat).take i ++ [b] := by
        rw [List.take_add_one, List.getElem?_drop, show a.toNat + i = (a + (i : Int)).toNat by omega, hk]; rfl
      have hbd := beV_bound ((l.drop a.toNat).take i)
      have hlt : beV ((l.drop a.toNat).take i) < 72057594037927936 := beV_7 (by simp; omega)
      have hb2 := b.toNat_lt
      have e40 : IntKind.u64.wrap (IntKind.u64.wrap (256 * beV ((l.drop a.toNat).take i)) + IntKind.u64.wrap (b.toNat : Int)) = beV ((l.drop a.toNat).take (i + 1)) := by
        rw [htk, beV_snoc, u64_in (b.toNat : Int) (by omega), u64_in (256 * beV ((l.drop a.toNat).take i)) (by omega), u64_in _ (by omega)]
      refine go0 ?_
      refine J_val 36 _ rfl (congrArg (fun z => TV.p (.int .i64 z)) e27) ?_
      refine J_op rfl rfl (opr_index hT rfl rfl rfl rfl rfl hs.rd (by omega) (by rw [bv_length]; omega)) ?_
      refine J_op rfl rfl (opr_load_el hT rfl rfl hs.rd (by rw [bv_get, hk]; rfl) rfl rfl) ?_
      refine go0 ?_
      have e24 : IntKind.i64.wrap ((i : Int) + 1) = ((i + 1 : Nat) : Int) := by rw [IntWalk.i64_in _ (by omega)]; rfl
      exact J_again (ι := RGetI l a n) (i := ⟨i, hi, hi2⟩) ⟨i + 1, by omega, by omega⟩ (by dsimp only; omega) ⟨rfl, rfl, rfl, congrArg (fun z => TV.p (.int .u64 z)) e40, congrArg (fun z => TV.p (.int .i64 z)) e24, trivial⟩ rfl rfl
  · have hf1 : ¬ (i : Int) < n := of_decide_eq_false hf
    obtain rfl : i = n := by omega
    have e : getR l a i = (beV ((l.drop a.toNat).take i), a + i, 0) := by simp only [getR]; rw [if_neg (by omega), if_neg (by omega)]
    have e45 : IntKind.i64.wrap (a + (i : Int)) = a + (i : Int) := IntWalk.i64_in _ (by omega)
    rw [e]
    refine go0 ?_
    refine J_op rfl rfl (opr_call0 rfl rfl rfl rfl rfl hw) ?_
    refine go0 ?_
    refine J_val 7 _ rfl (congrArg (fun z => TV.p (.int .i64 z)) e45) ?_
    exact J_done hT rfl rfl rfl
/-- What GetText says. -/
def getTextR (l : List UInt8) (a b : Int) : List UInt8 × Int × Int :=
  let r := getR l a 1
  if r.2.2 ≠ 0 then ([], 0, r.2.2) else if r.1 > b then ([], 0, 4) else if (l.length : Int) - r.2.1 < r.1 then ([], 0, 3) else ((l.drop r.2.1.toNat).take r.1.toNat, r.2.1 + r.1, 0)
def textT (r : List UInt8 × Int × Int) : TV := .tup [.p (.str r.1), .p (.int .i64 r.2.1), .p (.int .i64 r.2.2)]
theorem getR_one (l : List UInt8) (a : Int) : (getR l a 1).2.2 ≠ 0 ∨ (0 ≤ a ∧ a < l.length ∧ (getR l a 1).2.1 = a + 1 ∧ 0 ≤ (getR l a 1).1 ∧ (getR l a 1).1 < 256) := by
  unfold getR
  split
  · exact .inl (by simp)
  · split
    · exact .inl (by simp)
    · refine .inr ⟨by omega, by omega, by simp, ?_⟩
      have := beV_bound ((l.drop a.toNat).take 1)
      have hl : ((l.drop a.toNat).take 1).length = 1 := by simp; omega
      rw [hl] at this
      exact this
set_option maxHeartbeats 4000000 in
theorem gettext_spec {s : AV} {l : List UInt8} (hs : Bs s l) (a b : Int) (ha : -9223372036854775808 ≤ a ∧ a ≤ 9223372036854775807) (hl : l.length ≤ 140737488355328) (H : List AObj) :
    Con Try.prog 29 [.p s, .p (.int .i64 a), .p (.int .i64 b)] H (textT (getTextR l a b)) H [] := by
  have hget := get_spec hs a 1 ha hl H
  rw [show (wide 1).toNat = 1 by decide] at hget
  refine con_of Try.func29 rfl (by kernel_rfl) rfl fun F w0 β0 => ?_
  have hone := getR_one l a
  unfold getTextR
  generalize getR l a 1 = r at hget hone
  obtain ⟨v, p, er⟩ := r
  dsimp only at hone ⊢
  refine go0 ?_
  refine J_op rfl rfl (opr_call0 rfl rfl rfl rfl rfl hget) ?_
  refine go0 ?_
  refine J_cond rfl (fun hc => ?_) (fun hc => ?_)
  · have hc1 : er ≠ 0 := by simpa using hc
    rw [if_pos hc1]
    refine go0 ?_
    exact J_done hT rfl rfl rfl
  have hc1 : ¬ er ≠ 0 := by simpa using hc
  obtain ⟨h0, h1, hp, h2, h3⟩ : 0 ≤ a ∧ a < l.length ∧ p = a + 1 ∧ 0 ≤ v ∧ v < 256 := by rcases hone with h | h; exact absurd h hc1; exact h
  have ev : IntKind.i64.wrap v = v := IntWalk.i64_in _ (by omega)
  rw [if_neg hc1]
  refine go0 ?_
  refine J_cond rfl (fun hd => ?_) (fun hd => ?_)
  · have hd1 := of_decide_eq_true hd
    rw [ev] at hd1
    rw [if_pos hd1]
    refine go0 ?_
    exact J_done hT rfl rfl rfl
  have hd1 := of_decide_eq_false hd
  rw [ev] at hd1
  rw [if_neg hd1]
  refine go0 ?_
  refine J_op rfl rfl (opr_len_rd hT rfl rfl hs.rd) ?_
  rw [bv_length]
  have e33 : IntKind.i64.wrap ((l.length : Int) - p) = (l.length : Int) - p := IntWalk.i64_in _ (by omega)
  refine go0 ?_
  refine J_cond rfl (fun he => ?_) (fun he => ?_)
  · have he1 := of_decide_eq_true he
    rw [ev, e33] at he1
    rw [if_pos he1]
    refine go0 ?_
    exact J_done hT rfl rfl rfl
  have he1 := of_decide_eq_false he
  rw [ev, e33] at he1
  rw [if_neg he1]
  have e40 : IntKind.i64.wrap (p + IntKind.i64.wrap v) = p + v := by rw [ev, IntWalk.i64_in _ (by omega)]
  refine go0 ?_
  refine J_val 43 _ rfl (congrArg (fun z => TV.p (.int .i64 z)) e40) ?_
  refine J_op rfl rfl (opr_cut hT rfl rfl rfl rfl hs.rd rfl rfl (show (0 : Int) ≤ p by omega) (show p ≤ p + v by omega) (by rw [bv_length]; omega) (bv_size _)) ?_
  have e44 : cutA p.toNat (p + v).toNat (.p s) = .p (.ps (bv ((l.drop p.toNat).take v.toNat))) := by
    rw [hs.cut, show (p + v).toNat - p.toNat = v.toNat by omega]
  refine J_val 44 _ rfl e44 ?_
  refine J_op rfl rfl (opr_to_str hT rfl rfl rfl rfl rfl (.ps _)) ?_
  refine go0 ?_
  refine J_val 7 _ rfl (congrArg (fun z => TV.p (.int .i64 z)) e40) ?_
  exact J_done hT rfl rfl rfl
end Go.Proofs.Ytfkibkfjebppdaa

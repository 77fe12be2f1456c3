/- node.Cut. -/
import Derived.Test.YtfkibkfjebppdaaGo
import Derived.Test.YtfkibkfjebppdaaF15
-- @OLD
namespace Go.Proofs.Ytfkibkfjebppdaa
open Go.Awp
def cutRow (o n : Int) : AV := .agg [.int .i64 (o / 64), .int .i64 (o % 64), .int .i64 (min n (64 - o % 64))]
def pieces : Nat → Int → Int → List AV
  | 0, _, _ => []
  | f + 1, o, n => if n ≤ 0 then [] else cutRow o n :: pieces f (o + min n (64 - o % 64)) (n - min n (64 - o % 64))
def cutBad (o n : Int) : Prop := o < 0 ∨ n ≤ 0 ∨ o > 4096 ∨ n > 4096 - o
instance (o n : Int) : Decidable (cutBad o n) := by unfold cutBad; infer_instance
def cutV (o n : Int) : AV := if cutBad o n then .nils else .ps (pieces n.toNat o n)
theorem pieces_more : ∀ (f : Nat) (o n : Int), 0 ≤ o → n.toNat ≤ f → pieces f o n = pieces n.toNat o n
  | 0, o, n, _, h => by rw [show n.toNat = 0 by omega]
  | f + 1, o, n, ho, h => by
    by_cases hn : n ≤ 0
    · rw [show n.toNat = 0 by omega]; simp [pieces, hn]
    · obtain ⟨g, hg⟩ : ∃ g, n.toNat = g + 1 := ⟨n.toNat - 1, by omega⟩
      rw [hg]
      simp only [pieces, if_neg hn]
      rw [pieces_more f _ _ (by omega) (by omega), pieces_more g _ _ (by omega) (by omega)]
theorem pieces_step (o n : Int) (ho : 0 ≤ o) (hn : 0 < n) : pieces n.toNat o n = cutRow o n :: pieces (n - min n (64 - o % 64)).toNat (o + min n (64 - o % 64)) (n - min n (64 - o % 64)) := by
  obtain ⟨g, hg⟩ : ∃ g, n.toNat = g + 1 := ⟨n.toNat - 1, by omega⟩
  rw [hg]
  simp only [pieces, if_neg (show ¬ n ≤ 0 by omega)]
  rw [pieces_more g _ _ (by omega) (by omega)]
theorem cutRow_cl {o n : Int} : clR [cutRow o n] := by
  intro r hr x hx
  simp at hr
  subst hr
  simp [cellsOf, cutRow] at hx
  rcases hx with rfl | rfl | rfl <;> rfl
theorem cutRow_size {o n : Int} : ∀ r ∈ [cutRow o n], (cellsOf r).length = 3 := by
  intro r hr
  simp at hr
  subst hr
  rfl
theorem pieces_len : ∀ (f : Nat) (o n : Int), (pieces f o n).length ≤ f
  | 0, _, _ => by simp [pieces]
  | f + 1, o, n => by
    simp only [pieces]
    split
    · simp
    · have := pieces_len f (o + min n (64 - o % 64)) (n - min n (64 - o % 64))
      simp; omega
structure CutI (o0 n0 : Int) where
  o : Int
  n : Int
  acc : List AV
  h0 : 0 ≤ o
  h1 : 0 ≤ n
  h2 : o + n ≤ 4096
  h3 : acc.length ≤ 4096 - n
  h4 : acc ++ pieces n.toNat o n = pieces n0.toNat o0 n0
  h5 : n = n0 ∨ acc ≠ []
def cutT (acc : List AV) : TV := match acc with
  | [] => .p .nils
  | _ => .sl (.l 0) acc.length 0 acc.length
def cutL (acc : List AV) : List AObj := match acc with
  | [] => []
  | _ => [.arr 25 true 3 acc]
theorem cut_spec (o n : Int) (ho : -9223372036854775808 ≤ o ∧ o ≤ 9223372036854775807) (hn : -9223372036854775808 ≤ n ∧ n ≤ 9223372036854775807) (H : List AObj) : Con Try.prog 15 [.p (.int .i64 o), .p (.int .i64 n)] H (.p (cutV o n)) H [] := by
  refine con_of Try.func15 rfl (by kernel_rfl) rfl fun F w0 β0 => ?_
  refine go0 ?_
  refine J_split 10 rfl (fun hc => ?_) (fun hc => ?_)
  · have e : cutV o n = .nils := by simp at hc; simp [cutV, cutBad, hc]
    rw [e]
    refine go0 ?_
    refine J_cond rfl (fun _ => ?_) (fun h => Bool.noConfusion h)
    refine go0 ?_
    exact J_done hT rfl rfl rfl
  refine go0 ?_
  refine J_split 14 rfl (fun hc1 => ?_) (fun hc1 => ?_)
  · have e : cutV o n = .nils := by simp at hc1; simp [cutV, cutBad, hc1]
    rw [e]
    refine go0 ?_
    refine J_cond rfl (fun _ => ?_) (fun h => Bool.noConfusion h)
    refine go0 ?_
    exact J_done hT rfl rfl rfl
  refine go0 ?_
  refine J_split 18 rfl (fun hc2 => ?_) (fun hc2 => ?_)
  · have e : cutV o n = .nils := by simp at hc2; simp [cutV, cutBad, hc2]
    rw [e]
    refine go0 ?_
    refine J_cond rfl (fun _ => ?_) (fun h => Bool.noConfusion h)
    refine go0 ?_
    exact J_done hT rfl rfl rfl
  refine go0 ?_
  simp at hc hc1 hc2
  have e1 : IntKind.i64.wrap (4096 - o) = 4096 - o := IntWalk.i64_in _ (by omega)
  refine J_cond rfl (fun hc3 => ?_) (fun hc3 => ?_)
  · have e : cutV o n = .nils := by
      have hc4 := of_decide_eq_true hc3
      rw [e1] at hc4
      simp [cutV, cutBad]; omega
    rw [e]
    refine go0 ?_
    exact J_done hT rfl rfl rfl
  have hc4 := of_decide_eq_false hc3
  rw [e1] at hc4
  have e : cutV o n = .ps (pieces n.toNat o n) := by
    simp [cutV, cutBad]; omega
  rw [e]
  refine go0 ?_
  refine J_loop (ι := CutI o n) (fun i => [(0, .p (.int .i64 i.o)), (1, .p (.int .i64 i.n)), (5, cutT i.acc)]) (fun _ => H) (fun i => cutL i.acc) (fun i => i.n.toNat) ⟨o, n, [], hc, by omega, by omega, by simp; omega, by simp, .inl rfl⟩ ⟨rfl, rfl, rfl, trivial⟩ rfl rfl fun i => ?_
  obtain ⟨o1, n1, acc, h0, h1, h2, h3, h4, h5⟩ := i
  dsimp only
  refine go0 ?_
  refine J_cond rfl (fun hd => ?_) (fun hd => ?_)
  · have hd1 := of_decide_eq_true hd
    refine go0 ?_
    have a1 : o1.tmod 64 = o1 % 64 := Int.tmod_eq_emod_of_nonneg h0
    have a2 : mmA .min n1 (IntKind.i64.wrap (64 - o1.tmod 64)) = min n1 (64 - o1 % 64) := by rw [a1, IntWalk.i64_in _ (by omega)]; unfold mmA; simp only []; omega
    have a3 : IntKind.i64.wrap (o1.tdiv 64) = o1 / 64 := by rw [Int.tdiv_eq_ediv_of_nonneg h0, IntWalk.i64_in _ (by omega)]
    have a4 : AV.agg [.int .i64 (IntKind.i64.wrap (o1.tdiv 64)), .int .i64 (o1.tmod 64), .int .i64 (mmA .min n1 (IntKind.i64.wrap (64 - o1.tmod 64)))] = cutRow o1 n1 := by rw [a2, a3, a1]; rfl
    have a5 : IntKind.i64.wrap (o1 + min n1 (64 - o1 % 64)) = o1 + min n1 (64 - o1 % 64) := IntWalk.i64_in _ (by omega)
    have a6 : IntKind.i64.wrap (n1 - min n1 (64 - o1 % 64)) = n1 - min n1 (64 - o1 % 64) := IntWalk.i64_in _ (by omega)
    have hp := pieces_step o1 n1 h0 hd1
    refine J_weak [(0, .p (.int .i64 o1)), (1, .p (.int .i64 n1)), (7, .p (.int .i64 (min n1 (64 - o1 % 64)))), (32, cutT acc), (38, .p (.ps [cutRow o1 n1]))] ⟨rfl, rfl, congrArg (fun z => TV.p (.int .i64 z)) a2, rfl, congrArg (fun z => TV.p (.ps [z])) a4, trivial⟩ ?_
    cases acc with
    | nil =>
      refine J_op rfl rfl (opr_app_new hT rfl rfl (.inl rfl) rfl (.rd (.ps _)) hbs_ps cutRow_cl cutRow_size (by decide) (by decide) (Nat.le_of_ble_eq_true rfl) (Nat.le_of_ble_eq_true rfl)) ?_
      refine go0 ?_
      exact J_again (ι := CutI o n) (i := ⟨o1, n1, [], h0, h1, h2, h3, h4, h5⟩) ⟨o1 + min n1 (64 - o1 % 64), n1 - min n1 (64 - o1 % 64), [cutRow o1 n1], by omega, by omega, by omega, by simp; omega, by rw [← h4, hp]; rfl, .inr (by simp)⟩ (by dsimp only; omega) ⟨congrArg (fun z => TV.p (.int .i64 z)) a5, congrArg (fun z => TV.p (.int .i64 z)) a6, rfl, trivial⟩ rfl rfl
    | cons r acc =>
      refine J_op rfl rfl (opr_app_own hT rfl rfl rfl rfl rfl rfl rfl (.rd (.ps _)) hbs_ps cutRow_cl cutRow_size (by decide) (by simp at h3 ⊢; omega)) ?_
      refine go0 ?_
      exact J_again (ι := CutI o n) (i := ⟨o1, n1, r :: acc, h0, h1, h2, h3, h4, h5⟩) ⟨o1 + min n1 (64 - o1 % 64), n1 - min n1 (64 - o1 % 64), r :: acc ++ [cutRow o1 n1], by omega, by omega, by omega, by simp at h3 ⊢; omega, by rw [← h4, hp]; simp, .inr (by simp)⟩ (by dsimp only; omega) ⟨congrArg (fun z => TV.p (.int .i64 z)) a5, congrArg (fun z => TV.p (.int .i64 z)) a6, by simp [cutT]; rfl, trivial⟩ rfl (by simp [cutL])
  · have hd1 := of_decide_eq_false hd
    have hz : n1 = 0 := by omega
    subst hz
    simp [pieces] at h4
    cases acc with
    | nil => exfalso; rcases h5 with h5 | h5 <;> simp_all
    | cons r acc =>
      rw [← h4]
      refine go0 ?_
      refine J_freeze_all 4 0 rfl rfl rfl ?_
      exact J_done hT rfl rfl rfl
end Go.Proofs.Ytfkibkfjebppdaa

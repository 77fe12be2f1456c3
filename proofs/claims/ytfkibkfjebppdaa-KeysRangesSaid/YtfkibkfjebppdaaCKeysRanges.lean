/- The law KeysRanges: its contract. -/
import Derived.Test.YtfkibkfjebppdaaGo
import Derived.Test.YtfkibkfjebppdaaF09g
namespace Go.Proofs.Ytfkibkfjebppdaa
open Go.Awp
namespace keysRanges
theorem entry_in {k n ino : Int} {r : List UInt8} (hk : 0 ≤ k ∧ k ≤ 255) (hn : 0 ≤ n ∧ n ≤ 4294967295) (hi : 0 ≤ ino ∧ ino ≤ 4294967295) :
    inR (keyH k n ++ r) (keyH 69 ino) (beh (keyH 69 ino)) = ((k == 69) && (n == ino)) := by
  rw [inR_beh (beh_key 69 ino (by decide)), Bool.eq_iff_iff, decide_eq_true_eq, key_prefix (by decide) hk hi hn]
  simp
  omega
theorem block_in {k n ino i from_ : Int} {r : List UInt8} (hk : 0 ≤ k ∧ k ≤ 255) (hn : 0 ≤ n ∧ n ≤ 4294967295) (hi : 0 ≤ ino ∧ ino ≤ 4294967295) (hr : k = 68 → 0 ≤ i ∧ i ≤ 65535 ∧ r = beB 2 i) :
    inR (keyH k n ++ r) (blocksV ino from_) (beh (keyH 68 ino)) = ((k == 68) && (n == ino) && decide (i ≥ from_)) := by
  unfold blocksV
  by_cases hf : from_ > 65535
  · rw [if_pos hf, Bool.eq_iff_iff]
    simp only [inR, Bool.and_eq_true, Bool.not_eq_true', beq_iff_eq, decide_eq_true_eq]
    constructor
    · rintro ⟨h1, h2⟩; rw [h1] at h2; cases h2
    · rintro ⟨⟨h1, _⟩, h3⟩
      have := hr h1
      omega
  · rw [if_neg hf]
    have e : blockK ino (max from_ 0) = keyH 68 ino ++ beB 2 (max from_ 0) := by unfold blockK; rw [if_neg (by omega)]
    rw [e, inR_block ino (max from_ 0) (by omega), Bool.eq_iff_iff]
    simp only [Bool.and_eq_true, Bool.not_eq_true', beq_iff_eq, decide_eq_true_eq]
    rw [key_prefix (by decide) hk hi hn]
    constructor
    · rintro ⟨⟨rfl, rfl⟩, h2⟩
      obtain ⟨h3, h4, rfl⟩ := hr rfl
      rw [bl_append, bl_be2 i _ ⟨h3, h4⟩ (by omega)] at h2
      have := of_decide_eq_false h2
      exact ⟨⟨rfl, rfl⟩, by omega⟩
    · rintro ⟨⟨rfl, rfl⟩, h2⟩
      obtain ⟨h3, h4, rfl⟩ := hr rfl
      refine ⟨⟨rfl, rfl⟩, ?_⟩
      rw [bl_append, bl_be2 i _ ⟨h3, h4⟩ (by omega)]
      exact decide_eq_false (by omega)
set_option maxHeartbeats 8000000 in
theorem con {a0 a1 a2 : AV} (s0 : Shp tab 8 29 a0) (s1 : Shp tab 8 3 a1) (s2 : Shp tab 8 9 a2) : Con Try.prog 11 [.p a0, .p a1, .p a2] [] (.p (.bool true)) [] [] := by
  obtain ⟨ino, rfl, hino⟩ := s0.int rfl
  obtain ⟨from_, rfl, _⟩ := s1.int rfl
  obtain ⟨l, rfl, hl⟩ := s2.str rfl
  change 0 ≤ ino ∧ ino ≤ 4294967295 at hino
  unfold Go.Awp.reach at hl
  have p1 := entries_spec ino hino
  have p2 := blocks9_spec ino from_ hino
  have p3 := rsplit_spec l (by omega)
  have p6 := fixed09_spec
  refine con_of Try.func11 rfl (by kernel_rfl) rfl fun F w0 β0 => ?_
  refine K_tell rfl ?_
  refine gx ?_
  refine J_cond rfl (fun hc => ?_) (fun hc => ?_)
  · refine gx ?_
    refine K_op rfl rfl (opr_callP rfl rfl (p6) rfl rfl rfl rfl) rfl ?_
    refine gx ?_
    exact J_done hT rfl rfl rfl
  have main : splitK l = (0, 0, [], 0) ∨ ∃ (k n i : Int) (m r : List UInt8), (0 ≤ k ∧ k ≤ 255) ∧ k ≠ 0 ∧ (0 ≤ n ∧ n ≤ 4294967295) ∧ (k = 68 → 0 ≤ i ∧ i ≤ 65535 ∧ r = beB 2 i) ∧ splitK l = (k, n, m, i) ∧ l = keyH k n ++ r := by
    rcases split_cases l with e | ⟨n, hn, e, el⟩ | ⟨n, m, hn, hm1, hm2, e, el⟩ | ⟨n, i, hn, hi, e, el⟩
    · exact .inl e
    · exact .inr ⟨73, n, 0, [], [], by decide, by decide, hn, (fun h => absurd h (by decide)), e, by rw [List.append_nil]; exact el⟩
    · exact .inr ⟨69, n, 0, m, m, by decide, by decide, hn, (fun h => absurd h (by decide)), e, el⟩
    · exact .inr ⟨68, n, i, [], beB 2 i, by decide, by decide, hn, fun _ => ⟨hi.1, hi.2, rfl⟩, e, el⟩
  rcases main with e | ⟨k, n, i, m, r, hk, hk0, hn, hr, e, el⟩
  · rw [e] at p3
    refine gx ?_
    refine K_op rfl rfl (opr_callP rfl rfl (p1) rfl rfl rfl rfl) rfl ?_
    refine gx ?_
    refine K_op rfl rfl (opr_callP rfl rfl (p2) rfl rfl rfl rfl) rfl ?_
    refine gx ?_
    refine K_op rfl rfl (opr_callP rfl rfl (p3) rfl rfl rfl rfl) rfl ?_
    refine gx ?_
    refine K_op rfl rfl (opr_callP rfl rfl (p6) rfl rfl rfl rfl) rfl ?_
    refine gx ?_
    exact J_done hT rfl rfl rfl
  · rw [e] at p3
    have q1 := entry_in (r := r) hk hn hino
    have q2 := block_in (from_ := from_) hk hn hino hr
    rw [← el] at q1 q2
    generalize keyH 69 ino = A1 at p1 q1
    generalize beh A1 = A2 at p1 q1
    generalize blocksV ino from_ = A3 at p2 q2
    generalize beh (keyH 68 ino) = A4 at p2 q2
    refine gx ?_
    refine K_op rfl rfl (opr_callP rfl rfl (p1) rfl rfl rfl rfl) rfl ?_
    refine gx ?_
    refine K_op rfl rfl (opr_callP rfl rfl (p2) rfl rfl rfl rfl) rfl ?_
    refine gx ?_
    refine K_op rfl rfl (opr_callP rfl rfl (p3) rfl rfl rfl rfl) rfl ?_
    refine gx ?_
    refine J_false 40 rfl (by simpa using hk0) ?_
    refine go ?_
    refine J_val 15 (.p (.bool ((k == 69) && (n == ino)))) rfl (congrArg (fun b => TV.p (.bool b)) q1) ?_
    refine J_val 16 (.p (.bool ((k == 68) && (n == ino) && decide (i ≥ from_)))) rfl (congrArg (fun b => TV.p (.bool b)) q2) ?_
    refine K_op rfl rfl (opr_callP rfl rfl (p6) rfl rfl rfl rfl) rfl ?_
    refine gx ?_
    refine K_opt rfl rfl rfl trivial (fun _ => stepN_ok hT rfl) rfl ?_
    refine K_opt rfl rfl rfl trivial (fun _ => stepN_ok hT rfl) rfl ?_
    refine K_opt rfl rfl rfl need2 (fun _ => stepN_ok hT rfl) rfl ?_
    refine gx ?_
    refine J_true 70 rfl (by simp) ?_
    refine gx ?_
    refine K_opt rfl rfl rfl trivial (fun _ => stepN_ok hT rfl) rfl ?_
    refine K_opt rfl rfl rfl trivial (fun _ => stepN_ok hT rfl) rfl ?_
    refine K_opt rfl rfl rfl need2 (fun _ => stepN_ok hT rfl) rfl ?_
    refine gx ?_
    refine K_opt rfl rfl rfl trivial (fun _ => stepN_ok hT rfl) rfl ?_
    refine K_opt rfl rfl rfl trivial (fun _ => stepN_ok hT rfl) rfl ?_
    refine K_opt rfl rfl rfl need2 (fun _ => stepN_ok hT rfl) rfl ?_
    refine gx ?_
    refine J_true 6 rfl (by simp) ?_
    exact J_done hT rfl rfl rfl
end keysRanges
end Go.Proofs.Ytfkibkfjebppdaa

/- The law KeysMade: its contract. -/
import Derived.Test.YtfkibkfjebppdaaGo
import Derived.Test.YtfkibkfjebppdaaF09g
namespace Go.Proofs.Ytfkibkfjebppdaa
open Go.Awp
namespace keysMade
theorem entry_len (n : Int) (m : List UInt8) : (entryK n m).length ≤ 37 := by
  unfold entryK
  split
  · simp
  · rw [List.length_append, keyH_len]; omega
theorem block_len (n i : Int) : (blockK n i).length ≤ 7 := by
  unfold blockK
  split
  · simp
  · rw [List.length_append, keyH_len, beB_len]; omega
set_option maxHeartbeats 8000000 in
theorem con {a0 a1 a2 : AV} (s0 : Shp tab 8 29 a0) (s1 : Shp tab 8 9 a1) (s2 : Shp tab 8 3 a2) : Con Try.prog 12 [.p a0, .p a1, .p a2] [] (.p (.bool true)) [] [] := by
  obtain ⟨ino, rfl, hino⟩ := s0.int rfl
  obtain ⟨l, rfl, hl⟩ := s1.str rfl
  obtain ⟨i, rfl, _⟩ := s2.int rfl
  change 0 ≤ ino ∧ ino ≤ 4294967295 at hino
  unfold Go.Awp.reach at hl
  have p1 := kinode_spec ino hino []
  have p2 := rinode_spec ino hino []
  have p3 := kentry_spec ino l hino []
  have p4 := rentry_spec ino l hino []
  have p5 := kblock_spec ino i hino []
  have p5' := rblock_spec ino i hino []
  have p6 := fixed09_spec
  have p7 := kname_spec l
  have p8 := rname_spec l (by omega)
  have q1 := ksplit_spec (keyH 73 ino) (by rw [keyH_len]; decide)
  have q2 := ksplit_spec (entryK ino l) (by have := entry_len ino l; omega)
  have q3 := ksplit_spec (blockK ino i) (by have := block_len ino i; omega)
  rw [split_inode ino hino] at q1
  have h2 : l ≠ [] → l.length ≤ 32 → splitK (entryK ino l) = (69, ino, l, 0) := fun h1 h2 => by
    have := split_entry ino l hino h1 h2
    unfold entryK
    rwa [if_neg (by omega)]
  have h3 : 0 ≤ i → i ≤ 65535 → splitK (blockK ino i) = (68, ino, [], i) := fun h1 h2 => by
    have := split_block ino i hino ⟨h1, h2⟩
    unfold blockK
    rwa [if_neg (by omega)]
  generalize keyH 73 ino = k1 at p1 p2 q1
  generalize entryK ino l = k2 at p3 p4 q2 h2
  generalize blockK ino i = k3 at p5 p5' q3 h3
  generalize hs2 : splitK k2 = s2 at q2 h2
  generalize hs3 : splitK k3 = s3 at q3 h3
  obtain ⟨a1, a2, a3, a4⟩ := s2
  obtain ⟨b1, b2, b3, b4⟩ := s3
  refine con_of Try.func12 rfl (by kernel_rfl) rfl fun F w0 β0 => ?_
  refine K_tell rfl ?_
  refine gx ?_
  refine J_split 22 rfl (fun hc => ?_) (fun hc => ?_)
  · refine gx ?_
    refine J_true 57 rfl hc ?_
    refine gx ?_
    refine K_yes rfl rfl rfl (opr_callP rfl rfl (p6) rfl rfl rfl rfl) rfl ?_
    refine gx ?_
    exact J_done hT rfl rfl rfl
  refine gx ?_
  refine K_yes rfl rfl rfl (opr_callP rfl rfl (p1) rfl rfl rfl rfl) rfl ?_
  refine gx ?_
  refine K_yes rfl rfl rfl (opr_callP rfl rfl (p2) rfl rfl rfl rfl) rfl ?_
  refine gx ?_
  refine J_false 29 rfl (by simp) ?_
  refine gx ?_
  refine K_yes rfl rfl rfl (opr_callP rfl rfl (p3) rfl rfl rfl rfl) rfl ?_
  refine gx ?_
  refine K_yes rfl rfl rfl (opr_callP rfl rfl (p4) rfl rfl rfl rfl) rfl ?_
  refine gx ?_
  refine J_false 38 rfl (by simp) ?_
  refine gx ?_
  refine K_yes rfl rfl rfl (opr_callP rfl rfl (p5) rfl rfl rfl rfl) rfl ?_
  refine gx ?_
  refine K_yes rfl rfl rfl (opr_callP rfl rfl (p5') rfl rfl rfl rfl) rfl ?_
  refine gx ?_
  refine J_false 47 rfl (by simp) ?_
  refine gx ?_
  refine K_yes rfl rfl rfl (opr_callP rfl rfl (p7) rfl rfl rfl rfl) rfl ?_
  refine gx ?_
  refine K_yes rfl rfl rfl (opr_callP rfl rfl (p8) rfl rfl rfl rfl) rfl ?_
  refine gx ?_
  refine J_false 53 rfl (by simp) ?_
  refine gx ?_
  refine K_op rfl rfl (opr_callP rfl rfl (p1) rfl rfl rfl rfl) rfl ?_
  refine gx ?_
  refine K_op rfl rfl (opr_callP rfl rfl (q1) rfl rfl rfl rfl) rfl ?_
  refine gx ?_
  refine J_false 74 rfl (by simp) ?_
  refine gx ?_
  refine K_op rfl rfl (opr_callP rfl rfl (p3) rfl rfl rfl rfl) rfl ?_
  refine gx ?_
  refine K_op rfl rfl (opr_callP rfl rfl (q2) rfl rfl rfl rfl) rfl ?_
  refine K_only [0, 1, 2, 79] rfl ?_
  by_cases hne : l ≠ [] ∧ l.length ≤ 32
  · have e := h2 hne.1 hne.2
    simp only [Prod.mk.injEq] at e
    obtain ⟨rfl, rfl, rfl, rfl⟩ := e
    have hlen : ((a3.length : Nat) : Int) ≤ 32 := by omega
    refine gx ?_
    refine J_true 86 rfl (by simpa using hne.1) ?_
    refine gx ?_
    refine J_true 91 rfl (by simpa using hlen) ?_
    refine gx ?_
    refine J_false 99 rfl (by simp) ?_
    refine gx ?_
    refine J_false 104 rfl (by simp) ?_
    refine gx ?_
    refine K_only [0, 1, 2, 106, 107] rfl ?_
    refine K_op rfl rfl (opr_callP rfl rfl (p5) rfl rfl rfl rfl) rfl ?_
    refine gx ?_
    refine K_op rfl rfl (opr_callP rfl rfl (q3) rfl rfl rfl rfl) rfl ?_
    refine gx ?_
    refine K_op rfl rfl (opr_callP rfl rfl (p6) rfl rfl rfl rfl) rfl ?_
    refine gx ?_
    by_cases hi : 0 ≤ i ∧ i ≤ 65535
    · have e := h3 hi.1 hi.2
      simp only [Prod.mk.injEq] at e
      obtain ⟨rfl, rfl, rfl, rfl⟩ := e
      refine J_false 118 rfl (by simp; omega) ?_
      refine gx ?_
      refine J_false 122 rfl (by simp; omega) ?_
      refine gx ?_
      refine J_true 125 rfl (by simp) ?_
      refine gx ?_
      refine J_true 130 rfl (by simp) ?_
      refine gx ?_
      refine J_true 6 rfl (by simp) ?_
      exact J_done hT rfl rfl rfl
    · by_cases h0 : i < 0
      · refine J_true 118 rfl (by simpa using h0) ?_
        refine gx ?_
        exact J_done hT rfl rfl rfl
      · refine J_false 118 rfl (by simpa using h0) ?_
        refine gx ?_
        refine J_true 122 rfl (by simp; omega) ?_
        refine gx ?_
        exact J_done hT rfl rfl rfl
  · refine gx ?_
    by_cases hn : l = []
    · refine J_false 86 rfl (by simp [hn]) ?_
      refine gx ?_
      refine K_only [0, 1, 2, 106, 107] rfl ?_
      refine K_op rfl rfl (opr_callP rfl rfl (p5) rfl rfl rfl rfl) rfl ?_
      refine gx ?_
      refine K_op rfl rfl (opr_callP rfl rfl (q3) rfl rfl rfl rfl) rfl ?_
      refine gx ?_
      refine K_op rfl rfl (opr_callP rfl rfl (p6) rfl rfl rfl rfl) rfl ?_
      refine gx ?_
      by_cases hi : 0 ≤ i ∧ i ≤ 65535
      · have e := h3 hi.1 hi.2
        simp only [Prod.mk.injEq] at e
        obtain ⟨rfl, rfl, rfl, rfl⟩ := e
        refine J_false 118 rfl (by simp; omega) ?_
        refine gx ?_
        refine J_false 122 rfl (by simp; omega) ?_
        refine gx ?_
        refine J_true 125 rfl (by simp) ?_
        refine gx ?_
        refine J_true 130 rfl (by simp) ?_
        refine gx ?_
        refine J_true 6 rfl (by simp) ?_
        exact J_done hT rfl rfl rfl
      · by_cases h0 : i < 0
        · refine J_true 118 rfl (by simpa using h0) ?_
          refine gx ?_
          exact J_done hT rfl rfl rfl
        · refine J_false 118 rfl (by simpa using h0) ?_
          refine gx ?_
          refine J_true 122 rfl (by simp; omega) ?_
          refine gx ?_
          exact J_done hT rfl rfl rfl
    · have hlen : ¬ ((l.length : Nat) : Int) ≤ 32 := by
        have : ¬ l.length ≤ 32 := fun h => hne ⟨hn, h⟩
        omega
      refine J_true 86 rfl (by simpa using hn) ?_
      refine gx ?_
      refine J_false 91 rfl (by simpa using hlen) ?_
      refine gx ?_
      refine K_only [0, 1, 2, 106, 107] rfl ?_
      refine K_op rfl rfl (opr_callP rfl rfl (p5) rfl rfl rfl rfl) rfl ?_
      refine gx ?_
      refine K_op rfl rfl (opr_callP rfl rfl (q3) rfl rfl rfl rfl) rfl ?_
      refine gx ?_
      refine K_op rfl rfl (opr_callP rfl rfl (p6) rfl rfl rfl rfl) rfl ?_
      refine gx ?_
      by_cases hi : 0 ≤ i ∧ i ≤ 65535
      · have e := h3 hi.1 hi.2
        simp only [Prod.mk.injEq] at e
        obtain ⟨rfl, rfl, rfl, rfl⟩ := e
        refine J_false 118 rfl (by simp; omega) ?_
        refine gx ?_
        refine J_false 122 rfl (by simp; omega) ?_
        refine gx ?_
        refine J_true 125 rfl (by simp) ?_
        refine gx ?_
        refine J_true 130 rfl (by simp) ?_
        refine gx ?_
        refine J_true 6 rfl (by simp) ?_
        exact J_done hT rfl rfl rfl
      · by_cases h0 : i < 0
        · refine J_true 118 rfl (by simpa using h0) ?_
          refine gx ?_
          exact J_done hT rfl rfl rfl
        · refine J_false 118 rfl (by simpa using h0) ?_
          refine gx ?_
          refine J_true 122 rfl (by simp; omega) ?_
          refine gx ?_
          exact J_done hT rfl rfl rfl
end keysMade
end Go.Proofs.Ytfkibkfjebppdaa

/- The law NodeGets: its contract. -/
import Derived.Test.YtfkibkfjebppdaaGo
import Derived.Test.YtfkibkfjebppdaaCNodePuts
namespace Go.Proofs.Ytfkibkfjebppdaa
open Go.Awp
theorem cons_of (b : UInt8) (l : List UInt8) : beV (b :: l) = (b.toNat : Int) * 256 ^ l.length + beV l := by
  have key : ∀ (l : List UInt8) (a : Int), l.foldl (fun a b => 256 * a + (b.toNat : Int)) a = a * 256 ^ l.length + beV l := by
    intro l
    induction l with
    | nil => intro a; simp [beV]
    | cons c l ih =>
      intro a
      have h0 := ih (c.toNat : Int)
      unfold beV
      simp only [List.foldl_cons, List.length_cons]
      rw [ih, show (256 * 0 + (c.toNat : Int)) = (c.toNat : Int) by omega, h0, Int.pow_succ, Int.add_mul]
      have : 256 * a * 256 ^ l.length = a * (256 ^ l.length * 256) := by
        rw [Int.mul_comm 256 a, Int.mul_assoc, Int.mul_comm 256]
      omega
  have := key l (b.toNat : Int)
  unfold beV at this ⊢
  simp only [List.foldl_cons]
  rw [show (256 * 0 + (b.toNat : Int)) = (b.toNat : Int) by omega]
  exact this
theorem beB_beV : ∀ (l : List UInt8), beB l.length (beV l) = l := by
  have key : ∀ (r : List UInt8), beB r.reverse.length (beV r.reverse) = r.reverse := by
    intro r
    induction r with
    | nil => rfl
    | cons b r ih =>
      rw [List.reverse_cons, List.length_append, beV_snoc]
      show beB (r.reverse.length + 1) _ = _
      rw [beB_snoc]
      have hb := b.toNat_lt
      have h1 : (256 * beV r.reverse + (b.toNat : Int)) / 256 = beV r.reverse := by omega
      have h2 : (256 * beV r.reverse + (b.toNat : Int)) % 256 = (b.toNat : Int) := by omega
      rw [h1, h2, ih, Int.toNat_natCast]
      simp
  intro l
  have := key l.reverse
  rwa [List.reverse_reverse] at this
theorem nodeB_get {l : List UInt8} (h : l.length = 13) : nodeB (b0 l) (gF l 1) (gF l 5) (gF l 9) = l := by
  have e4 : ∀ a, a + 4 ≤ 13 → beB 4 (gF l a) = (l.drop a).take 4 := fun a ha => by
    have := beB_beV ((l.drop a).take 4)
    rwa [show ((l.drop a).take 4).length = 4 by simp; omega] at this
  unfold nodeB
  rw [e4 1 (by omega), e4 5 (by omega), e4 9 (by omega)]
  match l, h with
  | [x0, x1, x2, x3, x4, x5, x6, x7, x8, x9, x10, x11, x12], _ => simp [b0]
theorem b0_bd (l : List UInt8) : 0 ≤ b0 l ∧ b0 l ≤ 255 := by
  have := (l.headD 0).toNat_lt
  unfold b0
  omega
theorem getNode_some {l : List UInt8} {k a b c : Int} (h : getNode l = some (k, a, b, c)) : l.length = 13 ∧ mayB k a b c = true ∧ k = b0 l ∧ a = gF l 1 ∧ b = gF l 5 ∧ c = gF l 9 := by
  unfold getNode at h
  split at h
  · rename_i hc
    simp only [Option.some.injEq, Prod.mk.injEq] at h
    obtain ⟨rfl, rfl, rfl, rfl⟩ := h
    exact ⟨hc.1, hc.2, rfl, rfl, rfl, rfl⟩
  · cases h
namespace nodeGets
set_option maxHeartbeats 8000000 in
theorem con {a0 : AV} (s0 : Shp tab 8 9 a0) : Con Try.prog 7 [.p a0] [] (.p (.bool true)) [] [] := by
  obtain ⟨l, rfl, hl⟩ := s0.str rfl
  unfold Go.Awp.reach at hl
  have p1 := nget_spec l (by omega)
  have p2 := rnget_spec l (by omega)
  have p6 := fixed15_spec []
  cases hg : getNode l with
  | none =>
    rw [hg] at p1 p2
    refine con_of Try.func7 rfl (by kernel_rfl) rfl fun F w0 β0 => ?_
    refine K_tell rfl ?_
    refine go ?_
    refine K_op rfl rfl (opr_callP rfl rfl (p1) rfl rfl rfl rfl) rfl ?_
    refine go ?_
    refine K_op rfl rfl (opr_callP rfl rfl (p2) rfl rfl rfl rfl) rfl ?_
    refine go ?_
    refine K_op rfl rfl (opr_callP rfl rfl (p6) rfl rfl rfl rfl) rfl ?_
    refine go ?_
    exact J_done hT rfl rfl rfl
  | some q =>
    obtain ⟨k, a, b, c⟩ := q
    rw [hg] at p1 p2
    obtain ⟨h13, _, e1, e2, e3, e4⟩ := getNode_some hg
    have p3 := nput_spec k a b c (by rw [e1]; exact b0_bd l) (by rw [e2]; exact gF_bd l 1) (by rw [e3]; exact gF_bd l 5) (by rw [e4]; exact gF_bd l 9)
    rw [show nodeB k a b c = l by rw [e1, e2, e3, e4]; exact nodeB_get h13] at p3
    refine con_of Try.func7 rfl (by kernel_rfl) rfl fun F w0 β0 => ?_
    refine K_tell rfl ?_
    refine go ?_
    refine K_op rfl rfl (opr_callP rfl rfl (p1) rfl rfl rfl rfl) rfl ?_
    refine go ?_
    refine K_op rfl rfl (opr_callP rfl rfl (p2) rfl rfl rfl rfl) rfl ?_
    refine go ?_
    refine K_op rfl rfl (opr_callP rfl rfl (p6) rfl rfl rfl rfl) rfl ?_
    refine gx ?_
    refine J_true 23 rfl (by simp) ?_
    refine gx ?_
    refine K_yes rfl rfl rfl (opr_callP rfl rfl (p3) rfl rfl rfl rfl) rfl ?_
    refine gx ?_
    refine J_true 2 rfl (by simp) ?_
    refine gx ?_
    exact J_done hT rfl rfl rfl
end nodeGets
end Go.Proofs.Ytfkibkfjebppdaa

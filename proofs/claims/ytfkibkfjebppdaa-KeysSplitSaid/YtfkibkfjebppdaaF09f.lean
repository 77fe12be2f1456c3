/- keys.Name and the reference's; what the laws of chapter 9 fix. -/
import Derived.Test.YtfkibkfjebppdaaGo
import Derived.Test.YtfkibkfjebppdaaF09e
namespace Go.Proofs.Ytfkibkfjebppdaa
open Go.Awp
def okB (l : List UInt8) : Bool := l.all fun b => !(b == 0) && !(b == 47)
/-- May a name be? -/
def nameB (l : List UInt8) : Bool := okB l && !(l == []) && decide ((l.length : Int) ≤ 32) && !(l == [46]) && !(l == [46, 46])
theorem okB_iff {l : List UInt8} : okB l = true ↔ ∀ (j : Nat) (b : UInt8), l[j]? = some b → b ≠ 0 ∧ b ≠ 47 := by
  unfold okB
  rw [List.all_eq_true]
  constructor
  · intro h j b hb
    have := h b (List.mem_of_getElem? hb)
    simpa using this
  · intro h b hb
    obtain ⟨j, hj⟩ := List.getElem?_of_mem hb
    simpa using h j b hj
structure NI (l : List UInt8) where
  pos : Nat
  h : pos ≤ l.length
  ok : ∀ (j : Nat) (b : UInt8), j < pos → l[j]? = some b → b ≠ 0 ∧ b ≠ 47
set_option maxHeartbeats 4000000 in
theorem kname_spec (l : List UInt8) : Con Try.prog 45 [.p (.str l)] [] (.p (.bool (nameB l))) [] [] := by
  refine con_of Try.func45 rfl (by kernel_rfl) rfl fun F w0 β0 => ?_
  refine K_tell rfl ?_
  refine go ?_
  refine K_op rfl rfl (opr_range hT rfl rfl rfl) rfl ?_
  refine go ?_
  refine J_loop (fun _ => [(0, .p (.str l)), (6, .ad (.l 0) 0)]) (fun _ => []) (fun s : NI l => [.iter l s.pos]) (fun s => l.length - s.pos) ⟨0, by omega, fun j b h => by omega⟩ ⟨rfl, rfl, trivial⟩ rfl rfl (fun s => ?_)
  by_cases hp : s.pos < l.length
  · have hb : l[s.pos]? = some l[s.pos] := List.getElem?_eq_getElem hp
    obtain ⟨r1, r2⟩ := runeAt_cont l s.pos
    have hle := runeAt_le l s.pos
    refine go ?_
    refine K_op rfl rfl (opr_next rfl rfl rfl hp) rfl ?_
    refine go ?_
    refine J_cond rfl (fun hc => ?_) (fun hc => ?_)
    · have e : nameB l = false := by
        have : okB l = false := by
          cases hk : okB l with
          | false => rfl
          | true =>
            obtain ⟨h1, h2⟩ := okB_iff.1 hk s.pos _ hb
            simp only [Bool.or_eq_true, beq_iff_eq] at hc
            by_cases ha : l[s.pos].toNat < 128
            · rw [runeAt_ascii hb ha] at hc
              rcases hc with hc | hc
              · exact absurd (UInt8.toNat_inj.1 (show l[s.pos].toNat = (0 : UInt8).toNat by simpa using hc)) h1
              · exact absurd (UInt8.toNat_inj.1 (show l[s.pos].toNat = (47 : UInt8).toNat by simp only [] at hc; show _ = 47; omega)) h2
            · have := (runeAt_high hb (by omega)).1
              omega
        unfold nameB; rw [this]; rfl
      rw [e]
      refine go ?_
      exact J_done hT rfl rfl rfl
    · simp only [Bool.or_eq_false_iff, beq_eq_false_iff_ne] at hc
      have hb1 : l[s.pos] ≠ 0 ∧ l[s.pos] ≠ 47 := by
        by_cases ha : l[s.pos].toNat < 128
        · rw [runeAt_ascii hb ha] at hc
          simp only [] at hc
          refine ⟨fun e => hc.1 (by rw [e]; rfl), fun e => hc.2 (by rw [e]; rfl)⟩
        · refine ⟨fun e => ?_, fun e => ?_⟩
          · rw [e] at ha; exact ha (by decide)
          · rw [e] at ha; exact ha (by decide)
      have hw : 1 ≤ (runeAt l s.pos).2 := by
        by_cases ha : l[s.pos].toNat < 128
        · rw [runeAt_ascii hb ha]; exact Nat.le_refl _
        · exact (runeAt_high hb (by omega)).2
      refine go ?_
      refine J_again ⟨s.pos + (runeAt l s.pos).2, by omega, fun j b hj hjb => ?_⟩ (by show l.length - (s.pos + _) < l.length - s.pos; omega) ⟨rfl, rfl, trivial⟩ rfl rfl
      rcases Nat.lt_trichotomy j s.pos with h | rfl | h
      · exact s.ok j b h hjb
      · rw [hb] at hjb
        obtain rfl := Option.some.inj hjb
        exact hb1
      · obtain ⟨b', h1, h2⟩ := r2 (j - s.pos) (by omega) (by omega)
        rw [show s.pos + (j - s.pos) = j by omega, hjb] at h1
        obtain rfl := Option.some.inj h1
        refine ⟨fun e => ?_, fun e => ?_⟩
        · rw [e] at h2; exact absurd h2 (by decide)
        · rw [e] at h2; exact absurd h2 (by decide)
  · have hok : okB l = true := okB_iff.2 fun j b hjb => s.ok j b (by have := (List.getElem?_eq_some_iff.1 hjb).1; omega) hjb
    have e : nameB l = (!(l == []) && decide ((l.length : Int) ≤ 32) && !(l == [46]) && !(l == [46, 46])) := by unfold nameB; rw [hok]; rfl
    refine go ?_
    refine K_op rfl rfl (opr_next_end rfl rfl rfl hp) rfl ?_
    refine go ?_
    rw [e]
    exact J_done hT rfl rfl rfl
structure NJ (l : List UInt8) where
  pos : Nat
  h : pos ≤ l.length
  ok : ∀ (j : Nat) (b : UInt8), j < pos → l[j]? = some b → b ≠ 0 ∧ b ≠ 47
set_option maxHeartbeats 4000000 in
theorem rname_spec (l : List UInt8) (hl : l.length ≤ 140737488355328) : Con Try.prog 46 [.p (.str l)] [] (.p (.bool (nameB l))) [] [] := by
  refine con_of Try.func46 rfl (by kernel_rfl) rfl fun F w0 β0 => ?_
  refine K_tell rfl ?_
  refine go ?_
  refine J_loop (fun s : NJ l => [(0, .p (.str l)), (3, .p (.int .i64 (s.pos : Int)))]) (fun _ => []) (fun _ => []) (fun s => l.length - s.pos) ⟨0, by omega, fun j b h => by omega⟩ ⟨rfl, rfl, trivial⟩ rfl rfl (fun s => ?_)
  refine go ?_
  refine J_cond rfl (fun hp => ?_) (fun hp => ?_)
  · have hp : s.pos < l.length := by have := of_decide_eq_true hp; omega
    have hb : l[((s.pos : Nat) : Int).toNat]? = some l[s.pos] := List.getElem?_eq_getElem hp
    have hb' : l[s.pos]? = some l[s.pos] := List.getElem?_eq_getElem hp
    refine go ?_
    refine K_op rfl rfl (opr_byte hT rfl rfl rfl rfl (by omega) hb) rfl ?_
    refine go ?_
    refine K_opt rfl rfl rfl need2 (fun _ => opr_byte hT rfl rfl rfl rfl (by omega) hb) rfl ?_
    refine go ?_
    refine J_cond rfl (fun hc => ?_) (fun hc => ?_)
    · have e : nameB l = false := by
        have : okB l = false := by
          cases hk : okB l with
          | false => rfl
          | true =>
            obtain ⟨h1, h2⟩ := okB_iff.1 hk s.pos _ hb'
            simp only [Bool.or_eq_true, beq_iff_eq] at hc
            rcases hc with hc | hc
            · exact absurd (UInt8.toNat_inj.1 (show l[s.pos].toNat = (0 : UInt8).toNat by show _ = 0; omega)) h1
            · exact absurd (UInt8.toNat_inj.1 (show l[s.pos].toNat = (47 : UInt8).toNat by show _ = 47; omega)) h2
        unfold nameB; rw [this]; rfl
      rw [e]
      refine go ?_
      exact J_done hT rfl rfl rfl
    · simp only [Bool.or_eq_false_iff, beq_eq_false_iff_ne] at hc
      refine go ?_
      refine J_again ⟨s.pos + 1, by omega, fun j b hj hjb => ?_⟩ (by show l.length - (s.pos + 1) < l.length - s.pos; omega) ⟨rfl, congrArg (fun z => TV.p (.int .i64 z)) (by rw [IntWalk.i64_in _ (by omega)]; rfl), trivial⟩ rfl rfl
      rcases Nat.lt_or_eq_of_le (Nat.le_of_lt_succ hj) with h | rfl
      · exact s.ok j b h hjb
      · rw [hb'] at hjb
        obtain rfl := Option.some.inj hjb
        exact ⟨fun e => hc.1 (by rw [e]; rfl), fun e => hc.2 (by rw [e]; rfl)⟩
  · have hp : ¬ s.pos < l.length := by have := of_decide_eq_false hp; omega
    have hok : okB l = true := okB_iff.2 fun j b hjb => s.ok j b (by have := (List.getElem?_eq_some_iff.1 hjb).1; omega) hjb
    have e : nameB l = (decide ((l.length : Int) > 0) && decide ((l.length : Int) ≤ 32) && !(l == [46]) && !(l == [46, 46])) := by
      unfold nameB
      rw [hok]
      cases l with
      | nil => rfl
      | cons x r =>
        have : ((x :: r).length : Int) > 0 := by simp
        rw [decide_eq_true this]
        rfl
    refine go ?_
    rw [e]
    exact J_done hT rfl rfl rfl
theorem fixed09_spec : Con Try.prog 35 [] [] (.p (.bool true)) [] [] := by
  have c1 := kentry_spec 1 [97] (by decide) []
  have c2 := kname_spec [97]
  have c3 := kname_spec [46, 46]
  rw [show entryK 1 [97] = [69, 0, 0, 0, 1, 97] by decide] at c1
  rw [show nameB [97] = true by decide] at c2
  rw [show nameB [46, 46] = false by decide] at c3
  refine con_of Try.func35 rfl (by kernel_rfl) rfl fun F w0 β0 => ?_
  refine K_tell rfl ?_
  refine gx ?_
  refine K_op rfl rfl (opr_callP rfl rfl (c1) rfl rfl rfl rfl) rfl ?_
  refine gx ?_
  refine J_true 3 rfl (by decide) ?_
  refine gx ?_
  refine K_yes rfl rfl rfl (opr_callP rfl rfl (c2) rfl rfl rfl rfl) rfl ?_
  refine gx ?_
  refine K_yes rfl rfl rfl (opr_callP rfl rfl (c3) rfl rfl rfl rfl) rfl ?_
  refine gx ?_
  refine J_true 0 rfl (by decide) ?_
  exact J_done hT rfl rfl rfl
end Go.Proofs.Ytfkibkfjebppdaa

/- Contracts and plain laws, several texts joined: F09e, F09f, F09g, F10l, F10m, F10n, F10o, F10p, Go3. -/
import Derived.Test.YtjibchohkeljkaaDoorGo
import Derived.Test.YtjibchohkeljkaaDoorM4
import Derived.Test.YtjibchohkeljkaaDoorM2
/- keys.Split and the reference's. -/
namespace Go.Proofs.YtjibchohkeljkaaDoor
set_option maxRecDepth 20000
open Go.Awp
/-- What a text was made of. -/
def splitK (l : List UInt8) : Int × Int × List UInt8 × Int :=
  if l.length < 5 then (0, 0, [], 0) else
  if b0 l = 73 ∧ l.drop 5 = [] then (73, gF l 1, [], 0) else
  if b0 l = 69 ∧ l.drop 5 ≠ [] ∧ (l.drop 5).length ≤ 32 then (69, gF l 1, l.drop 5, 0) else
  if b0 l = 68 ∧ (l.drop 5).length = 2 then (68, gF l 1, [], beV (l.drop 5)) else (0, 0, [], 0)
def splitT (r : Int × Int × List UInt8 × Int) : TV := .tup [.p (.int .u8 r.1), .p (.int .u32 r.2.1), .p (.str r.2.2.1), .p (.int .i64 r.2.2.2)]
theorem mm_min (n : Nat) (h : 1 ≤ n) : mmA .min 1 (n : Int) = 1 := by unfold mmA; simp only []; rw [if_neg (by omega)]
theorem beV_2 {l : List UInt8} (h : l.length = 2) : 0 ≤ beV l ∧ beV l < 65536 := by
  have := beV_bound l
  rw [h] at this
  exact this
theorem get2 (l : List UInt8) (h : (l.drop 5).length = 2) (hl : l.length ≤ 140737488355328) : Con Tryd.prog 47 [.p (.ps (bv l)), .p (.int .i64 5), .p (.int .i64 2)] [] (.tup [.p (.int .u64 (beV (l.drop 5))), .p (.int .i64 7), .p (.int .i64 0)]) [] [] := by
  have p1 := get_spec (.ps l) 5 2 (by decide) hl []
  have hl7 : l.length = 7 := by simp at h; omega
  rw [show (wide 2).toNat = 2 by decide] at p1
  unfold getR at p1
  rw [if_neg (by omega), if_neg (by omega), show ((l.drop (5 : Int).toNat).take 2) = l.drop 5 from List.take_of_length_le (by simp; omega)] at p1
  exact p1
theorem get0 (l : List UInt8) (h : l.length < 5) : ∃ a, 0 ≤ a ∧ mmA .min 1 (l.length : Int) = a ∧ Con Tryd.prog 47 [.p (.ps (bv l)), .p (.int .i64 a), .p (.int .i64 4)] [] (.tup [.p (.int .u64 0), .p (.int .i64 0), .p (.int .i64 3)]) [] [] := by
  refine ⟨mmA .min 1 (l.length : Int), by unfold mmA; simp only []; split <;> omega, rfl, ?_⟩
  have hm : mmA .min 1 (l.length : Int) ≤ l.length ∧ 0 ≤ mmA .min 1 (l.length : Int) ∧ (l.length : Int) - mmA .min 1 (l.length : Int) < 4 := by unfold mmA; simp only []; split <;> omega
  generalize mmA .min 1 (l.length : Int) = a at hm
  have p1 := get_spec (.ps l) a 4 (by omega) (by omega) []
  rw [show (wide 4).toNat = 4 by decide] at p1
  unfold getR at p1
  rw [if_neg (by omega), if_pos (by omega)] at p1
  exact p1
theorem b0_get {l : List UInt8} (h : ¬ l.length < 5) : l[0]? = some (l.headD 0) := by
  cases l with
  | nil => simp at h
  | cons b r => rfl
set_option maxHeartbeats 4000000 in
theorem rsplit_spec (l : List UInt8) (hl : l.length ≤ 140737488355328) : Con Tryd.prog 51 [.p (.str l)] [] (splitT (splitK l)) [] [] := by
  by_cases h5 : l.length < 5
  · have e : splitK l = (0, 0, [], 0) := by unfold splitK; rw [if_pos h5]
    rw [e]
    refine con_of Tryd.func51 rfl (by kernel_rfl) rfl fun F w0 β0 => ?_
    refine K_tell rfl ?_
    refine go ?_
    refine J_true 12 rfl (by simp; omega) ?_
    refine go ?_
    exact J_done hT rfl rfl rfl
  have c1 := rget4 l 1 (by omega) hl
  have g1 := gF_bd l 1
  have hb := b0_get h5
  have hb0 : b0 l = ((l.headD 0).toNat : Int) := rfl
  have hcut : (l.drop (5 : Int).toNat).take ((l.length : Int).toNat - (5 : Int).toNat) = l.drop 5 := List.take_of_length_le (by simp)
  have w1 : IntKind.u32.wrap (gF l 1) = gF l 1 := u32_in _ g1
  generalize hx : ((l.headD 0).toNat : Int) = x at hb0
  have hb1 : TV.p (AV.int .u8 ((l.headD 0).toNat : Int)) = .p (.int .u8 x) := by rw [hx]
  refine con_of Tryd.func51 rfl (by kernel_rfl) rfl fun F w0 β0 => ?_
  refine K_tell rfl ?_
  refine go ?_
  refine J_false 12 rfl (by simp; omega) ?_
  refine go ?_
  refine K_op rfl rfl (opr_callP rfl rfl (c1) rfl rfl rfl rfl) rfl ?_
  refine go ?_
  refine K_op rfl rfl (opr_cut_str hT rfl rfl rfl rfl rfl (by decide) (by show (5 : Int) ≤ _; omega) (by omega)) rfl ?_
  refine J_val 21 (.p (.str (l.drop 5))) rfl (congrArg (fun z => TV.p (.str z)) hcut) ?_
  refine go ?_
  refine K_op rfl rfl (opr_byte hT rfl rfl rfl rfl (by decide) hb) rfl ?_
  refine J_val 23 _ rfl hb1 ?_
  refine go ?_
  refine J_cond rfl (fun hc => ?_) (fun hc => ?_)
  · have hc0 : x = 73 := by simpa using hc
    refine go ?_
    refine J_cond rfl (fun hd => ?_) (fun hd => ?_)
    · have hc1 : x = 73 ∧ l.drop 5 = [] := by
        refine ⟨hc0, List.eq_nil_of_length_eq_zero ?_⟩
        have := of_decide_eq_true hd
        omega
      have e : splitK l = (73, gF l 1, [], 0) := by unfold splitK; rw [if_neg h5, hb0, if_pos hc1]
      rw [e]
      refine go ?_
      refine J_val 3 _ rfl (congrArg (fun z => TV.p (.int .u32 z)) w1) ?_
      exact J_done hT rfl rfl rfl
    · have hne : l.drop 5 ≠ [] := by
        intro h
        rw [h] at hd
        simp at hd
      have e : splitK l = (0, 0, [], 0) := by unfold splitK; rw [if_neg h5, hb0, hc0]; simp [hne]
      rw [e]
      refine go ?_
      exact J_done hT rfl rfl rfl
  have hc0 : ¬ x = 73 := by simpa using hc
  refine go ?_
  refine J_cond rfl (fun hd => ?_) (fun hd => ?_)
  · have hd0 : x = 69 := by simpa using hd
    refine go ?_
    refine J_cond rfl (fun he => ?_) (fun he => ?_)
    · have hd1 : x = 69 ∧ l.drop 5 ≠ [] ∧ (l.drop 5).length ≤ 32 := by
        simp only [Bool.and_eq_true, decide_eq_true_eq] at he
        refine ⟨hd0, fun h => ?_, by omega⟩
        rw [h] at he
        simp at he
      have e : splitK l = (69, gF l 1, l.drop 5, 0) := by unfold splitK; rw [if_neg h5, hb0, if_neg (by omega), if_pos hd1]
      rw [e]
      refine go ?_
      refine J_val 3 _ rfl (congrArg (fun z => TV.p (.int .u32 z)) w1) ?_
      exact J_done hT rfl rfl rfl
    · have hd1 : ¬ (x = 69 ∧ l.drop 5 ≠ [] ∧ (l.drop 5).length ≤ 32) := by
        intro h
        simp only [Bool.and_eq_false_iff, decide_eq_false_iff_not] at he
        have : 0 < (l.drop 5).length := List.length_pos_iff.2 h.2.1
        omega
      have e : splitK l = (0, 0, [], 0) := by unfold splitK; rw [if_neg h5, hb0, if_neg (by omega), if_neg hd1, if_neg (by omega)]
      rw [e]
      refine go ?_
      exact J_done hT rfl rfl rfl
  have hd0 : ¬ x = 69 := by simpa using hd
  refine go ?_
  refine J_cond rfl (fun he => ?_) (fun he => ?_)
  · have he0 : x = 68 := by simpa using he
    refine go ?_
    refine J_cond rfl (fun hf => ?_) (fun hf => ?_)
    · have he1 : x = 68 ∧ (l.drop 5).length = 2 := by
        have := of_decide_eq_true hf
        exact ⟨he0, by omega⟩
      have e : splitK l = (68, gF l 1, [], beV (l.drop 5)) := by unfold splitK; rw [if_neg h5, hb0, if_neg (by omega), if_neg (by omega), if_pos he1]
      rw [e]
      have h2 := he1.2
      generalize l.drop 5 = m at h2
      match m, h2 with
      | [u, v], _ =>
      have hu := u.toNat_lt
      have hv := v.toNat_lt
      have ev : IntKind.i64.wrap (IntKind.i64.wrap (256 * IntKind.i64.wrap (u.toNat : Int)) + IntKind.i64.wrap (v.toNat : Int)) = beV [u, v] := by
        rw [IntWalk.i64_in (u.toNat : Int) (by omega), IntWalk.i64_in (v.toNat : Int) (by omega), IntWalk.i64_in (256 * (u.toNat : Int)) (by omega), IntWalk.i64_in _ (by omega)]
        simp [beV]
      refine K_only [2, 3, 4, 5, 6, 9] rfl ?_
      refine J_seq ?_
      refine J_draw [[]] [] (by kernel_rfl) (by kernel_rfl) rfl ?_
      repeat (first | refine T_nil ?_ | refine T_no rfl rfl rfl rfl ?_ | refine T_yes rfl rfl rfl rfl rfl rfl (stepN_ok hT rfl) rfl ?_ | refine T_op rfl rfl rfl rfl rfl (stepN_ok hT rfl) rfl ?_)
      refine T_op rfl rfl rfl rfl rfl (opr_byte (b := u) hT rfl rfl rfl rfl (by decide) rfl) rfl ?_
      repeat (first | refine T_nil ?_ | refine T_no rfl rfl rfl rfl ?_ | refine T_yes rfl rfl rfl rfl rfl rfl (stepN_ok hT rfl) rfl ?_ | refine T_op rfl rfl rfl rfl rfl (stepN_ok hT rfl) rfl ?_)
      refine T_op rfl rfl rfl rfl rfl (opr_byte (b := v) hT rfl rfl rfl rfl (by decide) rfl) rfl ?_
      repeat (first | refine T_nil ?_ | refine T_no rfl rfl rfl rfl ?_ | refine T_yes rfl rfl rfl rfl rfl rfl (stepN_ok hT rfl) rfl ?_ | refine T_op rfl rfl rfl rfl rfl (stepN_ok hT rfl) rfl ?_)
      refine J_then ?_
      refine K_tell rfl ?_
      refine go ?_
      refine J_val 3 _ rfl (congrArg (fun z => TV.p (.int .u32 z)) w1) ?_
      refine J_val 5 _ rfl (congrArg (fun z => TV.p (.int .i64 z)) ev) ?_
      exact J_done hT rfl rfl rfl
    · have he1 : ¬ (x = 68 ∧ (l.drop 5).length = 2) := by
        intro h
        have := of_decide_eq_false hf
        omega
      have e : splitK l = (0, 0, [], 0) := by unfold splitK; rw [if_neg h5, hb0, if_neg (by omega), if_neg (by omega), if_neg he1]
      rw [e]
      refine go ?_
      exact J_done hT rfl rfl rfl
  · have he0 : ¬ x = 68 := by simpa using he
    have e : splitK l = (0, 0, [], 0) := by unfold splitK; rw [if_neg h5, hb0, if_neg (by omega), if_neg (by omega), if_neg (by omega)]
    rw [e]
    refine go ?_
    exact J_done hT rfl rfl rfl
end Go.Proofs.YtjibchohkeljkaaDoor

/- keys.Name and the reference's; what the laws of chapter 9 fix. -/
namespace Go.Proofs.YtjibchohkeljkaaDoor
set_option maxRecDepth 20000
open Go.Awp
def okB (l : List UInt8) : Bool := l.all fun b => !(b == 0) && !(b == 47)
/-- May a name be? -/
def nameB (l : List UInt8) : Bool := okB l && !(l == []) && decide ((l.length : Int) ≤ 32) && !(l == [46]) && !(l == [46, 46])
theorem okB_iff {l : List UInt8} : okB l = true ↔ ∀ (j : Nat) (b : UInt8), l[j]? = some b → b ≠ 0 ∧ b ≠ 47 := by
  unfold okB
  rw [List.all_eq_true]
  constructor
  · intro h j b hb
    have := h b (List.mem_of_getElem? hb)
    simpa using this
  · intro h b hb
    obtain ⟨j, hj⟩ := List.getElem?_of_mem hb
    simpa using h j b hj
structure NI9 (l : List UInt8) where
  pos : Nat
  h : pos ≤ l.length
  ok : ∀ (j : Nat) (b : UInt8), j < pos → l[j]? = some b → b ≠ 0 ∧ b ≠ 47
set_option maxHeartbeats 4000000 in
theorem kname_spec (l : List UInt8) : Con Tryd.prog 55 [.p (.str l)] [] (.p (.bool (nameB l))) [] [] := by
  refine con_of Tryd.func55 rfl (by kernel_rfl) rfl fun F w0 β0 => ?_
  refine K_tell rfl ?_
  refine go ?_
  refine K_op rfl rfl (opr_range hT rfl rfl rfl) rfl ?_
  refine go ?_
  refine J_loop (fun _ => [(0, .p (.str l)), (6, .ad (.l 0) 0)]) (fun _ => []) (fun s : NI9 l => [.iter l s.pos]) (fun s => l.length - s.pos) ⟨0, by omega, fun j b h => by omega⟩ ⟨rfl, rfl, trivial⟩ rfl rfl (fun s => ?_)
  by_cases hp : s.pos < l.length
  · have hb : l[s.pos]? = some l[s.pos] := List.getElem?_eq_getElem hp
    obtain ⟨r1, r2⟩ := runeAt_cont l s.pos
    have hle := runeAt_le l s.pos
    refine go ?_
    refine K_op rfl rfl (opr_next rfl rfl rfl hp) rfl ?_
    refine go ?_
    refine J_cond rfl (fun hc => ?_) (fun hc => ?_)
    · have e : nameB l = false := by
        have : okB l = false := by
          cases hk : okB l with
          | false => rfl
          | true =>
            obtain ⟨h1, h2⟩ := okB_iff.1 hk s.pos _ hb
            simp only [Bool.or_eq_true, beq_iff_eq] at hc
            by_cases ha : l[s.pos].toNat < 128
            · rw [runeAt_ascii hb ha] at hc
              rcases hc with hc | hc
              · exact absurd (UInt8.toNat_inj.1 (show l[s.pos].toNat = (0 : UInt8).toNat by simpa using hc)) h1
              · exact absurd (UInt8.toNat_inj.1 (show l[s.pos].toNat = (47 : UInt8).toNat by simp only [] at hc; show _ = 47; omega)) h2
            · have := (runeAt_high hb (by omega)).1
              omega
        unfold nameB; rw [this]; rfl
      rw [e]
      refine go ?_
      exact J_done hT rfl rfl rfl
    · simp only [Bool.or_eq_false_iff, beq_eq_false_iff_ne] at hc
      have hb1 : l[s.pos] ≠ 0 ∧ l[s.pos] ≠ 47 := by
        by_cases ha : l[s.pos].toNat < 128
        · rw [runeAt_ascii hb ha] at hc
          simp only [] at hc
          refine ⟨fun e => hc.1 (by rw [e]; rfl), fun e => hc.2 (by rw [e]; rfl)⟩
        · refine ⟨fun e => ?_, fun e => ?_⟩
          · rw [e] at ha; exact ha (by decide)
          · rw [e] at ha; exact ha (by decide)
      have hw : 1 ≤ (runeAt l s.pos).2 := by
        by_cases ha : l[s.pos].toNat < 128
        · rw [runeAt_ascii hb ha]; exact Nat.le_refl _
        · exact (runeAt_high hb (by omega)).2
      refine go ?_
      refine J_again ⟨s.pos + (runeAt l s.pos).2, by omega, fun j b hj hjb => ?_⟩ (by show l.length - (s.pos + _) < l.length - s.pos; omega) ⟨rfl, rfl, trivial⟩ rfl rfl
      rcases Nat.lt_trichotomy j s.pos with h | rfl | h
      · exact s.ok j b h hjb
      · rw [hb] at hjb
        obtain rfl := Option.some.inj hjb
        exact hb1
      · obtain ⟨b', h1, h2⟩ := r2 (j - s.pos) (by omega) (by omega)
        rw [show s.pos + (j - s.pos) = j by omega, hjb] at h1
        obtain rfl := Option.some.inj h1
        refine ⟨fun e => ?_, fun e => ?_⟩
        · rw [e] at h2; exact absurd h2 (by decide)
        · rw [e] at h2; exact absurd h2 (by decide)
  · have hok : okB l = true := okB_iff.2 fun j b hjb => s.ok j b (by have := (List.getElem?_eq_some_iff.1 hjb).1; omega) hjb
    have e : nameB l = (!(l == []) && decide ((l.length : Int) ≤ 32) && !(l == [46]) && !(l == [46, 46])) := by unfold nameB; rw [hok]; rfl
    refine go ?_
    refine K_op rfl rfl (opr_next_end rfl rfl rfl hp) rfl ?_
    refine go ?_
    rw [e]
    exact J_done hT rfl rfl rfl
structure NJ (l : List UInt8) where
  pos : Nat
  h : pos ≤ l.length
  ok : ∀ (j : Nat) (b : UInt8), j < pos → l[j]? = some b → b ≠ 0 ∧ b ≠ 47
set_option maxHeartbeats 4000000 in
theorem rname_spec (l : List UInt8) (hl : l.length ≤ 140737488355328) : Con Tryd.prog 33 [.p (.str l)] [] (.p (.bool (nameB l))) [] [] := by
  refine con_of Tryd.func33 rfl (by kernel_rfl) rfl fun F w0 β0 => ?_
  refine K_tell rfl ?_
  refine go ?_
  refine J_loop (fun s : NJ l => [(0, .p (.str l)), (3, .p (.int .i64 (s.pos : Int)))]) (fun _ => []) (fun _ => []) (fun s => l.length - s.pos) ⟨0, by omega, fun j b h => by omega⟩ ⟨rfl, rfl, trivial⟩ rfl rfl (fun s => ?_)
  refine go ?_
  refine J_cond rfl (fun hp => ?_) (fun hp => ?_)
  · have hp : s.pos < l.length := by have := of_decide_eq_true hp; omega
    have hb : l[((s.pos : Nat) : Int).toNat]? = some l[s.pos] := List.getElem?_eq_getElem hp
    have hb' : l[s.pos]? = some l[s.pos] := List.getElem?_eq_getElem hp
    refine go ?_
    refine K_op rfl rfl (opr_byte hT rfl rfl rfl rfl (by omega) hb) rfl ?_
    refine go ?_
    refine K_opt rfl rfl rfl need2 (fun _ => opr_byte hT rfl rfl rfl rfl (by omega) hb) rfl ?_
    refine go ?_
    refine J_cond rfl (fun hc => ?_) (fun hc => ?_)
    · have e : nameB l = false := by
        have : okB l = false := by
          cases hk : okB l with
          | false => rfl
          | true =>
            obtain ⟨h1, h2⟩ := okB_iff.1 hk s.pos _ hb'
            simp only [Bool.or_eq_true, beq_iff_eq] at hc
            rcases hc with hc | hc
            · exact absurd (UInt8.toNat_inj.1 (show l[s.pos].toNat = (0 : UInt8).toNat by show _ = 0; omega)) h1
            · exact absurd (UInt8.toNat_inj.1 (show l[s.pos].toNat = (47 : UInt8).toNat by show _ = 47; omega)) h2
        unfold nameB; rw [this]; rfl
      rw [e]
      refine go ?_
      exact J_done hT rfl rfl rfl
    · simp only [Bool.or_eq_false_iff, beq_eq_false_iff_ne] at hc
      refine go ?_
      refine J_again ⟨s.pos + 1, by omega, fun j b hj hjb => ?_⟩ (by show l.length - (s.pos + 1) < l.length - s.pos; omega) ⟨rfl, congrArg (fun z => TV.p (.int .i64 z)) (by rw [IntWalk.i64_in _ (by omega)]; rfl), trivial⟩ rfl rfl
      rcases Nat.lt_or_eq_of_le (Nat.le_of_lt_succ hj) with h | rfl
      · exact s.ok j b h hjb
      · rw [hb'] at hjb
        obtain rfl := Option.some.inj hjb
        exact ⟨fun e => hc.1 (by rw [e]; rfl), fun e => hc.2 (by rw [e]; rfl)⟩
  · have hp : ¬ s.pos < l.length := by have := of_decide_eq_false hp; omega
    have hok : okB l = true := okB_iff.2 fun j b hjb => s.ok j b (by have := (List.getElem?_eq_some_iff.1 hjb).1; omega) hjb
    have e : nameB l = (decide ((l.length : Int) > 0) && decide ((l.length : Int) ≤ 32) && !(l == [46]) && !(l == [46, 46])) := by
      unfold nameB
      rw [hok]
      cases l with
      | nil => rfl
      | cons x r =>
        have : ((x :: r).length : Int) > 0 := by simp
        rw [decide_eq_true this]
        rfl
    refine go ?_
    rw [e]
    exact J_done hT rfl rfl rfl
end Go.Proofs.YtjibchohkeljkaaDoor

/- What keys are made of, in plain Lean. -/
namespace Go.Proofs.YtjibchohkeljkaaDoor
set_option maxRecDepth 20000
open Go.Awp
theorem keyH_get {l : List UInt8} (h : ¬ l.length < 5) : keyH (b0 l) (gF l 1) ++ l.drop 5 = l := by
  have e4 : beB 4 (gF l 1) = (l.drop 1).take 4 := by
    have := beB_beV ((l.drop 1).take 4)
    rwa [show ((l.drop 1).take 4).length = 4 by simp; omega] at this
  unfold keyH
  rw [e4]
  match l, h with
  | [], h => simp at h
  | [_], h => simp at h
  | [_, _], h => simp at h
  | [_, _, _], h => simp at h
  | [_, _, _, _], h => simp at h
  | x0 :: x1 :: x2 :: x3 :: x4 :: r, _ => simp [b0]
theorem b0_key (k n : Int) (r : List UInt8) (hk : 0 ≤ k ∧ k ≤ 255) : b0 (keyH k n ++ r) = k := by
  simp [b0, keyH]; omega
theorem gF_key (k n : Int) (r : List UInt8) (hn : 0 ≤ n ∧ n ≤ 4294967295) : gF (keyH k n ++ r) 1 = n := by
  unfold gF keyH
  rw [List.cons_append, List.drop_succ_cons, List.drop_zero, List.take_append_of_le_length (by simp [beB_len]), List.take_of_length_le (by simp [beB_len]), beV_be4 n hn]
theorem drop_key (k n : Int) (r : List UInt8) : (keyH k n ++ r).drop 5 = r := by
  rw [List.drop_append, List.drop_of_length_le (by rw [keyH_len]; exact Nat.le_refl _), keyH_len]; rfl
theorem key_inj {k n k' n' : Int} {r r' : List UInt8} (hk : 0 ≤ k ∧ k ≤ 255) (hk' : 0 ≤ k' ∧ k' ≤ 255) (hn : 0 ≤ n ∧ n ≤ 4294967295) (hn' : 0 ≤ n' ∧ n' ≤ 4294967295) (h : keyH k n ++ r = keyH k' n' ++ r') : k = k' ∧ n = n' ∧ r = r' := by
  refine ⟨?_, ?_, ?_⟩
  · rw [← b0_key k n r hk, h, b0_key k' n' r' hk']
  · rw [← gF_key k n r hn, h, gF_key k' n' r' hn']
  · rw [← drop_key k n r, h, drop_key k' n' r']
theorem key_prefix {k n k' n' : Int} {r' : List UInt8} (hk : 0 ≤ k ∧ k ≤ 255) (hk' : 0 ≤ k' ∧ k' ≤ 255) (hn : 0 ≤ n ∧ n ≤ 4294967295) (hn' : 0 ≤ n' ∧ n' ≤ 4294967295) : keyH k n <+: keyH k' n' ++ r' ↔ k = k' ∧ n = n' := by
  constructor
  · rintro ⟨r, hr⟩
    obtain ⟨h1, h2, _⟩ := key_inj hk hk' hn hn' hr
    exact ⟨h1, h2⟩
  · rintro ⟨rfl, rfl⟩
    exact List.prefix_append _ _
theorem beV_be2 (v : Int) (h : 0 ≤ v ∧ v ≤ 65535) : beV (beB 2 v) = v := by
  obtain ⟨x, rfl⟩ : ∃ x : Nat, v = x := ⟨v.toNat, by omega⟩
  rw [beV_beB, Nat.mod_eq_of_lt (by omega)]
theorem split_inode (n : Int) (hn : 0 ≤ n ∧ n ≤ 4294967295) : splitK (keyH 73 n) = (73, n, [], 0) := by
  have e1 := b0_key 73 n [] (by decide)
  have e2 := gF_key 73 n [] hn
  have e3 := drop_key 73 n []
  rw [List.append_nil] at e1 e2 e3
  unfold splitK
  rw [if_neg (by rw [keyH_len]; decide), if_pos ⟨e1, e3⟩, e2]
theorem split_entry (n : Int) (m : List UInt8) (hn : 0 ≤ n ∧ n ≤ 4294967295) (h1 : m ≠ []) (h2 : m.length ≤ 32) : splitK (keyH 69 n ++ m) = (69, n, m, 0) := by
  unfold splitK
  rw [if_neg (by rw [List.length_append, keyH_len]; omega), b0_key 69 n m (by decide), drop_key, gF_key 69 n m hn, if_neg (by simp), if_pos ⟨rfl, h1, h2⟩]
theorem split_block (n i : Int) (hn : 0 ≤ n ∧ n ≤ 4294967295) (hi : 0 ≤ i ∧ i ≤ 65535) : splitK (keyH 68 n ++ beB 2 i) = (68, n, [], i) := by
  unfold splitK
  rw [if_neg (by rw [List.length_append, keyH_len]; omega), b0_key 68 n _ (by decide), drop_key, gF_key 68 n _ hn, if_neg (by simp), if_neg (by simp), if_pos ⟨rfl, by rw [beB_len]⟩, beV_be2 i hi]
theorem split_cases (l : List UInt8) : splitK l = (0, 0, [], 0) ∨ (∃ n, (0 ≤ n ∧ n ≤ 4294967295) ∧ splitK l = (73, n, [], 0) ∧ l = keyH 73 n) ∨
    (∃ n m, (0 ≤ n ∧ n ≤ 4294967295) ∧ m ≠ [] ∧ m.length ≤ 32 ∧ splitK l = (69, n, m, 0) ∧ l = keyH 69 n ++ m) ∨
    (∃ n i, (0 ≤ n ∧ n ≤ 4294967295) ∧ (0 ≤ i ∧ i ≤ 65535) ∧ splitK l = (68, n, [], i) ∧ l = keyH 68 n ++ beB 2 i) := by
  by_cases h5 : l.length < 5
  · exact .inl (by unfold splitK; rw [if_pos h5])
  have hg := keyH_get h5
  have hb := gF_bd l 1
  by_cases h1 : b0 l = 73 ∧ l.drop 5 = []
  · refine .inr (.inl ⟨gF l 1, hb, by unfold splitK; rw [if_neg h5, if_pos h1], ?_⟩)
    rw [h1.1, h1.2, List.append_nil] at hg
    exact hg.symm
  by_cases h2 : b0 l = 69 ∧ l.drop 5 ≠ [] ∧ (l.drop 5).length ≤ 32
  · refine .inr (.inr (.inl ⟨gF l 1, l.drop 5, hb, h2.2.1, h2.2.2, by unfold splitK; rw [if_neg h5, if_neg h1, if_pos h2], ?_⟩))
    rw [h2.1] at hg
    exact hg.symm
  by_cases h3 : b0 l = 68 ∧ (l.drop 5).length = 2
  · have b2 := beV_2 h3.2
    refine .inr (.inr (.inr ⟨gF l 1, beV (l.drop 5), hb, ⟨b2.1, by omega⟩, by unfold splitK; rw [if_neg h5, if_neg h1, if_neg h2, if_pos h3], ?_⟩))
    have := beB_beV (l.drop 5)
    rw [h3.2] at this
    rw [this, ← h3.1]
    exact hg.symm
  · exact .inl (by unfold splitK; rw [if_neg h5, if_neg h1, if_neg h2, if_neg h3])
theorem bl_append (p a b : List UInt8) : Op.bytesLess (p ++ a) (p ++ b) = Op.bytesLess a b := by
  induction p with
  | nil => rfl
  | cons x p ih => simp [Op.bytesLess, ih]
theorem bl_be2 (i j : Int) (hi : 0 ≤ i ∧ i ≤ 65535) (hj : 0 ≤ j ∧ j ≤ 65535) : Op.bytesLess (beB 2 i) (beB 2 j) = decide (i < j) := by
  have e : ∀ x : Int, 0 ≤ x ∧ x ≤ 65535 → beB 2 x = [UInt8.ofNat (x / 256).toNat, UInt8.ofNat (x % 256).toNat] := fun x hx => by
    simp only [beB]
    congr 3
    · have : x / 256 ^ 1 % 256 = x / 256 := by rw [Int.pow_one]; omega
      omega
    · simp
  rw [e i hi, e j hj]
  simp only [Op.bytesLess, Bool.and_false, Bool.or_false]
  rw [Bool.eq_iff_iff]
  simp only [Bool.or_eq_true, Bool.and_eq_true, decide_eq_true_eq, beq_iff_eq, UInt8.lt_iff_toNat_lt, ← UInt8.toNat_inj]
  simp
  omega
theorem bl_prefix {a k : List UInt8} (h : a <+: k) : Op.bytesLess k a = false := by
  obtain ⟨t, rfl⟩ := h
  have := bl_append a t []
  rw [List.append_nil] at this
  rw [this, bl_nil]
theorem inR_beh {a : List UInt8} (h : beh a ≠ []) (k : List UInt8) : inR k a (beh a) = decide (a <+: k) := by
  rw [Bool.eq_iff_iff, decide_eq_true_eq, ← beh_iff h k]
  simp [inR]
theorem inR_block (n : Int) (i : Int) (hi : 0 ≤ i ∧ i ≤ 65535) (k : List UInt8) : inR k (keyH 68 n ++ beB 2 i) (beh (keyH 68 n)) = (decide (keyH 68 n <+: k) && !Op.bytesLess k (keyH 68 n ++ beB 2 i)) := by
  have hb := beh_iff (beh_key 68 n (by decide)) k
  rw [Bool.eq_iff_iff]
  simp only [inR, Bool.and_eq_true, Bool.not_eq_true', decide_eq_true_eq]
  rw [← hb]
  constructor
  · rintro ⟨h1, h2⟩
    refine ⟨⟨?_, h2⟩, h1⟩
    cases h3 : Op.bytesLess k (keyH 68 n) with
    | false => rfl
    | true =>
      have : Op.bytesLess k (keyH 68 n ++ beB 2 i) = true := by
        cases h4 : Op.bytesLess (keyH 68 n) (keyH 68 n ++ beB 2 i) with
        | true => exact bl_trans h3 h4
        | false =>
          have := bl_total h4 (bl_prefix (List.prefix_append _ _))
          rwa [← this]
      rw [this] at h1; cases h1
  · rintro ⟨⟨_, h2⟩, h1⟩
    exact ⟨h1, h2⟩
end Go.Proofs.YtjibchohkeljkaaDoor

/- The reference of layer 10: Same. -/
-- @D
namespace Go.Proofs.YtjibchohkeljkaaDoor
set_option maxRecDepth 20000
open Go.Awp Tr
/-- A pair that may be gone. -/
abbrev PW := List UInt8 × List UInt8 × Bool
def pwV (x : PW) : AV := .agg [.str x.1, .str x.2.1, .bool x.2.2]
def kp (x : KV) : PW := (x.1, x.2, false)
theorem kvs_pw (l : List KV) : kvs l = (l.map kp).map pwV := by rw [List.map_map]; rfl
theorem kp_inj {l m : List KV} : l.map kp = m.map kp ↔ l = m := by
  refine ⟨fun h => ?_, fun h => by rw [h]⟩
  have := congrArg (List.map fun x : PW => ((x.1, x.2.1) : KV)) h
  simpa [List.map_map, Function.comp_def, kp] using this
structure SI (l m : List PW) where
  i : Nat
  h : i ≤ l.length
  e : l.take i = m.take i
theorem pair_eq (x y : PW) : (decide (x.1 = y.1) && (decide (x.2.1 = y.2.1) && (decide (x.2.2 = y.2.2) && true))) = decide (x = y) := by
  obtain ⟨a, b, e⟩ := x
  obtain ⟨c, d, f⟩ := y
  by_cases h1 : a = c
  · by_cases h2 : b = d
    · simp [h1, h2]
    · simp [h1, h2]
  · simp [h1]
theorem take_same {α : Type} {l m : List α} {i : Nat} {x y : α} (h : l.take i = m.take i) (hx : l[i]? = some x) (hy : m[i]? = some y) : l.take (i + 1) = m.take (i + 1) ↔ x = y := by
  obtain ⟨h1, rfl⟩ := List.getElem?_eq_some_iff.1 hx
  obtain ⟨h2, rfl⟩ := List.getElem?_eq_some_iff.1 hy
  rw [List.take_succ_eq_append_getElem h1, List.take_succ_eq_append_getElem (l := m) h2, h]
  constructor
  · intro e
    exact (List.cons.inj (List.append_cancel_left e)).1
  · intro e
    rw [e]
end Go.Proofs.YtjibchohkeljkaaDoor

/- The reference of layer 10: Low. -/
-- @D
namespace Go.Proofs.YtjibchohkeljkaaDoor
set_option maxRecDepth 20000
open Go.Awp Tr
/-- The greatest k of which 2 to the k is at most the square of n and 1. -/
structure LI (n : Nat) where
  k : Nat
  h : 2 ^ k ≤ (n + 1) * (n + 1)
/-- What Low answers: high is at most two more than that k. -/
def lowB (n high : Nat) : Bool := decide (high ≤ ((n + 1) * (n + 1)).log2 + 2)
theorem log_step {k m : Nat} (h : 2 ^ k ≤ m) : 2 ^ k * 2 ≤ m ∨ k = m.log2 := by
  by_cases h2 : 2 ^ k * 2 ≤ m
  · exact .inl h2
  · refine .inr ?_
    have hm : m ≠ 0 := by have := Nat.two_pow_pos k; omega
    exact ((Nat.log2_eq_iff hm).2 ⟨h, by rw [Nat.pow_succ]; omega⟩).symm
theorem pow_lt {k m : Nat} (h : 2 ^ k ≤ m) : k < m := Nat.lt_of_lt_of_le Nat.lt_two_pow_self h
end Go.Proofs.YtjibchohkeljkaaDoor

/- The laws of layer 10: fixed. -/
-- @D
namespace Go.Proofs.YtjibchohkeljkaaDoor
set_option maxRecDepth 20000
open Go.Awp Tr
theorem fixed_parts : ∃ t1 t2 t3 : Tr, Con Tryd.prog 64 [W .nil, .p (.str [97]), .p (.str [])] [] (W t1) [] [] ∧ Con Tryd.prog 64 [W t1, .p (.str [98]), .p (.str [])] [] (W t2) [] [] ∧ Con Tryd.prog 73 [W t2, .p (.str [97])] [] (W t3) [] []
    ∧ Con Tryd.prog 67 [W t1] [] (.p (.int .i64 1)) [] [] ∧ Con Tryd.prog 67 [W t2] [] (.p (.int .i64 2)) [] [] ∧ Con Tryd.prog 67 [W t3] [] (.p (.int .i64 1)) [] [] :=
  ⟨_, _, _, tset_spec [97] [] .nil (by decide), tset_spec [98] [] _ (by decide), tcut_spec _ [97] (by decide), tlen_spec _, tlen_spec _, tlen_spec _⟩
end Go.Proofs.YtjibchohkeljkaaDoor

/- The laws of layer 10: operations as they are read, cut. -/
-- @D
namespace Go.Proofs.YtjibchohkeljkaaDoor
set_option maxRecDepth 20000
open Go.Awp Tr
/-- An operation: what kind, of which version, key, value. -/
structure TOp where
  kind : Int
  ver : Int
  key : List UInt8
  val : List UInt8
def opV (o : TOp) : AV := .agg [.int .i64 o.kind, .int .u16 o.ver, .str o.key, .str o.val]
def TOp.ok (o : TOp) : Prop := (0 ≤ o.ver ∧ o.ver ≤ 65535) ∧ o.key.length ≤ Go.Awp.reach ∧ o.val.length ≤ Go.Awp.reach
inductive Ops : AV → List TOp → Prop
  | nils : Ops .nils []
  | ps (l : List TOp) : Ops (.ps (l.map opV)) l
theorem Ops.rd {s : AV} {l : List TOp} (h : Ops s l) (H L : List AObj) : Rd H L (.p s) (l.map opV) := by
  cases h with
  | nils => exact .nils
  | ps => exact .ps _
/-- How many operations are gone through. -/
def stopAt (i : Nat) (o : TOp) : Bool := decide (200 ≤ i) || (decide (200 < o.key.length) || decide (200 < o.val.length))
def cutN : List TOp → Nat → Nat
  | [], i => i
  | o :: r, i => if stopAt i o = true then i else cutN r (i + 1)
end Go.Proofs.YtjibchohkeljkaaDoor

/- The laws of layer 10: cut. -/
-- @D
namespace Go.Proofs.YtjibchohkeljkaaDoor
set_option maxRecDepth 20000
open Go.Awp Tr
theorem cutN_step {l : List TOp} {i : Nat} {o : TOp} (h : l[i]? = some o) : cutN (l.drop i) i = if stopAt i o = true then i else cutN (l.drop (i + 1)) (i + 1) := by
  obtain ⟨h2, rfl⟩ := List.getElem?_eq_some_iff.1 h
  rw [List.drop_eq_getElem_cons h2]
  rfl
theorem stop_eq (i : Nat) (o : TOp) : (decide ((i : Int) ≥ 200) || decide ((o.key.length : Int) > 200) || decide ((o.val.length : Int) > 200)) = stopAt i o := by
  unfold stopAt
  rw [Bool.or_assoc]
  congr 1
  · exact decide_eq_decide.2 (by omega)
  · congr 1 <;> exact decide_eq_decide.2 (by omega)
theorem cutN_end {l : List TOp} {i : Nat} (h : l.length ≤ i) : cutN (l.drop i) i = i := by
  rw [List.drop_eq_nil_of_le h]; rfl
theorem cutN_le : ∀ (l : List TOp) (i : Nat), cutN l i ≤ i + l.length
  | [], i => by simp [cutN]
  | o :: r, i => by
    have := cutN_le r (i + 1)
    unfold cutN
    split
    · simp
    · simp only [List.length_cons]; omega
theorem ops_get {l : List TOp} {i : Nat} {x : TOp} (h : l[i]? = some x) : (l.map opV)[i]? = some (opV x) := by simp [h]
structure CI (l : List TOp) where
  i : Nat
  h : i ≤ l.length
  e : cutN (l.drop i) i = cutN l 0
end Go.Proofs.YtjibchohkeljkaaDoor

/- More rules of the walk. No program is named here. -/
namespace Go.Awp
open Go.RowKit
/-- The remainder by what isn't 0. -/
theorem remA {L : List AObj} {k : IntKind} {a b : Int} {d : TyD} (h : b ≠ 0) : binA L .rem (.p (.int k a)) (.p (.int k b)) d = some (.p (.int k (a.tmod b))) := by
  have e : kEq k k = true := by unfold kEq; rw [decide_eq_true rfl]
  simp only [binA, isShift, e, intA]
  rw [decide_eq_false h]
theorem quoA {L : List AObj} {k : IntKind} {a b : Int} {d : TyD} (h : b ≠ 0) : binA L .quo (.p (.int k a)) (.p (.int k b)) d = some (.p (.int k (k.wrap (a.tdiv b)))) := by
  have e : kEq k k = true := by unfold kEq; rw [decide_eq_true rfl]
  simp only [binA, isShift, e, intA]
  rw [decide_eq_false h]
/-- A whole number as a byte. -/
theorem u8_byte (n : Int) : ∃ b : UInt8, IntKind.u8.wrap n = (b.toNat : Int) := by
  refine ⟨UInt8.ofNat (IntKind.u8.wrap n).toNat, ?_⟩
  have h : 0 ≤ IntKind.u8.wrap n ∧ IntKind.u8.wrap n < 256 := by
    unfold IntKind.wrap
    simp [IntKind.signed, IntKind.bits]
    omega
  simp
  omega
section
variable {Γ : Ctx} {env : Env} {H L : List AObj} {Φ : Act → World → Prop}
/-- A cell of an own variable, read otherwise. -/
theorem J_recell (i k : Nat) {Tb : Nat} {cs : List TV} {x : TV} (y : TV) (hi : L[i]? = some (.box Tb cs)) (hk : cs[k]? = some x) (hxy : ∀ w β G v, RepT w β G x v → RepT w β G y v) (kk : J Γ env H (L.set i (.box Tb (cs.set k y))) Φ) : J Γ env H L Φ := fun a w β s => by
  have hlt : i < L.length := (List.getElem?_eq_some_iff.1 hi).1
  obtain ⟨s1, s2⟩ := upd (w' := w) (G' := ⟨H, L.set i (.box Tb (cs.set k y)), Γ.F⟩) (h := .l i) (o' := .box Tb (cs.set k y)) (b' := β (.l i)) s.sim hi rfl rfl rfl (Nat.le_refl _) (fun _ _ _ => rfl) rfl (.inl rfl) ⟨rfl, by simp, rfl⟩
    (fun q => by
      cases q with
      | o q => simp [Hp.get]
      | l j =>
        simp only [Hp.get, List.getElem?_set, Hd.l.injEq]
        by_cases e : i = j
        · subst e; simp; omega
        · rw [if_neg e, if_neg (fun q => e q.symm)]) rfl s.sim.ext
  have eβ : (fun q => if q = Hd.l i then β (.l i) else β q) = β := by
    funext q
    split
    · rename_i e; rw [e]
    · rfl
  rw [eβ] at s1 s2
  obtain ⟨arr, g1, g2, g3⟩ := s.sim.objs (.l i) _ hi
  refine kk a w β ⟨s2 ⟨arr, g1, by rw [List.length_set]; exact g2, fun j z hj => ?_⟩, s.step.trans s1, s.env.mono s1, s.size, s.defers⟩
  by_cases e : k = j
  · subst e
    have hkl := (List.getElem?_eq_some_iff.1 hk).1
    rw [List.getElem?_set, if_pos rfl, if_pos hkl] at hj
    obtain rfl := Option.some.inj hj
    obtain ⟨v, hv, hr⟩ := g3 k _ hk
    exact ⟨v, hv, hxy _ _ _ _ (hr.mono s1)⟩
  · rw [List.getElem?_set, if_neg e] at hj
    obtain ⟨v, hv, hr⟩ := g3 j z hj
    exact ⟨v, hv, hr.mono s1⟩
end
section
variable {P : Program} {ops : List Oper} {env0 : Env} {Hs Ls : List (List AObj)} {ss : List Nat} {xs : List TV}
theorem T_opH {K : List TV → Prop} {o : Oper} {rest : List Oper} {i k : Nat} {x : TV} {H L : List AObj} (hg : o.guard = none) (hp : posn ss 0 i = none) (hk : loK o ss 0 0 = k) (hk2 : Nat.beq (hiK ops i ss 0 - k) 0 = true) (hH : Hs.getD k [] = H) (hL : Ls.getD k [] = L)
    (h : OpR P o (RdE ops env0 xs o) H L x H L) {xs' : List TV} (hxs : snocD xs x = some xs') (kk : Tele P ops env0 (fun k => Hs.getD k []) Ls ss K rest (i + 1) xs') : Tele P ops env0 (fun k => Hs.getD k []) Ls ss K (o :: rest) i xs :=
  ⟨x, .inl ⟨fun g b hgb => (by rw [hg] at hgb; cases hgb), by
    subst hH hL
    unfold Obl
    rw [hp]
    simp only
    rw [hk, Nat.eq_of_beq_eq_true hk2]
    exact h⟩, by rw [snocN_eq (snocD_eq hxs)]; exact kk⟩
theorem T_op2H {K : List TV → Prop} {o : Oper} {rest : List Oper} {i k : Nat} {x : TV} {H L H2 L2 : List AObj} (hg : o.guard = none) (hp : posn ss 0 i = none) (hk : loK o ss 0 0 = k) (hk2 : Nat.beq (hiK ops i ss 0 - k) 1 = true) (hH : Hs.getD k [] = H) (hL : Ls.getD k [] = L) (hH2 : Hs.getD (k + 1) [] = H2) (hL2 : Ls.getD (k + 1) [] = L2)
    (h : OpR P o (RdE ops env0 xs o) H L x H L) (h2 : OpR P o (RdE ops env0 xs o) H2 L2 x H2 L2) {xs' : List TV} (hxs : snocD xs x = some xs') (kk : Tele P ops env0 (fun k => Hs.getD k []) Ls ss K rest (i + 1) xs') : Tele P ops env0 (fun k => Hs.getD k []) Ls ss K (o :: rest) i xs :=
  ⟨x, .inl ⟨fun g b hgb => (by rw [hg] at hgb; cases hgb), by
    subst hH hL hH2 hL2
    unfold Obl
    rw [hp]
    simp only
    rw [hk, Nat.eq_of_beq_eq_true hk2]
    exact ⟨h, h2⟩⟩, by rw [snocN_eq (snocD_eq hxs)]; exact kk⟩
theorem T_stH {K : List TV → Prop} {o : Oper} {rest : List Oper} {i q : Nat} {x : TV} {H L H' L' : List AObj} (hg : o.guard = none) (hp : posn ss 0 i = some q) (hH : Hs.getD q [] = H) (hL : Ls.getD q [] = L) (hH' : Hs.getD (q + 1) [] = H') (hL' : Ls.getD (q + 1) [] = L')
    (h : OpR P o (RdE ops env0 xs o) H L x H' L') {xs' : List TV} (hxs : snocD xs x = some xs') (kk : Tele P ops env0 (fun k => Hs.getD k []) Ls ss K rest (i + 1) xs') : Tele P ops env0 (fun k => Hs.getD k []) Ls ss K (o :: rest) i xs :=
  ⟨x, .inl ⟨fun g b hgb => (by rw [hg] at hgb; cases hgb), by
    subst hH hL hH' hL'
    unfold Obl
    rw [hp]
    simp only
    exact h⟩, by rw [snocN_eq (snocD_eq hxs)]; exact kk⟩
end
theorem T_gateF {P : Program} {ops : List Oper} {env0 : Env} {Hf : Nat → List AObj} {Ls : List (List AObj)} {ss : List Nat} {xs : List TV} {K : List TV → Prop} {d : Option Nat} {op : Op} {t : TypeId} {pos : String} {af : Array Edge} {rest : List Oper} {i : Nat} (h : Tele P ops env0 Hf Ls ss K ({ dst := d, op := op, type := t, pos := pos, after := af, guard := none } :: rest) i xs) : Tele P ops env0 Hf Ls ss K ({ dst := d, op := op, type := t, pos := pos, after := af, guard := none } :: rest) i xs := h
theorem T_stD {P : Program} {ops : List Oper} {env0 : Env} {H : List AObj} {Ls : List (List AObj)} {ss : List Nat} {xs : List TV} {K : List TV → Prop} {o : Oper} {rest : List Oper} {i q : Nat} {x : TV} {L L' : List AObj} (hg : o.guard = none) (hp : posn ss 0 i = some q) (hL : Ls.getD q [] = L) (hL' : Ls.getD (q + 1) [] = L') (h : OpR P o (RdE ops env0 xs o) H L x H L') {xs' : List TV} (hxs : snocD xs x = some xs') (kk : Tele P ops env0 (fun _ => H) Ls ss K rest (i + 1) xs') : Tele P ops env0 (fun _ => H) Ls ss K (o :: rest) i xs :=
  T_st hg hp hL hL' h (snocD_eq hxs) kk
/-- A drawn region of which one operation writes. -/
theorem J_drawS {P : Program} {Γ : Ctx} {env0 : Env} {H L : List AObj} {Q : Exit → Act → World → Prop} {id : Nat} {ops : List Oper} (n : Nat) (hm : P.follows .mixedOrders = true) (hreg : regOk Γ.N ops [n] = true)
    (h : ∃ L2, Tele P ops env0 (fun _ => H) [L, L2] [n] (fun xs => J Γ (finE ops xs env0) H L2 (Q .normal)) ops 0 []) : J Γ env0 H L ((Code.region id ops.toArray true).wp P Q) :=
  h.elim fun L2 h => J_draw [L, L2] [n] hm hreg rfl h
/-- A drawn region of which one operation writes the caller's objects, a later one own ones. -/
theorem J_drawH2 {P : Program} {Γ : Ctx} {env0 : Env} {H L : List AObj} {Q : Exit → Act → World → Prop} {id : Nat} {ops : List Oper} (n m : Nat) (H2 : List AObj) (hm : P.follows .mixedOrders = true) (hreg : regOk Γ.N ops [n, m] = true)
    (h : ∃ L2, Tele P ops env0 (fun k => [H, H2, H2].getD k []) [L, L, L2] [n, m] (fun xs => J Γ (finE ops xs env0) H2 L2 (Q .normal)) ops 0 []) : J Γ env0 H L ((Code.region id ops.toArray true).wp P Q) :=
  h.elim fun L2 h => J_drawH [H, H2, H2] [L, L, L2] [n, m] hm hreg rfl rfl h
/-- A drawn region that writes own objects. -/
theorem gdW {φ ψ : Prop} (k : ψ) (h : ψ → φ := by
  intro k
  repeat (first
    | with_reducible refine T_nil ?_
    | ((with_reducible refine T_gateG ?_); first | refine T_no rfl rfl rfl rfl ?_ | refine T_yesD rfl rfl rfl rfl rfl rfl (stepN_ok hT rfl) rfl ?_ | refine T_yesD rfl rfl rfl rfl rfl rfl (stepW_ok hT rfl) rfl ?_ | refine T_yesD rfl rfl rfl rfl rfl rfl (stepG_ok hT rfl) rfl ?_ | refine T_yesD rfl rfl rfl rfl rfl rfl (stepA_ok hT rfl) rfl ?_)
    | ((with_reducible refine T_gate ?_); first | refine T_opD rfl rfl rfl rfl rfl (stepN_ok hT rfl) rfl ?_ | refine T_opD rfl rfl rfl rfl rfl (stepW_ok hT rfl) rfl ?_ | refine T_opD rfl rfl rfl rfl rfl (stepG_ok hT rfl) rfl ?_ | refine T_opD rfl rfl rfl rfl rfl (stepA_ok hT rfl) rfl ?_ | refine T_opD rfl rfl rfl rfl rfl (opr_lit0 hT rfl rfl rfl) rfl ?_ | refine T_stD rfl rfl rfl rfl (stepN_ok hT rfl) rfl ?_ | refine T_op2D rfl rfl rfl rfl rfl rfl (stepN_ok hT rfl) (stepN_ok hT rfl) rfl ?_ | refine T_op2D rfl rfl rfl rfl rfl rfl (stepA_ok hT rfl) (stepA_ok hT rfl) rfl ?_))
  exact k) : φ := h k
/-- A drawn region that writes the caller's objects, as far as the environment tells. -/
theorem gdH {φ ψ : Prop} (k : ψ) (h : ψ → φ := by
  intro k
  repeat (first
    | with_reducible refine T_nil ?_
    | ((with_reducible refine T_gateF ?_); first | refine T_opH rfl rfl rfl rfl rfl rfl (stepN_ok hT rfl) rfl ?_ | refine T_opH rfl rfl rfl rfl rfl rfl (stepG_ok hT rfl) rfl ?_ | refine T_opH rfl rfl rfl rfl rfl rfl (stepA_ok hT rfl) rfl ?_ | refine T_opH rfl rfl rfl rfl rfl rfl (opr_lit hT rfl rfl rfl rfl) rfl ?_ | refine T_op2H rfl rfl rfl rfl rfl rfl rfl rfl (stepN_ok hT rfl) (stepN_ok hT rfl) rfl ?_ | refine T_op2H rfl rfl rfl rfl rfl rfl rfl rfl (stepG_ok hT rfl) (stepG_ok hT rfl) rfl ?_ | refine T_op2H rfl rfl rfl rfl rfl rfl rfl rfl (stepA_ok hT rfl) (stepA_ok hT rfl) rfl ?_ | refine T_stH rfl rfl rfl rfl rfl rfl (stepG_ok hT rfl) rfl ?_ | refine T_stH rfl rfl rfl rfl rfl rfl (stepN_ok hT rfl) rfl ?_))
  exact k) : φ := h k
section
variable {P : Program} {T : Tab} {Γ : Ctx} {env : Env} {H L : List AObj} {Q : Exit → Act → World → Prop} {ops : Array Oper} {rest : List Oper} {o : Oper}
/-- An operation of which not all is known beforehand. -/
theorem J_any {ι : Type} {x : ι → TV} (hg : o.guard = none) (hd : dstOk Γ.N o.dst = true) (h : ∀ F w β a, Sim w β ⟨H, L, F⟩ → EnvR w β ⟨H, L, F⟩ env a → ∃ i u, (execOp a.eval o).run P w = .ok (.value u) w ∧ RepT w β ⟨H, L, F⟩ (x i) u)
    (k : ∀ i, J Γ (putE env o.dst (x i)) H L (wpList P ops Q rest)) : J Γ env H L (wpList P ops Q (o :: rest)) := by
  intro a w β s
  obtain ⟨i, u, hr, hx⟩ := h Γ.F w β a s.sim s.env
  unfold wpList
  rw [if_pos (by simp [Region.wanted, hg])]
  refine .inl ?_
  unfold Oper.wp
  rw [hr]
  exact k i _ _ _ (s.next hd s.sim (Step.refl ..) hx)
theorem run_eqSl2 {w : World} {t : TypeId} {e : TypeId} (hu : P.underlying t = some (.slice e)) (a : Option Addr) (n c m k : Nat) : (Op.equal t (.slice a n c) (.slice none m k)).run P w = .ok a.isNone w := by
  have key : ∀ d, (Op.equalIn (d + 1) t (.slice a n c) (.slice none m k)).run P w = .ok a.isNone w := by
    intro d; cases a <;> simp [Op.equalIn, run_underlying hu]
  exact key 9999
theorem eqSl_val {t t2 : TypeId} {e : TypeId} {y z : Operand} {a : Act} {w : World} {ao : Option Addr} {n c : Nat} (hu : P.underlying t = some (.slice e)) (ho : o.op = .binOp .eql t y z t2) (hy : a.eval y = .slice ao n c) (hz : a.eval z = .slice none 0 0) : (execOp a.eval o).run P w = .ok (.value (.bool ao.isNone)) w := by
  simp only [execOp, ho, hy, hz, Sem.run_bind]
  have := run_eqSl2 (P := P) (w := w) hu ao n c 0 0
  have h2 : (Go.binOp .eql t (.slice ao n c) (.slice none 0 0)).run P w = .ok (.bool ao.isNone) w := by rw [bin_eq_sl]; simp [this]
  simp [eqGuard_at_slice, h2]
end
theorem rep_nil_cell (w : World) (β : Hd → Nat) (G : Hp) (v : Value) (h : RepT w β G (.p .nilp) v) : RepT w β G (.p (.cell .nilp)) v := rep_wrap rfl h
/-! ### What a callee gathered -/
theorem nils_ps : AVLe .nils (.ps []) := fun _ _ _ h => by cases h; exact .psE ..
theorem cz_ps : AVLe .cz (.ps []) := fun _ _ _ h => by cases h; exact .psE ..
theorem Con.le {P : Program} {f : FuncId} {args : List TV} {H H' news : List AObj} {x y : AV} (h : Con P f args H (.p x) H' news) (hxy : AVLe x y) : Con P f args H (.p y) H' news :=
  ⟨h.can, fun F w β vs hS hr => (h.run F w β vs hS hr).mono fun _ _ ⟨β', v, he, hS', hst, hv⟩ => ⟨β', v, he, hS', hst, by cases hv with | p hv => exact .p (hxy _ _ _ hv)⟩⟩
/-- As a value that stays. -/
theorem Con.toPs {P : Program} {f : FuncId} {args : List TV} {H H' : List AObj} {e sz : Nat} {d : AV} {acc : List AV} (hd : d = .nils ∨ d = .cz) (h : Con P f args H (accT 0 d acc) H' (accL e sz acc)) : Con P f args H (.p (.ps acc)) H' [] := by
  cases acc with
  | nil => rcases hd with rfl | rfl; exact h.le nils_ps; exact h.le cz_ps
  | cons r rs => exact Con.freeze h rfl
/-- As an array that may have no element yet. -/
theorem Con.toLz {P : Program} {f : FuncId} {args : List TV} {H H' : List AObj} {e sz : Nat} {d : AV} {acc : List AV} (hd : d = .nils ∨ d = .cz) (h0 : 0 < sz) (h : Con P f args H (accT 0 d acc) H' (accL e sz acc)) : Con P f args H (.sl (.l 0) acc.length 0 acc.length) H' [.arr e true sz acc] := by
  cases acc with
  | cons r rs => exact h
  | nil =>
    exact ⟨h.can, fun F w β vs hS hr => (h.run F w β vs hS hr).mono fun ed w' ⟨β', v, he, hS', hst, hv⟩ => by
      obtain ⟨k1, k2⟩ := sim_lazy e h0 hS'
      exact ⟨β', v, he, k1, hst.trans k2, rep_lazy e sz hd hv⟩⟩
/-- What may have no element, read. -/
theorem Rd.own {H L : List AObj} {i : Nat} {Ty : TypeId} {b : Bool} {e n : Nat} {rows : List AV} (hi : L[i]? = some (.arr Ty b e rows)) (hn : rows.length = n) : Rd H L (.sl (.l i) n 0 n) rows := Rd.full hi hn
/-- A slice that surely is, held against nil. -/
theorem opr_slNe {P : Program} {T : Tab} {env : Env} {H L : List AObj} {o : Oper} {t t2 : TypeId} {y z : Operand} {h : Hd} {n e0 e : Nat} {Ty : TypeId} {b : Bool} {rows : List AV} (hT : TabOk P T) (ho : o.op = .binOp .eql t y z t2) (hd : tyD T t = .slice e0) (hy : evA env y = .sl h n 0 n) (hz : evA env z = .p .nils)
    (hg : (⟨H, L, noF⟩ : Hp).get h = some (.arr Ty b e rows)) (hn : rows.length = n) (h0 : 0 < n) : OpR P o env H L (.p (.bool false)) H L :=
  opr_pure fun F w β a hS he => by
    have hv := evA_ok he y
    rw [hy] at hv
    have hw := evA_ok he z
    rw [hz] at hw
    obtain ⟨u, h1, h2⟩ := tyD_und hT (t := t) (by rw [hd]; simp)
    rw [hd] at h2
    obtain rfl := chkD_slice h2
    have hzv : a.eval z = .slice none 0 0 := by
      generalize a.eval z = q at hw
      cases hw with | p hw => cases hw; rfl
    have hg' : (⟨H, L, F⟩ : Hp).get h = some (.arr Ty b e rows) := by cases h <;> exact hg
    generalize hq : a.eval y = q at hv
    cases hv with | sl _ _ _ _ _ _ _ hv =>
    obtain ⟨ao, cap, rfl, _, _, hao⟩ := (hv _ _ _ _ hg' hn).val
    obtain rfl := hao h0
    exact ⟨_, eqSl_val h1 ho hq hzv, .p (.bool ..)⟩
/-- One that may have no element. -/
theorem J_slNil {P : Program} {T : Tab} {Γ : Ctx} {env : Env} {H L : List AObj} {Q : Exit → Act → World → Prop} {ops : Array Oper} {rest : List Oper} {o : Oper} {t t2 : TypeId} {y z : Operand} {h : Hd} {e0 e : Nat} {Ty : TypeId} (hT : TabOk P T) (hgd : o.guard = none) (hdd : dstOk Γ.N o.dst = true) (ho : o.op = .binOp .eql t y z t2) (hd : tyD T t = .slice e0) (hy : evA env y = .sl h 0 0 0) (hz : evA env z = .p .nils)
    (hg : (⟨H, L, noF⟩ : Hp).get h = some (.arr Ty true e [])) (k : ∀ b, J Γ (putE env o.dst (.p (.bool b))) H L (wpList P ops Q rest)) : J Γ env H L (wpList P ops Q (o :: rest)) :=
  J_any (x := fun b => .p (.bool b)) hgd hdd (fun F w β a hS he => by
    have hv := evA_ok he y
    rw [hy] at hv
    have hw := evA_ok he z
    rw [hz] at hw
    obtain ⟨u, h1, h2⟩ := tyD_und hT (t := t) (by rw [hd]; simp)
    rw [hd] at h2
    obtain rfl := chkD_slice h2
    have hzv : a.eval z = .slice none 0 0 := by
      generalize a.eval z = q at hw
      cases hw with | p hw => cases hw; rfl
    have hg' : (⟨H, L, F⟩ : Hp).get h = some (.arr Ty true e []) := by cases h <;> exact hg
    generalize hq : a.eval y = q at hv
    cases hv with | sl _ _ _ _ _ _ _ hv =>
    obtain ⟨ao, rfl⟩ := (hv _ _ _ _ hg' rfl).off rfl rfl
    exact ⟨ao.isNone, _, eqSl_val h1 ho hq hzv, .p (.bool ..)⟩) k
end Go.Awp

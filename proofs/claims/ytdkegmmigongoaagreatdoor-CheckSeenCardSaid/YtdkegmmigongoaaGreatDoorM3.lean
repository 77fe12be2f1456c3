import Derived.Test.YtdkegmmigongoaaGreatDoorGo
import Derived.Test.YtdkegmmigongoaaGreatDoorM2
import Derived.Test.YtdkegmmigongoaaGreatDoorM1
namespace Go.Proofs.YtdkegmmigongoaaGreatDoor
set_option maxRecDepth 20000
open Go.Awp
structure BehI (l : List UInt8) where
 i : Nat
 h : i < l.length
 d : l.drop (i + 1) = List.replicate (l.length - (i + 1)) 255
def behE (l : List UInt8) (s : BehI l) : Env := [(3, .sl (.l 0) l.length 0 l.length), (4, .p (.int .i64 (s.i : Int)))]
def behR (l : List UInt8) (s : BehI l) : List UInt8 := l.take (s.i + 1) ++ List.replicate (l.length - (s.i + 1)) 0
theorem behR_len (l : List UInt8) (s : BehI l) : (behR l s).length = l.length := by
 have := s.h
 simp [behR]; omega
theorem behR_get (l : List UInt8) (s : BehI l) : (behR l s)[s.i]? = some (l[s.i]'s.h) := by
 have := s.h
 unfold behR
 rw [List.getElem?_append_left (by simp; omega), List.getElem?_take, if_pos (by omega), List.getElem?_eq_getElem]
theorem behR_set (l : List UInt8) (s : BehI l) (b : UInt8) : (behR l s).set s.i b = l.take s.i ++ b :: List.replicate (l.length - (s.i + 1)) 0 := by
 have := s.h
 unfold behR
 rw [List.take_succ_eq_append_getElem s.h, List.append_assoc, List.set_append_right _ _ (by simp; omega)]
 simp [Nat.min_eq_left (Nat.le_of_lt this)]
theorem wrap_u8 (b : UInt8) : IntKind.u8.wrap ((b.toNat : Int) + 1) = ((b + 1).toNat : Int) := by
 have h := b.toNat_lt
 simp [IntKind.wrap, IntKind.bits, IntKind.signed, UInt8.toNat_add]
set_option maxHeartbeats 4000000 in
theorem behind_spec (l : List UInt8) (hl : l.length ≤ 140737488355328) (hb : beh l ≠ []) : Con Tryz.prog 185 [.p (.str l)] [] (.p (.str (beh l))) [] [] := by
 have hpos : 0 < l.length := by
  cases l with
  | nil => simp [beh] at hb
  | cons b l => simp
 refine con_of Tryz.func185 rfl (by kernel_rfl) rfl fun F w0 β0 => ?_
 refine K_tell rfl ?_
 refine g0 ?_
 refine K_op rfl rfl (opr_bytes_own hT rfl rfl rfl rfl rfl hl) rfl ?_
 refine go ?_
 refine K_op rfl rfl (opr_len_rd hT rfl rfl (Rd.full rfl (bv_length l))) rfl ?_
 rw [bv_length]
 refine go ?_
 have e4 : IntKind.i64.wrap ((l.length : Int) - 1) = ((l.length - 1 : Nat) : Int) := by rw [IntWalk.i64_in _ (by omega)]; omega
 refine J_loop (behE l) (fun _ => []) (fun s => [.arr 5 false 1 (bv (behR l s))]) (fun s => s.i) ⟨l.length - 1, by omega, ?_⟩ ⟨rfl, congrArg (fun z => TV.p (.int .i64 z)) e4, trivial⟩ rfl ?_ (fun s => ?_)
 ·rw [List.drop_of_length_le (by omega)]; simp [show l.length - (l.length - 1 + 1) = 0 by omega]
 ·show [AObj.arr _ false 1 (bv (l.take (l.length - 1 + 1) ++ _))] = _
  simp [show l.length - (l.length - 1 + 1) = 0 by omega, List.take_of_length_le (show l.length ≤ l.length - 1 + 1 by omega)]
 have hs := s.h
 have hlen : (bv (behR l s)).length = l.length := by rw [bv_length, behR_len]
 have hg : (bv (behR l s))[s.i]? = some (.int .u8 ((l[s.i]'hs).toNat : Int)) := by rw [bv_get, behR_get]; rfl
 have hlt : ((s.i : Nat) : Int) < ((bv (behR l s)).length : Int) := by rw [hlen]; omega
 have hset : (bv (behR l s)).set (0 + s.i) (.int .u8 (IntKind.u8.wrap (((l[s.i]'hs).toNat : Int) + 1))) = bv (l.take s.i ++ (l[s.i]'hs + 1) :: List.replicate (l.length - (s.i + 1)) 0) := by
  rw [wrap_u8, Nat.zero_add, bv_set, behR_set]
 have hlen2 : (bv (l.take s.i ++ (l[s.i]'hs + 1) :: List.replicate (l.length - (s.i + 1)) 0)).length = l.length := by rw [bv_length]; simp; omega
 have hg2 : (bv (l.take s.i ++ (l[s.i]'hs + 1) :: List.replicate (l.length - (s.i + 1)) 0))[s.i]? = some (.int .u8 ((l[s.i]'hs + 1).toNat : Int)) := by
  rw [bv_get, List.getElem?_append_right (by simp; omega)]
  simp [Nat.min_eq_left (Nat.le_of_lt hs)]
 have hlt2 : ((s.i : Nat) : Int) < ((bv (l.take s.i ++ (l[s.i]'hs + 1) :: List.replicate (l.length - (s.i + 1)) 0)).length : Int) := by rw [hlen2]; omega
 unfold behE
 refine go ?_
 refine K_op rfl rfl (opr_index hT rfl rfl rfl rfl rfl (Rd.full rfl hlen) (by omega) hlt) rfl ?_
 refine K_op rfl rfl (opr_load_el hT rfl rfl (Rd.full rfl hlen) (by rw [Int.toNat_natCast]; exact hg) rfl rfl) rfl ?_
 refine go ?_
 refine K_op rfl rfl (opr_index hT rfl rfl rfl rfl rfl (Rd.full rfl hlen) (by omega) hlt) rfl ?_
 refine K_op rfl rfl (opr_storeEl1 hT rfl rfl rfl hlen rfl rfl rfl rfl) rfl ?_
 refine go ?_
 rw [Int.toNat_natCast, hset]
 refine K_op rfl rfl (opr_index hT rfl rfl rfl rfl rfl (Rd.full rfl hlen2) (by omega) hlt2) rfl ?_
 refine K_op rfl rfl (opr_load_el hT rfl rfl (Rd.full rfl hlen2) (by rw [Int.toNat_natCast]; exact hg2) rfl rfl) rfl ?_
 refine go ?_
 by_cases h255 : l[s.i]'hs = 255
 ·have h0 : l[s.i]'hs + 1 = 0 := by rw [h255]; rfl
  have hip : 0 < s.i := by
   rcases Nat.eq_zero_or_pos s.i with h | h
   ·exfalso
    refine hb ?_
    have hd := s.d
    have e : l = List.replicate l.length 255 := by
     have : l = l[s.i]'hs :: l.drop (s.i + 1) := by
      rw [← List.drop_eq_getElem_cons hs, h]; rfl
     rw [hd, h255, h] at this
     rw [this]
     simp [List.replicate_succ]
    rw [e]
    exact beh_rep _
   ·exact h
  rw [h0]
  refine J_false 22 rfl rfl ?_
  refine K_condF rfl rfl ?_
  refine go ?_
  refine J_again ⟨s.i - 1, by omega, ?_⟩ (show s.i - 1 < s.i by omega) ⟨rfl, congrArg (fun z => TV.p (.int .i64 z)) ?_, trivial⟩ rfl ?_
  ·rw [show s.i - 1 + 1 = s.i by omega, List.drop_eq_getElem_cons hs, s.d, h255, ← List.replicate_succ]
   congr 1
   omega
  ·show IntKind.i64.wrap ((s.i : Int) - 1) = ((s.i - 1 : Nat) : Int)
   rw [IntWalk.i64_in _ (by omega)]; omega
  ·show [AObj.arr _ _ _ (bv _)] = [AObj.arr _ _ _ (bv _)]
   congr 3
   show l.take (s.i - 1 + 1) ++ List.replicate (l.length - (s.i - 1 + 1)) 0 = _
   rw [show s.i - 1 + 1 = s.i by omega, show l.length - s.i = l.length - (s.i + 1) + 1 by omega, List.replicate_succ]
 ·have hne : ((l[s.i]'hs + 1).toNat : Int) ≠ 0 := by
   have hlt := (l[s.i]'hs).toNat_lt
   have h2 : (l[s.i]'hs).toNat ≠ 255 := fun e => h255 (UInt8.toNat_inj.1 e)
   rw [UInt8.toNat_add]
   have : (1 : UInt8).toNat = 1 := rfl
   omega
  have hbe : beh l = l.take s.i ++ [l[s.i]'hs + 1] := by
   have e : l = l.take s.i ++ l[s.i]'hs :: List.replicate (l.length - (s.i + 1)) 255 := by
    rw [← s.d, ← List.drop_eq_getElem_cons hs, List.take_append_drop]
   have := beh_at (l.take s.i) (l[s.i]'hs) (l.length - (s.i + 1)) h255
   rwa [← e] at this
  have ecut : ((bv (l.take s.i ++ (l[s.i]'hs + 1) :: List.replicate (l.length - (s.i + 1)) 0)).drop 0).take (s.i + 1 - 0) = bv (beh l) := by
   rw [hbe, List.drop_zero, bv_take]
   congr 1
   rw [List.take_append, List.take_of_length_le (by simp; omega)]
   simp [Nat.min_eq_left (Nat.le_of_lt hs)]
  have e25 : IntKind.i64.wrap ((s.i : Int) + 1) = ((s.i + 1 : Nat) : Int) := by rw [IntWalk.i64_in _ (by omega)]; omega
  refine J_true 22 rfl (by simpa using hne) ?_
  refine K_condT rfl rfl ?_
  refine go ?_
  refine J_val 25 _ rfl (congrArg (fun z => TV.p (.int .i64 z)) e25) ?_
  refine K_op rfl rfl (opr_cut hT rfl rfl rfl rfl (Rd.full rfl hlen2) rfl rfl (by decide) (by omega) (by rw [hlen2]; omega) (bv_size _)) rfl ?_
  have hrd : Rd [] [AObj.arr 5 false 1 (bv (l.take s.i ++ (l[s.i]'hs + 1) :: List.replicate (l.length - (s.i + 1)) 0))] (.sl (.l 0) l.length (0 + Int.toNat 0) ((((s.i + 1 : Nat)) : Int).toNat - Int.toNat 0)) (bv (beh l)) := by
   rw [← ecut]
   exact Rd.sl rfl hlen2
  refine K_op rfl rfl (opr_to_str (l := beh l) hT rfl rfl rfl rfl rfl hrd) rfl ?_
  refine go ?_
  exact J_done hT rfl rfl rfl
theorem beh_key (k n : Int) (hk : 0 ≤ k ∧ k < 255) : beh (keyH k n) ≠ [] := by
 have hb : UInt8.ofNat k.toNat ≠ 255 := fun e => by
  have := congrArg UInt8.toNat e
  simp at this
  omega
 unfold keyH
 simp only [beh]
 split
 ·rw [if_neg hb]; simp
 ·simp
theorem entries_spec (n : Int) (hn : 0 ≤ n ∧ n ≤ 4294967295) : Con Tryz.prog 176 [.p (.int .u32 n)] [] (.tup [.p (.str (keyH 69 n)), .p (.str (beh (keyH 69 n)))]) [] [] := by
 have c1 := kof_spec 69 n (by decide) hn []
 have c2 := behind_spec (keyH 69 n) (by rw [keyH_len]; decide) (beh_key 69 n (by decide))
 refine con_of Tryz.func176 rfl (by kernel_rfl) rfl fun F w0 β0 => ?_
 refine K_tell rfl ?_
 refine go ?_
 refine K_op rfl rfl (opr_callP rfl rfl (c1) rfl rfl rfl rfl) rfl ?_
 refine K_op rfl rfl (opr_to_str (l := keyH 69 n) hT rfl rfl rfl rfl rfl (.ps _)) rfl ?_
 refine go ?_
 refine K_op rfl rfl (opr_callP rfl rfl (c2) rfl rfl rfl rfl) rfl ?_
 refine go ?_
 exact J_done hT rfl rfl rfl
def blocksV (n from_ : Int) : List UInt8 := if from_ > 65535 then beh (keyH 68 n) else blockK n (max from_ 0)
theorem mm_max (a : Int) : mmA .max a 0 = max a 0 := by unfold mmA; simp only []; split <;> omega
theorem blocks9_spec (n i : Int) (hn : 0 ≤ n ∧ n ≤ 4294967295) : Con Tryz.prog 174 [.p (.int .u32 n), .p (.int .i64 i)] [] (.tup [.p (.str (blocksV n i)), .p (.str (beh (keyH 68 n)))]) [] [] := by
 have c1 := kof_spec 68 n (by decide) hn []
 have c2 := behind_spec (keyH 68 n) (by rw [keyH_len]; decide) (beh_key 68 n (by decide))
 have c3 := kblock_spec n (max i 0) hn []
 refine con_of Tryz.func174 rfl (by kernel_rfl) rfl fun F w0 β0 => ?_
 refine K_tell rfl ?_
 refine go ?_
 refine K_op rfl rfl (opr_callP rfl rfl (c1) rfl rfl rfl rfl) rfl ?_
 refine K_op rfl rfl (opr_to_str (l := keyH 68 n) hT rfl rfl rfl rfl rfl (.ps _)) rfl ?_
 refine go ?_
 refine K_op rfl rfl (opr_callP rfl rfl (c2) rfl rfl rfl rfl) rfl ?_
 refine go ?_
 refine J_cond rfl (fun h => ?_) (fun h => ?_)
 ·have h1 : i > 65535 := of_decide_eq_true h
  have e : blocksV n i = beh (keyH 68 n) := by unfold blocksV; rw [if_pos h1]
  rw [e]
  refine go ?_
  exact J_done hT rfl rfl rfl
 ·have h1 : ¬ i > 65535 := of_decide_eq_false h
  have e : blocksV n i = blockK n (max i 0) := by unfold blocksV; rw [if_neg h1]
  rw [e]
  refine go ?_
  refine J_val 17 _ rfl (congrArg (fun z => TV.p (.int .i64 z)) (mm_max i)) ?_
  refine K_op rfl rfl (opr_callP rfl rfl (c3) rfl rfl rfl rfl) rfl ?_
  refine go ?_
  exact J_done hT rfl rfl rfl
def splitK (l : List UInt8) : Int × Int × List UInt8 × Int :=
 if l.length < 5 then (0, 0, [], 0) else
 if b0 l = 73 ∧ l.drop 5 = [] then (73, gF l 1, [], 0) else
 if b0 l = 69 ∧ l.drop 5 ≠ [] ∧ (l.drop 5).length ≤ 32 then (69, gF l 1, l.drop 5, 0) else
 if b0 l = 68 ∧ (l.drop 5).length = 2 then (68, gF l 1, [], beV (l.drop 5)) else (0, 0, [], 0)
def splitT (r : Int × Int × List UInt8 × Int) : TV := .tup [.p (.int .u8 r.1), .p (.int .u32 r.2.1), .p (.str r.2.2.1), .p (.int .i64 r.2.2.2)]
theorem mm_min (n : Nat) (h : 1 ≤ n) : mmA .min 1 (n : Int) = 1 := by unfold mmA; simp only []; rw [if_neg (by omega)]
theorem beV_2 {l : List UInt8} (h : l.length = 2) : 0 ≤ beV l ∧ beV l < 65536 := by
 have := beV_bound l
 rw [h] at this
 exact this
theorem get2 (l : List UInt8) (h : (l.drop 5).length = 2) (hl : l.length ≤ 140737488355328) : Con Tryz.prog 104 [.p (.ps (bv l)), .p (.int .i64 5), .p (.int .i64 2)] [] (.tup [.p (.int .u64 (beV (l.drop 5))), .p (.int .i64 7), .p (.int .i64 0)]) [] [] := by
 have p1 := get_spec (.ps l) 5 2 (by decide) hl []
 have hl7 : l.length = 7 := by simp at h; omega
 rw [show (wide 2).toNat = 2 by decide] at p1
 unfold getR at p1
 rw [if_neg (by omega), if_neg (by omega), show ((l.drop (5 : Int).toNat).take 2) = l.drop 5 from List.take_of_length_le (by simp; omega)] at p1
 exact p1
theorem get0 (l : List UInt8) (h : l.length < 5) : ∃ a, 0 ≤ a ∧ mmA .min 1 (l.length : Int) = a ∧ Con Tryz.prog 104 [.p (.ps (bv l)), .p (.int .i64 a), .p (.int .i64 4)] [] (.tup [.p (.int .u64 0), .p (.int .i64 0), .p (.int .i64 3)]) [] [] := by
 refine ⟨mmA .min 1 (l.length : Int), by unfold mmA; simp only []; split <;> omega, rfl, ?_⟩
 have hm : mmA .min 1 (l.length : Int) ≤ l.length ∧ 0 ≤ mmA .min 1 (l.length : Int) ∧ (l.length : Int) - mmA .min 1 (l.length : Int) < 4 := by unfold mmA; simp only []; split <;> omega
 generalize mmA .min 1 (l.length : Int) = a at hm
 have p1 := get_spec (.ps l) a 4 (by omega) (by omega) []
 rw [show (wide 4).toNat = 4 by decide] at p1
 unfold getR at p1
 rw [if_neg (by omega), if_pos (by omega)] at p1
 exact p1
theorem b0_get {l : List UInt8} (h : ¬ l.length < 5) : l[0]? = some (l.headD 0) := by
 cases l with
 | nil => simp at h
 | cons b r => rfl
set_option maxHeartbeats 4000000 in
theorem ksplit_spec (l : List UInt8) (hl : l.length ≤ 140737488355328) : Con Tryz.prog 64 [.p (.str l)] [] (splitT (splitK l)) [] [] := by
 by_cases h5 : l.length < 5
 ·have e : splitK l = (0, 0, [], 0) := by unfold splitK; rw [if_pos h5]
  rw [e]
  obtain ⟨a, _, ha, c1⟩ := get0 l h5
  refine con_of Tryz.func64 rfl (by kernel_rfl) rfl fun F w0 β0 => ?_
  refine K_tell rfl ?_
  refine go ?_
  refine J_val 20 _ rfl (congrArg (fun z => TV.p (.int .i64 z)) (show mmA .min 1 ((bv l).length : Int) = a by rw [bv_length]; exact ha)) ?_
  refine K_op rfl rfl (opr_callP rfl rfl (c1) rfl rfl rfl rfl) rfl ?_
  refine go ?_
  exact J_done hT rfl rfl rfl
 have c1 := get4 l 1 (by omega) hl
 have g1 := gF_bd l 1
 have hb := b0_get h5
 have hb0 : b0 l = ((l.headD 0).toNat : Int) := rfl
 have hcut : (l.drop (5 : Int).toNat).take ((l.length : Int).toNat - (5 : Int).toNat) = l.drop 5 := List.take_of_length_le (by simp)
 have w1 : IntKind.u32.wrap (gF l 1) = gF l 1 := u32_in _ g1
 have hm := mm_min l.length (by omega)
 generalize hx : ((l.headD 0).toNat : Int) = x at hb0
 have hb1 : TV.p (AV.int .u8 ((l.headD 0).toNat : Int)) = .p (.int .u8 x) := by rw [hx]
 refine con_of Tryz.func64 rfl (by kernel_rfl) rfl fun F w0 β0 => ?_
 refine K_tell rfl ?_
 refine go ?_
 refine J_val 20 _ rfl (congrArg (fun z => TV.p (.int .i64 z)) (show mmA .min 1 ((bv l).length : Int) = ((1 : Nat) : Int) by rw [bv_length]; exact hm)) ?_
 refine K_op rfl rfl (opr_callP rfl rfl (c1) rfl rfl rfl rfl) rfl ?_
 refine go ?_
 refine K_op rfl rfl (opr_cut_str hT rfl rfl rfl rfl rfl (by decide) (by show (5 : Int) ≤ _; omega) (by omega)) rfl ?_
 refine J_val 29 (.p (.str (l.drop 5))) rfl (congrArg (fun z => TV.p (.str z)) hcut) ?_
 refine go ?_
 refine K_op rfl rfl (opr_byte hT rfl rfl rfl rfl (by decide) hb) rfl ?_
 refine J_val 32 _ rfl hb1 ?_
 refine go ?_
 refine J_cond rfl (fun hc => ?_) (fun hc => ?_)
 ·have hc1 : x = 73 ∧ l.drop 5 = [] := by simpa using hc
  have e : splitK l = (73, gF l 1, [], 0) := by unfold splitK; rw [if_neg h5, hb0, if_pos hc1]
  rw [e]
  refine go ?_
  refine J_val 3 _ rfl (congrArg (fun z => TV.p (.int .u32 z)) w1) ?_
  exact J_done hT rfl rfl rfl
 have hc1 : ¬ (x = 73 ∧ l.drop 5 = []) := by intro h; rw [h.1, h.2] at hc; simp at hc
 refine go ?_
 refine K_op rfl rfl (opr_byte hT rfl rfl rfl rfl (by decide) hb) rfl ?_
 refine J_val 42 _ rfl hb1 ?_
 refine go ?_
 refine J_cond rfl (fun hd => ?_) (fun hd => ?_)
 ·have hd1 : x = 69 ∧ l.drop 5 ≠ [] ∧ (l.drop 5).length ≤ 32 := by
   simp only [Bool.and_eq_true, beq_iff_eq, Bool.not_eq_true', beq_eq_false_iff_ne, decide_eq_true_eq] at hd
   exact ⟨hd.1.1, hd.1.2, by omega⟩
  have e : splitK l = (69, gF l 1, l.drop 5, 0) := by unfold splitK; rw [if_neg h5, hb0, if_neg hc1, if_pos hd1]
  rw [e]
  refine go ?_
  refine J_val 3 _ rfl (congrArg (fun z => TV.p (.int .u32 z)) w1) ?_
  exact J_done hT rfl rfl rfl
 have hd1 : ¬ (x = 69 ∧ l.drop 5 ≠ [] ∧ (l.drop 5).length ≤ 32) := by
  intro h
  have : ((l.drop 5).length : Int) ≤ 32 := by omega
  have h6 : 0 < (l.drop 5).length := List.length_pos_iff.2 h.2.1
  simp at h6 this
  simp [h.1] at hd
  omega
 refine go ?_
 refine K_op rfl rfl (opr_byte hT rfl rfl rfl rfl (by decide) hb) rfl ?_
 refine J_val 58 _ rfl hb1 ?_
 refine go ?_
 refine J_cond rfl (fun he => ?_) (fun he => ?_)
 ·have he1 : x = 68 ∧ (l.drop 5).length = 2 := by
   simp only [Bool.and_eq_true, beq_iff_eq] at he
   exact ⟨he.1, by omega⟩
  have e : splitK l = (68, gF l 1, [], beV (l.drop 5)) := by unfold splitK; rw [if_neg h5, hb0, if_neg hc1, if_neg hd1, if_pos he1]
  have b2 := beV_2 he1.2
  rw [e]
  refine go ?_
  refine K_op rfl rfl (opr_callP rfl rfl (get2 l he1.2 hl) rfl rfl rfl rfl) rfl ?_
  refine go ?_
  refine J_val 3 _ rfl (congrArg (fun z => TV.p (.int .u32 z)) w1) ?_
  refine J_val 5 _ rfl (congrArg (fun z => TV.p (.int .i64 z)) (IntWalk.i64_in _ (by omega))) ?_
  exact J_done hT rfl rfl rfl
 ·have he1 : ¬ (x = 68 ∧ (l.drop 5).length = 2) := by
   intro h
   have : ((l.drop 5).length : Int) = 2 := by omega
   simp [h.1] at he
   simp at this
   omega
  have e : splitK l = (0, 0, [], 0) := by unfold splitK; rw [if_neg h5, hb0, if_neg hc1, if_neg hd1, if_neg he1]
  rw [e]
  refine go ?_
  exact J_done hT rfl rfl rfl
set_option maxHeartbeats 4000000 in
theorem rsplit_spec (l : List UInt8) (hl : l.length ≤ 140737488355328) : Con Tryz.prog 37 [.p (.str l)] [] (splitT (splitK l)) [] [] := by
 by_cases h5 : l.length < 5
 ·have e : splitK l = (0, 0, [], 0) := by unfold splitK; rw [if_pos h5]
  rw [e]
  refine con_of Tryz.func37 rfl (by kernel_rfl) rfl fun F w0 β0 => ?_
  refine K_tell rfl ?_
  refine go ?_
  refine J_true 12 rfl (by simp; omega) ?_
  refine go ?_
  exact J_done hT rfl rfl rfl
 have c1 := rget4 l 1 (by omega) hl
 have g1 := gF_bd l 1
 have hb := b0_get h5
 have hb0 : b0 l = ((l.headD 0).toNat : Int) := rfl
 have hcut : (l.drop (5 : Int).toNat).take ((l.length : Int).toNat - (5 : Int).toNat) = l.drop 5 := List.take_of_length_le (by simp)
 have w1 : IntKind.u32.wrap (gF l 1) = gF l 1 := u32_in _ g1
 generalize hx : ((l.headD 0).toNat : Int) = x at hb0
 have hb1 : TV.p (AV.int .u8 ((l.headD 0).toNat : Int)) = .p (.int .u8 x) := by rw [hx]
 refine con_of Tryz.func37 rfl (by kernel_rfl) rfl fun F w0 β0 => ?_
 refine K_tell rfl ?_
 refine go ?_
 refine J_false 12 rfl (by simp; omega) ?_
 refine go ?_
 refine K_op rfl rfl (opr_callP rfl rfl (c1) rfl rfl rfl rfl) rfl ?_
 refine go ?_
 refine K_op rfl rfl (opr_cut_str hT rfl rfl rfl rfl rfl (by decide) (by show (5 : Int) ≤ _; omega) (by omega)) rfl ?_
 refine J_val 21 (.p (.str (l.drop 5))) rfl (congrArg (fun z => TV.p (.str z)) hcut) ?_
 refine go ?_
 refine K_op rfl rfl (opr_byte hT rfl rfl rfl rfl (by decide) hb) rfl ?_
 refine J_val 23 _ rfl hb1 ?_
 refine go ?_
 refine J_cond rfl (fun hc => ?_) (fun hc => ?_)
 ·have hc0 : x = 73 := by simpa using hc
  refine go ?_
  refine J_cond rfl (fun hd => ?_) (fun hd => ?_)
  ·have hc1 : x = 73 ∧ l.drop 5 = [] := by
    refine ⟨hc0, List.eq_nil_of_length_eq_zero ?_⟩
    have := of_decide_eq_true hd
    omega
   have e : splitK l = (73, gF l 1, [], 0) := by unfold splitK; rw [if_neg h5, hb0, if_pos hc1]
   rw [e]
   refine go ?_
   refine J_val 3 _ rfl (congrArg (fun z => TV.p (.int .u32 z)) w1) ?_
   exact J_done hT rfl rfl rfl
  ·have hne : l.drop 5 ≠ [] := by
    intro h
    rw [h] at hd
    simp at hd
   have e : splitK l = (0, 0, [], 0) := by unfold splitK; rw [if_neg h5, hb0, hc0]; simp [hne]
   rw [e]
   refine go ?_
   exact J_done hT rfl rfl rfl
 have hc0 : ¬ x = 73 := by simpa using hc
 refine go ?_
 refine J_cond rfl (fun hd => ?_) (fun hd => ?_)
 ·have hd0 : x = 69 := by simpa using hd
  refine go ?_
  refine J_cond rfl (fun he => ?_) (fun he => ?_)
  ·have hd1 : x = 69 ∧ l.drop 5 ≠ [] ∧ (l.drop 5).length ≤ 32 := by
    simp only [Bool.and_eq_true, decide_eq_true_eq] at he
    refine ⟨hd0, fun h => ?_, by omega⟩
    rw [h] at he
    simp at he
   have e : splitK l = (69, gF l 1, l.drop 5, 0) := by unfold splitK; rw [if_neg h5, hb0, if_neg (by omega), if_pos hd1]
   rw [e]
   refine go ?_
   refine J_val 3 _ rfl (congrArg (fun z => TV.p (.int .u32 z)) w1) ?_
   exact J_done hT rfl rfl rfl
  ·have hd1 : ¬ (x = 69 ∧ l.drop 5 ≠ [] ∧ (l.drop 5).length ≤ 32) := by
    intro h
    simp only [Bool.and_eq_false_iff, decide_eq_false_iff_not] at he
    have : 0 < (l.drop 5).length := List.length_pos_iff.2 h.2.1
    omega
   have e : splitK l = (0, 0, [], 0) := by unfold splitK; rw [if_neg h5, hb0, if_neg (by omega), if_neg hd1, if_neg (by omega)]
   rw [e]
   refine go ?_
   exact J_done hT rfl rfl rfl
 have hd0 : ¬ x = 69 := by simpa using hd
 refine go ?_
 refine J_cond rfl (fun he => ?_) (fun he => ?_)
 ·have he0 : x = 68 := by simpa using he
  refine go ?_
  refine J_cond rfl (fun hf => ?_) (fun hf => ?_)
  ·have he1 : x = 68 ∧ (l.drop 5).length = 2 := by
    have := of_decide_eq_true hf
    exact ⟨he0, by omega⟩
   have e : splitK l = (68, gF l 1, [], beV (l.drop 5)) := by unfold splitK; rw [if_neg h5, hb0, if_neg (by omega), if_neg (by omega), if_pos he1]
   rw [e]
   have h2 := he1.2
   generalize l.drop 5 = m at h2
   match m, h2 with
   | [u, v], _ =>
   have hu := u.toNat_lt
   have hv := v.toNat_lt
   have ev : IntKind.i64.wrap (IntKind.i64.wrap (256 * IntKind.i64.wrap (u.toNat : Int)) + IntKind.i64.wrap (v.toNat : Int)) = beV [u, v] := by
    rw [IntWalk.i64_in (u.toNat : Int) (by omega), IntWalk.i64_in (v.toNat : Int) (by omega), IntWalk.i64_in (256 * (u.toNat : Int)) (by omega), IntWalk.i64_in _ (by omega)]
    simp [beV]
   refine K_only [2, 3, 4, 5, 6, 9] rfl ?_
   refine J_seq ?_
   refine J_draw [[]] [] (by kernel_rfl) (by kernel_rfl) rfl ?_
   repeat (first | refine T_nil ?_ | refine T_no rfl rfl rfl rfl ?_ | refine T_yes rfl rfl rfl rfl rfl rfl (stepN_ok hT rfl) rfl ?_ | refine T_op rfl rfl rfl rfl rfl (stepN_ok hT rfl) rfl ?_)
   refine T_op rfl rfl rfl rfl rfl (opr_byte (b := u) hT rfl rfl rfl rfl (by decide) rfl) rfl ?_
   repeat (first | refine T_nil ?_ | refine T_no rfl rfl rfl rfl ?_ | refine T_yes rfl rfl rfl rfl rfl rfl (stepN_ok hT rfl) rfl ?_ | refine T_op rfl rfl rfl rfl rfl (stepN_ok hT rfl) rfl ?_)
   refine T_op rfl rfl rfl rfl rfl (opr_byte (b := v) hT rfl rfl rfl rfl (by decide) rfl) rfl ?_
   repeat (first | refine T_nil ?_ | refine T_no rfl rfl rfl rfl ?_ | refine T_yes rfl rfl rfl rfl rfl rfl (stepN_ok hT rfl) rfl ?_ | refine T_op rfl rfl rfl rfl rfl (stepN_ok hT rfl) rfl ?_)
   refine J_then ?_
   refine K_tell rfl ?_
   refine go ?_
   refine J_val 3 _ rfl (congrArg (fun z => TV.p (.int .u32 z)) w1) ?_
   refine J_val 5 _ rfl (congrArg (fun z => TV.p (.int .i64 z)) ev) ?_
   exact J_done hT rfl rfl rfl
  ·have he1 : ¬ (x = 68 ∧ (l.drop 5).length = 2) := by
    intro h
    have := of_decide_eq_false hf
    omega
   have e : splitK l = (0, 0, [], 0) := by unfold splitK; rw [if_neg h5, hb0, if_neg (by omega), if_neg (by omega), if_neg he1]
   rw [e]
   refine go ?_
   exact J_done hT rfl rfl rfl
 ·have he0 : ¬ x = 68 := by simpa using he
  have e : splitK l = (0, 0, [], 0) := by unfold splitK; rw [if_neg h5, hb0, if_neg (by omega), if_neg (by omega), if_neg (by omega)]
  rw [e]
  refine go ?_
  exact J_done hT rfl rfl rfl
def okB (l : List UInt8) : Bool := l.all fun b => !(b == 0) && !(b == 47)
def nameB (l : List UInt8) : Bool := okB l && !(l == []) && decide ((l.length : Int) ≤ 32) && !(l == [46]) && !(l == [46, 46])
theorem okB_iff {l : List UInt8} : okB l = true ↔ ∀ (j : Nat) (b : UInt8), l[j]? = some b → b ≠ 0 ∧ b ≠ 47 := by
 unfold okB
 rw [List.all_eq_true]
 constructor
 ·intro h j b hb
  have := h b (List.mem_of_getElem? hb)
  simpa using this
 ·intro h b hb
  obtain ⟨j, hj⟩ := List.getElem?_of_mem hb
  simpa using h j b hj
structure NI9 (l : List UInt8) where
 pos : Nat
 h : pos ≤ l.length
 ok : ∀ (j : Nat) (b : UInt8), j < pos → l[j]? = some b → b ≠ 0 ∧ b ≠ 47
set_option maxHeartbeats 4000000 in
theorem kname_spec (l : List UInt8) : Con Tryz.prog 166 [.p (.str l)] [] (.p (.bool (nameB l))) [] [] := by
 refine con_of Tryz.func166 rfl (by kernel_rfl) rfl fun F w0 β0 => ?_
 refine K_tell rfl ?_
 refine go ?_
 refine K_op rfl rfl (opr_range hT rfl rfl rfl) rfl ?_
 refine go ?_
 refine J_loop (fun _ => [(0, .p (.str l)), (6, .ad (.l 0) 0)]) (fun _ => []) (fun s : NI9 l => [.iter l s.pos]) (fun s => l.length - s.pos) ⟨0, by omega, fun j b h => by omega⟩ ⟨rfl, rfl, trivial⟩ rfl rfl (fun s => ?_)
 by_cases hp : s.pos < l.length
 ·have hb : l[s.pos]? = some l[s.pos] := List.getElem?_eq_getElem hp
  obtain ⟨r1, r2⟩ := runeAt_cont l s.pos
  have hle := runeAt_le l s.pos
  refine go ?_
  refine K_op rfl rfl (opr_next rfl rfl rfl hp) rfl ?_
  refine go ?_
  refine J_cond rfl (fun hc => ?_) (fun hc => ?_)
  ·have e : nameB l = false := by
    have : okB l = false := by
     cases hk : okB l with
     | false => rfl
     | true =>
      obtain ⟨h1, h2⟩ := okB_iff.1 hk s.pos _ hb
      simp only [Bool.or_eq_true, beq_iff_eq] at hc
      by_cases ha : l[s.pos].toNat < 128
      ·rw [runeAt_ascii hb ha] at hc
       rcases hc with hc | hc
       ·exact absurd (UInt8.toNat_inj.1 (show l[s.pos].toNat = (0 : UInt8).toNat by simpa using hc)) h1
       ·exact absurd (UInt8.toNat_inj.1 (show l[s.pos].toNat = (47 : UInt8).toNat by simp only [] at hc; show _ = 47; omega)) h2
      ·have := (runeAt_high hb (by omega)).1
       omega
    unfold nameB; rw [this]; rfl
   rw [e]
   refine go ?_
   exact J_done hT rfl rfl rfl
  ·simp only [Bool.or_eq_false_iff, beq_eq_false_iff_ne] at hc
   have hb1 : l[s.pos] ≠ 0 ∧ l[s.pos] ≠ 47 := by
    by_cases ha : l[s.pos].toNat < 128
    ·rw [runeAt_ascii hb ha] at hc
     simp only [] at hc
     refine ⟨fun e => hc.1 (by rw [e]; rfl), fun e => hc.2 (by rw [e]; rfl)⟩
    ·refine ⟨fun e => ?_, fun e => ?_⟩
     ·rw [e] at ha; exact ha (by decide)
     ·rw [e] at ha; exact ha (by decide)
   have hw : 1 ≤ (runeAt l s.pos).2 := by
    by_cases ha : l[s.pos].toNat < 128
    ·rw [runeAt_ascii hb ha]; exact Nat.le_refl _
    ·exact (runeAt_high hb (by omega)).2
   refine go ?_
   refine J_again ⟨s.pos + (runeAt l s.pos).2, by omega, fun j b hj hjb => ?_⟩ (by show l.length - (s.pos + _) < l.length - s.pos; omega) ⟨rfl, rfl, trivial⟩ rfl rfl
   rcases Nat.lt_trichotomy j s.pos with h | rfl | h
   ·exact s.ok j b h hjb
   ·rw [hb] at hjb
    obtain rfl := Option.some.inj hjb
    exact hb1
   ·obtain ⟨b', h1, h2⟩ := r2 (j - s.pos) (by omega) (by omega)
    rw [show s.pos + (j - s.pos) = j by omega, hjb] at h1
    obtain rfl := Option.some.inj h1
    refine ⟨fun e => ?_, fun e => ?_⟩
    ·rw [e] at h2; exact absurd h2 (by decide)
    ·rw [e] at h2; exact absurd h2 (by decide)
 ·have hok : okB l = true := okB_iff.2 fun j b hjb => s.ok j b (by have := (List.getElem?_eq_some_iff.1 hjb).1; omega) hjb
  have e : nameB l = (!(l == []) && decide ((l.length : Int) ≤ 32) && !(l == [46]) && !(l == [46, 46])) := by unfold nameB; rw [hok]; rfl
  refine go ?_
  refine K_op rfl rfl (opr_next_end rfl rfl rfl hp) rfl ?_
  refine go ?_
  rw [e]
  exact J_done hT rfl rfl rfl
structure NJ (l : List UInt8) where
 pos : Nat
 h : pos ≤ l.length
 ok : ∀ (j : Nat) (b : UInt8), j < pos → l[j]? = some b → b ≠ 0 ∧ b ≠ 47
end Go.Proofs.YtdkegmmigongoaaGreatDoor

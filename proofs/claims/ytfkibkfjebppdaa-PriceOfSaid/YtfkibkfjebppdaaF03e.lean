/- pack.Get and the reference's. -/
import Derived.Test.YtfkibkfjebppdaaGo
import Derived.Test.YtfkibkfjebppdaaF03d
-- @OLD
namespace Go.Proofs.Ytfkibkfjebppdaa
open Go.Awp
def beV (l : List UInt8) : Int := l.foldl (fun a b => 256 * a + (b.toNat : Int)) 0
theorem beV_snoc (l : List UInt8) (b : UInt8) : beV (l ++ [b]) = 256 * beV l + (b.toNat : Int) := by simp [beV]
theorem beV_bound : ∀ (l : List UInt8), 0 ≤ beV l ∧ beV l < 256 ^ l.length := by
  intro l
  have key : ∀ (r : List UInt8), 0 ≤ beV r.reverse ∧ beV r.reverse < 256 ^ r.length := by
    intro r
    induction r with
    | nil => simp [beV]
    | cons b r ih =>
      rw [List.reverse_cons, beV_snoc, List.length_cons, Int.pow_succ]
      have := b.toNat_lt
      omega
  have := key l.reverse
  rwa [List.reverse_reverse, List.length_reverse] at this
theorem beV_7 {l : List UInt8} (h : l.length ≤ 7) : beV l < 72057594037927936 := by
  obtain ⟨h0, h1⟩ := beV_bound l
  have h2 : 256 ^ l.length ≤ 256 ^ 7 := Nat.pow_le_pow_right (by decide) h
  have h3 : ((256 ^ l.length : Nat) : Int) = (256 : Int) ^ l.length := Int.natCast_pow 256 l.length
  have h4 : (256 : Nat) ^ 7 = 72057594037927936 := by decide
  rw [h4] at h2
  rw [← h3] at h1
  omega
/-- What Get says: the number, the place behind it, and which error. -/
def getR (l : List UInt8) (a : Int) (n : Nat) : Int × Int × Int :=
  if a < 0 ∨ a > l.length then (0, 0, 1) else if (l.length : Int) - a < n then (0, 0, 3) else (beV ((l.drop a.toNat).take n), a + n, 0)
def getT (r : Int × Int × Int) : TV := .tup [.p (.int .u64 r.1), .p (.int .i64 r.2.1), .p (.int .i64 r.2.2)]
theorem or_add (x b : Nat) (hx : x < 72057594037927936) (hb : b < 256) : IntKind.u64.wrap (((BitVec.ofInt 64 ((x : Int) * 256) ||| BitVec.ofInt 64 (b : Int)).toNat : Nat) : Int) = 256 * (x : Int) + (b : Int) := by
  have h1 : (BitVec.ofInt 64 ((x : Int) * 256)).toNat = x <<< 8 := by
    rw [BitVec.toNat_ofInt, Nat.shiftLeft_eq]
    omega
  have h2 : (BitVec.ofInt 64 (b : Int)).toNat = b := by
    rw [BitVec.toNat_ofInt]
    omega
  rw [BitVec.toNat_or, h1, h2, ← Nat.shiftLeft_add_eq_or_of_lt (by omega), Nat.shiftLeft_eq, u64_in _ (by omega)]
  omega
theorem Bs.cut {s : AV} {l : List UInt8} (h : Bs s l) (i j : Nat) : cutA i j (.p s) = .p (.ps (bv ((l.drop i).take (j - i)))) := by
  cases h with
  | ps => simp [cutA, bv_drop, bv_take]
  | nils => simp [cutA, bv]
  | cz => simp [cutA, bv]
structure GetI (m : List UInt8) where
  i : Nat
  h : i ≤ m.length
set_option maxHeartbeats 4000000 in
theorem get_spec {s : AV} {l : List UInt8} (hs : Bs s l) (a w : Int) (ha : -9223372036854775808 ≤ a ∧ a ≤ 9223372036854775807) (hl : l.length ≤ 140737488355328) (H : List AObj) :
    Con Try.prog 27 [.p s, .p (.int .i64 a), .p (.int .i64 w)] H (getT (getR l a (wide w).toNat)) H [] := by
  obtain ⟨n, hn⟩ : ∃ n : Nat, wide w = n := ⟨(wide w).toNat, by unfold wide; omega⟩
  have hn8 : 1 ≤ n ∧ n ≤ 8 := by unfold wide at hn; omega
  have hw : Con Try.prog 53 [.p (.int .i64 w)] H (.p (.int .i64 n)) H [] := by rw [← hn]; exact wide_spec w H
  rw [hn, Int.toNat_natCast]
  refine con_of Try.func27 rfl (by kernel_rfl) rfl fun F w0 β0 => ?_
  refine go0 ?_
  refine J_op rfl rfl (opr_call0 rfl rfl rfl rfl rfl hw) ?_
  refine go0 ?_
  refine J_split 17 rfl (fun hc => ?_) (fun hc => ?_)
  · have hc1 : a < 0 := of_decide_eq_true hc
    have e : getR l a n = (0, 0, 1) := by simp [getR, hc1]
    rw [e]
    refine go0 ?_
    refine J_cond rfl (fun _ => ?_) (fun h => Bool.noConfusion h)
    refine go0 ?_
    exact J_done hT rfl rfl rfl
  have hc1 : ¬ a < 0 := of_decide_eq_false hc
  refine go0 ?_
  refine J_yes rfl rfl rfl (opr_len_rd hT rfl rfl hs.rd) ?_
  rw [bv_length]
  refine go0 ?_
  refine J_cond rfl (fun hd => ?_) (fun hd => ?_)
  · have hd1 : a > (l.length : Int) := of_decide_eq_true hd
    have e : getR l a n = (0, 0, 1) := by simp [getR, hd1]
    rw [e]
    refine go0 ?_
    exact J_done hT rfl rfl rfl
  have hd1 : ¬ a > (l.length : Int) := of_decide_eq_false hd
  refine go0 ?_
  refine J_op rfl rfl (opr_len_rd hT rfl rfl hs.rd) ?_
  rw [bv_length]
  have e27 : IntKind.i64.wrap ((l.length : Int) - a) = (l.length : Int) - a := IntWalk.i64_in _ (by omega)
  refine go0 ?_
  refine J_cond rfl (fun he => ?_) (fun he => ?_)
  · have he1 := of_decide_eq_true he
    rw [e27] at he1
    have e : getR l a n = (0, 0, 3) := by simp only [getR]; rw [if_neg (by omega), if_pos he1]
    rw [e]
    refine go0 ?_
    exact J_done hT rfl rfl rfl
  have he1 := of_decide_eq_false he
  rw [e27] at he1
  have e34 : IntKind.i64.wrap (a + (n : Int)) = a + (n : Int) := IntWalk.i64_in _ (by omega)
  have e : getR l a n = (beV ((l.drop a.toNat).take n), a + n, 0) := by simp only [getR]; rw [if_neg (by omega), if_neg (by omega)]
  rw [e]
  have hml : ((l.drop a.toNat).take n).length = n := by simp; omega
  generalize hm : (l.drop a.toNat).take n = m at hml ⊢
  refine go0 ?_
  refine J_val 34 _ rfl (congrArg (fun z => TV.p (.int .i64 z)) e34) ?_
  refine J_op rfl rfl (opr_cut hT rfl rfl rfl rfl hs.rd rfl rfl (by omega) (by omega) (by rw [bv_length]; omega) (bv_size _)) ?_
  have e35 : cutA a.toNat (a + (n : Int)).toNat (.p s) = .p (.ps (bv m)) := by
    rw [hs.cut, ← hm, show (a + (n : Int)).toNat - a.toNat = n by omega]
  refine J_val 35 _ rfl e35 ?_
  refine go0 ?_
  refine J_loop (ι := GetI m) (fun i => [(1, .p (.int .i64 a)), (2, .p (.int .i64 n)), (9, .p (.int .u64 (beV (m.take i.i)))), (35, .p (.ps (bv m))), (36, .p (.int .i64 n)), (37, .p (.int .i64 i.i))]) (fun _ => H) (fun _ => []) (fun i => m.length - i.i) ⟨0, Nat.zero_le _⟩ ⟨rfl, rfl, by simp [beV]; rfl, rfl, congrArg (fun z : Nat => TV.p (.int .i64 (z : Int))) (by rw [bv_length, hml]), rfl, trivial⟩ rfl rfl fun i => ?_
  obtain ⟨i, hi⟩ := i
  dsimp only
  refine go0 ?_
  refine J_cond rfl (fun hf => ?_) (fun hf => ?_)
  · have hf1 : (i : Int) < n := of_decide_eq_true hf
    have hb : m[i]? = some m[i] := List.getElem?_eq_getElem (by omega)
    generalize m[i] = b at hb
    have htk : m.take (i + 1) = m.take i ++ [b] := by rw [List.take_add_one, hb]; rfl
    have hbd := beV_bound (m.take i)
    have hlt : beV (m.take i) < 72057594037927936 := beV_7 (by simp; omega)
    obtain ⟨x, hx⟩ : ∃ x : Nat, beV (m.take i) = x := ⟨(beV (m.take i)).toNat, by omega⟩
    have e45 : IntKind.u64.wrap (((BitVec.ofInt 64 (IntKind.u64.wrap (beV (m.take i) * 2 ^ min 8 64)) ||| BitVec.ofInt 64 (IntKind.u64.wrap (b.toNat : Int))).toNat : Nat) : Int) = beV (m.take (i + 1)) := by
      have hb2 := b.toNat_lt
      rw [htk, beV_snoc, hx, u64_in (b.toNat : Int) (by omega), show (2 : Int) ^ min 8 64 = 256 by decide, u64_in ((x : Int) * 256) (by omega)]
      exact or_add x b.toNat (by omega) (by omega)
    refine go0 ?_
    refine J_op rfl rfl (opr_index hT rfl rfl rfl rfl rfl (.ps _) (by omega) (by rw [bv_length]; omega)) ?_
    refine J_op rfl rfl (opr_load_el hT rfl rfl (.ps _) (by rw [bv_get, Int.toNat_natCast, hb]; rfl) rfl rfl) ?_
    refine go0 ?_
    have e46 : IntKind.i64.wrap ((i : Int) + 1) = ((i + 1 : Nat) : Int) := by rw [IntWalk.i64_in _ (by omega)]; rfl
    exact J_again (ι := GetI m) (i := ⟨i, hi⟩) ⟨i + 1, by omega⟩ (by dsimp only; omega) ⟨rfl, rfl, congrArg (fun z => TV.p (.int .u64 z)) e45, rfl, rfl, congrArg (fun z => TV.p (.int .i64 z)) e46, trivial⟩ rfl rfl
  · have hf1 : ¬ (i : Int) < n := of_decide_eq_false hf
    have et : m.take i = m := List.take_of_length_le (by omega)
    refine go0 ?_
    refine J_val 7 _ rfl (congrArg (fun z => TV.p (.int .i64 z)) e34) ?_
    refine J_val 6 _ rfl (congrArg (fun z => TV.p (.int .u64 (beV z))) et) ?_
    exact J_done hT rfl rfl rfl
end Go.Proofs.Ytfkibkfjebppdaa

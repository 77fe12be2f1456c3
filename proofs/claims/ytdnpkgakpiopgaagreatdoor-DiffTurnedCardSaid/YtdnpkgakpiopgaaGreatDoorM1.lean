import Derived.Test.YtdnpkgakpiopgaaGreatDoorGo
import Derived.Test.YtdnpkgakpiopgaaGreatDoorRows
import Derived.Test.YtdnpkgakpiopgaaGreatDoorTab
import Derived.IntWalk
namespace Go.Proofs.YtdnpkgakpiopgaaGreatDoor
set_option maxRecDepth 20000
open Go.Awp
def big : Nat := 140737488355000
inductive Bs : AV → List UInt8 → Prop
 | ps (l) : Bs (.ps (bv l)) l
 | nils : Bs .nils []
 | cz : Bs .cz []
theorem Bs.rd {s : AV} {l : List UInt8} {H L : List AObj} (h : Bs s l) : Rd H L (.p s) (bv l) := by
 cases h with
 | ps => exact .ps _
 | nils => exact .nils
 | cz => exact .cz
theorem Bs.not {s : AV} {l : List UInt8} (h : Bs s l) : false = true ↔ ∃ m, TV.p s = .p (.str m) := by
 cases h <;> simp
theorem Bs.ext {s : AV} : TV.ext.extL [.p s] = true := rfl
def wide (n : Int) : Int := min (max n 1) 8
theorem zMc (n : Int) (H : List AObj) : Con Tryz.prog 149 [.p (.int .i64 n)] H (.p (.int .i64 (wide n))) H [] := by
 have e : mmA .min (mmA .max n 1) 8 = wide n := by unfold mmA wide; simp only []; omega
 refine zD Tryz.func149 rfl (by kernel_rfl) rfl fun F w0 β0 => ?_
 refine goN ?_
 rw [← e]
 exact zC hT rfl rfl rfl
set_option maxHeartbeats 4000000 in
theorem own_spec {s : AV} {l : List UInt8} (hs : Bs s l) (n : Nat) (hl : l.length + n ≤ 140737488355328) (H : List AObj) :
  Con Tryz.prog 152 [.p s, .p (.int .i64 n)] H (.sl (.l 0) (l.length + n) 0 (l.length + n)) H [.arr 5 true 1 (bv (l ++ List.replicate n 0))] := by
 refine zD Tryz.func152 rfl (by kernel_rfl) rfl fun F w0 β0 => ?_
 refine goN ?_
 refine zBv rfl rfl (zP hT rfl rfl hs.rd) ?_
 rw [bv_length]
 refine goN ?_
 have e9 : IntKind.i64.wrap ((l.length : Int) + (n : Int)) = ((l.length + n : Nat) : Int) := by rw [IntWalk.i64_in _ (by omega)]; rfl
 refine yH 9 (.p (.int .i64 ((l.length + n : Nat) : Int))) rfl (congrArg (fun z => TV.p (.int .i64 z)) e9) ?_
 refine zBv rfl rfl (zIs hT rfl rfl rfl rfl rfl rfl rfl rfl rfl (by show _ * 1 ≤ _; omega)) ?_
 refine goN ?_
 refine zBv rfl rfl (opr_copy hT rfl rfl rfl rfl (by simp) rfl (.rd hs.rd) hs.not (zLz l) (y5 l) (by simp) (.inr (.inl rfl))) ?_
 refine goN ?_
 have e : (List.replicate (l.length + n) (zrow ⟨.int .u8, 1, 1, [.int .u8 0]⟩)).take 0 ++ bv l ++ (List.replicate (l.length + n) (zrow ⟨.int .u8, 1, 1, [.int .u8 0]⟩)).drop (0 + (bv l).length) = bv (l ++ List.replicate n 0) := by
  rw [zAx, zB4, List.take_zero, List.nil_append, Nat.zero_add, bv_length, List.drop_replicate, Nat.add_sub_cancel_left]
  rfl
 rw [← e]
 exact zBr hT rfl rfl
def beB : Nat → Int → List UInt8
 | 0, _ => []
 | i + 1, v => UInt8.ofNat (v / 256 ^ i % 256).toNat :: beB i v
theorem yD : ∀ (i : Nat) (v : Int), (beB i v).length = i
 | 0, _ => rfl
 | i + 1, v => by simp [beB, yD i v]
theorem byte_of (x : Int) (_ : 0 ≤ x) : IntKind.u8.wrap x = ((UInt8.ofNat (x % 256).toNat).toNat : Int) := by
 have e : IntKind.u8.wrap x = x % 256 := by
  simp [IntKind.wrap, IntKind.bits, IntKind.signed]
 rw [e]
 simp
 omega
theorem shr_div (v : Int) (i : Nat) (h : 8 * i ≤ 64) : v.fdiv (2 ^ min (8 * i) 64) = v / 256 ^ i := by
 rw [Nat.min_eq_left h, Int.pow_mul]
 exact Int.fdiv_eq_ediv_of_nonneg _ (Int.le_of_lt (Int.pow_pos (by decide)))
structure PutI (n : Nat) where
 i : Nat
 h : i ≤ n
set_option maxHeartbeats 4000000 in
theorem put_own {s : AV} {l : List UInt8} (hs : Bs s l) (w v : Int) (hv : 0 ≤ v) (hl : l.length ≤ big) (H : List AObj) :
  Con Tryz.prog 117 [.p s, .p (.int .i64 w), .p (.int .u64 v)] H (.sl (.l 0) (l.length + (wide w).toNat) 0 (l.length + (wide w).toNat)) H [.arr 5 true 1 (bv (l ++ beB (wide w).toNat v))] := by
 obtain ⟨n, hn⟩ : ∃ n : Nat, wide w = n := ⟨(wide w).toNat, by unfold wide; omega⟩
 have hn8 : n ≤ 8 := by unfold wide at hn; omega
 have hw : Con Tryz.prog 149 [.p (.int .i64 w)] H (.p (.int .i64 n)) H [] := by rw [← hn]; exact zMc w H
 unfold big at hl
 rw [hn]
 refine zD Tryz.func117 rfl (by kernel_rfl) rfl fun F w0 β0 => ?_
 refine go0 ?_
 refine zBv rfl rfl (jP rfl rfl rfl rfl rfl hw) ?_
 refine go0 ?_
 refine zBv rfl rfl (zQd rfl rfl rfl rfl (own_spec hs n (by omega) H)) ?_
 refine go0 ?_
 refine z9 (ι := PutI n) (fun i => [(2, .p (.int .u64 v)), (7, .sl (.l 0) (l.length + n) 0 (l.length + n)), (14, .p (.int .i64 n)), (15, .p (.int .i64 i.i))]) (fun _ => H) (fun i => [.arr 5 true 1 (bv (l ++ (List.replicate (n - i.i) 0 ++ beB i.i v)))]) (fun i => n - i.i) ⟨0, by omega⟩ ⟨rfl, rfl, rfl, rfl, trivial⟩ rfl (by simp [beB]; rfl) fun i => ?_
 obtain ⟨i, hi⟩ := i
 dsimp only
 refine go0 ?_
 refine yU rfl (fun hd => ?_) (fun hd => ?_)
 ·have hd1 : (i : Int) < n := of_decide_eq_true hd
  obtain ⟨d, hd2⟩ : ∃ d, n = i + d + 1 := ⟨n - i - 1, by omega⟩
  have hlen : (bv (l ++ (List.replicate (n - i) 0 ++ beB i v))).length = l.length + n := by simp [yD]; omega
  have hrd : Rd H [.arr 5 true 1 (bv (l ++ (List.replicate (n - i) 0 ++ beB i v)))] (.sl (.l 0) (l.length + n) 0 (l.length + n)) (bv (l ++ (List.replicate (n - i) 0 ++ beB i v))) := Rd.full rfl hlen
  have e20 : (((bv (l ++ (List.replicate (n - i) 0 ++ beB i v))).length : Nat) : Int) = ((l.length + n : Nat) : Int) := by rw [hlen]
  have e23 : IntKind.i64.wrap (IntKind.i64.wrap (((l.length + n : Nat) : Int) - 1) - i) = ((l.length + d : Nat) : Int) := by rw [IntWalk.i64_in (((l.length + n : Nat) : Int) - 1) (by omega), IntWalk.i64_in _ (by omega)]; omega
  have e26 : IntKind.i64.wrap (8 * (i : Int)) = Int.ofNat (8 * i) := by rw [IntWalk.i64_in _ (by omega)]; rfl
  have e28 : IntKind.u8.wrap (v.fdiv (2 ^ min (8 * i) 64)) = ((UInt8.ofNat (v / 256 ^ i % 256).toNat).toNat : Int) := by
   rw [shr_div v i (by omega)]
   exact byte_of _ (Int.ediv_nonneg hv (Int.le_of_lt (Int.pow_pos (by decide))))
  refine go0 ?_
  refine zBv rfl rfl (zP hT rfl rfl hrd) ?_
  refine yH 20 _ rfl (congrArg (fun z => TV.p (.int .i64 z)) e20) ?_
  refine go0 ?_
  refine yH 23 _ rfl (congrArg (fun z => TV.p (.int .i64 z)) e23) ?_
  refine go0 ?_
  refine yH 26 _ rfl (congrArg (fun z => TV.p (.int .i64 z)) e26) ?_
  refine go0 ?_
  refine yH 28 _ rfl (congrArg (fun z => TV.p (.int .u8 z)) e28) ?_
  have hk : ((bv (l ++ (List.replicate (n - i) 0 ++ beB i v))))[0 + (l.length + d)]? = some (.int .u8 0) := by
   rw [zFe, Nat.zero_add, List.getElem?_append_right (by omega), List.getElem?_append_left (by simp; omega), List.getElem?_replicate, if_pos (by omega)]
   rfl
  refine zBv rfl rfl (zJ hT rfl rfl rfl rfl rfl hrd (by omega) (by rw [hlen]; omega)) ?_
  refine zBv rfl rfl (zN2 hT rfl rfl rfl hlen rfl rfl rfl hk rfl (Nat.le_of_ble_eq_true rfl) (by simp [cl]) (fun _ => rfl)) ?_
  refine go0 ?_
  have e16 : IntKind.i64.wrap ((i : Int) + 1) = ((i + 1 : Nat) : Int) := by rw [IntWalk.i64_in _ (by omega)]; rfl
  have eL : (bv (l ++ (List.replicate (n - i) 0 ++ beB i v))).set (0 + (l.length + d)) (.int .u8 ((UInt8.ofNat (v / 256 ^ i % 256).toNat).toNat : Int)) = bv (l ++ (List.replicate (n - (i + 1)) 0 ++ beB (i + 1) v)) := by
   rw [bv_set, Nat.zero_add, List.set_append_right _ _ (by omega), Nat.add_sub_cancel_left]
   congr 2
   rw [show n - i = d + 1 by omega, show n - (i + 1) = d by omega, List.replicate_succ', List.append_assoc, List.set_append_right _ _ (by simp)]
   simp [beB]
  exact zR (ι := PutI n) (i := ⟨i, hi⟩) ⟨i + 1, by omega⟩ (by dsimp only; omega) ⟨rfl, rfl, rfl, congrArg (fun z => TV.p (.int .i64 z)) e16, trivial⟩ rfl (by dsimp only; rw [← eL]; rfl)
 ·have hd1 : ¬ (i : Int) < n := of_decide_eq_false hd
  obtain rfl : i = n := by omega
  refine go0 ?_
  have e : l ++ beB ((i : Int).toNat) v = l ++ (List.replicate (i - i) 0 ++ beB i v) := by simp
  rw [e]
  exact zBr hT rfl rfl
theorem zJa {s : AV} {l : List UInt8} (hs : Bs s l) (w v : Int) (hv : 0 ≤ v) (hl : l.length ≤ big) (H : List AObj) :
  Con Tryz.prog 117 [.p s, .p (.int .i64 w), .p (.int .u64 v)] H (.p (.ps (bv (l ++ beB (wide w).toNat v)))) H [] :=
 (put_own hs w v hv hl H).freeze (by simp [yD])
def leB3 : Nat → Int → List UInt8
 | 0, _ => []
 | i + 1, v => UInt8.ofNat (v % 256).toNat :: leB3 i (v / 256)
theorem zOm : ∀ (i : Nat) (v : Int), leB3 (i + 1) v = leB3 i v ++ [UInt8.ofNat (v / 256 ^ i % 256).toNat]
 | 0, v => by simp [leB3]
 | i + 1, v => by
  have ih := zOm i (v / 256)
  rw [leB3, ih, leB3]
  have e : v / 256 / 256 ^ i = v / 256 ^ (i + 1) := by
   rw [Int.pow_succ, Int.mul_comm, ← Int.ediv_ediv_of_nonneg (by decide)]
  rw [e]
  rfl
theorem zNs : ∀ (i : Nat) (v : Int), (leB3 i v).reverse = beB i v
 | 0, _ => rfl
 | i + 1, v => by
  rw [zOm, List.reverse_append, zNs i v]
  rfl
theorem u64_in (n : Int) (h : 0 ≤ n ∧ n ≤ 18446744073709551615) : IntKind.u64.wrap n = n := by
 simp [IntKind.wrap, IntKind.bits, IntKind.signed]
 omega
structure RP1 (n : Nat) (v : Int) where
 i : Nat
 h : i ≤ n
def beV (l : List UInt8) : Int := l.foldl (fun a b => 256 * a + (b.toNat : Int)) 0
theorem zFn (l : List UInt8) (b : UInt8) : beV (l ++ [b]) = 256 * beV l + (b.toNat : Int) := by simp [beV]
theorem zEh : ∀ (l : List UInt8), 0 ≤ beV l ∧ beV l < 256 ^ l.length := by
 intro l
 have key : ∀ (r : List UInt8), 0 ≤ beV r.reverse ∧ beV r.reverse < 256 ^ r.length := by
  intro r
  induction r with
  | nil => simp [beV]
  | cons b r ih =>
   rw [List.reverse_cons, zFn, List.length_cons, Int.pow_succ]
   have := b.toNat_lt
   omega
 have := key l.reverse
 rwa [List.reverse_reverse, List.length_reverse] at this
theorem beV_7 {l : List UInt8} (h : l.length ≤ 7) : beV l < 72057594037927936 := by
 obtain ⟨h0, h1⟩ := zEh l
 have h2 : 256 ^ l.length ≤ 256 ^ 7 := Nat.pow_le_pow_right (by decide) h
 have h3 : ((256 ^ l.length : Nat) : Int) = (256 : Int) ^ l.length := Int.natCast_pow 256 l.length
 have h4 : (256 : Nat) ^ 7 = 72057594037927936 := by decide
 rw [h4] at h2
 rw [← h3] at h1
 omega
def getR (l : List UInt8) (a : Int) (n : Nat) : Int × Int × Int :=
 if a < 0 ∨ a > l.length then (0, 0, 1) else if (l.length : Int) - a < n then (0, 0, 3) else (beV ((l.drop a.toNat).take n), a + n, 0)
def getT3 (r : Int × Int × Int) : TV := .tup [.p (.int .u64 r.1), .p (.int .i64 r.2.1), .p (.int .i64 r.2.2)]
theorem or_add (x b : Nat) (hx : x < 72057594037927936) (hb : b < 256) : IntKind.u64.wrap (((BitVec.ofInt 64 ((x : Int) * 256) ||| BitVec.ofInt 64 (b : Int)).toNat : Nat) : Int) = 256 * (x : Int) + (b : Int) := by
 have h1 : (BitVec.ofInt 64 ((x : Int) * 256)).toNat = x <<< 8 := by
  rw [BitVec.toNat_ofInt, Nat.shiftLeft_eq]
  omega
 have h2 : (BitVec.ofInt 64 (b : Int)).toNat = b := by
  rw [BitVec.toNat_ofInt]
  omega
 rw [BitVec.toNat_or, h1, h2, ← Nat.shiftLeft_add_eq_or_of_lt (by omega), Nat.shiftLeft_eq, u64_in _ (by omega)]
 omega
theorem Bs.cut {s : AV} {l : List UInt8} (h : Bs s l) (i j : Nat) : cutA i j (.p s) = .p (.ps (bv ((l.drop i).take (j - i)))) := by
 cases h with
 | ps => simp [cutA, bv_drop, bv_take]
 | nils => simp [cutA, bv]
 | cz => simp [cutA, bv]
structure GetI (m : List UInt8) where
 i : Nat
 h : i ≤ m.length
set_option maxHeartbeats 4000000 in
theorem zOy {s : AV} {l : List UInt8} (hs : Bs s l) (a w : Int) (ha : -9223372036854775808 ≤ a ∧ a ≤ 9223372036854775807) (hl : l.length ≤ 140737488355328) (H : List AObj) :
  Con Tryz.prog 111 [.p s, .p (.int .i64 a), .p (.int .i64 w)] H (getT3 (getR l a (wide w).toNat)) H [] := by
 obtain ⟨n, hn⟩ : ∃ n : Nat, wide w = n := ⟨(wide w).toNat, by unfold wide; omega⟩
 have hn8 : 1 ≤ n ∧ n ≤ 8 := by unfold wide at hn; omega
 have hw : Con Tryz.prog 149 [.p (.int .i64 w)] H (.p (.int .i64 n)) H [] := by rw [← hn]; exact zMc w H
 rw [hn, Int.toNat_natCast]
 refine zD Tryz.func111 rfl (by kernel_rfl) rfl fun F w0 β0 => ?_
 refine go0 ?_
 refine zBv rfl rfl (jP rfl rfl rfl rfl rfl hw) ?_
 refine go0 ?_
 refine zAp 17 rfl (fun hc => ?_) (fun hc => ?_)
 ·have hc1 : a < 0 := of_decide_eq_true hc
  have e : getR l a n = (0, 0, 1) := by simp [getR, hc1]
  rw [e]
  refine go0 ?_
  refine yU rfl (fun _ => ?_) (fun h => Bool.noConfusion h)
  refine go0 ?_
  exact zC hT rfl rfl rfl
 have hc1 : ¬ a < 0 := of_decide_eq_false hc
 refine go0 ?_
 refine zF2 rfl rfl rfl (zP hT rfl rfl hs.rd) ?_
 rw [bv_length]
 refine go0 ?_
 refine yU rfl (fun hd => ?_) (fun hd => ?_)
 ·have hd1 : a > (l.length : Int) := of_decide_eq_true hd
  have e : getR l a n = (0, 0, 1) := by simp [getR, hd1]
  rw [e]
  refine go0 ?_
  exact zC hT rfl rfl rfl
 have hd1 : ¬ a > (l.length : Int) := of_decide_eq_false hd
 refine go0 ?_
 refine zBv rfl rfl (zP hT rfl rfl hs.rd) ?_
 rw [bv_length]
 have e27 : IntKind.i64.wrap ((l.length : Int) - a) = (l.length : Int) - a := IntWalk.i64_in _ (by omega)
 refine go0 ?_
 refine yU rfl (fun he => ?_) (fun he => ?_)
 ·have he1 := of_decide_eq_true he
  rw [e27] at he1
  have e : getR l a n = (0, 0, 3) := by simp only [getR]; rw [if_neg (by omega), if_pos he1]
  rw [e]
  refine go0 ?_
  exact zC hT rfl rfl rfl
 have he1 := of_decide_eq_false he
 rw [e27] at he1
 have e34 : IntKind.i64.wrap (a + (n : Int)) = a + (n : Int) := IntWalk.i64_in _ (by omega)
 have e : getR l a n = (beV ((l.drop a.toNat).take n), a + n, 0) := by simp only [getR]; rw [if_neg (by omega), if_neg (by omega)]
 rw [e]
 have hml : ((l.drop a.toNat).take n).length = n := by simp; omega
 generalize hm : (l.drop a.toNat).take n = m at hml ⊢
 refine go0 ?_
 refine yH 34 _ rfl (congrArg (fun z => TV.p (.int .i64 z)) e34) ?_
 refine zBv rfl rfl (y9 hT rfl rfl rfl rfl hs.rd rfl rfl (by omega) (by omega) (by rw [bv_length]; omega) (y5 _)) ?_
 have e35 : cutA a.toNat (a + (n : Int)).toNat (.p s) = .p (.ps (bv m)) := by
  rw [hs.cut, ← hm, show (a + (n : Int)).toNat - a.toNat = n by omega]
 refine yH 35 _ rfl e35 ?_
 refine go0 ?_
 refine z9 (ι := GetI m) (fun i => [(1, .p (.int .i64 a)), (2, .p (.int .i64 n)), (9, .p (.int .u64 (beV (m.take i.i)))), (35, .p (.ps (bv m))), (36, .p (.int .i64 n)), (37, .p (.int .i64 i.i))]) (fun _ => H) (fun _ => []) (fun i => m.length - i.i) ⟨0, Nat.zero_le _⟩ ⟨rfl, rfl, by simp [beV]; rfl, rfl, congrArg (fun z : Nat => TV.p (.int .i64 (z : Int))) (by rw [bv_length, hml]), rfl, trivial⟩ rfl rfl fun i => ?_
 obtain ⟨i, hi⟩ := i
 dsimp only
 refine go0 ?_
 refine yU rfl (fun hf => ?_) (fun hf => ?_)
 ·have hf1 : (i : Int) < n := of_decide_eq_true hf
  have hb : m[i]? = some m[i] := List.getElem?_eq_getElem (by omega)
  generalize m[i] = b at hb
  have htk : m.take (i + 1) = m.take i ++ [b] := by rw [List.take_add_one, hb]; rfl
  have hbd := zEh (m.take i)
  have hlt : beV (m.take i) < 72057594037927936 := beV_7 (by simp; omega)
  obtain ⟨x, hx⟩ : ∃ x : Nat, beV (m.take i) = x := ⟨(beV (m.take i)).toNat, by omega⟩
  have e45 : IntKind.u64.wrap (((BitVec.ofInt 64 (IntKind.u64.wrap (beV (m.take i) * 2 ^ min 8 64)) ||| BitVec.ofInt 64 (IntKind.u64.wrap (b.toNat : Int))).toNat : Nat) : Int) = beV (m.take (i + 1)) := by
   have hb2 := b.toNat_lt
   rw [htk, zFn, hx, u64_in (b.toNat : Int) (by omega), show (2 : Int) ^ min 8 64 = 256 by decide, u64_in ((x : Int) * 256) (by omega)]
   exact or_add x b.toNat (by omega) (by omega)
  refine go0 ?_
  refine zBv rfl rfl (zJ hT rfl rfl rfl rfl rfl (.ps _) (by omega) (by rw [bv_length]; omega)) ?_
  refine zBv rfl rfl (zI hT rfl rfl (.ps _) (by rw [zFe, Int.toNat_natCast, hb]; rfl) rfl rfl) ?_
  refine go0 ?_
  have e46 : IntKind.i64.wrap ((i : Int) + 1) = ((i + 1 : Nat) : Int) := by rw [IntWalk.i64_in _ (by omega)]; rfl
  exact zR (ι := GetI m) (i := ⟨i, hi⟩) ⟨i + 1, by omega⟩ (by dsimp only; omega) ⟨rfl, rfl, congrArg (fun z => TV.p (.int .u64 z)) e45, rfl, rfl, congrArg (fun z => TV.p (.int .i64 z)) e46, trivial⟩ rfl rfl
 ·have hf1 : ¬ (i : Int) < n := of_decide_eq_false hf
  have et : m.take i = m := List.take_of_length_le (by omega)
  refine go0 ?_
  refine yH 7 _ rfl (congrArg (fun z => TV.p (.int .i64 z)) e34) ?_
  refine yH 6 _ rfl (congrArg (fun z => TV.p (.int .u64 (beV z))) et) ?_
  exact zC hT rfl rfl rfl
structure RGetI (l : List UInt8) (a : Int) (n : Nat) where
 i : Nat
 h : i ≤ n
 h2 : a + i ≤ l.length
structure RTxtI (l : List UInt8) (p v : Int) where
 i : Nat
 h : (i : Int) ≤ v
 h2 : p + i ≤ l.length
namespace packGets
end packGets
end Go.Proofs.YtdnpkgakpiopgaaGreatDoor
namespace Go.Proofs.YtdnpkgakpiopgaaGreatDoor
set_option maxRecDepth 20000
open Go.Awp
namespace packPuts
end packPuts
end Go.Proofs.YtdnpkgakpiopgaaGreatDoor
namespace Go.Proofs.YtdnpkgakpiopgaaGreatDoor
set_option maxRecDepth 20000
open Go.Awp
theorem zPx (n : Nat) (v : Int) : beB (n + 1) v = beB n (v / 256) ++ [UInt8.ofNat (v % 256).toNat] := by
 rw [← zNs, leB3, List.reverse_cons, zNs]
theorem zMo : ∀ (n x : Nat), beV (beB n (x : Int)) = ((x % 256 ^ n : Nat) : Int)
 | 0, x => by simp [beB, beV, Nat.mod_one]
 | n + 1, x => by
  have ih := zMo n (x / 256)
  rw [zPx, zFn, show (x : Int) / 256 = ((x / 256 : Nat) : Int) by omega, ih, Nat.pow_succ, Nat.mul_comm (256 ^ n) 256, Nat.mod_mul]
  have hb : ((UInt8.ofNat ((x : Int) % 256).toNat).toNat : Int) = ((x % 256 : Nat) : Int) := by simp; omega
  rw [hb]
  simp only [Int.natCast_add, Int.natCast_mul]
  omega
namespace packBack
end packBack
end Go.Proofs.YtdnpkgakpiopgaaGreatDoor

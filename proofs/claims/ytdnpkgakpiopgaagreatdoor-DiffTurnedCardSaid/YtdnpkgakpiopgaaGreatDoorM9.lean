import Derived.Test.YtdnpkgakpiopgaaGreatDoorGo
import Derived.Test.YtdnpkgakpiopgaaGreatDoorM8
import Derived.Test.YtdnpkgakpiopgaaGreatDoorM3
namespace Go.Proofs.YtdnpkgakpiopgaaGreatDoor
set_option maxRecDepth 20000
open Go.Awp Tr
set_option maxHeartbeats 4000000 in
theorem zF1 (s : AV) (l : List (List UInt8)) (f : Nat) (g : List UInt8 → Bool) (hrd : ∀ L, Rd [] L (.p s) (l.map .str)) (hl : l.length ≤ big40) (hf : ∀ x ∈ l, Con Tryz.prog f [.p (.str x)] [] (.p (.bool (g x))) [] []) : Con Tryz.prog 207 [.p s, .fn f []] [] (.p (.int .i64 (idxG g l 0))) [] [] := by
 have hlen : (l.map AV.str).length = l.length := by simp
 unfold big40 at hl
 refine zD Tryz.func207 rfl (by kernel_rfl) rfl fun F w0 β0 => ?_
 refine zE rfl ?_
 refine go ?_
 refine zH rfl rfl (zP hT rfl rfl (hrd _)) rfl ?_
 rw [hlen]
 refine go ?_
 refine z9 (fun q : IxG g l => [(0, .p s), (1, .fn f []), (7, .p (.int .i64 (l.length : Int))), (8, .p (.int .i64 (q.i : Int)))]) (fun _ => []) (fun _ => []) (fun q => l.length - q.i) ⟨0, by omega, rfl⟩ ⟨rfl, rfl, rfl, rfl, trivial⟩ rfl rfl (fun q => ?_)
 have hi := q.h
 have he := q.e
 refine go ?_
 by_cases h : q.i < l.length
 ·have hx : l[q.i]? = some l[q.i] := List.getElem?_eq_getElem h
  have hfx := hf _ (List.getElem_mem h)
  generalize l[q.i] = x at hx hfx
  have hxk := zGo AV.str hx
  rw [zVy _ hx] at he
  refine zG rfl (decide_eq_true (by omega)) ?_
  refine go ?_
  refine zH rfl rfl (zJ hT rfl rfl rfl rfl rfl (hrd _) (by omega) (by rw [hlen]; omega)) rfl ?_
  refine go ?_
  refine zH rfl rfl (zI hT rfl rfl (hrd _) hxk rfl rfl) rfl ?_
  refine go ?_
  refine zH rfl rfl (zB rfl rfl (hfx) rfl rfl rfl rfl) rfl ?_
  refine go ?_
  by_cases hk : g x = true
  ·rw [if_pos hk] at he
   rw [← he]
   refine zG rfl hk ?_
   refine go ?_
   exact zC hT rfl rfl rfl
  ·rw [if_neg hk] at he
   refine zF rfl (by simpa using hk) ?_
   refine go ?_
   refine zR ⟨q.i + 1, by omega, he⟩ (by show l.length - (q.i + 1) < l.length - q.i; omega) ⟨rfl, rfl, rfl, congrArg (fun z => TV.p (.int .i64 z)) (by rw [IntWalk.i64_in _ (by omega)]; rfl), trivial⟩ rfl rfl
 rw [List.drop_eq_nil_of_le (by omega), idxG] at he
 rw [← he]
 refine zF rfl (decide_eq_false (by omega)) ?_
 refine go ?_
 exact zC hT rfl rfl rfl
theorem zEd (s : AV) (l : List (List UInt8)) (f : Nat) (g : List UInt8 → Bool) (hrd : ∀ L, Rd [] L (.p s) (l.map .str)) (hl : l.length ≤ big40) (hf : ∀ x ∈ l, Con Tryz.prog f [.p (.str x)] [] (.p (.bool (g x))) [] []) : Con Tryz.prog 193 [.p s, .fn f []] [] (.p (.bool (l.any g))) [] [] := by
 have c1 := zF1 s l f g hrd hl hf
 rw [← zQj g l 0]
 generalize idxG g l 0 = z at c1
 refine zD Tryz.func193 rfl (by kernel_rfl) rfl fun F w0 β0 => ?_
 refine zE rfl ?_
 refine go ?_
 refine zH rfl rfl (zB rfl rfl (c1) rfl rfl rfl rfl) rfl ?_
 refine go ?_
 exact zC hT rfl rfl rfl
theorem zVv (x : List UInt8) : Con Tryz.prog 194 [.p (.str x)] [] (.p (.bool (!nameB x))) [] [] := by
 have c1 := zRq x
 generalize nameB x = b at c1
 refine zD Tryz.func194 rfl (by kernel_rfl) rfl fun F w0 β0 => ?_
 refine zE rfl ?_
 refine go ?_
 refine zH rfl rfl (zB rfl rfl (c1) rfl rfl rfl rfl) rfl ?_
 refine go ?_
 exact zC hT rfl rfl rfl
def mayN (l : List (List UInt8)) : Bool := decide ((l.length : Int) ≤ 16) && !(l.any fun x => !nameB x)
theorem zQ9 (s : AV) (l : List (List UInt8)) (hrd : ∀ L, Rd [] L (.p s) (l.map .str)) (hl : l.length ≤ big40) : Con Tryz.prog 179 [.p s] [] (.p (.bool (mayN l))) [] [] := by
 have hlen : (l.map AV.str).length = l.length := by simp
 have c1 := zEd s l 194 (fun x => !nameB x) hrd hl (fun x _ => zVv x)
 unfold mayN
 generalize (l.any fun x => !nameB x) = b at c1
 refine zD Tryz.func179 rfl (by kernel_rfl) rfl fun F w0 β0 => ?_
 refine zE rfl ?_
 refine go ?_
 refine zH rfl rfl (zP hT rfl rfl (hrd _)) rfl ?_
 rw [hlen]
 refine go ?_
 refine yZ rfl rfl rfl need1 (fun _ => zB rfl rfl (c1) rfl rfl rfl rfl) rfl ?_
 refine go ?_
 exact zC hT rfl rfl rfl
def splitN (l : List UInt8) : AV × Int :=
 if l = [] ∨ 255 < l.length then (.nils, 17) else if l.headD 0 ≠ 47 then (.nils, 15) else if l = [47] then (.nils, 0)
 else if mayN (spl 47 (l.drop 1)) = true then (.ps ((spl 47 (l.drop 1)).map .str), 0) else (.nils, 17)
set_option maxHeartbeats 4000000 in
theorem zDe (l : List UInt8) : Con Tryz.prog 156 [.p (.str l)] [] (.tup [.p (splitN l).1, .p (.int .i64 (splitN l).2)]) [] [] := by
 unfold splitN
 by_cases h1 : l = [] ∨ 255 < l.length
 ·rw [if_pos h1]
  refine zD Tryz.func156 rfl (by kernel_rfl) rfl fun F w0 β0 => ?_
  refine zE rfl ?_
  refine go ?_
  refine zG rfl (by rcases h1 with h | h <;> simp [h] <;> omega) ?_
  refine go ?_
  exact zC hT rfl rfl rfl
 ·rw [if_neg h1]
  have hne : l ≠ [] := fun e => h1 (.inl e)
  have h0 : l[0]? = some (l.headD 0) := by
   cases l with
   | nil => exact absurd rfl hne
   | cons b r => rfl
  by_cases h2 : l.headD 0 ≠ 47
  ·rw [if_pos h2]
   refine zD Tryz.func156 rfl (by kernel_rfl) rfl fun F w0 β0 => ?_
   refine zE rfl ?_
   refine go ?_
   refine zF rfl (by simp [hne]; omega) ?_
   refine go ?_
   refine zH rfl rfl (j2 hT rfl rfl rfl rfl (by decide) h0) rfl ?_
   refine go ?_
   refine zG rfl (by rw [bne_iff_ne]; intro e; exact h2 (UInt8.toNat_inj.1 (by show (l.headD 0).toNat = 47; omega))) ?_
   refine go ?_
   exact zC hT rfl rfl rfl
  ·rw [if_neg h2]
   simp only [ne_eq, Decidable.not_not] at h2
   by_cases h3 : l = [47]
   ·subst h3
    rw [if_pos rfl]
    refine zD Tryz.func156 rfl (by kernel_rfl) rfl fun F w0 β0 => ?_
    refine zE rfl ?_
    refine go ?_
    refine zH rfl rfl (j2 hT rfl rfl rfl rfl (by decide) rfl) rfl ?_
    refine go ?_
    exact zC hT rfl rfl rfl
   ·rw [if_neg h3]
    have c1 := zQv (l.drop 1) (by simp; omega)
    have hbd : (spl 47 (l.drop 1)).length ≤ big40 := by
     rw [spl_len]
     have h5 := zPk 47 (l.drop 1)
     have h6 : (l.drop 1).length ≤ l.length := by simp
     unfold big40
     omega
    have c2 := zQ9 (.ps ((spl 47 (l.drop 1)).map .str)) (spl 47 (l.drop 1)) (fun _ => .ps _) hbd
    have hcut : ((l.drop (1 : Int).toNat).take ((l.length : Int).toNat - (1 : Int).toNat)) = l.drop 1 := List.take_of_length_le (by simp)
    generalize spl 47 (l.drop 1) = p at c1 c2
    refine zD Tryz.func156 rfl (by kernel_rfl) rfl fun F w0 β0 => ?_
    refine zE rfl ?_
    refine go ?_
    refine zF rfl (by simp [hne]; omega) ?_
    refine go ?_
    refine zH rfl rfl (j2 hT rfl rfl rfl rfl (by decide) h0) rfl ?_
    rw [h2]
    refine go ?_
    refine zF rfl (by simp [h3]) ?_
    refine go ?_
    refine zH rfl rfl (zBi (i := 1) (j := (l.length : Int)) hT rfl rfl rfl rfl rfl (by omega) (by have := List.length_pos_iff.2 hne; omega) (by omega)) rfl ?_
    rw [hcut]
    refine zH rfl rfl (zB rfl rfl (c1) rfl rfl rfl rfl) rfl ?_
    refine go ?_
    refine zH rfl rfl (zB rfl rfl (c2) rfl rfl rfl rfl) rfl ?_
    by_cases hm : mayN p = true
    ·rw [if_pos hm, hm]
     refine go ?_
     exact zC hT rfl rfl rfl
    ·rw [if_neg hm]
     simp only [Bool.not_eq_true] at hm
     rw [hm]
     refine go ?_
     exact zC hT rfl rfl rfl
structure SmQ (a b : List (List UInt8)) where
 i : Nat
 h : i ≤ a.length
 e : a.take i = b.take i
theorem zHi {α : Type} {l : List α} {i : Nat} {x : α} (hx : l[i]? = some x) : l.take (i + 1) = l.take i ++ [x] := by
 obtain ⟨h, rfl⟩ := List.getElem?_eq_some_iff.1 hx
 exact List.take_succ_eq_append_getElem h
set_option maxHeartbeats 4000000 in
theorem zNz (s1 s2 : AV) (a b : List (List UInt8)) (h1 : ∀ L, Rd [] L (.p s1) (a.map .str)) (h2 : ∀ L, Rd [] L (.p s2) (b.map .str)) (la : a.length ≤ big40) : Con Tryz.prog 202 [.p s1, .p s2] [] (.p (.bool (decide (a = b)))) [] [] := by
 have n1 : (a.map AV.str).length = a.length := by simp
 have n2 : (b.map AV.str).length = b.length := by simp
 unfold big40 at la
 refine zD Tryz.func202 rfl (by kernel_rfl) rfl fun F w0 β0 => ?_
 refine zE rfl ?_
 refine go ?_
 refine zH rfl rfl (zP hT rfl rfl (h1 _)) rfl ?_
 rw [n1]
 refine go ?_
 refine zH rfl rfl (zP hT rfl rfl (h2 _)) rfl ?_
 rw [n2]
 refine go ?_
 by_cases hl : a.length = b.length
 ·refine zF rfl (by simp [hl]) ?_
  refine go ?_
  refine zH rfl rfl (zP hT rfl rfl (h1 _)) rfl ?_
  rw [n1]
  refine go ?_
  refine z9 (fun q : SmQ a b => [(0, .p s1), (1, .p s2), (12, .p (.int .i64 (a.length : Int))), (13, .p (.int .i64 (q.i : Int)))]) (fun _ => []) (fun _ => []) (fun q => a.length - q.i) ⟨0, by omega, rfl⟩ ⟨rfl, rfl, rfl, rfl, trivial⟩ rfl rfl (fun q => ?_)
  have hi := q.h
  have he := q.e
  refine go ?_
  by_cases h : q.i < a.length
  ·have hx : a[q.i]? = some a[q.i] := List.getElem?_eq_getElem h
   have hy : b[q.i]? = some (b[q.i]'(by omega)) := List.getElem?_eq_getElem _
   have hta := zHi hx
   have htb := zHi hy
   generalize a[q.i] = x at hx hta
   generalize b[q.i]'(by omega) = y at hy htb
   have hxk := zGo AV.str hx
   have hyk := zGo AV.str hy
   refine zG rfl (decide_eq_true (by omega)) ?_
   refine go ?_
   refine yE [_] [] (by kernel_rfl) (by kernel_rfl) rfl ?_
   refine gd ?_
   refine zS rfl rfl rfl rfl rfl (zJ hT rfl rfl rfl rfl rfl (h1 _) (by omega) (by rw [n1]; omega)) rfl ?_
   refine zS rfl rfl rfl rfl rfl (zI hT rfl rfl (h1 _) hxk rfl rfl) rfl ?_
   refine gd ?_
   refine zS rfl rfl rfl rfl rfl (zJ hT rfl rfl rfl rfl rfl (h2 _) (by omega) (by rw [n2]; omega)) rfl ?_
   refine zS rfl rfl rfl rfl rfl (zI hT rfl rfl (h2 _) hyk rfl rfl) rfl ?_
   refine gd ?_
   refine go ?_
   by_cases hk : x = y
   ·refine zF rfl (by simp [hk]) ?_
    refine go ?_
    refine zR ⟨q.i + 1, by omega, by rw [hta, htb, he, hk]⟩ (by show a.length - (q.i + 1) < a.length - q.i; omega) ⟨rfl, rfl, rfl, congrArg (fun z => TV.p (.int .i64 z)) (by rw [IntWalk.i64_in _ (by omega)]; rfl), trivial⟩ rfl rfl
   ·refine zG rfl (by simp [hk]) ?_
    refine go ?_
    rw [show decide (a = b) = false from decide_eq_false fun e => by subst e; rw [hx] at hy; exact hk (Option.some.inj hy)]
    exact zC hT rfl rfl rfl
  ·refine zF rfl (decide_eq_false (by omega)) ?_
   refine go ?_
   rw [show decide (a = b) = true from decide_eq_true (by rw [List.take_of_length_le (by omega), List.take_of_length_le (by omega)] at he; exact he)]
   exact zC hT rfl rfl rfl
 ·refine zG rfl (by simp; omega) ?_
  refine go ?_
  rw [show decide (a = b) = false from decide_eq_false fun e => hl (by rw [e])]
  exact zC hT rfl rfl rfl
def underB (a b : List (List UInt8)) : Bool := decide ((a.length : Int) < (b.length : Int)) && decide (a = b.take a.length)
set_option maxHeartbeats 4000000 in
theorem zRc (s1 s2 : AV) (a b : List (List UInt8)) (h1 : Sl .str s1 a) (h2 : Sl .str s2 b) (la : a.length ≤ big40) : Con Tryz.prog 188 [.p s1, .p s2] [] (.p (.bool (underB a b))) [] [] := by
 have n1 : (a.map AV.str).length = a.length := by simp
 have n2 : (b.map AV.str).length = b.length := by simp
 unfold underB
 by_cases h : (a.length : Int) < (b.length : Int)
 ·rw [decide_eq_true h, Bool.true_and]
  obtain rfl : s2 = .ps (b.map .str) := by
   cases h2 with
   | nils => simp at h; omega
   | ps => rfl
  have c1 := zNz s1 (.ps ((b.take a.length).map .str)) a (b.take a.length) (fun _ => h1.rd _ _) (fun _ => .ps _) la
  generalize decide (a = b.take a.length) = e at c1
  have hcut : ((b.map AV.str).drop (0 : Int).toNat).take (((a.length : Int)).toNat - (0 : Int).toNat) = (b.take a.length).map .str := by simp
  refine zD Tryz.func188 rfl (by kernel_rfl) rfl fun F w0 β0 => ?_
  refine zE rfl ?_
  refine go ?_
  refine zH rfl rfl (zP hT rfl rfl (h1.rd _ _)) rfl ?_
  rw [n1]
  refine gx ?_
  rw [n2, show decide ((a.length : Int) < (b.length : Int)) = true from decide_eq_true h]
  refine gx ?_
  refine zZ rfl rfl rfl (zP hT rfl rfl (h1.rd _ _)) rfl ?_
  rw [n1]
  refine gx ?_
  refine zZ rfl rfl rfl (y9 (i := 0) (j := (a.length : Int)) hT rfl rfl rfl rfl (.ps _) rfl rfl (by omega) (by omega) (by rw [n2]; omega) (zPa b)) rfl ?_
  rw [hcut]
  refine zZ rfl rfl rfl (zB rfl rfl (c1) rfl rfl rfl rfl) rfl ?_
  refine go ?_
  exact zC hT rfl rfl rfl
 ·rw [decide_eq_false h, Bool.false_and]
  refine zD Tryz.func188 rfl (by kernel_rfl) rfl fun F w0 β0 => ?_
  refine zE rfl ?_
  refine go ?_
  refine zH rfl rfl (zP hT rfl rfl (h1.rd _ _)) rfl ?_
  rw [n1]
  refine gx ?_
  refine zH rfl rfl (zP hT rfl rfl (h2.rd _ _)) rfl ?_
  rw [n2]
  refine gx ?_
  rw [show decide ((a.length : Int) < (b.length : Int)) = false from decide_eq_false h]
  refine go ?_
  exact zC hT rfl rfl rfl
end Go.Proofs.YtdnpkgakpiopgaaGreatDoor
namespace Go.Proofs.YtdnpkgakpiopgaaGreatDoor
set_option maxRecDepth 20000
open Go.Awp
theorem b0_key (k n : Int) (r : List UInt8) (hk : 0 ≤ k ∧ k ≤ 255) : b0 (keyH k n ++ r) = k := by
 simp [b0, keyH]; omega
theorem gF_key (k n : Int) (r : List UInt8) (hn : 0 ≤ n ∧ n ≤ 4294967295) : gF (keyH k n ++ r) 1 = n := by
 unfold gF keyH
 rw [List.cons_append, List.drop_succ_cons, List.drop_zero, List.take_append_of_le_length (by simp [yD]), List.take_of_length_le (by simp [yD]), yM n hn]
theorem zOp (k n : Int) (r : List UInt8) : (keyH k n ++ r).drop 5 = r := by
 rw [List.drop_append, List.drop_of_length_le (by rw [qC]; exact Nat.le_refl _), qC]; rfl
theorem zSi {k n k' n' : Int} {r r' : List UInt8} (hk : 0 ≤ k ∧ k ≤ 255) (hk' : 0 ≤ k' ∧ k' ≤ 255) (hn : 0 ≤ n ∧ n ≤ 4294967295) (hn' : 0 ≤ n' ∧ n' ≤ 4294967295) (h : keyH k n ++ r = keyH k' n' ++ r') : k = k' ∧ n = n' ∧ r = r' := by
 refine ⟨?_, ?_, ?_⟩
 ·rw [← b0_key k n r hk, h, b0_key k' n' r' hk']
 ·rw [← gF_key k n r hn, h, gF_key k' n' r' hn']
 ·rw [← zOp k n r, h, zOp k' n' r']
theorem zVg (v : Int) (h : 0 ≤ v ∧ v ≤ 65535) : beV (beB 2 v) = v := by
 obtain ⟨x, rfl⟩ : ∃ x : Nat, v = x := ⟨v.toNat, by omega⟩
 rw [zMo, Nat.mod_eq_of_lt (by omega)]
theorem zGf (p a b : List UInt8) : Op.bytesLess (p ++ a) (p ++ b) = Op.bytesLess a b := by
 induction p with
 | nil => rfl
 | cons x p ih => simp [Op.bytesLess, ih]
theorem zPn (i j : Int) (hi : 0 ≤ i ∧ i ≤ 65535) (hj : 0 ≤ j ∧ j ≤ 65535) : Op.bytesLess (beB 2 i) (beB 2 j) = decide (i < j) := by
 have e : ∀ x : Int, 0 ≤ x ∧ x ≤ 65535 → beB 2 x = [UInt8.ofNat (x / 256).toNat, UInt8.ofNat (x % 256).toNat] := fun x hx => by
  simp only [beB]
  congr 3
  ·have : x / 256 ^ 1 % 256 = x / 256 := by rw [Int.pow_one]; omega
   omega
  ·simp
 rw [e i hi, e j hj]
 simp only [Op.bytesLess, Bool.and_false, Bool.or_false]
 rw [Bool.eq_iff_iff]
 simp only [Bool.or_eq_true, Bool.and_eq_true, decide_eq_true_eq, beq_iff_eq, UInt8.lt_iff_toNat_lt, ← UInt8.toNat_inj]
 simp
 omega
theorem zS2 {a k : List UInt8} (h : a <+: k) : Op.bytesLess k a = false := by
 obtain ⟨t, rfl⟩ := h
 have := zGf a t []
 rw [List.append_nil] at this
 rw [this, zHy]
theorem inR_beh {a : List UInt8} (h : beh a ≠ []) (k : List UInt8) : inR k a (beh a) = decide (a <+: k) := by
 rw [Bool.eq_iff_iff, decide_eq_true_eq, ← zGq h k]
 simp [inR]
theorem zSk (n : Int) (i : Int) (_hi : 0 ≤ i ∧ i ≤ 65535) (k : List UInt8) : inR k (keyH 68 n ++ beB 2 i) (beh (keyH 68 n)) = (decide (keyH 68 n <+: k) && !Op.bytesLess k (keyH 68 n ++ beB 2 i)) := by
 have hb := zGq (zEv 68 n (by decide)) k
 rw [Bool.eq_iff_iff]
 simp only [inR, Bool.and_eq_true, Bool.not_eq_true', decide_eq_true_eq]
 rw [← hb]
 constructor
 ·rintro ⟨h1, h2⟩
  refine ⟨⟨?_, h2⟩, h1⟩
  cases h3 : Op.bytesLess k (keyH 68 n) with
  | false => rfl
  | true =>
   have : Op.bytesLess k (keyH 68 n ++ beB 2 i) = true := by
    cases h4 : Op.bytesLess (keyH 68 n) (keyH 68 n ++ beB 2 i) with
    | true => exact zFu h3 h4
    | false =>
     have := zFw h4 (zS2 (List.prefix_append _ _))
     rwa [← this]
   rw [this] at h1; cases h1
 ·rintro ⟨⟨_, h2⟩, h1⟩
  exact ⟨h1, h2⟩
end Go.Proofs.YtdnpkgakpiopgaaGreatDoor
namespace Go.Proofs.YtdnpkgakpiopgaaGreatDoor
set_option maxRecDepth 20000
open Go.Awp Tr
theorem zUm {c : UInt8} (r : List UInt8) : ∀ {p : List UInt8}, p.count c = 0 → spl c (p ++ c :: r) = p :: spl c r
 | [], _ => by simp [spl]
 | b :: p, h => by
  have hb : b ≠ c := fun e => by subst e; simp at h
  rw [List.count_cons, if_neg (by simp [hb])] at h
  rw [List.cons_append]
  conv => lhs; unfold spl
  rw [if_neg hb, zUm r (p := p) (by omega)]
def rsR (l : List UInt8) (i f : Nat) : List (List UInt8) := if i ≤ l.length then spl 47 (l.drop f) else []
structure RSp (l : List UInt8) where
 i : Nat
 f : Nat
 dn : List (List UInt8)
 h1 : 1 ≤ f
 h : f ≤ i
 h2 : i ≤ l.length + 1
 n : ((l.drop f).take (i - f)).count 47 = 0
 e : dn ++ rsR l i f = spl 47 (l.drop 1)
 ok : ∀ x ∈ dn, nameB x = true
end Go.Proofs.YtdnpkgakpiopgaaGreatDoor

import Derived.Test.YtdnpkgakpiopgaaGreatDoorGo
import Derived.Test.YtdnpkgakpiopgaaGreatDoorM2
import Derived.Test.YtdnpkgakpiopgaaGreatDoorProg
namespace Go.Proofs.YtdnpkgakpiopgaaGreatDoor
set_option maxRecDepth 20000
open Go.Awp
structure BehI (l : List UInt8) where
 i : Nat
 h : i < l.length
 d : l.drop (i + 1) = List.replicate (l.length - (i + 1)) 255
def behE (l : List UInt8) (s : BehI l) : Env := [(3, .sl (.l 0) l.length 0 l.length), (4, .p (.int .i64 (s.i : Int)))]
def behR (l : List UInt8) (s : BehI l) : List UInt8 := l.take (s.i + 1) ++ List.replicate (l.length - (s.i + 1)) 0
theorem behR_len (l : List UInt8) (s : BehI l) : (behR l s).length = l.length := by
 have := s.h
 simp [behR]; omega
theorem behR_get (l : List UInt8) (s : BehI l) : (behR l s)[s.i]? = some (l[s.i]'s.h) := by
 have := s.h
 unfold behR
 rw [List.getElem?_append_left (by simp; omega), List.getElem?_take, if_pos (by omega), List.getElem?_eq_getElem]
theorem behR_set (l : List UInt8) (s : BehI l) (b : UInt8) : (behR l s).set s.i b = l.take s.i ++ b :: List.replicate (l.length - (s.i + 1)) 0 := by
 have := s.h
 unfold behR
 rw [List.take_succ_eq_append_getElem s.h, List.append_assoc, List.set_append_right _ _ (by simp; omega)]
 simp [Nat.min_eq_left (Nat.le_of_lt this)]
theorem wrap_u8 (b : UInt8) : IntKind.u8.wrap ((b.toNat : Int) + 1) = ((b + 1).toNat : Int) := by
 have h := b.toNat_lt
 simp [IntKind.wrap, IntKind.bits, IntKind.signed, UInt8.toNat_add]
set_option maxHeartbeats 4000000 in
theorem zG3 (l : List UInt8) (hl : l.length ≤ 140737488355328) (hb : beh l ≠ []) : Con Tryz.prog 147 [.p (.str l)] [] (.p (.str (beh l))) [] [] := by
 have hpos : 0 < l.length := by
  cases l with
  | nil => simp [beh] at hb
  | cons b l => simp
 refine zD Tryz.func147 rfl (by kernel_rfl) rfl fun F w0 β0 => ?_
 refine zE rfl ?_
 refine g0 ?_
 refine zH rfl rfl (zJb hT rfl rfl rfl rfl rfl hl) rfl ?_
 refine go ?_
 refine zH rfl rfl (zP hT rfl rfl (Rd.full rfl (bv_length l))) rfl ?_
 rw [bv_length]
 refine go ?_
 have e4 : IntKind.i64.wrap ((l.length : Int) - 1) = ((l.length - 1 : Nat) : Int) := by rw [IntWalk.i64_in _ (by omega)]; omega
 refine z9 (behE l) (fun _ => []) (fun s => [.arr 5 false 1 (bv (behR l s))]) (fun s => s.i) ⟨l.length - 1, by omega, ?_⟩ ⟨rfl, congrArg (fun z => TV.p (.int .i64 z)) e4, trivial⟩ rfl ?_ (fun s => ?_)
 ·rw [List.drop_of_length_le (by omega)]; simp [show l.length - (l.length - 1 + 1) = 0 by omega]
 ·show [AObj.arr _ false 1 (bv (l.take (l.length - 1 + 1) ++ _))] = _
  simp [show l.length - (l.length - 1 + 1) = 0 by omega, List.take_of_length_le (show l.length ≤ l.length - 1 + 1 by omega)]
 have hs := s.h
 have hlen : (bv (behR l s)).length = l.length := by rw [bv_length, behR_len]
 have hg : (bv (behR l s))[s.i]? = some (.int .u8 ((l[s.i]'hs).toNat : Int)) := by rw [zFe, behR_get]; rfl
 have hlt : ((s.i : Nat) : Int) < ((bv (behR l s)).length : Int) := by rw [hlen]; omega
 have hset : (bv (behR l s)).set (0 + s.i) (.int .u8 (IntKind.u8.wrap (((l[s.i]'hs).toNat : Int) + 1))) = bv (l.take s.i ++ (l[s.i]'hs + 1) :: List.replicate (l.length - (s.i + 1)) 0) := by
  rw [wrap_u8, Nat.zero_add, bv_set, behR_set]
 have hlen2 : (bv (l.take s.i ++ (l[s.i]'hs + 1) :: List.replicate (l.length - (s.i + 1)) 0)).length = l.length := by rw [bv_length]; simp; omega
 have hg2 : (bv (l.take s.i ++ (l[s.i]'hs + 1) :: List.replicate (l.length - (s.i + 1)) 0))[s.i]? = some (.int .u8 ((l[s.i]'hs + 1).toNat : Int)) := by
  rw [zFe, List.getElem?_append_right (by simp; omega)]
  simp [Nat.min_eq_left (Nat.le_of_lt hs)]
 have hlt2 : ((s.i : Nat) : Int) < ((bv (l.take s.i ++ (l[s.i]'hs + 1) :: List.replicate (l.length - (s.i + 1)) 0)).length : Int) := by rw [hlen2]; omega
 unfold behE
 refine go ?_
 refine zH rfl rfl (zJ hT rfl rfl rfl rfl rfl (Rd.full rfl hlen) (by omega) hlt) rfl ?_
 refine zH rfl rfl (zI hT rfl rfl (Rd.full rfl hlen) (by rw [Int.toNat_natCast]; exact hg) rfl rfl) rfl ?_
 refine go ?_
 refine zH rfl rfl (zJ hT rfl rfl rfl rfl rfl (Rd.full rfl hlen) (by omega) hlt) rfl ?_
 refine zH rfl rfl (zCk hT rfl rfl rfl hlen rfl rfl rfl rfl) rfl ?_
 refine go ?_
 rw [Int.toNat_natCast, hset]
 refine zH rfl rfl (zJ hT rfl rfl rfl rfl rfl (Rd.full rfl hlen2) (by omega) hlt2) rfl ?_
 refine zH rfl rfl (zI hT rfl rfl (Rd.full rfl hlen2) (by rw [Int.toNat_natCast]; exact hg2) rfl rfl) rfl ?_
 refine go ?_
 by_cases h255 : l[s.i]'hs = 255
 ·have h0 : l[s.i]'hs + 1 = 0 := by rw [h255]; rfl
  have hip : 0 < s.i := by
   rcases Nat.eq_zero_or_pos s.i with h | h
   ·exfalso
    refine hb ?_
    have hd := s.d
    have e : l = List.replicate l.length 255 := by
     have : l = l[s.i]'hs :: l.drop (s.i + 1) := by
      rw [← List.drop_eq_getElem_cons hs, h]; rfl
     rw [hd, h255, h] at this
     rw [this]
     simp [List.replicate_succ]
    rw [e]
    exact zMv _
   ·exact h
  rw [h0]
  refine zN1 22 rfl rfl ?_
  refine zF rfl rfl ?_
  refine go ?_
  refine zR ⟨s.i - 1, by omega, ?_⟩ (show s.i - 1 < s.i by omega) ⟨rfl, congrArg (fun z => TV.p (.int .i64 z)) ?_, trivial⟩ rfl ?_
  ·rw [show s.i - 1 + 1 = s.i by omega, List.drop_eq_getElem_cons hs, s.d, h255, ← List.replicate_succ]
   congr 1
   omega
  ·show IntKind.i64.wrap ((s.i : Int) - 1) = ((s.i - 1 : Nat) : Int)
   rw [IntWalk.i64_in _ (by omega)]; omega
  ·show [AObj.arr _ _ _ (bv _)] = [AObj.arr _ _ _ (bv _)]
   congr 3
   show l.take (s.i - 1 + 1) ++ List.replicate (l.length - (s.i - 1 + 1)) 0 = _
   rw [show s.i - 1 + 1 = s.i by omega, show l.length - s.i = l.length - (s.i + 1) + 1 by omega, List.replicate_succ]
 ·have hne : ((l[s.i]'hs + 1).toNat : Int) ≠ 0 := by
   have hlt := (l[s.i]'hs).toNat_lt
   have h2 : (l[s.i]'hs).toNat ≠ 255 := fun e => h255 (UInt8.toNat_inj.1 e)
   rw [UInt8.toNat_add]
   have : (1 : UInt8).toNat = 1 := rfl
   omega
  have hbe : beh l = l.take s.i ++ [l[s.i]'hs + 1] := by
   have e : l = l.take s.i ++ l[s.i]'hs :: List.replicate (l.length - (s.i + 1)) 255 := by
    rw [← s.d, ← List.drop_eq_getElem_cons hs, List.take_append_drop]
   have := beh_at (l.take s.i) (l[s.i]'hs) (l.length - (s.i + 1)) h255
   rwa [← e] at this
  have ecut : ((bv (l.take s.i ++ (l[s.i]'hs + 1) :: List.replicate (l.length - (s.i + 1)) 0)).drop 0).take (s.i + 1 - 0) = bv (beh l) := by
   rw [hbe, List.drop_zero, bv_take]
   congr 1
   rw [List.take_append, List.take_of_length_le (by simp; omega)]
   simp [Nat.min_eq_left (Nat.le_of_lt hs)]
  have e25 : IntKind.i64.wrap ((s.i : Int) + 1) = ((s.i + 1 : Nat) : Int) := by rw [IntWalk.i64_in _ (by omega)]; omega
  refine zSw 22 rfl (by simpa using hne) ?_
  refine zG rfl rfl ?_
  refine go ?_
  refine yH 25 _ rfl (congrArg (fun z => TV.p (.int .i64 z)) e25) ?_
  refine zH rfl rfl (y9 hT rfl rfl rfl rfl (Rd.full rfl hlen2) rfl rfl (by decide) (by omega) (by rw [hlen2]; omega) (y5 _)) rfl ?_
  have hrd : Rd [] [AObj.arr 5 false 1 (bv (l.take s.i ++ (l[s.i]'hs + 1) :: List.replicate (l.length - (s.i + 1)) 0))] (.sl (.l 0) l.length (0 + Int.toNat 0) ((((s.i + 1 : Nat)) : Int).toNat - Int.toNat 0)) (bv (beh l)) := by
   rw [← ecut]
   exact Rd.sl rfl hlen2
  refine zH rfl rfl (z4 (l := beh l) hT rfl rfl rfl rfl rfl hrd) rfl ?_
  refine go ?_
  exact zC hT rfl rfl rfl
theorem zEv (k n : Int) (hk : 0 ≤ k ∧ k < 255) : beh (keyH k n) ≠ [] := by
 have hb : UInt8.ofNat k.toNat ≠ 255 := fun e => by
  have := congrArg UInt8.toNat e
  simp at this
  omega
 unfold keyH
 simp only [beh]
 split
 ·rw [if_neg hb]; simp
 ·simp
theorem zL1 (n : Int) (hn : 0 ≤ n ∧ n ≤ 4294967295) : Con Tryz.prog 108 [.p (.int .u32 n)] [] (.tup [.p (.str (keyH 69 n)), .p (.str (beh (keyH 69 n)))]) [] [] := by
 have c1 := zDu 69 n (by decide) hn []
 have c2 := zG3 (keyH 69 n) (by rw [qC]; decide) (zEv 69 n (by decide))
 refine zD Tryz.func108 rfl (by kernel_rfl) rfl fun F w0 β0 => ?_
 refine zE rfl ?_
 refine go ?_
 refine zH rfl rfl (zB rfl rfl (c1) rfl rfl rfl rfl) rfl ?_
 refine zH rfl rfl (z4 (l := keyH 69 n) hT rfl rfl rfl rfl rfl (.ps _)) rfl ?_
 refine go ?_
 refine zH rfl rfl (zB rfl rfl (c2) rfl rfl rfl rfl) rfl ?_
 refine go ?_
 exact zC hT rfl rfl rfl
def blocksV (n from_ : Int) : List UInt8 := if from_ > 65535 then beh (keyH 68 n) else blockK n (max from_ 0)
theorem mm_max (a : Int) : mmA .max a 0 = max a 0 := by unfold mmA; simp only []; split <;> omega
theorem zLd (n i : Int) (hn : 0 ≤ n ∧ n ≤ 4294967295) : Con Tryz.prog 189 [.p (.int .u32 n), .p (.int .i64 i)] [] (.tup [.p (.str (blocksV n i)), .p (.str (beh (keyH 68 n)))]) [] [] := by
 have c1 := zDu 68 n (by decide) hn []
 have c2 := zG3 (keyH 68 n) (by rw [qC]; decide) (zEv 68 n (by decide))
 have c3 := zDf n (max i 0) hn []
 refine zD Tryz.func189 rfl (by kernel_rfl) rfl fun F w0 β0 => ?_
 refine zE rfl ?_
 refine go ?_
 refine zH rfl rfl (zB rfl rfl (c1) rfl rfl rfl rfl) rfl ?_
 refine zH rfl rfl (z4 (l := keyH 68 n) hT rfl rfl rfl rfl rfl (.ps _)) rfl ?_
 refine go ?_
 refine zH rfl rfl (zB rfl rfl (c2) rfl rfl rfl rfl) rfl ?_
 refine go ?_
 refine yU rfl (fun h => ?_) (fun h => ?_)
 ·have h1 : i > 65535 := of_decide_eq_true h
  have e : blocksV n i = beh (keyH 68 n) := by unfold blocksV; rw [if_pos h1]
  rw [e]
  refine go ?_
  exact zC hT rfl rfl rfl
 ·have h1 : ¬ i > 65535 := of_decide_eq_false h
  have e : blocksV n i = blockK n (max i 0) := by unfold blocksV; rw [if_neg h1]
  rw [e]
  refine go ?_
  refine yH 17 _ rfl (congrArg (fun z => TV.p (.int .i64 z)) (mm_max i)) ?_
  refine zH rfl rfl (zB rfl rfl (c3) rfl rfl rfl rfl) rfl ?_
  refine go ?_
  exact zC hT rfl rfl rfl
def splitK (l : List UInt8) : Int × Int × List UInt8 × Int :=
 if l.length < 5 then (0, 0, [], 0) else
 if b0 l = 73 ∧ l.drop 5 = [] then (73, gF l 1, [], 0) else
 if b0 l = 69 ∧ l.drop 5 ≠ [] ∧ (l.drop 5).length ≤ 32 then (69, gF l 1, l.drop 5, 0) else
 if b0 l = 68 ∧ (l.drop 5).length = 2 then (68, gF l 1, [], beV (l.drop 5)) else (0, 0, [], 0)
theorem beV_2 {l : List UInt8} (h : l.length = 2) : 0 ≤ beV l ∧ beV l < 65536 := by
 have := zEh l
 rw [h] at this
 exact this
def okB (l : List UInt8) : Bool := l.all fun b => !(b == 0) && !(b == 47)
def nameB (l : List UInt8) : Bool := okB l && !(l == []) && decide ((l.length : Int) ≤ 32) && !(l == [46]) && !(l == [46, 46])
theorem zNb {l : List UInt8} : okB l = true ↔ ∀ (j : Nat) (b : UInt8), l[j]? = some b → b ≠ 0 ∧ b ≠ 47 := by
 unfold okB
 rw [List.all_eq_true]
 constructor
 ·intro h j b hb
  have := h b (List.mem_of_getElem? hb)
  simpa using this
 ·intro h b hb
  obtain ⟨j, hj⟩ := List.getElem?_of_mem hb
  simpa using h j b hj
structure NI9 (l : List UInt8) where
 pos : Nat
 h : pos ≤ l.length
 ok : ∀ (j : Nat) (b : UInt8), j < pos → l[j]? = some b → b ≠ 0 ∧ b ≠ 47
set_option maxHeartbeats 4000000 in
theorem zRq (l : List UInt8) : Con Tryz.prog 195 [.p (.str l)] [] (.p (.bool (nameB l))) [] [] := by
 refine zD Tryz.func195 rfl (by kernel_rfl) rfl fun F w0 β0 => ?_
 refine zE rfl ?_
 refine go ?_
 refine zH rfl rfl (zUs hT rfl rfl rfl) rfl ?_
 refine go ?_
 refine z9 (fun _ => [(0, .p (.str l)), (6, .ad (.l 0) 0)]) (fun _ => []) (fun s : NI9 l => [.iter l s.pos]) (fun s => l.length - s.pos) ⟨0, by omega, fun j b h => by omega⟩ ⟨rfl, rfl, trivial⟩ rfl rfl (fun s => ?_)
 by_cases hp : s.pos < l.length
 ·have hb : l[s.pos]? = some l[s.pos] := List.getElem?_eq_getElem hp
  obtain ⟨r1, r2⟩ := zN9 l s.pos
  have hle := zT3 l s.pos
  refine go ?_
  refine zH rfl rfl (opr_next rfl rfl rfl hp) rfl ?_
  refine go ?_
  refine yU rfl (fun hc => ?_) (fun hc => ?_)
  ·have e : nameB l = false := by
    have : okB l = false := by
     cases hk : okB l with
     | false => rfl
     | true =>
      obtain ⟨h1, h2⟩ := zNb.1 hk s.pos _ hb
      simp only [Bool.or_eq_true, beq_iff_eq] at hc
      by_cases ha : l[s.pos].toNat < 128
      ·rw [zB7 hb ha] at hc
       rcases hc with hc | hc
       ·exact absurd (UInt8.toNat_inj.1 (show l[s.pos].toNat = (0 : UInt8).toNat by simpa using hc)) h1
       ·exact absurd (UInt8.toNat_inj.1 (show l[s.pos].toNat = (47 : UInt8).toNat by simp only [] at hc; show _ = 47; omega)) h2
      ·have := (zF3 hb (by omega)).1
       omega
    unfold nameB; rw [this]; rfl
   rw [e]
   refine go ?_
   exact zC hT rfl rfl rfl
  ·simp only [Bool.or_eq_false_iff, beq_eq_false_iff_ne] at hc
   have hb1 : l[s.pos] ≠ 0 ∧ l[s.pos] ≠ 47 := by
    by_cases ha : l[s.pos].toNat < 128
    ·rw [zB7 hb ha] at hc
     simp only [] at hc
     refine ⟨fun e => hc.1 (by rw [e]; rfl), fun e => hc.2 (by rw [e]; rfl)⟩
    ·refine ⟨fun e => ?_, fun e => ?_⟩
     ·rw [e] at ha; exact ha (by decide)
     ·rw [e] at ha; exact ha (by decide)
   have hw : 1 ≤ (runeAt l s.pos).2 := by
    by_cases ha : l[s.pos].toNat < 128
    ·rw [zB7 hb ha]; exact Nat.le_refl _
    ·exact (zF3 hb (by omega)).2
   refine go ?_
   refine zR ⟨s.pos + (runeAt l s.pos).2, by omega, fun j b hj hjb => ?_⟩ (by show l.length - (s.pos + _) < l.length - s.pos; omega) ⟨rfl, rfl, trivial⟩ rfl rfl
   rcases Nat.lt_trichotomy j s.pos with h | rfl | h
   ·exact s.ok j b h hjb
   ·rw [hb] at hjb
    obtain rfl := Option.some.inj hjb
    exact hb1
   ·obtain ⟨b', h1, h2⟩ := r2 (j - s.pos) (by omega) (by omega)
    rw [show s.pos + (j - s.pos) = j by omega, hjb] at h1
    obtain rfl := Option.some.inj h1
    refine ⟨fun e => ?_, fun e => ?_⟩
    ·rw [e] at h2; exact absurd h2 (by decide)
    ·rw [e] at h2; exact absurd h2 (by decide)
 ·have hok : okB l = true := zNb.2 fun j b hjb => s.ok j b (by have := (List.getElem?_eq_some_iff.1 hjb).1; omega) hjb
  have e : nameB l = (!(l == []) && decide ((l.length : Int) ≤ 32) && !(l == [46]) && !(l == [46, 46])) := by unfold nameB; rw [hok]; rfl
  refine go ?_
  refine zH rfl rfl (zKm rfl rfl rfl hp) rfl ?_
  refine go ?_
  rw [e]
  exact zC hT rfl rfl rfl
structure NJ (l : List UInt8) where
 pos : Nat
 h : pos ≤ l.length
 ok : ∀ (j : Nat) (b : UInt8), j < pos → l[j]? = some b → b ≠ 0 ∧ b ≠ 47
end Go.Proofs.YtdnpkgakpiopgaaGreatDoor
namespace Go.Awp
open Go.RowKit
section
variable {w : World} {β : Hd → Nat} {H L : List AObj} {F : Nat → Prop}
end
section
variable {P : Program} {T : Tab} {env : Env} {H L : List AObj} {o : Oper} {x : TV}
theorem zFq {t : TypeId} {y : Operand} {cs : List TV} {ys : List AV} (ho : o.op = .box t y) (hc : tcells (evA env y) = some cs) (hu : unpL cs = some ys) : OpR P o env H L (.p (.pp ys)) H L :=
 zHg fun F w β a hS he => by
  have hv := zAd (zL he y) hc
  obtain ⟨u1, u2⟩ := zB9 (w := w) (β := β) (G := ⟨H, L, F⟩) cs hu
  refine ⟨.pointer (some ⟨w.heap.size, 0, none⟩), .cells (a.eval y).cells t, by simp [execOp, ho, Instr.box, newVar, newRow], fun hst => ?_⟩
  have hblk := yP w (.cells (a.eval y).cells t)
  have hlen : (a.eval y).cells.toList.length = ys.length := by rw [hv.1, u1]
  refine .p (.pp ys ⟨w.heap.size, 0, none⟩ (fun i => (a.eval y).cells.getD i undef) (zJw hS) (by simp) (fun i hi => ?_) fun i x hx => ?_)
  ·rw [Addr.add_lit, cell_of_row _ _ _ _ _ _ hblk]
   have hlt : i < (a.eval y).cells.size := by
    have : (a.eval y).cells.toList.length = (a.eval y).cells.size := by simp
    omega
   simp [Array.getD_eq_getD_getElem?, hlt]
  ·obtain ⟨z, hz, hzr⟩ := u2 i x hx
   have hlt : i < (a.eval y).cells.toList.length := by rw [hlen]; exact (List.getElem?_eq_some_iff.1 hx).1
   have := hzr _ (hv.2 i z _ hz (List.getElem?_eq_getElem hlt))
   have e : (a.eval y).cells.getD i undef = (a.eval y).cells.toList[i] := by
    simp only [Array.length_toList] at hlt
    simp [Array.getD_eq_getD_getElem?, hlt]
   rw [e]
   exact this.mono hst.size hst.frame
end
def AVLe (x y : AV) : Prop := ∀ w N v, RepA w N x v → RepA w N y v
theorem AVLe.refl (x : AV) : AVLe x x := fun _ _ _ h => h
theorem zUd {x : AV} (hc : cl x = true) : AVLe x (.cell x) := fun _ _ v h => .cell x v (zQp h hc) h
inductive AVLes : List AV → List AV → Prop
 | nil : AVLes [] []
 | cons {x y : AV} {xs ys : List AV} (h : AVLe x y) (r : AVLes xs ys) : AVLes (x :: xs) (y :: ys)
theorem AVLes.len {xs ys : List AV} (h : AVLes xs ys) : ys.length = xs.length := by
 induction h with
 | nil => rfl
 | cons _ _ ih => simp [ih]
theorem AVLes.get {xs ys : List AV} (h : AVLes xs ys) : ∀ {i : Nat} {y : AV}, ys[i]? = some y → ∃ x, xs[i]? = some x ∧ AVLe x y := by
 induction h with
 | nil => intro i y h; simp at h
 | cons h _ ih =>
  intro i y hy
  cases i with
  | zero => simp at hy; subst hy; exact ⟨_, rfl, h⟩
  | succ i => simpa using ih (by simpa using hy)
theorem pp_le {xs ys : List AV} (h : AVLes xs ys) : AVLe (.pp xs) (.pp ys) := fun w N v hr => by
 cases hr with | pp _ a vs hN hb hc hr =>
 refine .pp ys a vs hN hb (fun i hi => hc i (by rw [h.len] at hi; exact hi)) fun i y hy => ?_
 obtain ⟨x, hx, hxy⟩ := h.get hy
 exact hxy _ _ _ (hr i x hx)
section
variable {Γ : Ctx} {env : Env} {H L : List AObj} {Φ : Act → World → Prop}
theorem J_le (d : Nat) {x : AV} (y : AV) (hx : lk env d = .p x) (hc : AVLe x y) (k : J Γ ((d, .p y) :: env) H L Φ) : J Γ env H L Φ := fun a w β s =>
 k a w β ⟨s.sim, s.step, fun t => by
  rw [y4]
  split
  ·rename_i e
   have := s.env d
   rw [hx] at this
   rw [e]
   cases this with | p h => exact .p (hc _ _ _ h)
  ·exact s.env t, s.size, s.defers⟩
end
section
variable {P : Program} {Γ : Ctx} {env env' : Env} {H L : List AObj} {Q : Exit → Act → World → Prop} {ops : Array Oper} {rest : List Oper} {o : Oper}
theorem zQ8 (x : TV) : tellT x = some x := by unfold tellT; rw [zGv]
theorem zRb (l : List AObj) : tellM l = some l := by unfold tellM; rw [zHe]
theorem zDp {fo : Operand} {os : List Operand} {ts : Array TypeId} {f : FuncId} {caps args : List TV} {r x : TV} {news L' : List AObj}
  (ho : o.op = .call { callee := .value fo, args := os.toArray, argTypes := ts }) (hf : evA env fo = .fn f caps) (sp : Con P f args [] r [] news) (ha : TV.ren.renL [] 0 0 args = unpOr (evL env os ++ caps)) (hx : TV.clo.cloL 0 args = true)
  (h1 : r.ren [] L.length 0 = x) (h3 : L ++ renM [] L.length 0 news = L') : OpR P o env H L x H L' :=
 zB ho hf sp ha hx (by rw [h1]; exact zQ8 _) (by rw [h3]; exact zRb _)
theorem zFh {x : TV} {H' L' : List AObj} (hg : o.guard = none) (hd : dstOk Γ.N o.dst = true) (h : OpR P o env H L x H' L') (he : putM env o.dst x = some env') (k : J Γ env' H' L' (wpList P ops Q rest)) : J Γ env H L (wpList P ops Q (o :: rest)) :=
 zBv hg hd h (by rw [zTb he]; exact k)
theorem zD5 {y : Operand} (x : TV) (ho : o.op = .move y ∨ o.op = .assign y) (he : evA env y = x) : OpR P o env H L x H L := by
 subst he
 exact zKa ho
theorem zIo (n g h : Nat) (d : AV) (acc : List AV) : (accT h d acc).ren [] n g = accT (n + g + h) d acc := by cases acc <;> rfl
theorem zJk (n g e sz : Nat) (acc : List AV) : renM [] n g (accL e sz acc) = accL e sz acc := by cases acc <;> rfl
theorem accV_rd {d : AV} {acc : List AV} (hd : d = .nils ∨ d = .cz) : Rd H L (.p (accV d acc)) acc := by
 cases acc with
 | nil => exact hd.elim (fun e => by subst e; exact .nils) fun e => by subst e; exact .cz
 | cons r rs => exact .ps _
theorem accV_str {d : AV} {acc : List AV} (hd : d = .nils ∨ d = .cz) : false = true ↔ ∃ l, TV.p (accV d acc) = .p (.str l) := by
 cases acc with
 | nil => rcases hd with rfl | rfl <;> simp [accV]
 | cons r rs => simp [accV]
theorem Con.frzAcc {f : FuncId} {args : List TV} {e sz : Nat} {d : AV} {acc : List AV} (h : Con P f args H (accT 0 d acc) H (accL e sz acc)) : Con P f args H (.p (accV d acc)) H [] := by
 cases acc with
 | nil => exact h
 | cons r rs => exact Con.freeze h rfl
end
def snocD (l : List TV) (x : TV) : Option (List TV) := frcD x fun x' => tellL (l ++ [x']) some
theorem yL {l l' : List TV} {x : TV} (h : snocD l x = some l') : snocN l x = some l' := by
 unfold snocD at h
 rw [zT0] at h
 exact h
section
variable {P : Program} {ops : List Oper} {env0 : Env} {H : List AObj} {Ls : List (List AObj)} {ss : List Nat} {xs : List TV}
theorem zS {K : List TV → Prop} {o : Oper} {rest : List Oper} {i k : Nat} {x : TV} {L : List AObj} (hg : o.guard = none) (hp : posn ss 0 i = none) (hk : loK o ss 0 0 = k) (hk2 : Nat.beq (hiK ops i ss 0 - k) 0 = true) (hL : Ls.getD k [] = L)
  (h : OpR P o (RdE ops env0 xs o) H L x H L) {xs' : List TV} (hxs : snocD xs x = some xs') (kk : Tele P ops env0 (fun _ => H) Ls ss K rest (i + 1) xs') : Tele P ops env0 (fun _ => H) Ls ss K (o :: rest) i xs :=
 T_op hg hp hk hk2 hL h (yL hxs) kk
theorem yT {K : List TV → Prop} {o : Oper} {rest : List Oper} {i k g : Nat} {b : Bool} {x : TV} {L : List AObj} (hg : o.guard = some (g, b)) (hb : gA ops.toArray (RdE ops env0 xs o) g = some b) (hp : posn ss 0 i = none) (hk : loK o ss 0 0 = k)
  (hk2 : Nat.beq (hiK ops i ss 0 - k) 0 = true) (hL : Ls.getD k [] = L) (h : OpR P o (RdE ops env0 xs o) H L x H L) {xs' : List TV} (hxs : snocD xs x = some xs') (kk : Tele P ops env0 (fun _ => H) Ls ss K rest (i + 1) xs') : Tele P ops env0 (fun _ => H) Ls ss K (o :: rest) i xs :=
 T_yes hg hb hp hk hk2 hL h (yL hxs) kk
theorem zDs {K : List TV → Prop} {o : Oper} {rest : List Oper} {i k : Nat} {x : TV} {L L2 : List AObj} (hg : o.guard = none) (hp : posn ss 0 i = none) (hk : loK o ss 0 0 = k) (hk2 : Nat.beq (hiK ops i ss 0 - k) 1 = true) (hL : Ls.getD k [] = L) (hL2 : Ls.getD (k + 1) [] = L2)
  (h : OpR P o (RdE ops env0 xs o) H L x H L) (h2 : OpR P o (RdE ops env0 xs o) H L2 x H L2) {xs' : List TV} (hxs : snocD xs x = some xs') (kk : Tele P ops env0 (fun _ => H) Ls ss K rest (i + 1) xs') : Tele P ops env0 (fun _ => H) Ls ss K (o :: rest) i xs :=
 zR9 hg hp hk hk2 hL hL2 h h2 (yL hxs) kk
theorem zO0 {K : List TV → Prop} {d : Option Nat} {op : Op} {t : TypeId} {pos : String} {af : Array Edge} {rest : List Oper} {i : Nat} (h : Tele P ops env0 (fun _ => H) Ls ss K ({ dst := d, op := op, type := t, pos := pos, after := af, guard := none } :: rest) i xs) : Tele P ops env0 (fun _ => H) Ls ss K ({ dst := d, op := op, type := t, pos := pos, after := af, guard := none } :: rest) i xs := h
theorem zN4 {K : List TV → Prop} {d : Option Nat} {op : Op} {t : TypeId} {pos : String} {af : Array Edge} {g : Nat × Bool} {rest : List Oper} {i : Nat} (h : Tele P ops env0 (fun _ => H) Ls ss K ({ dst := d, op := op, type := t, pos := pos, after := af, guard := some g } :: rest) i xs) : Tele P ops env0 (fun _ => H) Ls ss K ({ dst := d, op := op, type := t, pos := pos, after := af, guard := some g } :: rest) i xs := h
end
theorem gd {φ ψ : Prop} (k : ψ) (h : ψ → φ := by
 intro k
 repeat (first
  | with_reducible refine zJf ?_
  | ((with_reducible refine zN4 ?_); first | refine T_no rfl rfl rfl rfl ?_ | refine yT rfl rfl rfl rfl rfl rfl (zK hT rfl) rfl ?_ | refine yT rfl rfl rfl rfl rfl rfl (z8 hT rfl) rfl ?_ | refine yT rfl rfl rfl rfl rfl rfl (zO hT rfl) rfl ?_ | refine yT rfl rfl rfl rfl rfl rfl (zN hT rfl) rfl ?_ | refine yT rfl rfl rfl rfl rfl rfl (zFq rfl rfl rfl) rfl ?_)
  | ((with_reducible refine zO0 ?_); first | refine zS rfl rfl rfl rfl rfl (zK hT rfl) rfl ?_ | refine zS rfl rfl rfl rfl rfl (z8 hT rfl) rfl ?_ | refine zS rfl rfl rfl rfl rfl (zO hT rfl) rfl ?_ | refine zS rfl rfl rfl rfl rfl (zN hT rfl) rfl ?_ | refine zS rfl rfl rfl rfl rfl (zFq rfl rfl rfl) rfl ?_))
 exact k) : φ := h k
theorem gd2 {φ ψ : Prop} (k : ψ) (h : ψ → φ := by
 intro k
 repeat (first
  | ((with_reducible refine zO0 ?_); first | refine zDs rfl rfl rfl rfl rfl rfl (zK hT rfl) (zK hT rfl) rfl ?_ | refine zDs rfl rfl rfl rfl rfl rfl (z8 hT rfl) (z8 hT rfl) rfl ?_ | refine zDs rfl rfl rfl rfl rfl rfl (zN hT rfl) (zN hT rfl) rfl ?_))
 exact k) : φ := h k
end Go.Awp
namespace Go.Proofs.YtdnpkgakpiopgaaGreatDoor
set_option maxRecDepth 20000
open Go.Awp
inductive Tr where
 | nil
 | node (k v : List UInt8) (l r : Tr)
 deriving Inhabited
namespace Tr
def size : Tr → Nat
 | nil => 0
 | node _ _ l r => 1 + l.size + r.size
def high : Tr → Nat
 | nil => 0
 | node _ _ l r => 1 + max l.high r.high
theorem zE2 : ∀ (t : Tr), t.high ≤ t.size
 | nil => Nat.le_refl _
 | node _ _ l r => by have := zE2 l; have := zE2 r; simp only [high, size]; omega
def av : Tr → AV
 | nil => .nilp
 | node k v l r => .pp [.str k, .str v, .cell l.av, .cell r.av, .int .i64 ((1 + l.size + r.size : Nat) : Int), .int .i64 ((1 + max l.high r.high : Nat) : Int)]
abbrev W (t : Tr) : TV := .p (.cell t.av)
def rotR : Tr → Tr
 | node k v (node k2 v2 a b) c => node k2 v2 a (node k v b c)
 | t => t
def rotL : Tr → Tr
 | node k v a (node k2 v2 b c) => node k2 v2 (node k v a b) c
 | t => t
def lean : Tr → Int
 | nil => 0
 | node _ _ l r => (l.high : Int) - (r.high : Int)
def join (k v : List UInt8) (l r : Tr) : Tr :=
 if (node k v l r).lean > 1 then rotR (if l.lean < 0 then node k v (rotL l) r else node k v l r)
 else if (node k v l r).lean < -1 then rotL (if r.lean > 0 then node k v l (rotR r) else node k v l r)
 else node k v l r
theorem zKf (t : Tr) : t.rotR.size = t.size := by
 unfold rotR; split
 ·simp only [size]; omega
 ·rfl
theorem zL7 (t : Tr) : t.rotL.size = t.size := by
 unfold rotL; split
 ·simp only [size]; omega
 ·rfl
theorem zCd (k v : List UInt8) (l r : Tr) : (join k v l r).size = 1 + l.size + r.size := by
 unfold join
 split
 ·rw [zKf]; split <;> simp only [size, zL7]
 ·split
  ·rw [zL7]; split <;> simp only [size, zKf]
  ·rfl
end Tr
end Go.Proofs.YtdnpkgakpiopgaaGreatDoor
namespace Go.Proofs.YtdnpkgakpiopgaaGreatDoor
set_option maxRecDepth 20000
open Go.Awp Tr
theorem zFx : Con Tryz.prog 18 [] [] (W .nil) [] [] := by
 refine zD Tryz.func18 rfl (by kernel_rfl) rfl fun F w0 β0 => ?_
 refine zE rfl ?_
 refine go ?_
 refine zPo 0 rfl rfl ?_
 exact zC hT rfl rfl rfl
theorem zGl (t : Tr) : Con Tryz.prog 136 [W t] [] (.p (.int .i64 (t.size : Int))) [] [] := by
 cases t with
 | nil =>
  refine zD Tryz.func136 rfl (by kernel_rfl) rfl fun F w0 β0 => ?_
  refine zE rfl ?_
  refine go ?_
  exact zC hT rfl rfl rfl
 | node k v l r =>
  refine zD Tryz.func136 rfl (by kernel_rfl) rfl fun F w0 β0 => ?_
  refine zE rfl ?_
  refine go ?_
  exact zC hT rfl rfl rfl
theorem zCs (t : Tr) : Con Tryz.prog 137 [W t] [] (.p (.int .i64 (t.high : Int))) [] [] := by
 cases t with
 | nil =>
  refine zD Tryz.func137 rfl (by kernel_rfl) rfl fun F w0 β0 => ?_
  refine zE rfl ?_
  refine go ?_
  exact zC hT rfl rfl rfl
 | node k v l r =>
  refine zD Tryz.func137 rfl (by kernel_rfl) rfl fun F w0 β0 => ?_
  refine zE rfl ?_
  refine go ?_
  exact zC hT rfl rfl rfl
theorem tmax (a b : Nat) : mmA .max (a : Int) (b : Int) = ((max a b : Nat) : Int) := by unfold mmA; simp only []; split <;> omega
def big40 : Nat := 1099511627776
set_option maxHeartbeats 4000000 in
theorem jD (k v : List UInt8) (l0 r0 l r : Tr) (hl : l.size ≤ big40) (hr : r.size ≤ big40) : Con Tryz.prog 86 [W (node k v l0 r0), W l, W r] [] (W (node k v l r)) [] [] := by
 unfold big40 at hl hr
 have h1 := zE2 l
 have h2 := zE2 r
 have e22 : IntKind.i64.wrap (IntKind.i64.wrap (1 + (l.size : Int)) + (r.size : Int)) = ((1 + l.size + r.size : Nat) : Int) := by rw [IntWalk.i64_in (1 + _) (by omega), IntWalk.i64_in _ (by omega)]; omega
 have e28 : IntKind.i64.wrap (1 + mmA .max (l.high : Int) (r.high : Int)) = ((1 + max l.high r.high : Nat) : Int) := by rw [tmax, IntWalk.i64_in _ (by omega)]; omega
 have ex : AV.pp [.str k, .str v, .cell l.av, .cell r.av, .int .i64 (IntKind.i64.wrap (IntKind.i64.wrap (1 + (l.size : Int)) + (r.size : Int))), .int .i64 (IntKind.i64.wrap (1 + mmA .max (l.high : Int) (r.high : Int)))] = (node k v l r).av := by rw [e22, e28]; rfl
 have c1 := zGl l
 have c2 := zGl r
 have c3 := zCs l
 have c4 := zCs r
 refine zD Tryz.func86 rfl (by kernel_rfl) rfl fun F w0 β0 => ?_
 refine zE rfl ?_
 refine go ?_
 refine yE [[]] [] (by kernel_rfl) (by kernel_rfl) rfl ?_
 refine gd ?_
 refine zS rfl rfl rfl rfl rfl (zM rfl rfl (c1) rfl rfl rfl) rfl ?_
 refine gd ?_
 refine zS rfl rfl rfl rfl rfl (zM rfl rfl (c2) rfl rfl rfl) rfl ?_
 refine gd ?_
 refine zS rfl rfl rfl rfl rfl (zM rfl rfl (c3) rfl rfl rfl) rfl ?_
 refine gd ?_
 refine zS rfl rfl rfl rfl rfl (zM rfl rfl (c4) rfl rfl rfl) rfl ?_
 refine gd ?_
 refine jT ?_
 refine zE rfl ?_
 refine go ?_
 refine yH 6 _ rfl (congrArg TV.p ex) ?_
 refine zPo 6 rfl rfl ?_
 exact zC hT rfl rfl rfl
theorem zEt (k v : List UInt8) (l r : Tr) (hl : l.size ≤ big40) (hr : r.size ≤ big40) : Con Tryz.prog 87 [W (node k v l r)] [] (.p (.int .i64 (node k v l r).lean)) [] [] := by
 unfold big40 at hl hr
 have h1 := zE2 l
 have h2 := zE2 r
 have c3 := zCs l
 have c4 := zCs r
 have e : IntKind.i64.wrap ((l.high : Int) - (r.high : Int)) = (l.high : Int) - (r.high : Int) := IntWalk.i64_in _ (by omega)
 refine zD Tryz.func87 rfl (by kernel_rfl) rfl fun F w0 β0 => ?_
 refine zE rfl ?_
 refine go ?_
 refine yE [[]] [] (by kernel_rfl) (by kernel_rfl) rfl ?_
 refine gd ?_
 refine zS rfl rfl rfl rfl rfl (zM rfl rfl (c3) rfl rfl rfl) rfl ?_
 refine gd ?_
 refine zS rfl rfl rfl rfl rfl (zM rfl rfl (c4) rfl rfl rfl) rfl ?_
 refine gd ?_
 refine jT ?_
 refine zE rfl ?_
 refine go ?_
 refine yH 2 _ rfl (congrArg (fun z => TV.p (.int .i64 z)) e) ?_
 exact zC hT rfl rfl rfl
set_option maxHeartbeats 4000000 in
theorem zE4 (k v : List UInt8) (a : Tr) (k2 v2 : List UInt8) (b c : Tr) (h : (node k v a (node k2 v2 b c)).size ≤ big40) : Con Tryz.prog 88 [W (node k v a (node k2 v2 b c))] [] (W (node k2 v2 (node k v a b) c)) [] [] := by
 simp only [Tr.size] at h
 have c1 := jD k v a (node k2 v2 b c) a b (by omega) (by omega)
 have c2 := jD k2 v2 b c (node k v a b) c (by simp only [Tr.size]; omega) (by omega)
 refine zD Tryz.func88 rfl (by kernel_rfl) rfl fun F w0 β0 => ?_
 refine zE rfl ?_
 refine go ?_
 refine yE [[]] [] (by kernel_rfl) (by kernel_rfl) rfl ?_
 refine gd ?_
 refine zS rfl rfl rfl rfl rfl (zM rfl rfl (c1) rfl rfl rfl) rfl ?_
 refine gd ?_
 refine zS rfl rfl rfl rfl rfl (zM rfl rfl (c2) rfl rfl rfl) rfl ?_
 refine gd ?_
 refine jT ?_
 refine zE rfl ?_
 refine go ?_
 exact zC hT rfl rfl rfl
set_option maxHeartbeats 4000000 in
theorem zE6 (k v : List UInt8) (k2 v2 : List UInt8) (a b c : Tr) (h : (node k v (node k2 v2 a b) c).size ≤ big40) : Con Tryz.prog 89 [W (node k v (node k2 v2 a b) c)] [] (W (node k2 v2 a (node k v b c))) [] [] := by
 simp only [Tr.size] at h
 have c1 := jD k v (node k2 v2 a b) c b c (by omega) (by omega)
 have c2 := jD k2 v2 a b a (node k v b c) (by omega) (by simp only [Tr.size]; omega)
 refine zD Tryz.func89 rfl (by kernel_rfl) rfl fun F w0 β0 => ?_
 refine zE rfl ?_
 refine go ?_
 refine yE [[]] [] (by kernel_rfl) (by kernel_rfl) rfl ?_
 refine gd ?_
 refine zS rfl rfl rfl rfl rfl (zM rfl rfl (c1) rfl rfl rfl) rfl ?_
 refine gd ?_
 refine zS rfl rfl rfl rfl rfl (zM rfl rfl (c2) rfl rfl rfl) rfl ?_
 refine gd ?_
 refine jT ?_
 refine zE rfl ?_
 refine go ?_
 exact zC hT rfl rfl rfl
end Go.Proofs.YtdnpkgakpiopgaaGreatDoor

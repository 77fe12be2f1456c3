import Derived.Test.YtdkegmmigongoaaGreatDoorGo
import Derived.Test.YtdkegmmigongoaaGreatDoorM17
import Derived.Test.YtdkegmmigongoaaGreatDoorM8
namespace Go.Proofs.YtdkegmmigongoaaGreatDoor
set_option maxRecDepth 20000
open Go.Awp Tr
def cutF (R l : List KV) : List KV := R.foldl (fun l x => lcut x.1 l) l
theorem cutF_cons (x : KV) (R l : List KV) : cutF (x :: R) l = cutF R (lcut x.1 l) := rfl
theorem cutF_rises : ∀ (R : List KV) {l : List KV}, Rises l → Rises (cutF R l)
 | [], _, h => h
 | x :: R, _, h => cutF_rises R (lcut_rises h)
theorem cutF_mem : ∀ {R l : List KV} {y : KV}, y ∈ cutF R l → y ∈ l ∧ ∀ x ∈ R, x.1 ≠ y.1
 | [], _, _, h => ⟨h, by simp⟩
 | x :: R, l, y, h => by
  obtain ⟨h1, h2⟩ := cutF_mem (R := R) h
  obtain ⟨h3, h4⟩ := lcut_mem.1 h1
  refine ⟨h3, fun z hz => ?_⟩
  rcases List.mem_cons.1 hz with rfl | hz
  ·exact fun e => h4 e.symm
  ·exact h2 z hz
def Blk (i : Int) (R : List KV) : Prop := ∀ x ∈ R, ∃ r, x.1 = keyH 68 i ++ r
theorem Blk.tl {i : Int} {x : KV} {R : List KV} (h : Blk i (x :: R)) : Blk i R := fun y hy => h y (List.mem_cons_of_mem _ hy)
theorem cutF_get {i : Int} (hi : U32 i) {c j : Int} (hc : c = 73 ∨ c = 69) (hj : U32 j) (r : List UInt8) : ∀ (R : List KV) {l : List KV}, Blk i R → lget (keyH c j ++ r) (cutF R l) = lget (keyH c j ++ r) l
 | [], _, _ => rfl
 | x :: R, l, hb => by
  obtain ⟨q, hq⟩ := hb x List.mem_cons_self
  have hc8 : L8 c := by unfold L8; omega
  rw [cutF_cons, cutF_get hi hc hj r R hb.tl, hq, get_cut hc8 L68 hj hi, if_neg (fun e => by have := e.1; omega)]
theorem cutF_sub {i : Int} (hi : U32 i) {c j : Int} (hc : c = 69 ∨ (c = 68 ∧ j ≠ i)) (hj : U32 j) : ∀ (R : List KV) {l : List KV}, Rises l → Blk i R → subL c j (cutF R l) = subL c j l
 | [], _, _, _ => rfl
 | x :: R, l, h, hb => by
  obtain ⟨q, hq⟩ := hb x List.mem_cons_self
  have hc8 : L8 c := by unfold L8; omega
  rw [cutF_cons, cutF_sub hi hc hj R (lcut_rises h) hb.tl, hq, sub_cut hc8 L68 hj hi h, if_neg (fun e => by omega)]
theorem cutF_refs {i : Int} (j : Int) : ∀ (R : List KV) {l : List KV}, Rises l → Blk i R → refs j (cutF R l) = refs j l
 | [], _, _, _ => rfl
 | x :: R, l, h, hb => by
  obtain ⟨q, hq⟩ := hb x List.mem_cons_self
  rw [cutF_cons, cutF_refs j R (lcut_rises h) hb.tl, hq, refs_cut_no (.inr rfl) h]
theorem cutsL_row : ∀ (R : List KV) {s : VS} {n : Nat} (e : Int), VJ s n → (e = 21 ∨ e = 0) → ((s.cutsL R e).1 = 21) ∨ ((s.cutsL R e).1 = 0 ∧ e = 0 ∧ (s.cutsL R e).2.shown.row = cutF R s.shown.row)
 | [], s, n, e, h, he => by
  rcases he with he | he
  ·exact .inl he
  ·exact .inr ⟨he, he, rfl⟩
 | x :: R, s, n, e, h, he => by
  have he2 := first2 he (fullE_01 [s.room x.1])
  have ih := cutsL_row R (firstE [e, fullE [s.room x.1]]) (h.del x.1) (he2.imp_right (·.1))
  show (VS.cutsL (s.del x.1) R (firstE [e, fullE [s.room x.1]])).1 = 21 ∨ _
  refine ih.imp_right fun g => ?_
  obtain ⟨g1, g2, g3⟩ := g
  rcases he2 with e2 | ⟨_, e2, e3⟩
  ·rw [e2] at g2; cases g2
  rcases full1 (s.room x.1) with e4 | ⟨_, hr⟩
  ·rw [e4] at e3; cases e3
  refine ⟨g1, e2, ?_⟩
  show (VS.cutsL (s.del x.1) R (firstE [e, fullE [s.room x.1]])).2.shown.row = _
  rw [g3, del_row h hr]; rfl
theorem blockK_0 (i : Int) : blockK i 0 = keyH 68 i ++ beB 2 0 := by unfold blockK; rw [if_neg (by omega)]
theorem blkR_row {s : VS} {n : Nat} (h : VJ s n) (i : Int) : s.blkR i = s.shown.row.filter fun x => (decide (keyH 68 i <+: x.1) && !Op.bytesLess x.1 (keyH 68 i ++ beB 2 0)) := by
 unfold VS.blkR VS.rangeR
 rw [blockK_0, if_pos, range_row _ _ _ h.rs]
 ·unfold lrange
  congr 1
  funext x
  exact inR_block i 0 (by omega) x.1
 ·exact ((beh_iff (beh_key 68 i (by decide)) _).2 (List.prefix_append _ _)).2
theorem blkR_blk {s : VS} {n : Nat} (h : VJ s n) (i : Int) : Blk i (s.blkR i) := fun x hx => by
 rw [blkR_row h] at hx
 have h2 := (List.mem_filter.1 hx).2
 rw [Bool.and_eq_true, decide_eq_true_eq] at h2
 obtain ⟨r, hr⟩ := h2.1
 exact ⟨r, hr.symm⟩
theorem blkR_in {s : VS} {n : Nat} (h : VJ s n) (i : Int) {j : Int} (hj : 0 ≤ j ∧ j ≤ 65535) {v : List UInt8} (hm : (keyH 68 i ++ beB 2 j, v) ∈ s.shown.row) : (keyH 68 i ++ beB 2 j, v) ∈ s.blkR i := by
 rw [blkR_row h]
 refine List.mem_filter.2 ⟨hm, ?_⟩
 dsimp only
 rw [bl_append, bl_be2 _ _ hj (by omega), Bool.and_eq_true, decide_eq_true_eq]
 exact ⟨List.prefix_append _ _, by simp; omega⟩
theorem blkR_len {s : VS} {n : Nat} (h : VJ s n) (i : Int) : (s.blkR i).length ≤ (subL 68 i s.shown.row).length := by
 rw [blkR_row h]
 unfold subL
 rw [List.length_map, ← List.countP_eq_length_filter, ← List.countP_eq_length_filter]
 refine List.countP_mono_left fun x _ hx => ?_
 rw [Bool.and_eq_true] at hx
 exact hx.1
theorem blkOf_mem {b : List UInt8} {y : KV} (h : y ∈ blkOf b) : ∃ j : Int, 0 ≤ j ∧ j < (b.length + 63) / 64 ∧ y.1 = beB 2 j := by
 unfold blkOf at h
 obtain ⟨n, hn, hy⟩ := List.mem_filterMap.1 h
 have hn := List.mem_range.1 hn
 split at hy
 ·cases hy
 ·injection hy with hy
  exact ⟨n, by omega, by omega, by rw [← hy]⟩
theorem blkOf_len (b : List UInt8) : (blkOf b).length ≤ (b.length + 63) / 64 := by
 unfold blkOf
 have := List.length_filterMap_le (fun n : Nat => if trim0 ((b.drop (64 * n)).take 64) = [] then none else some (beB 2 (n : Int), trim0 ((b.drop (64 * n)).take 64))) (List.range ((b.length + 63) / 64))
 rw [List.length_range] at this
 exact this
theorem may_size {k n s p : Int} (h : mayB k n s p = true) : s ≤ 4096 := by
 unfold mayB at h
 split at h
 ·simp only [Bool.and_eq_true, decide_eq_true_eq] at h; omega
 ·split at h
  ·simp only [Bool.and_eq_true, decide_eq_true_eq] at h; omega
  ·cases h
theorem unlinks_sim {s : VS} {n : Nat} (h : VJ s n) {m : MF} {par : Int → Int} (R : Rel s.shown.row m par) {a : Sp} {xd z : MN} (hs : InD m par a.d a.m a.i xd z) (han : a.n = (z.k, z.n, (z.b.length : Int), par a.i)) (b : MS) (hb1 : b.d = a.d) (hb2 : b.m = a.m) (hb3 : b.i = a.i) :
  (s.unlinks a).1 = 21 ∨ ((s.unlinks a).1 = (m.unl b).1 ∧ Rel (s.unlinks a).2.shown.row (m.unl b).2 par ∧ ((m.unl b).1 = 0 → z.k = 1 ∧ (m.unl b).2.at = updA (updA m.at a.i (if z.n = 1 then none else some { z with n := z.n + -1 })) a.d (some { xd with e := lcut a.m xd.e }))) := by
 obtain ⟨hd, hkd, hnm, hg, hi, hi1, hi0, hp⟩ := hs
 unfold VS.unlinks MF.unl
 dsimp only
 rw [hb3, hb1, hb2, hi, han]
 dsimp only
 by_cases hk : z.k = 2
 ·rw [if_pos hk, if_pos hk]; exact .inr ⟨rfl, R, fun e => by cases e⟩
 rw [if_neg hk, if_neg hk]
 have hk : z.k = 1 := (k12 R.toA hi).resolve_right hk
 have hdi : a.d ≠ a.i := fun e => by rw [e, hi] at hd; cases hd; omega
 have hdu := R.u _ _ hd
 have hiu := R.u _ _ hi
 have hen := entK_is (d := a.d) (nameB_len hnm)
 have hmay := R.may hi
 have hz2 : z.e = [] ∧ par a.i = 0 := by
  rcases R.kin _ z hi with q | q
  ·have := q.1; omega
  ·exact q.2
 have R1 := R.toA.unhang hd hkd hg hi
 have hi' : updA m.at a.d (some { xd with e := lcut a.m xd.e }) a.i = some z := by rw [updA_ne _ _ (Ne.symm hdi)]; exact hi
 have hd' : updA m.at a.d (some { xd with e := lcut a.m xd.e }) a.d = some { xd with e := lcut a.m xd.e } := updA_same _ _ _
 generalize hs1 : s.del (entryK a.d a.m) = s1
 have hv1 : VJ s1 (n + 1) := hs1 ▸ h.del _
 have hq : MF.uq m := R.fst
 have hzn : (1 : Int) ≤ z.n := by
  have hl : lget (keyH 69 a.d ++ a.m) s.shown.row = some (beB 4 a.i) := by rw [← sub_get R.ri, ← R.ent _ _ hd]; exact hg
  have hmem := (lget_some R.ri).1 hl
  have : 0 < refs a.i s.shown.row := List.countP_pos_iff.2 ⟨_, hmem, by rw [refB_ent]; simp⟩
  have := R.lkf _ z hi hk
  omega
 by_cases hn1 : z.n > 1
 ·rw [if_pos hn1, if_neg (show ¬ z.n = 1 by omega), if_neg (show ¬ z.n = 1 by omega)]
  have hw : IntKind.u32.wrap (z.n + -1) = z.n + -1 := u32_in _ (by have := hmay.2.1; unfold U32 at this; omega)
  have hnd : linkN (z.k, z.n, (z.b.length : Int), par a.i) (-1) = (z.k, z.n + -1, (z.b.length : Int), par a.i) := by unfold linkN; dsimp only; rw [hw]
  rw [hnd]
  rcases first2 (fullE_01 [s.room (entryK a.d a.m)]) (fullE_01 [s1.room (keyH 73 a.i)]) with ef | ⟨ef, ef1, ef2⟩
  ·exact .inl ef
  rcases full1 (s.room (entryK a.d a.m)) with e4 | ⟨_, hr1⟩
  ·rw [e4] at ef1; cases ef1
  rcases full1 (s1.room (keyH 73 a.i)) with e4 | ⟨_, hr2⟩
  ·rw [e4] at ef2; cases ef2
  have row1 : s1.shown.row = lcut (keyH 69 a.d ++ a.m) s.shown.row := by rw [← hs1, del_row h hr1, hen]
  have row2 : (s1.save a.i (z.k, z.n + -1, (z.b.length : Int), par a.i)).shown.row = _ := put_row hv1 hr2
  dsimp only at row2
  have hm2 : mayB z.k (z.n + -1) (z.b.length : Int) (par a.i) = true := by
   have h1 := hmay.1
   unfold mayB at h1 ⊢
   rw [if_pos hk] at h1 ⊢
   simp only [Bool.and_eq_true, decide_eq_true_eq] at h1 ⊢
   omega
  have R2 := R1.save hi' (z.n + -1) (par a.i) hm2 (by have := hmay.2.1; unfold U32 at this ⊢; omega) hmay.2.2.1 hmay.2.2.2 (fun e => absurd e hi1) (fun _ => hz2.2) (fun _ => .inl rfl)
  rw [← row1, ← row2] at R2
  have e1 : (fun j => if j = a.i then par a.i else par j) = par := by
   funext j; split
   ·rename_i e; rw [e]
   ·rfl
  rw [e1] at R2
  have hat : ((m.linked a.i (-1)).named a.d a.m 0).at = updA (updA m.at a.i (some { z with n := z.n + -1 })) a.d (some { xd with e := lcut a.m xd.e }) := by
   have e1 := atE_linked m a.i (-1) hi
   rw [atE_named _ a.d a.m 0 (x := xd) (by rw [e1, updA_ne _ _ hdi]; exact hd), e1, nmE_cut]
  refine .inr ⟨ef, R2.toM ?_ ((hq.linked _ _).named _ _ _) (fun j => ?_) (fun j => ?_), fun _ => ⟨hk, hat⟩⟩
  ·rw [hat, updA_comm _ (Ne.symm hdi)]
  ·unfold z0
   by_cases e : j = a.i
   ·have e1 : (if a.i = j then (1 : Int) else 0) = 1 := if_pos e.symm
    rw [e1, if_pos ⟨e, hk⟩]; omega
   ·have e1 : (if a.i = j then (1 : Int) else 0) = 0 := if_neg (Ne.symm e)
    rw [e1, if_neg (fun q => e q.1)]; omega
  ·unfold z0
   have e1 : (if a.d = j ∧ z.k = 2 then (1 : Int) else 0) = 0 := if_neg fun q => by have := q.2; omega
   rw [e1, if_neg (fun q => by have := q.2; omega)]; omega
 ·have hn1 : z.n = 1 := by omega
  rw [if_neg (by omega), if_pos hn1, if_pos hn1]
  have hr0 : refs a.i (lcut (keyH 69 a.d ++ a.m) s.shown.row) = 0 := by
   have := R1.lkf _ z hi' hk
   unfold z0 at this
   rw [if_pos rfl] at this
   omega
  have hsh : (s1.rngB a.i).shown = s1.shown := by unfold VS.rngB VS.range; split <;> rfl
  have hv2 : VJ (s1.rngB a.i) (n + 1 + 1) := hv1.range _ _
  have hB := blkR_blk hv1 a.i
  have hBi : ∀ {j : Int} {v : List UInt8}, 0 ≤ j ∧ j ≤ 65535 → (keyH 68 a.i ++ beB 2 j, v) ∈ s1.shown.row → (keyH 68 a.i ++ beB 2 j, v) ∈ s1.blkR a.i := fun hj hm => blkR_in hv1 a.i hj hm
  generalize hR : s1.blkR a.i = RR at hB hBi
  have hc := cutsL_row RR (fullE [s.room (entryK a.d a.m)]) hv2 (fullE_01 _)
  generalize hq2 : (s1.rngB a.i).cutsL RR (fullE [s.room (entryK a.d a.m)]) = q at hc
  have hv3 : VJ q.2 (n + 1 + 1 + RR.length) := by rw [← hq2]; exact cutsL_ok _ _ hv2
  have hq01 : q.1 = 21 ∨ q.1 = 0 := hc.imp_right (·.1)
  rcases first2 hq01 (fullE_01 [q.2.room (keyH 73 a.i)]) with ef | ⟨ef, ef1, ef2⟩
  ·exact .inl ef
  rcases hc with hc | ⟨_, ef3, hrow⟩
  ·rw [ef1] at hc; cases hc
  rcases full1 (s.room (entryK a.d a.m)) with e4 | ⟨_, hr1⟩
  ·rw [e4] at ef3; cases ef3
  rcases full1 (q.2.room (keyH 73 a.i)) with e4 | ⟨_, hr2⟩
  ·rw [e4] at ef2; cases ef2
  have row1 : s1.shown.row = lcut (keyH 69 a.d ++ a.m) s.shown.row := by rw [← hs1, del_row h hr1, hen]
  have row3 : (q.2.del (keyH 73 a.i)).shown.row = lcut (keyH 73 a.i) (cutF RR s1.shown.row) := by rw [del_row hv3 hr2, hrow, hsh]
  rw [← row1] at R1 hr0
  have hri := cutF_rises RR R1.ri
  have e73 : keyH 73 a.i = keyH 73 a.i ++ [] := by simp
  have R2 := R1.drop (l' := lcut (keyH 73 a.i) (cutF RR s1.shown.row)) hi' hi1 hz2.1 hr0 (lcut_rises hri)
   (fun j hj => by
    rw [get73, e73, get_cut L73 L73 hj hiu.1]
    by_cases e : j = a.i
    ·rw [if_pos ⟨rfl, e, rfl⟩, if_pos e]
    ·rw [if_neg (fun q => e q.2.1), if_neg e, cutF_get hiu.1 (.inl rfl) hj _ _ hB, ← get73])
   (fun j hj => by rw [e73, sub_cut L69 L73 hj hiu.1 hri, if_neg (fun q => by have := q.1; omega), cutF_sub hiu.1 (.inl rfl) hj _ R1.ri hB])
   (fun j hj => by
    rw [e73, sub_cut L68 L73 hj hiu.1 hri, if_neg (fun q => by have := q.1; omega)]
    by_cases e : j = a.i
    ·rw [if_pos e, e]
     refine List.eq_nil_iff_forall_not_mem.2 fun y hy => ?_
     have hy : (y.1, y.2) ∈ subL 68 a.i (cutF RR s1.shown.row) := hy
     obtain ⟨h1, h2⟩ := cutF_mem (sub_mem.1 hy)
     have h3 := sub_mem.2 h1
     rw [R1.blk _ z hi'] at h3
     obtain ⟨j, g1, g2, g3⟩ := blkOf_mem h3
     dsimp only at g3
     have g4 := may_size hmay.1
     rw [g3] at h1 h2
     exact h2 _ (hBi ⟨g1, by omega⟩ h1) rfl
    ·rw [if_neg e, cutF_sub hiu.1 (.inr ⟨rfl, e⟩) hj _ R1.ri hB])
   (fun j => by rw [e73, refs_cut_no (.inl rfl) hri j _, cutF_refs j _ R1.ri hB])
   (fun y hy => (cutF_mem (lcut_mem.1 hy).1).1)
  rw [← row3] at R2
  have hat : ((m.without a.i).named a.d a.m 0).at = updA (updA m.at a.i none) a.d (some { xd with e := lcut a.m xd.e }) := by
   have e1 := atE_without m a.i
   rw [atE_named _ a.d a.m 0 (x := xd) (by rw [e1, updA_ne _ _ hdi]; exact hd), e1, nmE_cut]
  refine .inr ⟨ef, R2.toM ?_ ((hq.without _).named _ _ _) (fun j => ?_) (fun j => ?_), fun _ => ⟨hk, hat⟩⟩
  ·rw [hat, updA_comm _ (Ne.symm hdi)]
  ·unfold z0
   by_cases e : j = a.i
   ·rw [if_pos e]
   ·rw [if_neg e, if_neg (Ne.symm e)]; rfl
  ·unfold z0
   have e1 : (if a.d = j ∧ z.k = 2 then (1 : Int) else 0) = 0 := if_neg fun q => by have := q.2; omega
   rw [e1]; split <;> rfl
def blkN (b : List UInt8) (n : Nat) : List UInt8 := (b.drop (64 * n)).take 64
theorem trim0_eq (s : List UInt8) : ∃ k, s = trim0 s ++ List.replicate k 0 := by
 refine ⟨(s.reverse.takeWhile (· == 0)).length, ?_⟩
 have h := List.takeWhile_append_dropWhile (p := fun x : UInt8 => x == 0) (l := s.reverse)
 have hz : s.reverse.takeWhile (· == 0) = List.replicate (s.reverse.takeWhile (· == 0)).length 0 := by
  rw [List.eq_replicate_iff]
  refine ⟨rfl, fun b hb => ?_⟩
  have := List.all_takeWhile (p := fun x : UInt8 => x == 0) (l := s.reverse)
  rw [List.all_eq_true] at this
  simpa using this b hb
 have h2 := congrArg List.reverse h
 rw [List.reverse_append, List.reverse_reverse] at h2
 have h3 : (s.reverse.takeWhile (· == 0)).reverse = List.replicate (s.reverse.takeWhile (· == 0)).length 0 := by
  rw [hz, List.reverse_replicate, List.length_replicate]
 rw [h3] at h2
 exact h2.symm
theorem beB2_inj {i j : Nat} (hi : i ≤ 65535) (hj : j ≤ 65535) (h : beB 2 (i : Int) = beB 2 (j : Int)) : i = j := by
 have h1 := bl_be2 (i : Int) j (by omega) (by omega)
 have h2 := bl_be2 (j : Int) i (by omega) (by omega)
 rw [h, bl_irrefl] at h1
 rw [h, bl_irrefl] at h2
 have h1 : ¬ ((i : Int) < j) := of_decide_eq_false h1.symm
 have h2 : ¬ ((j : Int) < i) := of_decide_eq_false h2.symm
 omega
theorem blk_rng (b : List UInt8) (n : Nat) (hn : n ≤ 65535) : ∀ K : Nat, K ≤ 65536 → lget (beB 2 (n : Int)) ((List.range K).filterMap fun n => if trim0 (blkN b n) = [] then none else some (beB 2 (n : Int), trim0 (blkN b n))) = if n < K ∧ trim0 (blkN b n) ≠ [] then some (trim0 (blkN b n)) else none
 | 0, _ => by rw [if_neg (by omega)]; rfl
 | K + 1, hK => by
  rw [List.range_succ, List.filterMap_append, lget_append, blk_rng b n hn K (by omega)]
  by_cases e : n = K
  ·subst e
   rw [if_neg (by omega)]
   by_cases h : trim0 (blkN b n) = []
   ·rw [if_neg (fun q => q.2 h)]
    simp [h, lget]
   ·rw [if_pos ⟨by omega, h⟩]
    simp [h, lget]
  ·have hl : lget (beB 2 (n : Int)) ([K].filterMap fun n => if trim0 (blkN b n) = [] then none else some (beB 2 (n : Int), trim0 (blkN b n))) = none := by
    refine lget_none fun x hx q => ?_
    obtain ⟨a, ha, hb⟩ := List.mem_filterMap.1 hx
    rw [List.mem_singleton] at ha
    subst ha
    split at hb
    ·cases hb
    ·injection hb with hb
     rw [← hb] at q
     exact e (beB2_inj (by omega) hn q).symm
   rw [hl, Option.or_none]
   by_cases h : n < K ∧ trim0 (blkN b n) ≠ []
   ·rw [if_pos h, if_pos ⟨by omega, h.2⟩]
   ·rw [if_neg h, if_neg (fun q => h ⟨by omega, q.2⟩)]
theorem blkOf_get (b : List UInt8) (hb : b.length ≤ 4096) (n : Nat) (hn : n ≤ 65535) : lget (beB 2 (n : Int)) (blkOf b) = if trim0 (blkN b n) = [] then none else some (trim0 (blkN b n)) := by
 have h := blk_rng b n hn ((b.length + 63) / 64) (by omega)
 have e : blkOf b = (List.range ((b.length + 63) / 64)).filterMap fun n => if trim0 (blkN b n) = [] then none else some (beB 2 (n : Int), trim0 (blkN b n)) := rfl
 rw [e, h]
 by_cases hl : n < (b.length + 63) / 64
 ·by_cases ht : trim0 (blkN b n) = []
  ·rw [if_neg (fun q => q.2 ht), if_pos ht]
  ·rw [if_pos ⟨hl, ht⟩, if_neg ht]
 ·have : blkN b n = [] := by unfold blkN; rw [List.drop_of_length_le (by omega)]; rfl
  have ht : trim0 (blkN b n) = [] := by rw [this]; rfl
  rw [if_neg (fun q => hl q.1), if_pos ht]
def segF (f : Nat → UInt8) (o n : Nat) : List UInt8 := (List.range n).map fun k => f (o + k)
def blkF (f : Nat → UInt8) (n : Nat) : List UInt8 := segF f (64 * n) 64
def bz (b : List UInt8) (k : Nat) : UInt8 := b.getD k 0
theorem segF_len (f : Nat → UInt8) (o n : Nat) : (segF f o n).length = n := by simp [segF]
theorem segF_get (f : Nat → UInt8) (o n k : Nat) : (segF f o n)[k]? = if k < n then some (f (o + k)) else none := by
 unfold segF
 rw [List.getElem?_map]
 by_cases h : k < n
 ·rw [if_pos h, List.getElem?_range h]; rfl
 ·rw [if_neg h, List.getElem?_eq_none (by simp; omega)]; rfl
theorem segF_cut (f : Nat → UInt8) {o n a c : Nat} (h : a + c ≤ n) : ((segF f o n).drop a).take c = segF f (o + a) c := by
 apply List.ext_getElem?
 intro k
 rw [List.getElem?_take, List.getElem?_drop, segF_get, segF_get]
 by_cases hk : k < c
 ·rw [if_pos hk, if_pos hk, if_pos (by omega), Nat.add_assoc]
 ·rw [if_neg hk, if_neg hk]
theorem segF_app (f : Nat → UInt8) (o a c : Nat) : segF f o (a + c) = segF f o a ++ segF f (o + a) c := by
 apply List.ext_getElem?
 intro k
 rw [List.getElem?_append, segF_get, segF_len, segF_get, segF_get]
 by_cases hk : k < a
 ·rw [if_pos hk, if_pos hk, if_pos (by omega)]
 ·rw [if_neg hk]
  by_cases h2 : k < a + c
  ·rw [if_pos h2, if_pos (by omega)]; congr 2; omega
  ·rw [if_neg h2, if_neg (by omega)]
theorem segF_congr {f g : Nat → UInt8} {o n : Nat} (h : ∀ k, k < n → f (o + k) = g (o + k)) : segF f o n = segF g o n := by
 unfold segF
 refine List.map_congr_left fun k hk => h k (List.mem_range.1 hk)
theorem bz_get {b : List UInt8} {k : Nat} {x : UInt8} (h : b[k]? = some x) : bz b k = x := by unfold bz; rw [List.getD_eq_getElem?_getD, h]; rfl
theorem bz_none {b : List UInt8} {k : Nat} (h : b.length ≤ k) : bz b k = 0 := by unfold bz; rw [List.getD_eq_getElem?_getD, List.getElem?_eq_none h]; rfl
theorem bz_in {b : List UInt8} {k : Nat} (h : k < b.length) : b[k]? = some (bz b k) := by
 rw [List.getElem?_eq_getElem h, bz_get (List.getElem?_eq_getElem h)]
theorem segF_bz {b : List UInt8} {o n : Nat} (h : o + n ≤ b.length) : segF (bz b) o n = (b.drop o).take n := by
 apply List.ext_getElem?
 intro k
 rw [segF_get, List.getElem?_take, List.getElem?_drop]
 by_cases hk : k < n
 ·rw [if_pos hk, if_pos hk, bz_in (by omega)]
 ·rw [if_neg hk, if_neg hk]
theorem trim0_snoc (a : List UInt8) : trim0 (a ++ [0]) = trim0 a := by
 unfold trim0
 rw [List.reverse_append]
 rfl
theorem trim0_app (a : List UInt8) : ∀ k : Nat, trim0 (a ++ List.replicate k 0) = trim0 a
 | 0 => by simp
 | k + 1 => by rw [List.replicate_succ', ← List.append_assoc, trim0_snoc, trim0_app a k]
theorem trim0_len (a : List UInt8) : (trim0 a).length ≤ a.length := by
 obtain ⟨k, h⟩ := trim0_eq a
 have := congrArg List.length h
 rw [List.length_append] at this
 omega
theorem blkF_bz (b : List UInt8) (n : Nat) : blkF (bz b) n = blkN b n ++ List.replicate (64 - (blkN b n).length) 0 := by
 have hl : (blkN b n).length = min 64 (b.length - 64 * n) := by simp [blkN]
 apply List.ext_getElem?
 intro k
 unfold blkF
 rw [segF_get, List.getElem?_append, List.getElem?_replicate, hl]
 by_cases hk : k < 64
 ·rw [if_pos hk]
  by_cases h2 : k < b.length - 64 * n
  ·rw [if_pos (by omega)]
   unfold blkN
   rw [List.getElem?_take, if_pos hk, List.getElem?_drop, bz_in (by omega)]
  ·rw [if_neg (by omega), if_pos (by omega), bz_none (by omega)]
 ·rw [if_neg hk, if_neg (by omega), if_neg (by omega)]
theorem trim0_blk (b : List UInt8) (n : Nat) : trim0 (blkF (bz b) n) = trim0 (blkN b n) := by rw [blkF_bz, trim0_app]
def padB (v : List UInt8) : List UInt8 := (v ++ List.replicate 64 0).take 64
theorem padB_len (v : List UInt8) : (padB v).length = 64 := by simp [padB]
theorem padB_trim {b : List UInt8} (h : b.length = 64) : padB (trim0 b) = b := by
  obtain ⟨k, e⟩ := trim0_eq b
  have hl : (trim0 b).length + k = 64 := by rw [← h]; conv => rhs; rw [e]
                                            simp
  unfold padB
  rw [List.take_append, List.take_of_length_le (by omega), List.take_replicate, show min (64 - (trim0 b).length) 64 = k by omega]
  exact e.symm
def bfG (f : Nat → UInt8) (r : List UInt8) : Option (List UInt8) := if r.length = 2 ∧ trim0 (blkF f (beV r).toNat) ≠ [] then some (trim0 (blkF f (beV r).toNat)) else none
theorem beV_lt2 {r : List UInt8} (h : r.length = 2) : beB 2 (((beV r).toNat : Nat) : Int) = r ∧ (beV r).toNat ≤ 65535 ∧ 0 ≤ beV r := by
 have hb := beV_2 h
 have := beB_beV r
 rw [h] at this
 exact ⟨by rw [Int.toNat_of_nonneg hb.1]; exact this, by omega, hb.1⟩
theorem blkOf_bfG {b : List UInt8} (hb : b.length ≤ 4096) (r : List UInt8) : lget r (blkOf b) = bfG (bz b) r := by
 unfold bfG
 by_cases h : r.length = 2
 ·obtain ⟨h1, h2, h3⟩ := beV_lt2 h
  have := blkOf_get b hb (beV r).toNat h2
  rw [h1] at this
  rw [this, trim0_blk]
  by_cases ht : trim0 (blkN b (beV r).toNat) = []
  ·rw [if_pos ht, if_neg (fun q => q.2 ht)]
  ·rw [if_neg ht, if_pos ⟨h, ht⟩]
 ·rw [if_neg (fun q => h q.1)]
  refine lget_none fun x hx q => ?_
  obtain ⟨j, _, _, h3⟩ := blkOf_mem hx
  rw [q] at h3
  rw [h3, beB_len] at h
  exact h rfl
theorem blk_rises (b : List UInt8) : ∀ K : Nat, K ≤ 65536 → Rises ((List.range K).filterMap fun n => if trim0 (blkN b n) = [] then none else some (beB 2 (n : Int), trim0 (blkN b n)))
 | 0, _ => by simp [Rises]
 | K + 1, hK => by
  rw [List.range_succ, List.filterMap_append]
  have ih := blk_rises b K (by omega)
  unfold Rises at ih ⊢
  rw [List.pairwise_append]
  refine ⟨ih, ?_, fun x hx y hy => ?_⟩
  ·rw [List.filterMap_cons]
   split <;> simp
  ·obtain ⟨i, hi, hx2⟩ := List.mem_filterMap.1 hx
   obtain ⟨j, hj, hy2⟩ := List.mem_filterMap.1 hy
   rw [List.mem_range] at hi
   rw [List.mem_singleton] at hj
   subst hj
   split at hx2
   ·cases hx2
   ·split at hy2
    ·cases hy2
    ·injection hx2 with hx2
     injection hy2 with hy2
     rw [← hx2, ← hy2]
     show Op.bytesLess _ _ = true
     dsimp only
     rw [bl_be2 _ _ (by omega) (by omega)]
     exact decide_eq_true (by omega)
theorem blkOf_rises {b : List UInt8} (hb : b.length ≤ 4096) : Rises (blkOf b) := blk_rises b ((b.length + 63) / 64) (by omega)
def BF (l : List KV) (i : Int) (f : Nat → UInt8) : Prop := ∀ r, lget (keyH 68 i ++ r) l = bfG f r
theorem BF.blk {l : List KV} {i : Int} {b : List UInt8} (hl : Rises l) (hb : b.length ≤ 4096) (h : BF l i (bz b)) : subL 68 i l = blkOf b :=
 lget_ext (sub_rises hl) (blkOf_rises hb) fun r => by rw [sub_get hl, h r, blkOf_bfG hb]
theorem BF.of {l : List KV} {i : Int} {b : List UInt8} (hl : Rises l) (hb : b.length ≤ 4096) (h : subL 68 i l = blkOf b) : BF l i (bz b) := fun r => by
 rw [← sub_get hl, h, blkOf_bfG hb]
theorem BF.congr {l : List KV} {i : Int} {f g : Nat → UInt8} (h : BF l i f) (e : ∀ k, f k = g k) : BF l i g := by
 obtain rfl : f = g := funext e
 exact h
def putL (l : List KV) (i : Int) (n : Nat) (b : List UInt8) : List KV := if trim0 b = [] then lcut (keyH 68 i ++ beB 2 (n : Int)) l else lset (keyH 68 i ++ beB 2 (n : Int)) (trim0 b) l
def updF (f : Nat → UInt8) (n : Nat) (b : List UInt8) (k : Nat) : UInt8 := if 64 * n ≤ k ∧ k < 64 * n + 64 then b.getD (k - 64 * n) 0 else f k
theorem blkF_upd (f : Nat → UInt8) (n : Nat) {b : List UInt8} (hb : b.length = 64) (m : Nat) : blkF (updF f n b) m = if m = n then b else blkF f m := by
 by_cases h : m = n
 ·subst h
  rw [if_pos rfl]
  apply List.ext_getElem?
  intro k
  unfold blkF
  rw [segF_get]
  by_cases hk : k < 64
  ·rw [if_pos hk]
   unfold updF
   rw [if_pos ⟨by omega, by omega⟩, show 64 * m + k - 64 * m = k by omega, List.getD_eq_getElem?_getD, List.getElem?_eq_getElem (by omega)]; rfl
  ·rw [if_neg hk, List.getElem?_eq_none (by omega)]
 ·rw [if_neg h]
  refine segF_congr fun k hk => ?_
  unfold updF
  rw [if_neg (by omega)]
theorem BF.put {l : List KV} {i : Int} {f : Nat → UInt8} (hl : Rises l) (hi : U32 i) (h : BF l i f) {n : Nat} (hn : n ≤ 65535) {b : List UInt8} (hb : b.length = 64) : BF (putL l i n b) i (updF f n b) := fun r => by
 have hr : r = beB 2 (n : Int) ↔ r.length = 2 ∧ (beV r).toNat = n := by
  constructor
  ·rintro rfl
   refine ⟨beB_len .., ?_⟩
   rw [beV_be2 (n : Int) (by omega)]; rfl
  ·rintro ⟨h1, h2⟩
   rw [← h2]; exact (beV_lt2 h1).1.symm
 have hg : lget (keyH 68 i ++ r) (putL l i n b) = if r = beB 2 (n : Int) then (if trim0 b = [] then none else some (trim0 b)) else bfG f r := by
  unfold putL
  by_cases ht : trim0 b = []
  ·rw [if_pos ht, if_pos ht, get_cut L68 L68 hi hi]
   by_cases e : r = beB 2 (n : Int)
   ·rw [if_pos ⟨rfl, rfl, e⟩, if_pos e]
   ·rw [if_neg (fun q => e q.2.2), if_neg e, h r]
  ·rw [if_neg ht, if_neg ht, get_set L68 L68 hi hi hl]
   by_cases e : r = beB 2 (n : Int)
   ·rw [if_pos ⟨rfl, rfl, e⟩, if_pos e]
   ·rw [if_neg (fun q => e q.2.2), if_neg e, h r]
 rw [hg]
 unfold bfG
 rw [blkF_upd f n hb]
 by_cases e : r = beB 2 (n : Int)
 ·obtain ⟨h1, h2⟩ := hr.1 e
  rw [if_pos e, if_pos h2]
  by_cases ht : trim0 b = []
  ·rw [if_pos ht, if_neg (fun q => q.2 ht)]
  ·rw [if_neg ht, if_pos ⟨h1, ht⟩]
 ·rw [if_neg e]
  by_cases h1 : r.length = 2
  ·rw [if_neg (show ¬ (beV r).toNat = n from fun q => e (hr.2 ⟨h1, q⟩))]
  ·rw [if_neg (fun q => h1 q.1), if_neg (fun q => h1 q.1)]
structure Chg (i : Int) (l l' : List KV) : Prop where
 ri : Rises l'
 oth : ∀ c j r, L8 c → U32 j → ¬ (c = 73 ∧ j = i) → ¬ (c = 68 ∧ j = i) → lget (keyH c j ++ r) l' = lget (keyH c j ++ r) l
 refs : ∀ j, refs j l' = refs j l
 key : (∀ y ∈ l, ∃ c j r, (c = 73 ∧ r = [] ∨ c = 69 ∨ c = 68) ∧ U32 j ∧ y.1 = keyH c j ++ r) → ∀ y ∈ l', ∃ c j r, (c = 73 ∧ r = [] ∨ c = 69 ∨ c = 68) ∧ U32 j ∧ y.1 = keyH c j ++ r
theorem Chg.refl {i : Int} {l : List KV} (h : Rises l) : Chg i l l := ⟨h, fun _ _ _ _ _ _ _ => rfl, fun _ => rfl, fun h => h⟩
theorem Chg.trans {i : Int} {l m r : List KV} (h : Chg i l m) (k : Chg i m r) : Chg i l r :=
 ⟨k.ri, fun c j x h1 h2 h3 h4 => (k.oth c j x h1 h2 h3 h4).trans (h.oth c j x h1 h2 h3 h4), fun j => (k.refs j).trans (h.refs j), fun q => k.key (h.key q)⟩
theorem Chg.set {i c : Int} (hi : U32 i) {l : List KV} (hl : Rises l) (r v : List UInt8) (hc : c = 73 ∧ r = [] ∨ c = 68) : Chg i l (lset (keyH c i ++ r) v l) := by
 have h8 : L8 c := by rcases hc with h | h <;> (have := h; unfold L8; omega)
 refine ⟨lset_rises hl, fun c' j x h1 h2 h3 h4 => ?_, fun j => ?_, fun hk y hy => ?_⟩
 ·rw [get_set h1 h8 h2 hi hl, if_neg]
  rintro ⟨rfl, rfl, _⟩
  rcases hc with h | h
  ·exact h3 ⟨h.1, rfl⟩
  ·exact h4 ⟨h, rfl⟩
 ·exact refs_set_no (hc.imp (·.1) id) hl j r v
 ·rcases lset_mem hy with rfl | hy
  ·exact ⟨c, i, r, hc.imp id .inr, hi, rfl⟩
  ·exact hk y hy
theorem Chg.cut {i : Int} (hi : U32 i) {l : List KV} (hl : Rises l) (r : List UInt8) : Chg i l (lcut (keyH 68 i ++ r) l) := by
 refine ⟨lcut_rises hl, fun c' j x h1 h2 h3 h4 => ?_, fun j => ?_, fun hk y hy => ?_⟩
 ·rw [get_cut h1 L68 h2 hi, if_neg]
  rintro ⟨rfl, rfl, _⟩
  exact h4 ⟨rfl, rfl⟩
 ·exact refs_cut_no (.inr rfl) hl j r
 ·exact hk y (List.mem_filter.1 hy).1
theorem Chg.put {i : Int} (hi : U32 i) {l : List KV} (hl : Rises l) (n : Nat) (b : List UInt8) : Chg i l (putL l i n b) := by
 unfold putL
 split
 ·exact Chg.cut hi hl _
 ·exact Chg.set hi hl _ _ (.inr rfl)
theorem putL_73 {i : Int} (hi : U32 i) {l : List KV} (hl : Rises l) (n : Nat) (b : List UInt8) : lget (keyH 73 i) (putL l i n b) = lget (keyH 73 i) l := by
 rw [get73, get73]
 unfold putL
 split
 ·rw [get_cut L73 L68 hi hi, if_neg (fun q => by have := q.1; omega)]
 ·rw [get_set L73 L68 hi hi hl, if_neg (fun q => by have := q.1; omega)]
theorem Rel.data {l l' : List KV} {m : MF} {par : Int → Int} (R : Rel l m par) {i : Int} {x : MN} (hx : m.at i = some x) (hk : x.k = 1) {b : List UInt8} (hb : b.length ≤ 4096) (hc : Chg i l l')
  (h73 : lget (keyH 73 i) l' = some (nodeB 1 x.n (b.length : Int) 0)) (hbf : BF l' i (bz b)) : Rel l' (m.with { x with b := b }) par := by
 have hxi : x.i = i := (at_mem hx).2
 obtain ⟨hiu, hi0⟩ := R.u i x hx
 have hat : ∀ j, (m.with { x with b := b }).at j = if j = i then some { x with b := b } else m.at j := fun j => by rw [at_with]; dsimp only; rw [hxi]
 have hold : ∀ {j : Int} {y : MN}, (m.with { x with b := b }).at j = some y → ∃ z, m.at j = some z ∧ y.k = z.k ∧ y.n = z.n ∧ y.e = z.e ∧ (j = i ∧ y.b = b ∨ j ≠ i ∧ y.b = z.b) := fun {j y} h => by
  rw [hat] at h
  by_cases e : j = i
  ·rw [if_pos e] at h
   obtain rfl := Option.some.inj h
   exact ⟨x, by rw [e]; exact hx, rfl, rfl, rfl, .inl ⟨e, rfl⟩⟩
  ·rw [if_neg e] at h
   exact ⟨y, h, rfl, rfl, rfl, .inr ⟨e, rfl⟩⟩
 have hno : ∀ {j : Int}, (m.with { x with b := b }).at j = none → m.at j = none ∧ j ≠ i := fun {j} h => by
  rw [hat] at h
  by_cases e : j = i
  ·rw [if_pos e] at h; cases h
  ·rw [if_neg e] at h; exact ⟨h, e⟩
 have hnew : ∀ {j : Int} {z : MN}, m.at j = some z → ∃ y, (m.with { x with b := b }).at j = some y ∧ y.k = z.k := fun {j z} h => by
  rw [hat]
  by_cases e : j = i
  ·rw [if_pos e]
   rw [e, hx] at h
   exact ⟨_, rfl, by rw [← Option.some.inj h]⟩
  ·rw [if_neg e]; exact ⟨z, h, rfl⟩
 have hkind : ∀ j, (m.with { x with b := b }).kind j = m.kind j := fun j => by
  unfold MF.kind
  rw [hat]
  by_cases e : j = i
  ·rw [if_pos e, e, hx]
  ·rw [if_neg e]
 have hsub : ∀ e, subsN (m.with { x with b := b }) e = subsN m e := fun e => by unfold subsN; simp only [hkind]
 have h69 : ∀ j, U32 j → subL 69 j l' = subL 69 j l := fun j hj => lget_ext (sub_rises hc.ri) (sub_rises R.ri) fun r => by
  rw [sub_get hc.ri, sub_get R.ri]
  exact hc.oth 69 j r L69 hj (fun q => by have := q.1; omega) (fun q => by have := q.1; omega)
 have h68 : ∀ j, U32 j → j ≠ i → subL 68 j l' = subL 68 j l := fun j hj hne => lget_ext (sub_rises hc.ri) (sub_rises R.ri) fun r => by
  rw [sub_get hc.ri, sub_get R.ri]
  exact hc.oth 68 j r L68 hj (fun q => hne q.2) (fun q => hne q.2)
 have hn73 : ∀ j, U32 j → j ≠ i → lget (keyH 73 j) l' = lget (keyH 73 j) l := fun j hj hne => by
  rw [get73, get73]
  exact hc.oth 73 j [] L73 hj (fun q => hne q.2) (fun q => hne q.2)
 have hpar : par i = 0 := by
  rcases R.kin i x hx with q | q
  ·have := q.1; omega
  ·exact q.2.2
 obtain ⟨hmay, hnu, _, _⟩ := R.may hx
 refine ⟨hc.ri, fun y hy => ?_, fun j y h => ?_, ?_, R.rpar, fun j y h => ?_, fun j hj h => ?_, fun j y h => ?_, fun j hj h => ?_, fun j y h => ?_, fun j hj h => ?_, fun j y h nm v hv => ?_, fun j y h => ?_, fun j y h hk => ?_, fun j y h hk => ?_, fun j y h hk => ?_, hc.key R.key⟩
 ·exact (MF.uq.with R.fst { x with b := b }) y hy
 ·obtain ⟨z, h1, _⟩ := hold h
  exact R.u j z h1
 ·obtain ⟨y, h1, h2⟩ := R.root
  obtain ⟨z, h3, h4⟩ := hnew h1
  exact ⟨z, h3, h4.trans h2⟩
 ·obtain ⟨z, h1, h2, h3, h4, h5⟩ := hold h
  rcases h5 with ⟨rfl, h5⟩ | ⟨hne, h5⟩
  ·rw [hx] at h1
   obtain rfl := Option.some.inj h1
   rw [h73, h5, h2, h3, hk, hpar]
   refine ndOf_node ?_ (by decide) hnu (by unfold U32; omega) (by decide)
   rw [hk, hpar] at hmay
   unfold mayB at hmay ⊢
   simp only [if_true, Bool.and_eq_true, decide_eq_true_eq] at hmay ⊢
   exact ⟨⟨hmay.1.1, by omega⟩, trivial⟩
  ·rw [hn73 j (R.u j z h1).1 hne, R.nod j z h1, h2, h3, h5]
 ·obtain ⟨h1, h2⟩ := hno h
  rw [hn73 j hj h2]; exact R.non j hj h1
 ·obtain ⟨z, h1, _, _, h4, _⟩ := hold h
  rw [h4, h69 j (R.u j z h1).1]; exact R.ent j z h1
 ·rw [h69 j hj]; exact R.eno j hj (hno h).1
 ·obtain ⟨z, h1, h2, h3, h4, h5⟩ := hold h
  rcases h5 with ⟨rfl, h5⟩ | ⟨hne, h5⟩
  ·rw [h5]; exact hbf.blk hc.ri hb
  ·rw [h68 j (R.u j z h1).1 hne, h5]; exact R.blk j z h1
 ·obtain ⟨h1, h2⟩ := hno h
  rw [h68 j hj h2]; exact R.bno j hj h1
 ·obtain ⟨z, h1, _, _, h4, _⟩ := hold h
  rw [h4] at hv
  obtain ⟨g1, c, w, g2, g3, g4, g5⟩ := R.nam j z h1 nm v hv
  obtain ⟨w', g6, g7⟩ := hnew g3
  exact ⟨g1, c, w', g2, g6, g4, fun q => g5 (by rw [← g7]; exact q)⟩
 ·obtain ⟨z, h1, h2, h3, h4, h5⟩ := hold h
  rcases h5 with ⟨rfl, h5⟩ | ⟨hne, h5⟩
  ·rw [hx] at h1
   obtain rfl := Option.some.inj h1
   rcases R.kin j x hx with q | q
   ·have := q.1; omega
   ·exact .inr ⟨h2.trans q.1, h4.trans q.2.1, q.2.2⟩
  ·rw [h2, h4, h5]; exact R.kin j z h1
 ·obtain ⟨z, h1, h2, h3, _⟩ := hold h
  rw [h3, hc.refs]; exact R.lkf j z h1 (h2 ▸ hk)
 ·obtain ⟨z, h1, h2, h3, h4, _⟩ := hold h
  rw [h3, h4, hsub]; exact R.lkd j z h1 (h2 ▸ hk)
 ·obtain ⟨z, h1, h2, _⟩ := hold h
  rw [hc.refs]; exact R.one j z h1 (h2 ▸ hk)
def pcsN : Nat → Nat → Nat → List (Nat × Nat × Nat)
 | 0, _, _ => []
 | f + 1, o, n => if n = 0 then [] else (o / 64, o % 64, min n (64 - o % 64)) :: pcsN f (o + min n (64 - o % 64)) (n - min n (64 - o % 64))
theorem pcs_read (blk : Nat → List UInt8) (f : Nat → UInt8) (K : Nat) (hb : ∀ k, k ≤ K → blk k = blkF f k) : ∀ (g o n : Nat), n ≤ g → (o + n) / 64 ≤ K → (pcsN g o n).flatMap (fun x => ((blk x.1).drop x.2.1).take x.2.2) = segF f o n
  | 0, o, n, h, _ => by obtain rfl : n = 0 := by omega
                        rfl
  | g + 1, o, n, h, hK => by
    unfold pcsN
    by_cases h0 : n = 0
    · subst h0; rfl
    rw [if_neg h0, List.flatMap_cons]
    have hc : 1 ≤ min n (64 - o % 64) ∧ min n (64 - o % 64) ≤ n := by omega
    rw [pcs_read blk f K hb g _ _ (by omega) (by rw [show o + min n (64 - o % 64) + (n - min n (64 - o % 64)) = o + n by omega]; exact hK)]
    dsimp only
    rw [hb (o / 64) (by omega)]
    unfold blkF
    rw [segF_cut f (by omega), show 64 * (o / 64) + o % 64 = o by omega, ← segF_app, show min n (64 - o % 64) + (n - min n (64 - o % 64)) = n by omega]
def wrF (f : Nat → UInt8) (o : Nat) (b : List UInt8) (k : Nat) : UInt8 := if o ≤ k ∧ k < o + b.length then b.getD (k - o) 0 else f k
theorem wrF_nil (f : Nat → UInt8) (o : Nat) : wrF f o [] = f := by funext k; unfold wrF; rw [if_neg (by simp)]
def inB64 (l : List UInt8) (a : Nat) (b : List UInt8) : List UInt8 := l.take a ++ b ++ l.drop (a + b.length)
theorem inB64_len {l : List UInt8} (hl : l.length = 64) {a : Nat} {b : List UInt8} (h : a + b.length ≤ 64) : (inB64 l a b).length = 64 := by
 unfold inB64
 simp; omega
theorem inB64_get {l : List UInt8} (hl : l.length = 64) {a : Nat} {b : List UInt8} (h : a + b.length ≤ 64) (k : Nat) : (inB64 l a b).getD k 0 = if a ≤ k ∧ k < a + b.length then b.getD (k - a) 0 else l.getD k 0 := by
 unfold inB64
 simp only [List.getD_eq_getElem?_getD]
 rw [List.getElem?_append, List.getElem?_append]
 simp only [List.length_append, List.length_take, List.getElem?_take, List.getElem?_drop]
 by_cases h1 : k < a
 ·rw [if_pos (by omega), if_pos (by omega), if_pos h1, if_neg (by omega)]
 ·by_cases h2 : k < a + b.length
  ·rw [if_pos (by omega), if_neg (by omega), if_pos ⟨by omega, h2⟩, show k - min a l.length = k - a by omega]
  ·rw [if_neg (by omega), if_neg (by omega), show a + b.length + (k - (min a l.length + b.length)) = k by omega]
theorem wr_step (f : Nat → UInt8) (o : Nat) {b : List UInt8} (hb : b ≠ []) :
  wrF (updF f (o / 64) (inB64 (blkF f (o / 64)) (o % 64) (b.take (min b.length (64 - o % 64))))) (o + min b.length (64 - o % 64)) (b.drop (min b.length (64 - o % 64))) = wrF f o b := by
 have hb1 : 1 ≤ b.length := by cases b with
  | nil => exact absurd rfl hb
  | cons => simp
 have hl : (b.take (min b.length (64 - o % 64))).length = min b.length (64 - o % 64) := by simp
 have hbl : (blkF f (o / 64)).length = 64 := segF_len ..
 funext k
 unfold wrF
 rw [List.length_drop]
 by_cases h1 : o + min b.length (64 - o % 64) ≤ k ∧ k < o + min b.length (64 - o % 64) + (b.length - min b.length (64 - o % 64))
 ·rw [if_pos h1, if_pos (by omega)]
  simp only [List.getD_eq_getElem?_getD, List.getElem?_drop]
  congr 2; omega
 ·rw [if_neg h1]
  unfold updF
  by_cases h2 : 64 * (o / 64) ≤ k ∧ k < 64 * (o / 64) + 64
  ·rw [if_pos h2, inB64_get hbl (by rw [hl]; omega), hl]
   by_cases h3 : o % 64 ≤ k - 64 * (o / 64) ∧ k - 64 * (o / 64) < o % 64 + min b.length (64 - o % 64)
   ·rw [if_pos h3, if_pos (by omega)]
    simp only [List.getD_eq_getElem?_getD, List.getElem?_take]
    rw [if_pos (by omega)]
    congr 2; omega
   ·rw [if_neg h3, if_neg (by omega)]
    unfold blkF
    simp only [List.getD_eq_getElem?_getD]
    rw [segF_get, if_pos (by omega)]
    show f _ = f k
    congr 1; omega
  ·rw [if_neg h2, if_neg (by omega)]
end Go.Proofs.YtdkegmmigongoaaGreatDoor

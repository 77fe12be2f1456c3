/- Contracts and plain laws, several texts joined: RelBs, RelL, F18s2. -/
import Derived.Test.YtfnpelogfcnanaaGreatDoorGo
import Derived.Test.YtfnpelogfcnanaaGreatDoorM19
import Derived.Test.YtfnpelogfcnanaaGreatDoorM16
import Derived.Test.YtfnpelogfcnanaaGreatDoorM18
/- A file's bytes as a function of the place; its blocks under their keys. -/
-- @D
namespace Go.Proofs.YtfnpelogfcnanaaGreatDoor
set_option maxRecDepth 20000
open Go.Awp Tr
/-- So many bytes from a place on. -/
def segF (f : Nat → UInt8) (o n : Nat) : List UInt8 := (List.range n).map fun k => f (o + k)
/-- A block's 64 bytes. -/
def blkF (f : Nat → UInt8) (n : Nat) : List UInt8 := segF f (64 * n) 64
/-- A file's bytes, 0 behind its end. -/
def bz (b : List UInt8) (k : Nat) : UInt8 := b.getD k 0
theorem segF_len (f : Nat → UInt8) (o n : Nat) : (segF f o n).length = n := by simp [segF]
theorem segF_get (f : Nat → UInt8) (o n k : Nat) : (segF f o n)[k]? = if k < n then some (f (o + k)) else none := by
  unfold segF
  rw [List.getElem?_map]
  by_cases h : k < n
  · rw [if_pos h, List.getElem?_range h]; rfl
  · rw [if_neg h, List.getElem?_eq_none (by simp; omega)]; rfl
theorem segF_cut (f : Nat → UInt8) {o n a c : Nat} (h : a + c ≤ n) : ((segF f o n).drop a).take c = segF f (o + a) c := by
  apply List.ext_getElem?
  intro k
  rw [List.getElem?_take, List.getElem?_drop, segF_get, segF_get]
  by_cases hk : k < c
  · rw [if_pos hk, if_pos hk, if_pos (by omega), Nat.add_assoc]
  · rw [if_neg hk, if_neg hk]
theorem segF_app (f : Nat → UInt8) (o a c : Nat) : segF f o (a + c) = segF f o a ++ segF f (o + a) c := by
  apply List.ext_getElem?
  intro k
  rw [List.getElem?_append, segF_get, segF_len, segF_get, segF_get]
  by_cases hk : k < a
  · rw [if_pos hk, if_pos hk, if_pos (by omega)]
  · rw [if_neg hk]
    by_cases h2 : k < a + c
    · rw [if_pos h2, if_pos (by omega)]; congr 2; omega
    · rw [if_neg h2, if_neg (by omega)]
theorem segF_congr {f g : Nat → UInt8} {o n : Nat} (h : ∀ k, k < n → f (o + k) = g (o + k)) : segF f o n = segF g o n := by
  unfold segF
  refine List.map_congr_left fun k hk => h k (List.mem_range.1 hk)
theorem bz_get {b : List UInt8} {k : Nat} {x : UInt8} (h : b[k]? = some x) : bz b k = x := by unfold bz; rw [List.getD_eq_getElem?_getD, h]; rfl
theorem bz_none {b : List UInt8} {k : Nat} (h : b.length ≤ k) : bz b k = 0 := by unfold bz; rw [List.getD_eq_getElem?_getD, List.getElem?_eq_none h]; rfl
theorem bz_in {b : List UInt8} {k : Nat} (h : k < b.length) : b[k]? = some (bz b k) := by
  rw [List.getElem?_eq_getElem h, bz_get (List.getElem?_eq_getElem h)]
theorem segF_bz {b : List UInt8} {o n : Nat} (h : o + n ≤ b.length) : segF (bz b) o n = (b.drop o).take n := by
  apply List.ext_getElem?
  intro k
  rw [segF_get, List.getElem?_take, List.getElem?_drop]
  by_cases hk : k < n
  · rw [if_pos hk, if_pos hk, bz_in (by omega)]
  · rw [if_neg hk, if_neg hk]
theorem trim0_snoc (a : List UInt8) : trim0 (a ++ [0]) = trim0 a := by
  unfold trim0
  rw [List.reverse_append]
  rfl
theorem trim0_app (a : List UInt8) : ∀ k : Nat, trim0 (a ++ List.replicate k 0) = trim0 a
  | 0 => by simp
  | k + 1 => by rw [List.replicate_succ', ← List.append_assoc, trim0_snoc, trim0_app a k]
theorem trim0_len (a : List UInt8) : (trim0 a).length ≤ a.length := by
  obtain ⟨k, h⟩ := trim0_eq a
  have := congrArg List.length h
  rw [List.length_append] at this
  omega
theorem blkF_bz (b : List UInt8) (n : Nat) : blkF (bz b) n = blkN b n ++ List.replicate (64 - (blkN b n).length) 0 := by
  have hl : (blkN b n).length = min 64 (b.length - 64 * n) := by simp [blkN]
  apply List.ext_getElem?
  intro k
  unfold blkF
  rw [segF_get, List.getElem?_append, List.getElem?_replicate, hl]
  by_cases hk : k < 64
  · rw [if_pos hk]
    by_cases h2 : k < b.length - 64 * n
    · rw [if_pos (by omega)]
      unfold blkN
      rw [List.getElem?_take, if_pos hk, List.getElem?_drop, bz_in (by omega)]
    · rw [if_neg (by omega), if_pos (by omega), bz_none (by omega)]
  · rw [if_neg hk, if_neg (by omega), if_neg (by omega)]
theorem trim0_blk (b : List UInt8) (n : Nat) : trim0 (blkF (bz b) n) = trim0 (blkN b n) := by rw [blkF_bz, trim0_app]
/-- Up to 64 bytes, with bytes 0 behind them. -/
def padB (v : List UInt8) : List UInt8 := (v ++ List.replicate 64 0).take 64
theorem padB_len (v : List UInt8) : (padB v).length = 64 := by simp [padB]
theorem padB_trim {b : List UInt8} (h : b.length = 64) : padB (trim0 b) = b := by
  obtain ⟨k, e⟩ := trim0_eq b
  have hl : (trim0 b).length + k = 64 := by rw [← h]; conv => rhs; rw [e]
                                            simp
  unfold padB
  rw [List.take_append, List.take_of_length_le (by omega), List.take_replicate, show min (64 - (trim0 b).length) 64 = k by omega]
  exact e.symm
/-- What stands under a block's number, by the bytes. -/
def bfG (f : Nat → UInt8) (r : List UInt8) : Option (List UInt8) := if r.length = 2 ∧ trim0 (blkF f (beV r).toNat) ≠ [] then some (trim0 (blkF f (beV r).toNat)) else none
theorem beV_lt2 {r : List UInt8} (h : r.length = 2) : beB 2 (((beV r).toNat : Nat) : Int) = r ∧ (beV r).toNat ≤ 65535 ∧ 0 ≤ beV r := by
  have hb := beV_2 h
  have := beB_beV r
  rw [h] at this
  exact ⟨by rw [Int.toNat_of_nonneg hb.1]; exact this, by omega, hb.1⟩
theorem blkOf_bfG {b : List UInt8} (hb : b.length ≤ 4096) (r : List UInt8) : lget r (blkOf b) = bfG (bz b) r := by
  unfold bfG
  by_cases h : r.length = 2
  · obtain ⟨h1, h2, h3⟩ := beV_lt2 h
    have := blkOf_get b hb (beV r).toNat h2
    rw [h1] at this
    rw [this, trim0_blk]
    by_cases ht : trim0 (blkN b (beV r).toNat) = []
    · rw [if_pos ht, if_neg (fun q => q.2 ht)]
    · rw [if_neg ht, if_pos ⟨h, ht⟩]
  · rw [if_neg (fun q => h q.1)]
    refine lget_none fun x hx q => ?_
    obtain ⟨j, _, _, h3⟩ := blkOf_mem hx
    rw [q] at h3
    rw [h3, beB_len] at h
    exact h rfl
theorem blk_rises (b : List UInt8) : ∀ K : Nat, K ≤ 65536 → Rises ((List.range K).filterMap fun n => if trim0 (blkN b n) = [] then none else some (beB 2 (n : Int), trim0 (blkN b n)))
  | 0, _ => by simp [Rises]
  | K + 1, hK => by
    rw [List.range_succ, List.filterMap_append]
    have ih := blk_rises b K (by omega)
    unfold Rises at ih ⊢
    rw [List.pairwise_append]
    refine ⟨ih, ?_, fun x hx y hy => ?_⟩
    · rw [List.filterMap_cons]
      split <;> simp
    · obtain ⟨i, hi, hx2⟩ := List.mem_filterMap.1 hx
      obtain ⟨j, hj, hy2⟩ := List.mem_filterMap.1 hy
      rw [List.mem_range] at hi
      rw [List.mem_singleton] at hj
      subst hj
      split at hx2
      · cases hx2
      · split at hy2
        · cases hy2
        · injection hx2 with hx2
          injection hy2 with hy2
          rw [← hx2, ← hy2]
          show Op.bytesLess _ _ = true
          dsimp only
          rw [bl_be2 _ _ (by omega) (by omega)]
          exact decide_eq_true (by omega)
theorem blkOf_rises {b : List UInt8} (hb : b.length ≤ 4096) : Rises (blkOf b) := blk_rises b ((b.length + 63) / 64) (by omega)
/-- A row has these bytes under a file's keys. -/
def BF (l : List KV) (i : Int) (f : Nat → UInt8) : Prop := ∀ r, lget (keyH 68 i ++ r) l = bfG f r
theorem BF.blk {l : List KV} {i : Int} {b : List UInt8} (hl : Rises l) (hb : b.length ≤ 4096) (h : BF l i (bz b)) : subL 68 i l = blkOf b :=
  lget_ext (sub_rises hl) (blkOf_rises hb) fun r => by rw [sub_get hl, h r, blkOf_bfG hb]
theorem BF.of {l : List KV} {i : Int} {b : List UInt8} (hl : Rises l) (hb : b.length ≤ 4096) (h : subL 68 i l = blkOf b) : BF l i (bz b) := fun r => by
  rw [← sub_get hl, h, blkOf_bfG hb]
theorem BF.congr {l : List KV} {i : Int} {f g : Nat → UInt8} (h : BF l i f) (e : ∀ k, f k = g k) : BF l i g := by
  obtain rfl : f = g := funext e
  exact h
/-- A block is put. -/
def putL (l : List KV) (i : Int) (n : Nat) (b : List UInt8) : List KV := if trim0 b = [] then lcut (keyH 68 i ++ beB 2 (n : Int)) l else lset (keyH 68 i ++ beB 2 (n : Int)) (trim0 b) l
def updF (f : Nat → UInt8) (n : Nat) (b : List UInt8) (k : Nat) : UInt8 := if 64 * n ≤ k ∧ k < 64 * n + 64 then b.getD (k - 64 * n) 0 else f k
theorem blkF_upd (f : Nat → UInt8) (n : Nat) {b : List UInt8} (hb : b.length = 64) (m : Nat) : blkF (updF f n b) m = if m = n then b else blkF f m := by
  by_cases h : m = n
  · subst h
    rw [if_pos rfl]
    apply List.ext_getElem?
    intro k
    unfold blkF
    rw [segF_get]
    by_cases hk : k < 64
    · rw [if_pos hk]
      unfold updF
      rw [if_pos ⟨by omega, by omega⟩, show 64 * m + k - 64 * m = k by omega, List.getD_eq_getElem?_getD, List.getElem?_eq_getElem (by omega)]; rfl
    · rw [if_neg hk, List.getElem?_eq_none (by omega)]
  · rw [if_neg h]
    refine segF_congr fun k hk => ?_
    unfold updF
    rw [if_neg (by omega)]
theorem BF.put {l : List KV} {i : Int} {f : Nat → UInt8} (hl : Rises l) (hi : U32 i) (h : BF l i f) {n : Nat} (hn : n ≤ 65535) {b : List UInt8} (hb : b.length = 64) : BF (putL l i n b) i (updF f n b) := fun r => by
  have hr : r = beB 2 (n : Int) ↔ r.length = 2 ∧ (beV r).toNat = n := by
    constructor
    · rintro rfl
      refine ⟨beB_len .., ?_⟩
      rw [beV_be2 (n : Int) (by omega)]; rfl
    · rintro ⟨h1, h2⟩
      rw [← h2]; exact (beV_lt2 h1).1.symm
  have hg : lget (keyH 68 i ++ r) (putL l i n b) = if r = beB 2 (n : Int) then (if trim0 b = [] then none else some (trim0 b)) else bfG f r := by
    unfold putL
    by_cases ht : trim0 b = []
    · rw [if_pos ht, if_pos ht, get_cut L68 L68 hi hi]
      by_cases e : r = beB 2 (n : Int)
      · rw [if_pos ⟨rfl, rfl, e⟩, if_pos e]
      · rw [if_neg (fun q => e q.2.2), if_neg e, h r]
    · rw [if_neg ht, if_neg ht, get_set L68 L68 hi hi hl]
      by_cases e : r = beB 2 (n : Int)
      · rw [if_pos ⟨rfl, rfl, e⟩, if_pos e]
      · rw [if_neg (fun q => e q.2.2), if_neg e, h r]
  rw [hg]
  unfold bfG
  rw [blkF_upd f n hb]
  by_cases e : r = beB 2 (n : Int)
  · obtain ⟨h1, h2⟩ := hr.1 e
    rw [if_pos e, if_pos h2]
    by_cases ht : trim0 b = []
    · rw [if_pos ht, if_neg (fun q => q.2 ht)]
    · rw [if_neg ht, if_pos ⟨h1, ht⟩]
  · rw [if_neg e]
    by_cases h1 : r.length = 2
    · rw [if_neg (show ¬ (beV r).toNat = n from fun q => e (hr.2 ⟨h1, q⟩))]
    · rw [if_neg (fun q => h1 q.1), if_neg (fun q => h1 q.1)]
/-- What a change of a file leaves: all but its inode and its blocks. -/
structure Chg (i : Int) (l l' : List KV) : Prop where
  ri : Rises l'
  oth : ∀ c j r, L8 c → U32 j → ¬ (c = 73 ∧ j = i) → ¬ (c = 68 ∧ j = i) → lget (keyH c j ++ r) l' = lget (keyH c j ++ r) l
  refs : ∀ j, refs j l' = refs j l
  key : (∀ y ∈ l, ∃ c j r, (c = 73 ∧ r = [] ∨ c = 69 ∨ c = 68) ∧ U32 j ∧ y.1 = keyH c j ++ r) → ∀ y ∈ l', ∃ c j r, (c = 73 ∧ r = [] ∨ c = 69 ∨ c = 68) ∧ U32 j ∧ y.1 = keyH c j ++ r
theorem Chg.refl {i : Int} {l : List KV} (h : Rises l) : Chg i l l := ⟨h, fun _ _ _ _ _ _ _ => rfl, fun _ => rfl, fun h => h⟩
theorem Chg.trans {i : Int} {l m r : List KV} (h : Chg i l m) (k : Chg i m r) : Chg i l r :=
  ⟨k.ri, fun c j x h1 h2 h3 h4 => (k.oth c j x h1 h2 h3 h4).trans (h.oth c j x h1 h2 h3 h4), fun j => (k.refs j).trans (h.refs j), fun q => k.key (h.key q)⟩
theorem Chg.set {i c : Int} (hi : U32 i) {l : List KV} (hl : Rises l) (r v : List UInt8) (hc : c = 73 ∧ r = [] ∨ c = 68) : Chg i l (lset (keyH c i ++ r) v l) := by
  have h8 : L8 c := by rcases hc with h | h <;> (have := h; unfold L8; omega)
  refine ⟨lset_rises hl, fun c' j x h1 h2 h3 h4 => ?_, fun j => ?_, fun hk y hy => ?_⟩
  · rw [get_set h1 h8 h2 hi hl, if_neg]
    rintro ⟨rfl, rfl, _⟩
    rcases hc with h | h
    · exact h3 ⟨h.1, rfl⟩
    · exact h4 ⟨h, rfl⟩
  · exact refs_set_no (hc.imp (·.1) id) hl j r v
  · rcases lset_mem hy with rfl | hy
    · exact ⟨c, i, r, hc.imp id .inr, hi, rfl⟩
    · exact hk y hy
theorem Chg.cut {i : Int} (hi : U32 i) {l : List KV} (hl : Rises l) (r : List UInt8) : Chg i l (lcut (keyH 68 i ++ r) l) := by
  refine ⟨lcut_rises hl, fun c' j x h1 h2 h3 h4 => ?_, fun j => ?_, fun hk y hy => ?_⟩
  · rw [get_cut h1 L68 h2 hi, if_neg]
    rintro ⟨rfl, rfl, _⟩
    exact h4 ⟨rfl, rfl⟩
  · exact refs_cut_no (.inr rfl) hl j r
  · exact hk y (List.mem_filter.1 hy).1
theorem Chg.put {i : Int} (hi : U32 i) {l : List KV} (hl : Rises l) (n : Nat) (b : List UInt8) : Chg i l (putL l i n b) := by
  unfold putL
  split
  · exact Chg.cut hi hl _
  · exact Chg.set hi hl _ _ (.inr rfl)
theorem putL_73 {i : Int} (hi : U32 i) {l : List KV} (hl : Rises l) (n : Nat) (b : List UInt8) : lget (keyH 73 i) (putL l i n b) = lget (keyH 73 i) l := by
  rw [get73, get73]
  unfold putL
  split
  · rw [get_cut L73 L68 hi hi, if_neg (fun q => by have := q.1; omega)]
  · rw [get_set L73 L68 hi hi hl, if_neg (fun q => by have := q.1; omega)]
/-- A file's bytes become others. -/
theorem Rel.data {l l' : List KV} {m : MF} {par : Int → Int} (R : Rel l m par) {i : Int} {x : MN} (hx : m.at i = some x) (hk : x.k = 1) {b : List UInt8} (hb : b.length ≤ 4096) (hc : Chg i l l')
    (h73 : lget (keyH 73 i) l' = some (nodeB 1 x.n (b.length : Int) 0)) (hbf : BF l' i (bz b)) : Rel l' (m.with { x with b := b }) par := by
  have hxi : x.i = i := (at_mem hx).2
  obtain ⟨hiu, hi0⟩ := R.u i x hx
  have hat : ∀ j, (m.with { x with b := b }).at j = if j = i then some { x with b := b } else m.at j := fun j => by rw [at_with]; dsimp only; rw [hxi]
  have hold : ∀ {j : Int} {y : MN}, (m.with { x with b := b }).at j = some y → ∃ z, m.at j = some z ∧ y.k = z.k ∧ y.n = z.n ∧ y.e = z.e ∧ (j = i ∧ y.b = b ∨ j ≠ i ∧ y.b = z.b) := fun {j y} h => by
    rw [hat] at h
    by_cases e : j = i
    · rw [if_pos e] at h
      obtain rfl := Option.some.inj h
      exact ⟨x, by rw [e]; exact hx, rfl, rfl, rfl, .inl ⟨e, rfl⟩⟩
    · rw [if_neg e] at h
      exact ⟨y, h, rfl, rfl, rfl, .inr ⟨e, rfl⟩⟩
  have hno : ∀ {j : Int}, (m.with { x with b := b }).at j = none → m.at j = none ∧ j ≠ i := fun {j} h => by
    rw [hat] at h
    by_cases e : j = i
    · rw [if_pos e] at h; cases h
    · rw [if_neg e] at h; exact ⟨h, e⟩
  have hnew : ∀ {j : Int} {z : MN}, m.at j = some z → ∃ y, (m.with { x with b := b }).at j = some y ∧ y.k = z.k := fun {j z} h => by
    rw [hat]
    by_cases e : j = i
    · rw [if_pos e]
      rw [e, hx] at h
      exact ⟨_, rfl, by rw [← Option.some.inj h]⟩
    · rw [if_neg e]; exact ⟨z, h, rfl⟩
  have hkind : ∀ j, (m.with { x with b := b }).kind j = m.kind j := fun j => by
    unfold MF.kind
    rw [hat]
    by_cases e : j = i
    · rw [if_pos e, e, hx]
    · rw [if_neg e]
  have hsub : ∀ e, subsN (m.with { x with b := b }) e = subsN m e := fun e => by unfold subsN; simp only [hkind]
  have h69 : ∀ j, U32 j → subL 69 j l' = subL 69 j l := fun j hj => lget_ext (sub_rises hc.ri) (sub_rises R.ri) fun r => by
    rw [sub_get hc.ri, sub_get R.ri]
    exact hc.oth 69 j r L69 hj (fun q => by have := q.1; omega) (fun q => by have := q.1; omega)
  have h68 : ∀ j, U32 j → j ≠ i → subL 68 j l' = subL 68 j l := fun j hj hne => lget_ext (sub_rises hc.ri) (sub_rises R.ri) fun r => by
    rw [sub_get hc.ri, sub_get R.ri]
    exact hc.oth 68 j r L68 hj (fun q => hne q.2) (fun q => hne q.2)
  have hn73 : ∀ j, U32 j → j ≠ i → lget (keyH 73 j) l' = lget (keyH 73 j) l := fun j hj hne => by
    rw [get73, get73]
    exact hc.oth 73 j [] L73 hj (fun q => hne q.2) (fun q => hne q.2)
  have hpar : par i = 0 := by
    rcases R.kin i x hx with q | q
    · have := q.1; omega
    · exact q.2.2
  obtain ⟨hmay, hnu, _, _⟩ := R.may hx
  refine ⟨hc.ri, fun y hy => ?_, fun j y h => ?_, ?_, R.rpar, fun j y h => ?_, fun j hj h => ?_, fun j y h => ?_, fun j hj h => ?_, fun j y h => ?_, fun j hj h => ?_, fun j y h nm v hv => ?_, fun j y h => ?_, fun j y h hk => ?_, fun j y h hk => ?_, fun j y h hk => ?_, hc.key R.key⟩
  · exact (MF.uq.with R.fst { x with b := b }) y hy
  · obtain ⟨z, h1, _⟩ := hold h
    exact R.u j z h1
  · obtain ⟨y, h1, h2⟩ := R.root
    obtain ⟨z, h3, h4⟩ := hnew h1
    exact ⟨z, h3, h4.trans h2⟩
  · obtain ⟨z, h1, h2, h3, h4, h5⟩ := hold h
    rcases h5 with ⟨rfl, h5⟩ | ⟨hne, h5⟩
    · rw [hx] at h1
      obtain rfl := Option.some.inj h1
      rw [h73, h5, h2, h3, hk, hpar]
      refine ndOf_node ?_ (by decide) hnu (by unfold U32; omega) (by decide)
      rw [hk, hpar] at hmay
      unfold mayB at hmay ⊢
      simp only [if_true, Bool.and_eq_true, decide_eq_true_eq] at hmay ⊢
      exact ⟨⟨hmay.1.1, by omega⟩, trivial⟩
    · rw [hn73 j (R.u j z h1).1 hne, R.nod j z h1, h2, h3, h5]
  · obtain ⟨h1, h2⟩ := hno h
    rw [hn73 j hj h2]; exact R.non j hj h1
  · obtain ⟨z, h1, _, _, h4, _⟩ := hold h
    rw [h4, h69 j (R.u j z h1).1]; exact R.ent j z h1
  · rw [h69 j hj]; exact R.eno j hj (hno h).1
  · obtain ⟨z, h1, h2, h3, h4, h5⟩ := hold h
    rcases h5 with ⟨rfl, h5⟩ | ⟨hne, h5⟩
    · rw [h5]; exact hbf.blk hc.ri hb
    · rw [h68 j (R.u j z h1).1 hne, h5]; exact R.blk j z h1
  · obtain ⟨h1, h2⟩ := hno h
    rw [h68 j hj h2]; exact R.bno j hj h1
  · obtain ⟨z, h1, _, _, h4, _⟩ := hold h
    rw [h4] at hv
    obtain ⟨g1, c, w, g2, g3, g4, g5⟩ := R.nam j z h1 nm v hv
    obtain ⟨w', g6, g7⟩ := hnew g3
    exact ⟨g1, c, w', g2, g6, g4, fun q => g5 (by rw [← g7]; exact q)⟩
  · obtain ⟨z, h1, h2, h3, h4, h5⟩ := hold h
    rcases h5 with ⟨rfl, h5⟩ | ⟨hne, h5⟩
    · rw [hx] at h1
      obtain rfl := Option.some.inj h1
      rcases R.kin j x hx with q | q
      · have := q.1; omega
      · exact .inr ⟨h2.trans q.1, h4.trans q.2.1, q.2.2⟩
    · rw [h2, h4, h5]; exact R.kin j z h1
  · obtain ⟨z, h1, h2, h3, _⟩ := hold h
    rw [h3, hc.refs]; exact R.lkf j z h1 (h2 ▸ hk)
  · obtain ⟨z, h1, h2, h3, h4, _⟩ := hold h
    rw [h3, h4, hsub]; exact R.lkd j z h1 (h2 ▸ hk)
  · obtain ⟨z, h1, h2, _⟩ := hold h
    rw [hc.refs]; exact R.one j z h1 (h2 ▸ hk)
/-! ### Bytes block by block -/
def pcsN : Nat → Nat → Nat → List (Nat × Nat × Nat)
  | 0, _, _ => []
  | f + 1, o, n => if n = 0 then [] else (o / 64, o % 64, min n (64 - o % 64)) :: pcsN f (o + min n (64 - o % 64)) (n - min n (64 - o % 64))
theorem pcs_read (blk : Nat → List UInt8) (f : Nat → UInt8) (K : Nat) (hb : ∀ k, k ≤ K → blk k = blkF f k) : ∀ (g o n : Nat), n ≤ g → (o + n) / 64 ≤ K → (pcsN g o n).flatMap (fun x => ((blk x.1).drop x.2.1).take x.2.2) = segF f o n
  | 0, o, n, h, _ => by obtain rfl : n = 0 := by omega
                        rfl
  | g + 1, o, n, h, hK => by
    unfold pcsN
    by_cases h0 : n = 0
    · subst h0; rfl
    rw [if_neg h0, List.flatMap_cons]
    have hc : 1 ≤ min n (64 - o % 64) ∧ min n (64 - o % 64) ≤ n := by omega
    rw [pcs_read blk f K hb g _ _ (by omega) (by rw [show o + min n (64 - o % 64) + (n - min n (64 - o % 64)) = o + n by omega]; exact hK)]
    dsimp only
    rw [hb (o / 64) (by omega)]
    unfold blkF
    rw [segF_cut f (by omega), show 64 * (o / 64) + o % 64 = o by omega, ← segF_app, show min n (64 - o % 64) + (n - min n (64 - o % 64)) = n by omega]
/-- A part written. -/
def wrF (f : Nat → UInt8) (o : Nat) (b : List UInt8) (k : Nat) : UInt8 := if o ≤ k ∧ k < o + b.length then b.getD (k - o) 0 else f k
theorem wrF_nil (f : Nat → UInt8) (o : Nat) : wrF f o [] = f := by funext k; unfold wrF; rw [if_neg (by simp)]
/-- A block with a part written. -/
def inB64 (l : List UInt8) (a : Nat) (b : List UInt8) : List UInt8 := l.take a ++ b ++ l.drop (a + b.length)
theorem inB64_len {l : List UInt8} (hl : l.length = 64) {a : Nat} {b : List UInt8} (h : a + b.length ≤ 64) : (inB64 l a b).length = 64 := by
  unfold inB64
  simp; omega
theorem inB64_get {l : List UInt8} (hl : l.length = 64) {a : Nat} {b : List UInt8} (h : a + b.length ≤ 64) (k : Nat) : (inB64 l a b).getD k 0 = if a ≤ k ∧ k < a + b.length then b.getD (k - a) 0 else l.getD k 0 := by
  unfold inB64
  simp only [List.getD_eq_getElem?_getD]
  rw [List.getElem?_append, List.getElem?_append]
  simp only [List.length_append, List.length_take, List.getElem?_take, List.getElem?_drop]
  by_cases h1 : k < a
  · rw [if_pos (by omega), if_pos (by omega), if_pos h1, if_neg (by omega)]
  · by_cases h2 : k < a + b.length
    · rw [if_pos (by omega), if_neg (by omega), if_pos ⟨by omega, h2⟩, show k - min a l.length = k - a by omega]
    · rw [if_neg (by omega), if_neg (by omega), show a + b.length + (k - (min a l.length + b.length)) = k by omega]
theorem wr_step (f : Nat → UInt8) (o : Nat) {b : List UInt8} (hb : b ≠ []) :
    wrF (updF f (o / 64) (inB64 (blkF f (o / 64)) (o % 64) (b.take (min b.length (64 - o % 64))))) (o + min b.length (64 - o % 64)) (b.drop (min b.length (64 - o % 64))) = wrF f o b := by
  have hb1 : 1 ≤ b.length := by cases b with
    | nil => exact absurd rfl hb
    | cons => simp
  have hl : (b.take (min b.length (64 - o % 64))).length = min b.length (64 - o % 64) := by simp
  have hbl : (blkF f (o / 64)).length = 64 := segF_len ..
  funext k
  unfold wrF
  rw [List.length_drop]
  by_cases h1 : o + min b.length (64 - o % 64) ≤ k ∧ k < o + min b.length (64 - o % 64) + (b.length - min b.length (64 - o % 64))
  · rw [if_pos h1, if_pos (by omega)]
    simp only [List.getD_eq_getElem?_getD, List.getElem?_drop]
    congr 2; omega
  · rw [if_neg h1]
    unfold updF
    by_cases h2 : 64 * (o / 64) ≤ k ∧ k < 64 * (o / 64) + 64
    · rw [if_pos h2, inB64_get hbl (by rw [hl]; omega), hl]
      by_cases h3 : o % 64 ≤ k - 64 * (o / 64) ∧ k - 64 * (o / 64) < o % 64 + min b.length (64 - o % 64)
      · rw [if_pos h3, if_pos (by omega)]
        simp only [List.getD_eq_getElem?_getD, List.getElem?_take]
        rw [if_pos (by omega)]
        congr 2; omega
      · rw [if_neg h3, if_neg (by omega)]
        unfold blkF
        simp only [List.getD_eq_getElem?_getD]
        rw [segF_get, if_pos (by omega)]
        show f _ = f k
        congr 1; omega
    · rw [if_neg h2, if_neg (by omega)]
end Go.Proofs.YtfnpelogfcnanaaGreatDoor

/- Writes of a view agree with what it shows. -/
-- @D
namespace Go.Proofs.YtfnpelogfcnanaaGreatDoor
set_option maxRecDepth 20000
open Go.Awp Tr
def WC (s : VS) : Prop := ∀ x ∈ s.writes.row, lget x.1 s.shown.row = if x.2 = [] then none else some (x.2.drop 1)
theorem WC.new (t : Tr) : WC (VS.new t) := fun x hx => by cases hx
theorem WC.rd {s : VS} (h : WC s) (k : List UInt8) : WC (s.rd k) := h
theorem WC.rds {s : VS} (h : WC s) (ks : List (List UInt8)) : WC (s.rds ks) := h
theorem WC.range {s : VS} (h : WC s) (a b : List UInt8) : WC (s.range a b) := by
  unfold VS.range; split
  · exact h
  · exact h
theorem WC.put {s : VS} {n : Nat} (hv : VJ s n) (h : WC s) (k v : List UInt8) : WC (s.put k v) := by
  unfold VS.put
  split
  · intro x hx
    have hx : x ∈ (s.writes.set k (61 :: v)).row := hx
    show lget x.1 (s.shown.set k v).row = _
    rw [set_row _ _ _ hv.rs, lget_lset hv.rs]
    rw [set_row _ _ _ hv.rw] at hx
    rcases (lset_mem_iff hv.rw x).1 hx with rfl | ⟨h1, h2⟩
    · rw [if_pos rfl]; rfl
    · rw [if_neg h2]; exact h x h1
  · exact h
theorem WC.del {s : VS} {n : Nat} (hv : VJ s n) (h : WC s) (k : List UInt8) : WC (s.del k) := by
  unfold VS.del
  split
  · intro x hx
    have hx : x ∈ (if (s.base.get k).isSome = true then s.writes.set k [] else s.writes.cut k).row := hx
    show lget x.1 (s.shown.cut k).row = _
    rw [cut_row _ _ hv.rs, lget_lcut]
    split at hx
    · rw [set_row _ _ _ hv.rw] at hx
      rcases (lset_mem_iff hv.rw x).1 hx with rfl | ⟨h1, h2⟩
      · rw [if_pos rfl]; rfl
      · rw [if_neg h2]; exact h x h1
    · rw [cut_row _ _ hv.rw] at hx
      obtain ⟨h1, h2⟩ := lcut_mem.1 hx
      rw [if_neg h2]; exact h x h1
  · exact h
theorem WC.save {s : VS} {n : Nat} (hv : VJ s n) (h : WC s) (i : Int) (g : Nd) : WC (s.save i g) := h.put hv _ _
theorem WC.links {s : VS} {n : Nat} (hv : VJ s n) (h : WC s) (d b : Int) : WC (s.links d b) := WC.save (hv.rd _) (h.rd _) _ _
theorem WC.cutsL : ∀ (R : List KV) {s : VS} {n : Nat} (e : Int), VJ s n → WC s → WC (s.cutsL R e).2
  | [], _, _, _, _, h => h
  | x :: R, _, _, _, hv, h => WC.cutsL R _ (hv.del x.1) (h.del hv x.1)
theorem WC.removes {s : VS} {n : Nat} (hv : VJ s n) (h : WC s) (a : Sp) : WC (s.removes a).2 := by
  unfold VS.removes
  split
  · exact h
  split
  · exact h.range _ _
  · have h1 := hv.rngE a.i
    have g1 : WC (s.rngE a.i) := h.range _ _
    have h2 := h1.del (entryK a.d a.m)
    have g2 := g1.del h1 (entryK a.d a.m)
    exact (g2.del h2 _).links (h2.del _) _ _
theorem WC.unlinks {s : VS} {n : Nat} (hv : VJ s n) (h : WC s) (a : Sp) : WC (s.unlinks a).2 := by
  unfold VS.unlinks
  split
  · exact h
  have h1 := hv.del (entryK a.d a.m)
  have g1 := h.del hv (entryK a.d a.m)
  dsimp only
  split
  · exact g1.save h1 _ _
  · have h2 : VJ ((s.del (entryK a.d a.m)).rngB a.i) (n + 1 + 1) := h1.range _ _
    exact (WC.cutsL _ _ h2 (g1.range _ _)).del (cutsL_ok _ _ h2) _
theorem WC.make {s : VS} {n : Nat} (hv : VJ s n) (h : WC s) (p : List UInt8) (k i : Int) : WC (s.make p k i).2 := by
  unfold VS.make VS.makeAt
  have h1 : VJ (s.rds (s.find p).2.2) (n + 33) := hv.rdp p
  have g1 : WC (s.rds (s.find p).2.2) := h
  dsimp only
  split
  · exact g1
  split
  · exact g1
  have h2 := h1.save i (newN k (s.find p).1.d)
  have g2 := g1.save h1 i (newN k (s.find p).1.d)
  have h3 := h2.hang (s.find p).1.d (s.find p).1.m i
  have g3 := g2.put h2 (entryK (s.find p).1.d (s.find p).1.m) (beB 4 i)
  split
  · exact g3.links h3 _ _
  · exact g3
theorem WC.remove {s : VS} {n : Nat} (hv : VJ s n) (h : WC s) (p : List UInt8) : WC (s.remove p).2 := by
  unfold VS.remove
  split
  · exact h
  · exact WC.removes (hv.rdp p) h _
theorem WC.unlink {s : VS} {n : Nat} (hv : VJ s n) (h : WC s) (p : List UInt8) : WC (s.unlink p).2 := by
  unfold VS.unlink
  split
  · exact h
  · exact WC.unlinks (hv.rdp p) h _
theorem WC.dlist {s : VS} (h : WC s) (p : List UInt8) : WC (s.dlist p).2 := by
  unfold VS.dlist
  split
  · exact h
  split
  · exact h
  · exact WC.range (s := s.rdp p) h _ _
theorem WC.link {s : VS} {n : Nat} (hv : VJ s n) (h : WC s) (o p : List UInt8) : WC (s.link o p).2 := by
  unfold VS.link VS.linkAt
  have h1 := hv.rdp o
  have h2 := h1.rdp p
  have g2 : WC ((s.rdp o).rdp p) := h
  dsimp only
  split
  · exact h
  split
  · exact h
  split
  · exact h
  split
  · exact h
  split
  · exact h
  exact (g2.put h2 _ _).save (h2.hang _ _ _) _ _
theorem WC.movesAt {s : VS} {n : Nat} (hv : VJ s n) (h : WC s) (a t : Sp) : WC (s.movesAt a t).2 := by
  unfold VS.movesAt
  dsimp only
  have h1 := hv.del (entryK a.d a.m)
  have g1 := h.del hv (entryK a.d a.m)
  have h2 := h1.hang t.d t.m a.i
  have g2 := g1.put h1 (entryK t.d t.m) (beB 4 a.i)
  split
  · exact g2
  · have h3 := h2.save a.i (parN a.n t.d)
    have g3 := g2.save h2 a.i (parN a.n t.d)
    exact (g3.links h3 _ _).links (h3.links _ _) _ _
theorem WC.rename {s : VS} {n : Nat} (hv : VJ s n) (h : WC s) (o p : List UInt8) : WC (s.rename o p).2 := by
  unfold VS.rename VS.renameAt
  have h1 := hv.rdp o
  have h2 := h1.rdp p
  have g2 : WC ((s.rdp o).rdp p) := h
  split
  · exact h
  split
  · exact h
  split
  · exact h
  split
  · exact h
  have hc : WC (((s.rdp o).rdp p).clears (s.there o false).1 ((s.rdp o).find p).1 o p).2 := by
    unfold VS.clears
    split
    · exact g2
    split
    · exact g2
    split
    · exact g2.removes h2 _
    · exact g2.unlinks h2 _
  split
  · exact hc
  · exact hc.movesAt (clears_ok h2 _ _ _ _) _ _
end Go.Proofs.YtfnpelogfcnanaaGreatDoor

/- flintref18: Same. -/
-- @D
namespace Go.Proofs.YtfnpelogfcnanaaGreatDoor
set_option maxRecDepth 20000
open Go.Awp Tr
/-- Two entries, name and what stands below. -/
def sameP (f : Int → Int → Bool) (p : KV × KV) : Bool := decide (p.1.1 = p.2.1) && f (beV p.1.2) (beV p.2.2)
/-- The same from two nodes on, so deep. -/
def sameF (a b : MF) : Nat → Int → Int → Bool
  | 0, _, _ => false
  | n + 1, i, k => match a.at i, b.at k with
    | some x, some y => decide (x.k = y.k) && decide (x.n = y.n) && decide (x.b = y.b) && decide (x.e.length = y.e.length) && (x.e.zip y.e).all (sameP (sameF a b n))
    | _, _ => false
def MF.same (a b : MF) : Bool := sameF a b 41 1 1 && decide (a.length = b.length)
structure SmI (f : KV × KV → Bool) (l : List (KV × KV)) where
  i : Nat
  h : i ≤ l.length
  e : (l.drop i).all f = l.all f
end Go.Proofs.YtfnpelogfcnanaaGreatDoor

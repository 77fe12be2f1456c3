import Derived.Test.YtdkegmmigongoaaGreatDoorGo
import Derived.Test.YtdkegmmigongoaaGreatDoorM36
import Derived.Test.YtdkegmmigongoaaGreatDoorM18
import Derived.Test.YtdkegmmigongoaaGreatDoorM21
import Derived.Test.YtdkegmmigongoaaGreatDoorM28
import Derived.Test.YtdkegmmigongoaaGreatDoorM26
import Derived.Test.YtdkegmmigongoaaGreatDoorM30
namespace Go.Proofs.YtdkegmmigongoaaGreatDoor
set_option maxRecDepth 20000
open Go.Awp Tr
def nblk (n : Nat) : Int := (((n + 63) / 64 : Nat) : Int)
def entP (y : KV) : Int := 41 + (y.1.length : Int)
def ofN (x : MN) : Int := 50 + 103 * nblk x.b.length + sumF entP x.e
def MF.of (m : MF) : Int := sumF ofN m
theorem split_I {j : Int} (hj : U32 j) : splitK (keyH 73 j ++ []) = (73, j, [], 0) := by
 unfold splitK
 rw [if_neg (by rw [List.length_append, keyH_len]; omega), if_pos ⟨rfl, drop5 73 j []⟩, gF_kH [] hj]
theorem split_E {j : Int} (hj : U32 j) {r : List UInt8} (hn : nameB r = true) : splitK (keyH 69 j ++ r) = (69, j, r, 0) := by
 have hlen := nameB_len hn
 have hne : r ≠ [] := fun e => by rw [e] at hn; revert hn; decide
 have hd := drop5 69 j r
 unfold splitK
 rw [if_neg (by rw [List.length_append, keyH_len]; omega), if_neg (by rw [hd]; exact fun q => hne q.2), if_pos (by rw [hd]; exact ⟨rfl, hne, hlen⟩), hd, gF_kH r hj]
theorem data_ra {m : MF} (h : RA m) {x : MN} (hx : m.at x.i = some x) (b : List UInt8) : RA (m.with { x with b := b }) := by
 refine h.keep (P := fun _ _ => False) (fun d y hy hk => ?_) (fun j y' hy => ?_) fun _ _ _ _ _ _ _ _ _ _ => id
 ·rw [at_with]
  split
  ·rename_i e
   dsimp only at e
   rw [e, hx] at hy
   obtain rfl := Option.some.inj hy
   exact ⟨_, rfl, hk, fun _ _ => rfl⟩
  ·exact ⟨y, hy, hk, fun _ _ => rfl⟩
 ·rw [at_with] at hy
  split at hy
  ·rename_i e
   dsimp only at e
   obtain rfl := Option.some.inj hy
   exact ⟨x, by rw [e]; exact hx, rfl⟩
  ·exact ⟨y', hy, rfl⟩
theorem fwrite_ra {m : MF} (h : RA m) (hf : ∀ x ∈ m, m.at x.i = some x) (i o : Int) (b : List UInt8) : RA (m.fwrite i o b).2 := by
 unfold MF.fwrite
 split
 ·exact h
 rename_i x hx
 split
 ·exact h
 split
 ·exact h
 split
 ·exact h
 ·exact data_ra h (hf x (at_mem (file_at hx).1).1) _
theorem ftrunc_ra {m : MF} (h : RA m) (hf : ∀ x ∈ m, m.at x.i = some x) (i z : Int) : RA (m.ftrunc i z).2 := by
 unfold MF.ftrunc
 split
 ·exact h
 rename_i x hx
 split
 ·exact h
 split
 ·exact h
 ·exact data_ra h (hf x (at_mem (file_at hx).1).1) _
theorem mdo_ra {r : List KV} {m : MF} {par : Int → Int} (R : Rel r m par) {c : Nat} (hw : m.wk c) (hc : 2 ≤ c) (h : RA m) (l : List Int) (o : Op20) {i : Int} (hiu : U32 i) (hi0 : i ≠ 0) (hi : m.at i = none) : RA (mdo m l o i).2.1 := by
 unfold mdo
 by_cases k4 : o.kind = 4
 ·rw [if_pos k4]
  exact make_ra R hw hc h o.path (.inl rfl) hiu hi0 hi
 rw [if_neg k4]
 by_cases k5 : o.kind = 5
 ·rw [if_pos k5]
  exact make_ra R hw hc h o.path (.inr rfl) hiu hi0 hi
 rw [if_neg k5]
 by_cases k6 : o.kind = 6
 ·rw [if_pos k6]
  repeat' split
  all_goals exact h
 rw [if_neg k6]
 by_cases k7 : o.kind = 7
 ·rw [if_pos k7]
  split <;> exact h
 rw [if_neg k7]
 by_cases k8 : o.kind = 8
 ·rw [if_pos k8]
  split <;> exact h
 rw [if_neg k8]
 by_cases k9 : o.kind = 9
 ·rw [if_pos k9]
  split
  ·exact h
  split
  ·exact fwrite_ra h R.fst _ _ _
  ·exact fwrite_ra h R.fst _ _ _
 rw [if_neg k9]
 by_cases k10 : o.kind = 10
 ·rw [if_pos k10]
  split
  ·exact h
  ·exact ftrunc_ra h R.fst _ _
 rw [if_neg k10]
 by_cases k11 : o.kind = 11
 ·rw [if_pos k11]
  exact rename_ra R hw h _ _
 rw [if_neg k11]
 by_cases k12 : o.kind = 12
 ·rw [if_pos k12]
  exact link_ra R hw h _ _
 rw [if_neg k12]
 by_cases k13 : o.kind = 13
 ·rw [if_pos k13]
  exact unlink_ra R hw h _
 rw [if_neg k13]
 by_cases k14 : o.kind = 14
 ·rw [if_pos k14]
  exact remove_ra R hw h _
 rw [if_neg k14]
 by_cases k15 : o.kind = 15
 ·rw [if_pos k15]
  exact h
 rw [if_neg k15]
 by_cases k16 : o.kind = 16
 ·rw [if_pos k16]
  exact h
 rw [if_neg k16]
 exact h
theorem entT_other {t : Tr} {y : KV} (h : (splitK y.1).1 ≠ 69) : entT t y = none := by unfold entT; rw [if_neg h]
theorem entT_ent {t : Tr} (ht : Rises t.row) {j k : Int} {nm : List UInt8} (hj : U32 j) (hk : U32 k) (hn : nameB nm = true) (hy : (keyH 69 j ++ nm, beB 4 k) ∈ t.row) : entT t (keyH 69 j ++ nm, beB 4 k) = some (j, k) ∧ cdT t j nm = some k := by
 have hc : cdT t j nm = some k := by
  unfold cdT
  rw [get_row _ _ ht, entK_is (nameB_len hn), (lget_some ht).2 hy, chOf_be4' hk]
 refine ⟨?_, hc⟩
 unfold entT
 dsimp only
 rw [split_E hj hn, if_pos rfl]
 dsimp only
 rw [hc]; rfl
theorem ent_of {l : List KV} {m : MF} {par : Int → Int} (R : Rel l m par) {t : Tr} (ht : Rises t.row) (hs : ∀ y ∈ t.row, y ∈ l) {y : KV} (hy : y ∈ t.row) :
  (entT t y = none ∧ y.1.headD 0 ≠ 69) ∨ ∃ j k nm x z, U32 j ∧ U32 k ∧ y.1 = keyH 69 j ++ nm ∧ y.2 = beB 4 k ∧ m.at j = some x ∧ lget nm x.e = some (beB 4 k) ∧ m.at k = some z ∧ k ≠ 1 ∧ (z.k = 2 → par k = j) ∧ nameB nm = true ∧ entT t y = some (j, k) := by
 rcases split_row R (hs y hy) with ⟨j, x, hj, hk, hsp, hx⟩ | ⟨j, k, nm, x, z, hj, hku, hk, hsp, hn, hx, hg, hv, hz⟩ | ⟨j, i', hh, hsp⟩
 ·exact .inl ⟨entT_other (by rw [hsp]; exact (by decide : (73 : Int) ≠ 69)), by rw [hk]; exact (by decide : (73 : UInt8) ≠ 69)⟩
 ·obtain ⟨_, c, w, g1, g2, g3, g4⟩ := R.nam j x hx nm _ hg
  have hcu := (R.u c w g2).1
  obtain rfl : k = c := (be4_inj hku hcu).1 g1
  have hyy : y = (keyH 69 j ++ nm, beB 4 k) := by obtain ⟨a, b⟩ := y; dsimp only at hk hv; rw [hk, hv]
  obtain ⟨e1, _⟩ := entT_ent ht hj hku hn (by rw [← hyy]; exact hy)
  exact .inr ⟨j, k, nm, x, w, hj, hku, hk, hv, hx, hg, g2, g3, g4, hn, by rw [hyy]; exact e1⟩
 ·exact .inl ⟨entT_other (by rw [hsp]; show (68 : Int) ≠ 69; decide), by rw [hh]; decide⟩
theorem cnt_refs {l : List KV} {m : MF} {par : Int → Int} (R : Rel l m par) {t : Tr} (ht : Rises t.row) (hs : ∀ y ∈ t.row, y ∈ l) {j : Int} (hj : U32 j) : cntE (entsT t t.row) j = refs j t.row := by
 unfold cntE entsT refs
 rw [List.countP_filterMap]
 refine List.countP_congr fun y hy => ?_
 rcases ent_of R ht hs hy with ⟨e, hh⟩ | ⟨i, k, nm, x, z, hi, hk, h1, h2, _, _, _, _, _, _, e⟩
 ·rw [e]
  unfold refB
  have : (y.1.headD 0 == 69) = false := by simpa using hh
  rw [this]; simp
 ·rw [e]
  unfold refB
  rw [h1, h2]
  have : ((keyH 69 i ++ nm).headD 0 == 69) = true := rfl
  rw [this, Option.map_some, Option.getD_some, Bool.true_and, beq_iff_eq, beq_iff_eq, be4_inj hk hj]
theorem chk_bad {t : Tr} (ht : Rises t.row) {y : KV} (hy : y ∈ t.row) (h1 : y.1 ≠ keyH 73 1) (hf : faultF t (entsT t t.row) y ≠ 0) : chkF t ≠ [] := by
 unfold chkF fltsF
 rw [Ne, List.filterMap_eq_nil_iff]
 intro h
 have hm : y ∈ (rootT t).row := by
  unfold rootT
  split
  ·exact hy
  ·rw [set_row _ _ _ ht, lset_mem_iff ht]
   exact .inr ⟨hy, h1⟩
 have := h y hm
 rw [if_neg hf] at this
 cases this
theorem chk_noent {l : List KV} {m : MF} {par : Int → Int} (R : Rel l m par) {t : Tr} (ht : t.row = l) {y : KV} (hy : y ∈ l) (hs : (splitK y.1).1 = 69) : chkF (t.cut y.1) ≠ [] := by
 have hr : Rises t.row := by rw [ht]; exact R.ri
 have hcr : (t.cut y.1).row = lcut y.1 l := by rw [cut_row _ _ hr, ht]
 have hr2 : Rises (t.cut y.1).row := by rw [hcr]; exact lcut_rises R.ri
 have hsub : ∀ w ∈ (t.cut y.1).row, w ∈ l := fun w hw => by rw [hcr, lcut_mem] at hw; exact hw.1
 rcases split_row R hy with ⟨j, x, hj, hk, hsp, hx⟩ | ⟨j, k, nm, x, z, hj, hku, hk, hsp, hn, hx, hg, hv, hz⟩ | ⟨j', i', hh, hsp⟩
 ·rw [hsp] at hs; exact absurd (show (73 : Int) = 69 from hs) (by decide)
 ·obtain ⟨_, c, w, g1, g2, g3, g4⟩ := R.nam j x hx nm _ hg
  obtain rfl : k = c := (be4_inj hku (R.u c w g2).1).1 g1
  have hnod := R.nod k z hz
  cases hgk : lget (keyH 73 k) l with
  | none =>
   rw [hgk] at hnod
   unfold ndOf at hnod
   dsimp only at hnod
   rw [if_neg g3] at hnod; cases hnod
  | some v =>
   have hne : keyH 73 k ≠ y.1 := fun e => by
    have h1 := congrArg (fun w => w.headD 0) e
    rw [hk] at h1
    have h2 : (73 : UInt8) = 69 := h1
    exact absurd h2 (by decide)
   have hin : (keyH 73 k, v) ∈ (t.cut y.1).row := by rw [hcr, lcut_mem]; exact ⟨(lget_some R.ri).1 hgk, hne⟩
   have hld : ldT (t.cut y.1) k = some (z.k, z.n, (z.b.length : Int), par k) := by
    unfold ldT
    rw [get_row _ _ hr2, (lget_some hr2).2 hin]
    rw [hgk] at hnod
    exact hnod
   have hcnt := cnt_refs R hr2 hsub hku
   have href : refs k (t.cut y.1).row + 1 = refs k l := by
    rw [hcr]
    have := count_cut (refB k) (k := y.1) R.ri
    have hgy : lget y.1 l = some y.2 := (lget_some R.ri).2 hy
    rw [hgy] at this
    dsimp only at this
    have hb : refB k (y.1, y.2) = true := by rw [hk, hv, refB_ent]; simp
    rw [if_pos hb] at this
    exact this
   refine chk_bad hr2 hin (fun e => g3 (by
    have := (key_iff (x := []) (y := []) L73 L73 hku (show U32 1 by decide)).1 (by rw [List.append_nil, List.append_nil]; exact e)
    exact this.2.1)) ?_
   have hspk := split_I hku
   rw [List.append_nil] at hspk
   unfold faultF
   dsimp only
   rw [hspk]
   dsimp only
   rw [if_neg (by decide), if_neg (by decide), if_pos rfl]
   unfold inodeF
   rw [hld]
   dsimp only
   rw [hcnt]
   rcases k12 R.toA hz with k1 | k2
   ·have := R.lkf k z hz k1
    rw [if_pos k1, if_pos (by omega)]; decide
   ·have hone := R.one k z hz k2
    rw [if_neg g3] at hone
    rw [if_neg (by omega), if_pos (show (if k = 1 then 0 < refs k (t.cut y.1).row else refs k (t.cut y.1).row ≠ 1) by rw [if_neg g3]; omega)]; decide
 ·rw [hsp] at hs; exact absurd (show (68 : Int) = 69 from hs) (by decide)
theorem chk_noino {l : List KV} {m : MF} {par : Int → Int} (R : Rel l m par) {t : Tr} (ht : t.row = l) {y : KV} (hy : y ∈ l) {j : Int} (hs : (splitK y.1).1 = 73) (hsj : (splitK y.1).2.1 = j) (j1 : j ≠ 1) : chkF (t.cut y.1) ≠ [] := by
 have hr : Rises t.row := by rw [ht]; exact R.ri
 have hcr : (t.cut y.1).row = lcut y.1 l := by rw [cut_row _ _ hr, ht]
 have hr2 : Rises (t.cut y.1).row := by rw [hcr]; exact lcut_rises R.ri
 rcases split_row R hy with ⟨i, x, hj, hk, hsp, hx⟩ | ⟨i, k, nm, x, z, hj, hku, hk, hsp, hn, hx, hg, hv, hz⟩ | ⟨j', i', hh, hsp⟩
 ·rw [hsp] at hsj
  obtain rfl : i = j := hsj
  have hld : ldT (t.cut y.1) i = none := by
   unfold ldT
   rw [get_row _ _ hr2, hcr]
   have : lget (keyH 73 i) (lcut y.1 l) = none := lget_none fun w hw e => by
    rw [lcut_mem] at hw
    exact hw.2 (by rw [hk]; exact e)
   rw [this]
   unfold ndOf
   dsimp only
   rw [if_neg j1]
  have hpos : 0 < refs i l := by
   rcases k12 R.toA hx with k1 | k2
   ·have h1 := R.lkf i x hx k1
    have h2 := (R.may hx).1
    unfold mayB at h2
    rw [k1] at h2
    simp at h2
    omega
   ·have hone := R.one i x hx k2
    rw [if_neg j1] at hone; omega
  obtain ⟨w, hw, hwr⟩ := List.countP_pos_iff.1 hpos
  rcases split_row R hw with ⟨a, x', _, hk', hsp', _⟩ | ⟨a, k, nm, x', z, ha, hku, hk', hsp', hn, hx', hg, hv, hz⟩ | ⟨a, i', hh, hsp'⟩
  ·unfold refB at hwr
   rw [hk'] at hwr
   rw [Bool.and_eq_true] at hwr
   exact absurd (show ((73 : UInt8) == 69) = true from hwr.1) (by decide)
  ·have hki : k = i := by
    unfold refB at hwr
    rw [hv, Bool.and_eq_true] at hwr
    exact (be4_inj hku hj).1 (by simpa using hwr.2)
   subst hki
   have hne : w.1 ≠ y.1 := fun e => by
    have h1 := congrArg (fun w => w.headD 0) e
    rw [hk, hk'] at h1
    have h2 : (69 : UInt8) = 73 := h1
    exact absurd h2 (by decide)
   have hin : w ∈ (t.cut y.1).row := by rw [hcr, lcut_mem]; exact ⟨hw, hne⟩
   have hww : w = (keyH 69 a ++ nm, beB 4 k) := by obtain ⟨p, q⟩ := w; dsimp only at hk' hv; rw [hk', hv]
   obtain ⟨_, hcd⟩ := entT_ent hr2 ha hku hn (by rw [← hww]; exact hin)
   refine chk_bad hr2 hin (fun e => by
    rw [hk'] at e
    have h1 := congrArg (fun w => w.headD 0) e
    have h2 : (69 : UInt8) = 73 := h1
    exact absurd h2 (by decide)) ?_
   unfold faultF
   rw [hsp']
   dsimp only
   rw [if_neg (by decide), if_pos rfl]
   unfold entryF
   split
   ·decide
   split
   ·decide
   rw [hcd]
   dsimp only
   rw [hld]
   decide
  ·unfold refB at hwr
   rw [hh] at hwr
   rw [Bool.and_eq_true] at hwr
   exact absurd hwr.1 (by decide)
 ·rw [hsp] at hs; exact absurd (show (69 : Int) = 73 from hs) (by decide)
 ·rw [hsp] at hs; exact absurd (show (68 : Int) = 73 from hs) (by decide)
theorem madeR_ok : ∀ (l : List POp) (i : Nat) (s : VS) (k : List Int) (m : MF), D20 s k m (fun j => j < (2 + i : Nat)) i → RA m → i ≤ 50 → ∀ s', madeR l i s k = some s' → ∃ k' m' i', i' ≤ 50 ∧ D20 s' k' m' (fun j => j < (2 + i' : Nat)) i' ∧ RA m'
 | [], i, s, k, m, d, ha, hi, s', h => by
  obtain rfl : s = s' := Option.some.inj h
  exact ⟨k, m, i, hi, d, ha⟩
 | x :: r, i, s, k, m, d, ha, hi, s', h => by
  unfold madeR at h
  by_cases h5 : 50 ≤ i
  ·rw [if_pos h5] at h
   obtain rfl : s = s' := Option.some.inj h
   exact ⟨k, m, i, hi, d, ha⟩
  rw [if_neg h5] at h
  by_cases hg : great x.o = true
  ·rw [if_pos hg] at h
   obtain rfl : s = s' := Option.some.inj h
   exact ⟨k, m, i, hi, d, ha⟩
  rw [if_neg hg] at h
  by_cases he : (sdo s k x.o ((2 + i : Nat) : Int)).1.e = 21
  ·rw [if_pos he] at h; cases h
  rw [if_neg he] at h
  have hst := d.step (Q := fun k => k < (2 + (i + 1) : Nat)) (by omega) x.o (j := (2 + i : Nat)) (by unfold U32; omega) (by omega) (by omega) (fun k h => by omega) (by omega)
  obtain ⟨e1, e2, d2⟩ := hst.resolve_left he
  obtain ⟨par, R⟩ := d.r
  have hr := mdo_ra R d.w (by omega) ha k x.o (i := ((2 + i : Nat) : Int)) (by unfold U32; omega) (by omega) (d.p.none (by omega))
  exact madeR_ok r (i + 1) _ _ _ d2 hr (by omega) s' h
theorem made_ok {l : List POp} {s : VS} (h : made0 l = some s) : ∃ m par, Rel s.shown.row m par ∧ RA m ∧ VJ s 10000 := by
 obtain ⟨k, m, i, h1, d, ha⟩ := madeR_ok l 0 _ _ _ D20.start RA.new (by omega) s h
 obtain ⟨par, R⟩ := d.r
 exact ⟨m, par, R, ha, d.v.mono (by omega)⟩
theorem tree_vj {s : VS} {n : Nat} (h : VJ s n) : VJ (VS.new (treeL s.shown.row)) n :=
 VJ.new (by rw [treeL_row h.rs]; exact h.rs) (by rw [treeL_size h.rs, row_len]; exact h.zs) (by rw [treeL_row h.rs]; exact h.val)
theorem cut_vj {t : Tr} {n : Nat} (h : VJ (VS.new t) n) (k : List UInt8) : VJ (VS.new (t.cut k)) n := by
 have hr : Rises t.row := h.rs
 have hz : t.size ≤ n := h.zs
 refine VJ.new (by rw [cut_row _ _ hr]; exact lcut_rises hr) ?_ fun x hx => ?_
 ·rw [cut_size_eq hr]; split <;> omega
 ·rw [cut_row _ _ hr, lcut_mem] at hx
  exact h.val x hx.1
end Go.Proofs.YtdkegmmigongoaaGreatDoor

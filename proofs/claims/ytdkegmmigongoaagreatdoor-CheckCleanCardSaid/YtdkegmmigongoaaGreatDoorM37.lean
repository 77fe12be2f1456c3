import Derived.Test.YtdkegmmigongoaaGreatDoorGo
import Derived.Test.YtdkegmmigongoaaGreatDoorM36
import Derived.Test.YtdkegmmigongoaaGreatDoorM18
import Derived.Test.YtdkegmmigongoaaGreatDoorM21
import Derived.Test.YtdkegmmigongoaaGreatDoorM28
import Derived.Test.YtdkegmmigongoaaGreatDoorM26
import Derived.Test.YtdkegmmigongoaaGreatDoorM30
namespace Go.Proofs.YtdkegmmigongoaaGreatDoor
set_option maxRecDepth 20000
open Go.Awp Tr
def nblk (n : Nat) : Int := (((n + 63) / 64 : Nat) : Int)
def entP (y : KV) : Int := 41 + (y.1.length : Int)
def ofN (x : MN) : Int := 50 + 103 * nblk x.b.length + sumF entP x.e
def MF.of (m : MF) : Int := sumF ofN m
theorem trim0_le (s : List UInt8) : (trim0 s).length ≤ s.length := by
 unfold trim0
 rw [List.length_reverse]
 exact Nat.le_trans (List.dropWhile_sublist _).length_le (by simp)
theorem blkOf_val {b : List UInt8} {y : KV} (h : y ∈ blkOf b) : y.1.length = 2 ∧ y.2.length ≤ 64 := by
 unfold blkOf at h
 obtain ⟨n, _, h2⟩ := List.mem_filterMap.1 h
 split at h2
 ·cases h2
 ·obtain rfl := Option.some.inj h2
  refine ⟨beB_len _ _, ?_⟩
  refine Nat.le_trans (trim0_le _) ?_
  rw [List.length_take]; omega
theorem split_I {j : Int} (hj : U32 j) : splitK (keyH 73 j ++ []) = (73, j, [], 0) := by
 unfold splitK
 rw [if_neg (by rw [List.length_append, keyH_len]; omega), if_pos ⟨rfl, drop5 73 j []⟩, gF_kH [] hj]
theorem split_E {j : Int} (hj : U32 j) {r : List UInt8} (hn : nameB r = true) : splitK (keyH 69 j ++ r) = (69, j, r, 0) := by
 have hlen := nameB_len hn
 have hne : r ≠ [] := fun e => by rw [e] at hn; revert hn; decide
 have hd := drop5 69 j r
 unfold splitK
 rw [if_neg (by rw [List.length_append, keyH_len]; omega), if_neg (by rw [hd]; exact fun q => hne q.2), if_pos (by rw [hd]; exact ⟨rfl, hne, hlen⟩), hd, gF_kH r hj]
theorem data_ra {m : MF} (h : RA m) {x : MN} (hx : m.at x.i = some x) (b : List UInt8) : RA (m.with { x with b := b }) := by
 refine h.keep (P := fun _ _ => False) (fun d y hy hk => ?_) (fun j y' hy => ?_) fun _ _ _ _ _ _ _ _ _ _ => id
 ·rw [at_with]
  split
  ·rename_i e
   dsimp only at e
   rw [e, hx] at hy
   obtain rfl := Option.some.inj hy
   exact ⟨_, rfl, hk, fun _ _ => rfl⟩
  ·exact ⟨y, hy, hk, fun _ _ => rfl⟩
 ·rw [at_with] at hy
  split at hy
  ·rename_i e
   dsimp only at e
   obtain rfl := Option.some.inj hy
   exact ⟨x, by rw [e]; exact hx, rfl⟩
  ·exact ⟨y', hy, rfl⟩
theorem fwrite_ra {m : MF} (h : RA m) (hf : ∀ x ∈ m, m.at x.i = some x) (i o : Int) (b : List UInt8) : RA (m.fwrite i o b).2 := by
 unfold MF.fwrite
 split
 ·exact h
 rename_i x hx
 split
 ·exact h
 split
 ·exact h
 split
 ·exact h
 ·exact data_ra h (hf x (at_mem (file_at hx).1).1) _
theorem ftrunc_ra {m : MF} (h : RA m) (hf : ∀ x ∈ m, m.at x.i = some x) (i z : Int) : RA (m.ftrunc i z).2 := by
 unfold MF.ftrunc
 split
 ·exact h
 rename_i x hx
 split
 ·exact h
 split
 ·exact h
 ·exact data_ra h (hf x (at_mem (file_at hx).1).1) _
theorem mdo_ra {r : List KV} {m : MF} {par : Int → Int} (R : Rel r m par) {c : Nat} (hw : m.wk c) (hc : 2 ≤ c) (h : RA m) (l : List Int) (o : Op20) {i : Int} (hiu : U32 i) (hi0 : i ≠ 0) (hi : m.at i = none) : RA (mdo m l o i).2.1 := by
 unfold mdo
 by_cases k4 : o.kind = 4
 ·rw [if_pos k4]
  exact make_ra R hw hc h o.path (.inl rfl) hiu hi0 hi
 rw [if_neg k4]
 by_cases k5 : o.kind = 5
 ·rw [if_pos k5]
  exact make_ra R hw hc h o.path (.inr rfl) hiu hi0 hi
 rw [if_neg k5]
 by_cases k6 : o.kind = 6
 ·rw [if_pos k6]
  repeat' split
  all_goals exact h
 rw [if_neg k6]
 by_cases k7 : o.kind = 7
 ·rw [if_pos k7]
  split <;> exact h
 rw [if_neg k7]
 by_cases k8 : o.kind = 8
 ·rw [if_pos k8]
  split <;> exact h
 rw [if_neg k8]
 by_cases k9 : o.kind = 9
 ·rw [if_pos k9]
  split
  ·exact h
  split
  ·exact fwrite_ra h R.fst _ _ _
  ·exact fwrite_ra h R.fst _ _ _
 rw [if_neg k9]
 by_cases k10 : o.kind = 10
 ·rw [if_pos k10]
  split
  ·exact h
  ·exact ftrunc_ra h R.fst _ _
 rw [if_neg k10]
 by_cases k11 : o.kind = 11
 ·rw [if_pos k11]
  exact rename_ra R hw h _ _
 rw [if_neg k11]
 by_cases k12 : o.kind = 12
 ·rw [if_pos k12]
  exact link_ra R hw h _ _
 rw [if_neg k12]
 by_cases k13 : o.kind = 13
 ·rw [if_pos k13]
  exact unlink_ra R hw h _
 rw [if_neg k13]
 by_cases k14 : o.kind = 14
 ·rw [if_pos k14]
  exact remove_ra R hw h _
 rw [if_neg k14]
 by_cases k15 : o.kind = 15
 ·rw [if_pos k15]
  exact h
 rw [if_neg k15]
 by_cases k16 : o.kind = 16
 ·rw [if_pos k16]
  exact h
 rw [if_neg k16]
 exact h
theorem entT_other {t : Tr} {y : KV} (h : (splitK y.1).1 ≠ 69) : entT t y = none := by unfold entT; rw [if_neg h]
theorem entT_ent {t : Tr} (ht : Rises t.row) {j k : Int} {nm : List UInt8} (hj : U32 j) (hk : U32 k) (hn : nameB nm = true) (hy : (keyH 69 j ++ nm, beB 4 k) ∈ t.row) : entT t (keyH 69 j ++ nm, beB 4 k) = some (j, k) ∧ cdT t j nm = some k := by
 have hc : cdT t j nm = some k := by
  unfold cdT
  rw [get_row _ _ ht, entK_is (nameB_len hn), (lget_some ht).2 hy, chOf_be4' hk]
 refine ⟨?_, hc⟩
 unfold entT
 dsimp only
 rw [split_E hj hn, if_pos rfl]
 dsimp only
 rw [hc]; rfl
theorem ent_of {l : List KV} {m : MF} {par : Int → Int} (R : Rel l m par) {t : Tr} (ht : Rises t.row) (hs : ∀ y ∈ t.row, y ∈ l) {y : KV} (hy : y ∈ t.row) :
  (entT t y = none ∧ y.1.headD 0 ≠ 69) ∨ ∃ j k nm x z, U32 j ∧ U32 k ∧ y.1 = keyH 69 j ++ nm ∧ y.2 = beB 4 k ∧ m.at j = some x ∧ lget nm x.e = some (beB 4 k) ∧ m.at k = some z ∧ k ≠ 1 ∧ (z.k = 2 → par k = j) ∧ nameB nm = true ∧ entT t y = some (j, k) := by
 rcases split_row R (hs y hy) with ⟨j, x, hj, hk, hsp, hx⟩ | ⟨j, k, nm, x, z, hj, hku, hk, hsp, hn, hx, hg, hv, hz⟩ | ⟨j, i', hh, hsp⟩
 ·exact .inl ⟨entT_other (by rw [hsp]; exact (by decide : (73 : Int) ≠ 69)), by rw [hk]; exact (by decide : (73 : UInt8) ≠ 69)⟩
 ·obtain ⟨_, c, w, g1, g2, g3, g4⟩ := R.nam j x hx nm _ hg
  have hcu := (R.u c w g2).1
  obtain rfl : k = c := (be4_inj hku hcu).1 g1
  have hyy : y = (keyH 69 j ++ nm, beB 4 k) := by obtain ⟨a, b⟩ := y; dsimp only at hk hv; rw [hk, hv]
  obtain ⟨e1, _⟩ := entT_ent ht hj hku hn (by rw [← hyy]; exact hy)
  exact .inr ⟨j, k, nm, x, w, hj, hku, hk, hv, hx, hg, g2, g3, g4, hn, by rw [hyy]; exact e1⟩
 ·exact .inl ⟨entT_other (by rw [hsp]; show (68 : Int) ≠ 69; decide), by rw [hh]; decide⟩
theorem cnt_refs {l : List KV} {m : MF} {par : Int → Int} (R : Rel l m par) {t : Tr} (ht : Rises t.row) (hs : ∀ y ∈ t.row, y ∈ l) {j : Int} (hj : U32 j) : cntE (entsT t t.row) j = refs j t.row := by
 unfold cntE entsT refs
 rw [List.countP_filterMap]
 refine List.countP_congr fun y hy => ?_
 rcases ent_of R ht hs hy with ⟨e, hh⟩ | ⟨i, k, nm, x, z, hi, hk, h1, h2, _, _, _, _, _, _, e⟩
 ·rw [e]
  unfold refB
  have : (y.1.headD 0 == 69) = false := by simpa using hh
  rw [this]; simp
 ·rw [e]
  unfold refB
  rw [h1, h2]
  have : ((keyH 69 i ++ nm).headD 0 == 69) = true := rfl
  rw [this, Option.map_some, Option.getD_some, Bool.true_and, beq_iff_eq, beq_iff_eq, be4_inj hk hj]
theorem ldT_rel {l : List KV} {m : MF} {par : Int → Int} (R : Rel l m par) {t : Tr} (ht : t.row = l) {j : Int} {x : MN} (hx : m.at j = some x) : ldT t j = some (x.k, x.n, (x.b.length : Int), par j) := by
 unfold ldT
 rw [get_row _ _ (by rw [ht]; exact R.ri), ht]
 exact R.nod j x hx
theorem sub_rel {l : List KV} {m : MF} {par : Int → Int} (R : Rel l m par) {t : Tr} (ht : t.row = l) {d : Int} : subE t (entsT t t.row) d = subD m d l := by
 have hr : Rises t.row := by rw [ht]; exact R.ri
 unfold subE entsT subD
 rw [List.countP_filterMap, ht]
 refine List.countP_congr fun y hy => ?_
 rcases ent_of R hr (by rw [ht]; exact fun _ h => h) (by rw [ht]; exact hy) with ⟨e, hh⟩ | ⟨i, k, nm, x, z, hi, hk, h1, h2, hx, _, hz, _, _, _, e⟩
 ·rw [e]
  have : (y.1.headD 0 == 69) = false := by simpa using hh
  rw [this]; simp
 ·rw [e]
  have e1 : ((keyH 69 i ++ nm).headD 0 == 69) = true := rfl
  have e2 : isDT t k = (m.kind k == 2) := by
   unfold isDT MF.kind
   rw [ldT_rel R ht hz, hz]
  rw [h1, h2, e1, gF_kH nm hi, beV_be4 k hk, Option.map_some, Option.getD_some, Bool.true_and, e2]
theorem dirE_one {j c : Int} : ∀ (L : EL) (a : Int), (∀ p ∈ L, p.2 = j → p.1 = c) → (a = c ∨ ∃ p ∈ L, p.2 = j) → L.foldl (fun a p => if p.2 = j then p.1 else a) a = c
 | [], a, _, h => by
  rcases h with h | ⟨p, hp, _⟩
  ·exact h
  ·cases hp
 | p :: r, a, h1, h2 => by
  refine dirE_one r _ (fun q hq => h1 q (by simp [hq])) ?_
  show (if p.2 = j then p.1 else a) = c ∨ _
  by_cases e : p.2 = j
  ·rw [if_pos e]; exact .inl (h1 p (by simp) e)
  ·rw [if_neg e]
   rcases h2 with h2 | ⟨q, hq, h3⟩
   ·exact .inl h2
   ·rcases List.mem_cons.1 hq with rfl | hq
    ·exact absurd h3 e
    ·exact .inr ⟨q, hq, h3⟩
theorem adF_reach {l : List KV} {m : MF} {par : Int → Int} (R : Rel l m par) {t : Tr} (ht : t.row = l) {N : List (List UInt8)} {j : Int} (h : Reach m N j) : (∃ x, m.at j = some x ∧ x.k = 2) → ∀ (n : Nat) (q : List Int), N.length < n → (∀ i ∈ q, ∀ M, Reach m M i → N.length < M.length) → adF t n j q = false := by
 induction h with
 | nil =>
  intro _ n q hn _
  obtain ⟨n, rfl⟩ : ∃ k, n = k + 1 := ⟨n - 1, by omega⟩
  unfold adF
  rw [if_pos rfl]
 | @snoc N d i xd x h hd hk hg hi ih =>
  intro ⟨z, hz, hzk⟩ n q hn hq
  obtain ⟨n, rfl⟩ : ∃ k, n = k + 1 := ⟨n - 1, by omega⟩
  obtain ⟨_, c, w, g1, g2, g3, g4⟩ := R.nam d xd hd x _ hg
  obtain rfl : i = c := (be4_inj hi (R.u c w g2).1).1 g1
  rw [hz] at g2
  obtain rfl := Option.some.inj g2
  have hlen : (N ++ [x]).length = N.length + 1 := by simp
  rw [hlen] at hn hq
  have hnq : i ∉ q := fun hm => by
   have := hq i hm _ (.snoc h hd hk hg hi)
   rw [hlen] at this; omega
  unfold adF
  rw [if_neg g3, ldT_rel R ht hz]
  dsimp only
  rw [if_neg (by simpa using hzk), if_neg hnq, g4 hzk]
  refine ih ⟨xd, hd, hk⟩ n (i :: q) (by omega) fun a ha M hM => ?_
  rcases List.mem_cons.1 ha with rfl | ha
  ·have e := reach_one R (.snoc h hd hk hg hi) hM hz hzk
   rw [← e, hlen]; omega
  ·have := hq a ha M hM; omega
theorem inode_ok {l : List KV} {m : MF} {par : Int → Int} (R : Rel l m par) (ha : RA m) {t : Tr} (ht : t.row = l) {j : Int} {x : MN} (hx : m.at j = some x) : inodeF t (entsT t t.row) j = 0 := by
 have hr : Rises t.row := by rw [ht]; exact R.ri
 have hs : ∀ y ∈ t.row, y ∈ l := by rw [ht]; exact fun _ h => h
 have hju := (R.u j x hx).1
 have hc := cnt_refs R hr hs hju
 rw [ht] at hc
 unfold inodeF
 rw [ldT_rel R ht hx]
 dsimp only
 rw [ht, hc]
 rcases k12 R.toA hx with k1 | k2
 ·rw [if_pos k1, if_neg (by rw [R.lkf j x hx k1]; simp)]
 ·have hone := R.one j x hx k2
  rw [if_neg (by omega)]
  have hsub := sub_rel R ht (d := j)
  rw [ht] at hsub
  rw [hsub, subD_eq R hx, ← R.lkd j x hx k2]
  by_cases j1 : j = 1
  ·subst j1
   rw [if_pos rfl] at hone
   rw [if_neg (show ¬ (if (1 : Int) = 1 then 0 < refs 1 l else refs 1 l ≠ 1) by rw [if_pos rfl]; omega), if_neg (by simp), if_neg (by rw [if_pos rfl, R.rpar]; simp), if_pos rfl]
  ·rw [if_neg j1] at hone
   rw [if_neg (show ¬ (if j = 1 then 0 < refs j l else refs j l ≠ 1) by rw [if_neg j1]; omega), if_neg (by simp), if_neg j1, if_neg j1]
   have hd : dirE (entsT t l) j = par j := by
    refine dirE_one _ 0 (fun p hp e => ?_) (.inr ?_)
    ·obtain ⟨y, hy, hye⟩ := List.mem_filterMap.1 hp
     rcases ent_of R hr hs (by rw [ht]; exact hy) with ⟨e1, _⟩ | ⟨i, k, nm, xx, z, hi, hk, h1, h2, _, _, hz, _, hp2, _, e1⟩
     ·rw [e1] at hye; cases hye
     ·rw [e1] at hye
      obtain rfl := Option.some.inj hye
      obtain rfl : k = j := e
      rw [hx] at hz
      obtain rfl := Option.some.inj hz
      exact (hp2 k2).symm
    ·have : 0 < cntE (entsT t l) j := by rw [hc, hone]; decide
     obtain ⟨p, hp, he⟩ := List.countP_pos_iff.1 this
     exact ⟨p, hp, by simpa using he⟩
   rw [hd, if_neg (by simp)]
   obtain ⟨N, hN⟩ := ha j x hx k2
   have hpl := path_le R hN ⟨x, hx, k2⟩
   have hal := allI_le l
   have hsz := row_len t
   rw [ht] at hsz
   rw [adF_reach R ht hN ⟨x, hx, k2⟩ _ [] (by omega) (by simp)]
   rfl
theorem trim0_lastN (s : List UInt8) : (trim0 s).getLast? ≠ some 0 := by
 unfold trim0
 rw [List.getLast?_reverse]
 have := List.head?_dropWhile_not (fun x : UInt8 => x == 0) s.reverse
 intro h
 rw [h] at this
 simp at this
theorem block_ok {l : List KV} {m : MF} {par : Int → Int} (R : Rel l m par) {t : Tr} (ht : t.row = l) {j : Int} (hj : U32 j) {r v : List UInt8} (hy : (keyH 68 j ++ r, v) ∈ l) : blockF t j (beV r) v = 0 := by
 have hmem : (r, v) ∈ subL 68 j l := sub_mem.2 hy
 cases hm : m.at j with
 | none => rw [R.bno j hj hm] at hmem; cases hmem
 | some x =>
  rw [R.blk j x hm] at hmem
  have k1 : x.k = 1 := by
   rcases R.kin j x hm with q | q
   ·rw [q.2] at hmem; cases hmem
   ·exact q.1
  obtain ⟨hbl, _⟩ := R.bl hm k1
  unfold blkOf at hmem
  obtain ⟨n, hn, h2⟩ := List.mem_filterMap.1 hmem
  rw [List.mem_range] at hn
  split at h2
  ·cases h2
  rename_i hne
  obtain ⟨e1, e2⟩ := Prod.mk.inj (Option.some.inj h2)
  subst e1 e2
  rw [beV_be2 _ (by omega)]
  have h64 : (trim0 ((x.b.drop (64 * n)).take 64)).length ≤ min 64 (x.b.length - 64 * n) := Nat.le_trans (trim0_le _) (by rw [List.length_take, List.length_drop]; exact Nat.le_refl _)
  unfold blockF
  rw [ldT_rel R ht hm]
  dsimp only
  rw [if_neg (by simpa using k1), if_neg (by omega), if_neg]
  rintro (q | q | q | q)
  ·exact hne q
  ·omega
  ·exact trim0_lastN _ q
  ·omega
theorem fault_ok {l : List KV} {m : MF} {par : Int → Int} (R : Rel l m par) (ha : RA m) {t : Tr} (ht : t.row = l) {y : KV} (hy : y ∈ l) : faultF t (entsT t t.row) y = 0 := by
 have hr : Rises t.row := by rw [ht]; exact R.ri
 unfold faultF
 obtain ⟨c, j, r, hc, hj, hk⟩ := R.key y hy
 rcases split_row R hy with ⟨j, x, hj, hk, hsp, hx⟩ | ⟨j, k, nm, x, z, hj, hku, hk, hsp, hn, hx, hg, hv, hz⟩ | ⟨j', i', hh, hsp⟩
 ·rw [hsp]
  dsimp only
  rw [if_neg (by decide), if_neg (by decide), if_pos rfl]
  exact inode_ok R ha ht hx
 ·rw [hsp]
  dsimp only
  rw [if_neg (by decide), if_pos rfl]
  have hyy : y = (keyH 69 j ++ nm, beB 4 k) := by obtain ⟨a, b⟩ := y; dsimp only at hk hv; rw [hk, hv]
  obtain ⟨_, hcd⟩ := entT_ent hr hj hku hn (by rw [ht, ← hyy]; exact hy)
  have hx2 : x.k = 2 := by
   rcases R.kin j x hx with q | q
   ·exact q.1
   ·rw [q.2.1] at hg; cases hg
  unfold entryF
  have hd : isDT t j = true := by unfold isDT; rw [ldT_rel R ht hx]; simpa using hx2
  rw [hd, if_neg (by decide), hn, if_neg (by decide), hcd]
  dsimp only
  rw [ldT_rel R ht hz]; rfl
 ·rcases hc with ⟨rfl, rfl⟩ | rfl | rfl
  ·rw [hk] at hh; exact absurd (show (73 : UInt8) = 68 from hh) (by decide)
  ·rw [hk] at hh; exact absurd (show (69 : UInt8) = 68 from hh) (by decide)
  ·have hmem : (r, y.2) ∈ subL 68 j l := sub_mem.2 (by rw [← hk]; exact hy)
   have hr2 : r.length = 2 := by
    cases hm : m.at j with
    | none => rw [R.bno j hj hm] at hmem; cases hmem
    | some x => rw [R.blk j x hm] at hmem; exact (blkOf_val hmem).1
   have hsp2 : splitK y.1 = (68, j, [], beV r) := by
    have hd := drop5 68 j r
    have b0e : b0 (keyH 68 j ++ r) = 68 := rfl
    rw [hk]
    unfold splitK
    rw [if_neg (by rw [List.length_append, keyH_len]; omega), b0e, if_neg (by omega), if_neg (by omega), if_pos ⟨rfl, by rw [hd]; exact hr2⟩, hd, gF_kH r hj]
   rw [hsp2, if_pos rfl]
   exact block_ok R ht hj (by rw [← hk]; exact hy)
theorem chk_clean {l : List KV} {m : MF} {par : Int → Int} (R : Rel l m par) (ha : RA m) {t : Tr} (ht : t.row = l) : chkF t = [] := by
 have hr : Rises t.row := by rw [ht]; exact R.ri
 unfold chkF fltsF
 rw [List.filterMap_eq_nil_iff]
 intro y hy
 have : faultF t (entsT t t.row) y = 0 := by
  unfold rootT at hy
  split at hy
  ·exact fault_ok R ha ht (by rw [← ht]; exact hy)
  ·rw [set_row _ _ _ hr, lset_mem_iff hr] at hy
   rcases hy with rfl | hy
   ·obtain ⟨x, hx, _⟩ := R.root
    have := split_I (j := 1) (by decide)
    rw [List.append_nil] at this
    unfold faultF
    rw [this]
    dsimp only
    rw [if_neg (by decide), if_neg (by decide), if_pos rfl]
    exact inode_ok R ha ht hx
   ·exact fault_ok R ha ht (by rw [← ht]; exact hy.1)
 rw [if_pos this]
theorem madeR_ok : ∀ (l : List POp) (i : Nat) (s : VS) (k : List Int) (m : MF), D20 s k m (fun j => j < (2 + i : Nat)) i → RA m → i ≤ 50 → ∀ s', madeR l i s k = some s' → ∃ k' m' i', i' ≤ 50 ∧ D20 s' k' m' (fun j => j < (2 + i' : Nat)) i' ∧ RA m'
 | [], i, s, k, m, d, ha, hi, s', h => by
  obtain rfl : s = s' := Option.some.inj h
  exact ⟨k, m, i, hi, d, ha⟩
 | x :: r, i, s, k, m, d, ha, hi, s', h => by
  unfold madeR at h
  by_cases h5 : 50 ≤ i
  ·rw [if_pos h5] at h
   obtain rfl : s = s' := Option.some.inj h
   exact ⟨k, m, i, hi, d, ha⟩
  rw [if_neg h5] at h
  by_cases hg : great x.o = true
  ·rw [if_pos hg] at h
   obtain rfl : s = s' := Option.some.inj h
   exact ⟨k, m, i, hi, d, ha⟩
  rw [if_neg hg] at h
  by_cases he : (sdo s k x.o ((2 + i : Nat) : Int)).1.e = 21
  ·rw [if_pos he] at h; cases h
  rw [if_neg he] at h
  have hst := d.step (Q := fun k => k < (2 + (i + 1) : Nat)) (by omega) x.o (j := (2 + i : Nat)) (by unfold U32; omega) (by omega) (by omega) (fun k h => by omega) (by omega)
  obtain ⟨e1, e2, d2⟩ := hst.resolve_left he
  obtain ⟨par, R⟩ := d.r
  have hr := mdo_ra R d.w (by omega) ha k x.o (i := ((2 + i : Nat) : Int)) (by unfold U32; omega) (by omega) (d.p.none (by omega))
  exact madeR_ok r (i + 1) _ _ _ d2 hr (by omega) s' h
theorem made_ok {l : List POp} {s : VS} (h : made0 l = some s) : ∃ m par, Rel s.shown.row m par ∧ RA m ∧ VJ s 10000 := by
 obtain ⟨k, m, i, h1, d, ha⟩ := madeR_ok l 0 _ _ _ D20.start RA.new (by omega) s h
 obtain ⟨par, R⟩ := d.r
 exact ⟨m, par, R, ha, d.v.mono (by omega)⟩
theorem tree_vj {s : VS} {n : Nat} (h : VJ s n) : VJ (VS.new (treeL s.shown.row)) n :=
 VJ.new (by rw [treeL_row h.rs]; exact h.rs) (by rw [treeL_size h.rs, row_len]; exact h.zs) (by rw [treeL_row h.rs]; exact h.val)
end Go.Proofs.YtdkegmmigongoaaGreatDoor

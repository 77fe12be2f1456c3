import Derived.Test.YtdkegmmigongoaaGreatDoorGo
import Derived.Test.YtdkegmmigongoaaGreatDoorM33
import Derived.Test.YtdkegmmigongoaaGreatDoorM32
import Derived.Test.YtdkegmmigongoaaGreatDoorM22
import Derived.Test.YtdkegmmigongoaaGreatDoorM20
import Derived.Test.YtdkegmmigongoaaGreatDoorM13
import Derived.Test.YtdkegmmigongoaaGreatDoorM29
import Derived.Test.YtdkegmmigongoaaGreatDoorM19
namespace Go.Proofs.YtdkegmmigongoaaGreatDoor
set_option maxRecDepth 20000
open Go.Awp Tr
theorem sumF_le {α : Type} {f g : α → Int} : ∀ {l : List α}, (∀ x ∈ l, f x ≤ g x) → sumF f l ≤ sumF g l
 | [], _ => Int.le_refl _
 | x :: r, h => by
  show f x + sumF f r ≤ g x + sumF g r
  have := h x (by simp)
  have := sumF_le (f := f) (g := g) (l := r) fun y hy => h y (by simp [hy])
  omega
theorem sumF_nonneg {α : Type} {f : α → Int} : ∀ {l : List α}, (∀ x ∈ l, 0 ≤ f x) → 0 ≤ sumF f l
 | [], _ => Int.le_refl _
 | x :: r, h => by
  show 0 ≤ f x + sumF f r
  have := h x (by simp)
  have := sumF_nonneg (f := f) (l := r) fun y hy => h y (by simp [hy])
  omega
theorem sumF_len {α : Type} {f : α → Int} {c : Int} : ∀ {l : List α}, (∀ x ∈ l, f x ≤ c) → sumF f l ≤ c * (l.length : Int)
 | [], _ => by show (0 : Int) ≤ c * 0; omega
 | x :: r, h => by
  show f x + sumF f r ≤ c * ((r.length + 1 : Nat) : Int)
  have h1 := h x (by simp)
  have h2 := sumF_len (f := f) (c := c) (l := r) fun y hy => h y (by simp [hy])
  have : c * ((r.length + 1 : Nat) : Int) = c * (r.length : Int) + c := by push_cast; rw [Int.mul_add]; omega
  omega
theorem sumF_sub {α : Type} (f g : α → Int) : ∀ l : List α, sumF (fun x => f x - g x) l = sumF f l - sumF g l
 | [] => rfl
 | x :: r => by
  show f x - g x + sumF _ r = f x + sumF f r - (g x + sumF g r)
  rw [sumF_sub f g r]; omega
def nblk (n : Nat) : Int := (((n + 63) / 64 : Nat) : Int)
def entP (y : KV) : Int := 41 + (y.1.length : Int)
def ofN (x : MN) : Int := 50 + 103 * nblk x.b.length + sumF entP x.e
def MF.of (m : MF) : Int := sumF ofN m
def prc (x : KV) : Int :=
 if (splitK x.1).1 = 69 then 41 + ((splitK x.1).2.2.1.length : Int)
 else if (splitK x.1).1 = 73 then
  if (splitK x.1).2.1 = 1 then 0 else match getNode x.2 with
  | none => 0
  | some y => if y.1 = 1 then 50 + 103 * blocks y.2.2.1 else 50
 else 0
theorem splitK_nm (l : List UInt8) : (splitK l).1 = 69 → (splitK l).2.2.1.length ≤ 32 := by
 unfold splitK
 split
 ·intro h; cases h
 split
 ·intro h; cases h
 split
 ·rename_i h; intro _; exact h.2.2
 split
 ·intro h; cases h
 ·intro h; cases h
theorem blocks_b {n : Int} (h0 : 0 ≤ n) (h : n ≤ 4294967295) : 0 ≤ blocks n ∧ blocks n ≤ 67108864 := by
 unfold blocks
 split <;> omega
theorem prc_b (x : KV) : 0 ≤ prc x ∧ prc x ≤ 6912213042 := by
 unfold prc
 split
 ·rename_i h
  have := splitK_nm x.1 h
  omega
 split
 ·split
  ·omega
  ·cases hg : getNode x.2 with
   | none => dsimp only; omega
   | some y =>
    obtain ⟨y1, y2, y3, y4⟩ := y
    have ho := getNode_ok hg
    have := blocks_b (n := y3) ho.2.2.1.1 ho.2.2.1.2
    dsimp only
    split <;> omega
 ·omega
theorem pstep_prc {s : Int} (h0 : 0 ≤ s) (h : s ≤ 691221304200000) (x : KV) : pstep s x = s + prc x := by
 have hb := prc_b x
 unfold pstep prc
 unfold prc at hb
 split
 ·rename_i h1
  have := splitK_nm x.1 h1
  rw [IntWalk.i64_in _ (by omega)]
 split
 ·split
  ·omega
  ·cases hg : getNode x.2 with
   | none => dsimp only; omega
   | some y =>
    obtain ⟨y1, y2, y3, y4⟩ := y
    have ho := getNode_ok hg
    have hz := ho.2.2.1
    have hb2 := blocks_b (n := y3) hz.1 hz.2
    dsimp only at hz ⊢
    split
    ·rw [IntWalk.i64_in y3 (by omega), IntWalk.i64_in (103 * _) (by omega), IntWalk.i64_in (50 + _) (by omega), IntWalk.i64_in _ (by omega)]
    ·rw [IntWalk.i64_in _ (by omega)]
 ·omega
theorem foldP : ∀ (l : List KV) (s : Int), 0 ≤ s → s + 6912213042 * (l.length : Int) ≤ 691221304200000 → l.foldl pstep s = s + sumF prc l
 | [], s, _, _ => by show s = s + 0; omega
 | x :: r, s, h0, h => by
  have hb := prc_b x
  have hl : ((x :: r).length : Int) = (r.length : Int) + 1 := by simp
  show r.foldl pstep (pstep s x) = s + (prc x + sumF prc r)
  rw [pstep_prc h0 (by omega), foldP r (s + prc x) (by omega) (by omega)]
  omega
theorem ptree_sum {l : List KV} (h : l.length ≤ 90000) : ptree l = 50 + sumF prc l := foldP l 50 (by omega) (by omega)
def ownK (y : KV) : Int := gF y.1 1
theorem own_sum {l : List KV} {m : MF} {par : Int → Int} (R : Rel l m par) (f : KV → Int) {j : Int} (hj : U32 j) :
  sumF f (l.filter fun y => ownK y == j) = sumF (fun y => f (keyH 73 j ++ y.1, y.2)) (subL 73 j l) + sumF (fun y => f (keyH 69 j ++ y.1, y.2)) (subL 69 j l) + sumF (fun y => f (keyH 68 j ++ y.1, y.2)) (subL 68 j l) := by
 have hsub : ∀ c, sumF (fun y => f (keyH c j ++ y.1, y.2)) (subL c j l) = sumF f (l.filter fun x => decide (keyH c j <+: x.1)) := fun c => by
  unfold subL
  rw [sumF_map]
  refine sumF_congr fun y hy => ?_
  obtain ⟨_, h2⟩ := List.mem_filter.1 hy
  obtain ⟨r, h3⟩ := of_decide_eq_true h2
  obtain ⟨a, b⟩ := y
  dsimp only at h3 ⊢
  rw [← h3, drop_app5]
 rw [hsub, hsub, hsub]
 have hne : ∀ {c c' : Int} (_ : L8 c) (_ : L8 c'), c ≠ c' → ∀ {x : List UInt8}, keyH c j <+: x → ¬ keyH c' j <+: x := fun {c c'} hc hc' hn {x} => by
  rintro ⟨r, h1⟩ ⟨t, h2⟩
  exact hn (key_inj hc hc' hj hj (h1.trans h2.symm)).1
 have a := sumF_split f (fun x => decide (keyH 73 j <+: x.1)) (l.filter fun y => ownK y == j)
 have b := sumF_split f (fun x => decide (keyH 69 j <+: x.1)) ((l.filter fun y => ownK y == j).filter fun x => !decide (keyH 73 j <+: x.1))
 rw [a, b, ← Int.add_assoc]
 have hown : ∀ {c : Int} {y : KV}, keyH c j <+: y.1 → (ownK y == j) = true := fun {c y} ⟨r, h⟩ => by
  unfold ownK; rw [← h, gF_kH r hj]; simp
 congr 1
 ·congr 1
  ·congr 1
   rw [List.filter_filter]
   refine List.filter_congr fun y hy => ?_
   by_cases q : keyH 73 j <+: y.1
   ·simp [q, hown q]
   ·simp [q]
  ·congr 1
   rw [List.filter_filter, List.filter_filter]
   refine List.filter_congr fun y hy => ?_
   by_cases q : keyH 69 j <+: y.1
   ·have q2 := hne L69 L73 (by decide) q
    simp [q, q2, hown q]
   ·simp [q]
 ·congr 1
  rw [List.filter_filter, List.filter_filter]
  refine List.filter_congr fun y hy => ?_
  by_cases q : keyH 68 j <+: y.1
  ·have q2 := hne L68 L73 (by decide) q
   have q3 := hne L68 L69 (by decide) q
   simp [q, q2, q3, hown q]
  ·obtain ⟨c, i, r, hc, hi, hk⟩ := R.key y hy
   by_cases e : ownK y = j
   ·unfold ownK at e
    rw [hk, gF_kH r hi] at e
    subst e
    rcases hc with hc | rfl | rfl
    ·obtain ⟨rfl, _⟩ := hc
     have : keyH 73 i <+: y.1 := ⟨r, hk.symm⟩
     simp [q, this]
    ·have : keyH 69 i <+: y.1 := ⟨r, hk.symm⟩
     simp [q, this]
    ·exact absurd ⟨r, hk.symm⟩ q
   ·simp [q, e]
theorem sub73 {l : List KV} {m : MF} {par : Int → Int} (R : Rel l m par) {j : Int} (hj : U32 j) : subL 73 j l = (match lget (keyH 73 j) l with | some v => [([], v)] | none => []) := by
 have hr : Rises (subL 73 j l) := sub_rises R.ri
 refine lget_ext hr (by split <;> simp [Rises]) fun x => ?_
 rw [sub_get R.ri]
 by_cases hx : x = []
 ·subst hx
  rw [List.append_nil]
  cases lget (keyH 73 j) l with
  | none => rfl
  | some v => rfl
 ·have e1 : lget (keyH 73 j ++ x) l = none := by
   cases hg : lget (keyH 73 j ++ x) l with
   | none => rfl
   | some v =>
    obtain ⟨c, i, r, hc, hi, hk⟩ := R.key _ ((lget_some R.ri).1 hg)
    dsimp only at hk
    have hc8 : L8 c := by rcases hc with ⟨rfl, _⟩ | rfl | rfl <;> decide
    obtain ⟨e1, e2, e3⟩ := key_inj L73 hc8 hj hi hk
    rcases hc with ⟨_, e⟩ | e | e
    ·exact absurd (e3.trans e) hx
    ·omega
    ·omega
  rw [e1]
  cases lget (keyH 73 j) l with
  | none => rfl
  | some v =>
   show none = if ([] : List UInt8) = x then some v else none
   rw [if_neg (fun e => hx e.symm)]
theorem own_all {l : List KV} {m : MF} {par : Int → Int} (R : Rel l m par) (hn : m.nd) (f : KV → Int) : sumF f l = sumF (fun x : MN => sumF f (l.filter fun y => ownK y == x.i)) m := by
 rw [sum_parts f ownK (List.map (fun x : MN => x.i) m) l hn fun y hy => ?_, sumF_map]
 left
 obtain ⟨c, j, r, hc, hj, hk⟩ := R.key y hy
 have e : ownK y = j := by unfold ownK; rw [hk, gF_kH r hj]
 rw [e]
 cases hm : m.at j with
 | some x =>
  obtain ⟨h1, h2⟩ := at_mem hm
  exact List.mem_map.2 ⟨x, h1, h2⟩
 | none =>
  exfalso
  have hmem : (r, y.2) ∈ subL c j l := sub_mem.2 (by rw [← hk]; exact hy)
  rcases hc with ⟨rfl, rfl⟩ | rfl | rfl
  ·rw [List.append_nil] at hk
   have h2 := (lget_some R.ri).2 (show (y.1, y.2) ∈ l from hy)
   rw [hk, R.non j hj hm] at h2; cases h2
  ·rw [R.eno j hj hm] at hmem; cases hmem
  ·rw [R.bno j hj hm] at hmem; cases hmem
theorem trim0_le (s : List UInt8) : (trim0 s).length ≤ s.length := by
 unfold trim0
 rw [List.length_reverse]
 exact Nat.le_trans (List.dropWhile_sublist _).length_le (by simp)
theorem blkOf_val {b : List UInt8} {y : KV} (h : y ∈ blkOf b) : y.1.length = 2 ∧ y.2.length ≤ 64 := by
 unfold blkOf at h
 obtain ⟨n, _, h2⟩ := List.mem_filterMap.1 h
 split at h2
 ·cases h2
 ·obtain rfl := Option.some.inj h2
  refine ⟨beB_len _ _, ?_⟩
  refine Nat.le_trans (trim0_le _) ?_
  rw [List.length_take]; omega
theorem blocks_nblk (n : Nat) : blocks (n : Int) = nblk n := by
 unfold blocks nblk
 split <;> omega
theorem Rel.fi {l : List KV} {m : MF} {par : Int → Int} (R : Rel l m par) {x : MN} (hx : x ∈ m) : m.at x.i = some x := R.fst x hx
theorem split_I {j : Int} (hj : U32 j) : splitK (keyH 73 j ++ []) = (73, j, [], 0) := by
 unfold splitK
 rw [if_neg (by rw [List.length_append, keyH_len]; omega), if_pos ⟨rfl, drop5 73 j []⟩, gF_kH [] hj]
theorem split_E {j : Int} (hj : U32 j) {r : List UInt8} (hn : nameB r = true) : splitK (keyH 69 j ++ r) = (69, j, r, 0) := by
 have hlen := nameB_len hn
 have hne : r ≠ [] := fun e => by rw [e] at hn; revert hn; decide
 have hd := drop5 69 j r
 unfold splitK
 rw [if_neg (by rw [List.length_append, keyH_len]; omega), if_neg (by rw [hd]; exact fun q => hne q.2), if_pos (by rw [hd]; exact ⟨rfl, hne, hlen⟩), hd, gF_kH r hj]
theorem split_D {j : Int} {r : List UInt8} (hr : r.length = 2) : (splitK (keyH 68 j ++ r)).1 = 68 := by
 have hd := drop5 68 j r
 have b0e : b0 (keyH 68 j ++ r) = 68 := rfl
 unfold splitK
 rw [if_neg (by rw [List.length_append, keyH_len]; omega), b0e, if_neg (by omega), if_neg (by omega), if_pos ⟨rfl, by rw [hd]; exact hr⟩]
theorem node_prc {l : List KV} {m : MF} {par : Int → Int} (R : Rel l m par) {x : MN} (hx : x ∈ m) : sumF prc (l.filter fun y => ownK y == x.i) = ofN x - (if x.i = 1 then 50 else 0) := by
 have hat := R.fst x hx
 obtain ⟨hju, hj0⟩ := R.u _ _ hat
 rw [own_sum R prc hju]
 have h69 : sumF (fun y => prc (keyH 69 x.i ++ y.1, y.2)) (subL 69 x.i l) = sumF entP x.e := by
  rw [← R.ent _ _ hat]
  refine sumF_congr fun y hy => ?_
  have hr : Rises x.e := by rw [R.ent _ _ hat]; exact sub_rises R.ri
  obtain ⟨hn, _⟩ := R.nam _ _ hat y.1 y.2 ((lget_some hr).2 hy)
  unfold prc entP
  rw [split_E hju hn, if_pos rfl]
 have h68 : sumF (fun y => prc (keyH 68 x.i ++ y.1, y.2)) (subL 68 x.i l) = 0 := by
  rw [R.blk _ _ hat]
  refine sumF_zero fun y hy => ?_
  unfold prc
  rw [split_D (blkOf_val hy).1]
  rfl
 have h73 : sumF (fun y => prc (keyH 73 x.i ++ y.1, y.2)) (subL 73 x.i l) = 50 + 103 * nblk x.b.length - (if x.i = 1 then 50 else 0) := by
  rw [sub73 R hju]
  have hnod := R.nod _ _ hat
  by_cases h1 : x.i = 1
  ·have hb : x.b = [] := by
    obtain ⟨z, hz, hk⟩ := R.root
    rw [h1, hz] at hat
    obtain rfl := Option.some.inj hat
    rcases R.kin 1 _ hz with q | q
    ·exact q.2
    ·have := q.1; omega
   rw [hb, if_pos h1]
   have hz0 : ∀ v, prc (keyH 73 x.i ++ [], v) = 0 := fun v => by
    unfold prc
    rw [split_I hju, if_neg (show ¬ (73 : Int) = 69 by decide), if_pos rfl, if_pos h1]
   cases lget (keyH 73 x.i) l with
   | none => rfl
   | some v =>
    show prc (keyH 73 x.i ++ [], v) + 0 = _
    rw [hz0]; rfl
  ·rw [if_neg h1]
   cases hg : lget (keyH 73 x.i) l with
   | none =>
    rw [hg] at hnod
    unfold ndOf at hnod
    rw [if_neg h1] at hnod
    cases hnod
   | some v =>
    rw [hg] at hnod
    change getNode v = _ at hnod
    show prc (keyH 73 x.i ++ [], v) + 0 = _
    unfold prc
    rw [split_I hju, if_neg (show ¬ (73 : Int) = 69 by decide), if_pos rfl, if_neg h1, hnod]
    dsimp only
    rcases R.kin _ _ hat with q | q
    ·rw [if_neg (by rw [q.1]; decide), q.2]; rfl
    ·rw [if_pos q.1, blocks_nblk]; omega
 rw [h73, h69, h68]
 unfold ofN
 omega
def isY (y : KV) : Int := isz y.1 y.2
theorem node_isz {l : List KV} {m : MF} {par : Int → Int} (R : Rel l m par) {x : MN} (hx : x ∈ m) : sumF isY (l.filter fun y => ownK y == x.i) ≤ ofN x := by
 have hat := R.fst x hx
 obtain ⟨hju, hj0⟩ := R.u _ _ hat
 rw [own_sum R isY hju]
 have h69 : sumF (fun y => isY (keyH 69 x.i ++ y.1, y.2)) (subL 69 x.i l) ≤ sumF entP x.e := by
  rw [← R.ent _ _ hat]
  refine sumF_le fun y hy => ?_
  have hr : Rises x.e := by rw [R.ent _ _ hat]; exact sub_rises R.ri
  obtain ⟨hn, c, z, hv, _⟩ := R.nam _ _ hat y.1 y.2 ((lget_some hr).2 hy)
  have := nameB_len hn
  unfold isY isz entP
  dsimp only
  rw [hv, List.length_append, keyH_len, beB_len]
  split <;> omega
 have h68 : sumF (fun y => isY (keyH 68 x.i ++ y.1, y.2)) (subL 68 x.i l) ≤ 103 * nblk x.b.length := by
  rw [R.blk _ _ hat]
  have h1 : sumF (fun y => isY (keyH 68 x.i ++ y.1, y.2)) (blkOf x.b) ≤ 103 * ((blkOf x.b).length : Int) := sumF_len fun y hy => by
   obtain ⟨q1, q2⟩ := blkOf_val hy
   unfold isY isz
   dsimp only
   rw [List.length_append, keyH_len, q1]
   split <;> omega
  have h2 := blkOf_len x.b
  unfold nblk
  omega
 have h73 : sumF (fun y => isY (keyH 73 x.i ++ y.1, y.2)) (subL 73 x.i l) ≤ 50 := by
  rw [sub73 R hju]
  have hnod := R.nod _ _ hat
  cases hg : lget (keyH 73 x.i) l with
  | none => show (0 : Int) ≤ 50; decide
  | some v =>
   rw [hg] at hnod
   change getNode v = _ at hnod
   have h13 := (getNode_some hnod).1
   show isY (keyH 73 x.i ++ [], v) + 0 ≤ 50
   unfold isY isz
   dsimp only
   rw [List.length_append, keyH_len, h13]
   split
   ·omega
   ·simp
 unfold ofN
 omega
theorem sum_one {ns : List Int} (hn : ns.Nodup) (h : (1 : Int) ∈ ns) : sumF (fun j : Int => if j = 1 then (50 : Int) else 0) ns = 50 := by
 induction ns with
 | nil => cases h
 | cons a r ih =>
  obtain ⟨h1, h2⟩ := List.nodup_cons.1 hn
  show (if a = 1 then (50 : Int) else 0) + sumF _ r = 50
  by_cases e : a = 1
  ·rw [if_pos e, sumF_zero fun y hy => if_neg fun q => h1 (by rw [e, ← q]; exact hy)]; rfl
  ·rw [if_neg e, ih h2 ((List.mem_cons.1 h).resolve_left fun q => e q.symm)]; rfl
theorem prc_all {l : List KV} {m : MF} {par : Int → Int} (R : Rel l m par) (hn : m.nd) : 50 + sumF prc l = m.of := by
 rw [own_all R hn prc, sumF_congr (g := fun x : MN => ofN x - (if x.i = 1 then 50 else 0)) fun x hx => node_prc R hx, sumF_sub]
 have : sumF (fun x : MN => if x.i = 1 then (50 : Int) else 0) m = 50 := by
  have h1 := sumF_map (fun j : Int => if j = 1 then (50 : Int) else 0) (fun x : MN => x.i) m
  rw [← h1]
  refine sum_one hn ?_
  obtain ⟨x, hx, _⟩ := R.root
  obtain ⟨q1, q2⟩ := at_mem hx
  exact List.mem_map.2 ⟨x, q1, q2⟩
 rw [this]
 unfold MF.of
 omega
theorem isz_all {l : List KV} {m : MF} {par : Int → Int} (R : Rel l m par) (hn : m.nd) : sumF isY l ≤ m.of := by
 rw [own_all R hn isY]
 exact sumF_le fun x hx => node_isz R hx
structure BlI (n : Nat) where
 b : Int
 h0 : 0 ≤ b
 h : b ≤ nblk n
theorem entP_b {l : List KV} (h : ∀ y ∈ l, y.1.length ≤ 100) (i : Nat) : 0 ≤ sumF entP (l.take i) ∧ sumF entP (l.take i) ≤ 141 * (i : Int) := by
 refine ⟨sumF_nonneg fun y _ => by unfold entP; omega, ?_⟩
 have h1 : sumF entP (l.take i) ≤ 141 * ((l.take i).length : Int) := sumF_len fun y hy => by
  have := h y (List.mem_of_mem_take hy)
  unfold entP; omega
 have := List.length_take_le i l
 omega
theorem sumF_take {α : Type} (f : α → Int) {l : List α} {i : Nat} {x : α} (h : l[i]? = some x) : sumF f (l.take (i + 1)) = sumF f (l.take i) + f x := by
 rw [List.take_add_one, h, sumF_app]
 show _ + (f x + 0) = _
 omega
structure MF.lo (m : MF) (c : Nat) : Prop where
 l : m.length ≤ c
 e : ∀ x ∈ m, x.e.length ≤ c
 b : ∀ x ∈ m, x.b.length ≤ 4096
 n : ∀ x ∈ m, ∀ y ∈ x.e, y.1.length ≤ 100
theorem MF.lo.of {m : MF} {c : Nat} (h : m.lo c) (hc : c ≤ 10000) (i : Nat) : 0 ≤ sumF ofN (m.take i) ∧ sumF ofN (m.take i) ≤ 1500000 * (i : Int) := by
 have hx : ∀ x ∈ m, 0 ≤ ofN x ∧ ofN x ≤ 1500000 := fun x hx => by
  have h1 := h.b x hx
  have h2 := entP_b (h.n x hx) x.e.length
  rw [List.take_length] at h2
  have h3 := h.e x hx
  unfold ofN nblk
  omega
 refine ⟨sumF_nonneg fun y hy => (hx y (List.mem_of_mem_take hy)).1, ?_⟩
 have h1 : sumF ofN (m.take i) ≤ 1500000 * ((m.take i).length : Int) := sumF_len fun y hy => (hx y (List.mem_of_mem_take hy)).2
 have := List.length_take_le i m
 omega
set_option maxHeartbeats 16000000 in
theorem rofM_spec {m : MF} {c : Nat} (h : m.lo c) (hc : c ≤ 10000) : Con Tryz.prog 33 [fsA m] [] (.p (.int .i64 m.of)) [] [] := by
 have hlen : (nods m).length = m.length := by simp
 have hml := h.l
 refine con_of Tryz.func33 rfl (by kernel_rfl) rfl fun F w0 β0 => ?_
 refine K_tell rfl ?_
 refine go ?_
 refine J_loop (fun q : Ix m.length => [(1, .ad (.l 0) 0), (3, .p (.int .i64 (sumF ofN (m.take q.i)))), (10, .p (.int .i64 (m.length : Int))), (11, .p (.int .i64 (q.i : Int)))]) (fun _ => []) (fun _ => [fB m]) (fun q => m.length - q.i) ⟨0, by omega⟩ ⟨rfl, rfl, (by rw [← hlen]; rfl), rfl, trivial⟩ rfl rfl (fun q => ?_)
 have hi := q.h
 have hs := h.of hc q.i
 refine go ?_
 by_cases hlt : q.i < m.length
 ·have hx : m[q.i]? = some m[q.i] := List.getElem?_eq_getElem hlt
  have hxm : m[q.i] ∈ m := List.getElem_mem hlt
  generalize m[q.i] = x at hx hxm
  have hxk := nods_get hx
  have hb := h.b x hxm
  have hel := h.e x hxm
  have hen := h.n x hxm
  have hnx := sumF_take ofN hx
  have hxl : (ents x.e).length = x.e.length := by simp
  have e50 : IntKind.i64.wrap (sumF ofN (m.take q.i) + 50) = sumF ofN (m.take q.i) + 50 := IntWalk.i64_in _ (by omega)
  have hnb : 0 ≤ nblk x.b.length ∧ nblk x.b.length ≤ 64 := by unfold nblk; omega
  refine K_condT rfl (decide_eq_true (by omega)) ?_
  refine go ?_
  refine K_op rfl rfl (opr_index hT rfl rfl rfl rfl rfl (.ps _) (by omega) (by rw [hlen]; omega)) rfl ?_
  refine go ?_
  refine K_op rfl rfl (opr_load_el hT rfl rfl (.ps _) hxk rfl rfl) rfl ?_
  refine go ?_
  refine J_loop (fun p : BlI x.b.length => [(1, .ad (.l 0) 0), (3, .p (.int .i64 (sumF ofN (m.take q.i) + 50))), (10, .p (.int .i64 (m.length : Int))), (11, .p (.int .i64 (q.i : Int))), (5, .ad (.l 1) 0), (6, .p (.int .i64 p.b))]) (fun _ => []) (fun _ => [fB m, nB x]) (fun p => (nblk x.b.length - p.b).toNat) ⟨0, by omega, by omega⟩ ⟨rfl, congrArg (fun z => TV.p (.int .i64 z)) e50, rfl, rfl, rfl, rfl, trivial⟩ rfl rfl (fun p => ?_)
  have hb0 := p.h0
  have hbn := p.h
  have e64 : IntKind.i64.wrap (64 * p.b) = 64 * p.b := IntWalk.i64_in _ (by omega)
  refine go ?_
  by_cases hbl : 64 * p.b < (x.b.length : Int)
  ·refine K_condT rfl (decide_eq_true (by rw [e64]; exact hbl)) ?_
   refine go ?_
   refine J_again ⟨p.b + 1, by omega, by unfold nblk at *; omega⟩ (by show (nblk x.b.length - (p.b + 1)).toNat < (nblk x.b.length - p.b).toNat; unfold nblk at *; omega) ⟨rfl, rfl, rfl, rfl, rfl, congrArg (fun z => TV.p (.int .i64 z)) (IntWalk.i64_in _ (by omega)), trivial⟩ rfl rfl
  ·have hbe : p.b = nblk x.b.length := by unfold nblk at *; omega
   refine K_condF rfl (decide_eq_false (by rw [e64]; exact hbl)) ?_
   rw [hbe]
   have e103 : IntKind.i64.wrap (sumF ofN (m.take q.i) + 50 + IntKind.i64.wrap (103 * nblk x.b.length)) = sumF ofN (m.take q.i) + 50 + 103 * nblk x.b.length := by rw [IntWalk.i64_in (103 * _) (by omega), IntWalk.i64_in _ (by omega)]
   refine go ?_
   refine J_loop (fun p : Ix x.e.length => [(1, .ad (.l 0) 0), (3, .p (.int .i64 (sumF ofN (m.take q.i) + 50 + 103 * nblk x.b.length + sumF entP (x.e.take p.i)))), (10, .p (.int .i64 (m.length : Int))), (11, .p (.int .i64 (q.i : Int))), (5, .ad (.l 1) 0), (35, .p (.int .i64 (x.e.length : Int))), (36, .p (.int .i64 (p.i : Int)))]) (fun _ => []) (fun _ => [fB m, nB x]) (fun p => x.e.length - p.i) ⟨0, by omega⟩ ⟨rfl, congrArg (fun z => TV.p (.int .i64 z)) (by rw [e103]; show _ = _ + (0 : Int); omega), rfl, rfl, rfl, (by rw [← hxl]; rfl), rfl, trivial⟩ rfl rfl (fun p => ?_)
   have hk := p.h
   have hse := entP_b hen p.i
   refine go ?_
   by_cases hkl : p.i < x.e.length
   ·have hy : x.e[p.i]? = some x.e[p.i] := List.getElem?_eq_getElem hkl
    have hym : x.e[p.i] ∈ x.e := List.getElem_mem hkl
    generalize x.e[p.i] = y at hy hym
    have hyk := ents_get hy
    have hyn := hen y hym
    have hny := sumF_take entP hy
    refine K_condT rfl (decide_eq_true (by omega)) ?_
    refine go ?_
    refine K_op rfl rfl (opr_index hT rfl rfl rfl rfl rfl (.ps _) (by omega) (by rw [hxl]; omega)) rfl ?_
    refine go ?_
    refine K_op rfl rfl (opr_load_el hT rfl rfl (.ps _) hyk rfl rfl) rfl ?_
    refine go ?_
    refine J_again ⟨p.i + 1, by omega⟩ (by show x.e.length - (p.i + 1) < x.e.length - p.i; omega) ⟨rfl, congrArg (fun z => TV.p (.int .i64 z)) (by rw [hny, IntWalk.i64_in (41 + (y.1.length : Int)) (by omega), IntWalk.i64_in _ (by omega)]; unfold entP; omega), rfl, rfl, rfl, rfl, congrArg (fun z => TV.p (.int .i64 z)) (by rw [IntWalk.i64_in _ (by omega)]; rfl), trivial⟩ rfl rfl
   ·refine K_condF rfl (decide_eq_false (by omega)) ?_
    have e : sumF ofN (m.take (q.i + 1)) = sumF ofN (m.take q.i) + 50 + 103 * nblk x.b.length + sumF entP (x.e.take p.i) := by
     rw [hnx, List.take_of_length_le (show x.e.length ≤ p.i by omega)]; unfold ofN; omega
    refine go ?_
    refine J_take 1 [(1, .ad (.l 0) 0), (3, .p (.int .i64 (sumF ofN (m.take (q.i + 1))))), (10, .p (.int .i64 (m.length : Int))), (11, .p (.int .i64 (IntKind.i64.wrap ((q.i : Int) + 1))))] ⟨rfl, (by rw [e]; rfl), rfl, rfl, trivial⟩ rfl rfl ?_
    refine J_again ⟨q.i + 1, by omega⟩ (by show m.length - (q.i + 1) < m.length - q.i; omega) ⟨rfl, rfl, rfl, congrArg (fun z => TV.p (.int .i64 z)) (by rw [IntWalk.i64_in _ (by omega)]; rfl), trivial⟩ rfl rfl
 refine K_condF rfl (decide_eq_false (by omega)) ?_
 have e : sumF ofN (m.take q.i) = m.of := by rw [List.take_of_length_le (by omega)]; rfl
 rw [e]
 refine go ?_
 exact J_done hT rfl rfl rfl
end Go.Proofs.YtdkegmmigongoaaGreatDoor
namespace Go.Proofs.YtdkegmmigongoaaGreatDoor
set_option maxRecDepth 20000
open Go.Awp Go.RowKit
section
variable {P : Program} {T : Tab} {env : Env} {H L : List AObj} {o : Oper} {x : TV}
end
end Go.Proofs.YtdkegmmigongoaaGreatDoor
namespace Go.Proofs.YtdkegmmigongoaaGreatDoor
set_option maxRecDepth 20000
open Go.Awp
section
variable {P : Program} {Γ : Ctx} {env : Env} {H L : List AObj} {Q : Exit → Act → World → Prop}
def AtE {α : Type} (Γ : Ctx) (env : α → Env) (H L : α → List AObj) (a : Act) (w : World) : Prop := ∃ x, At Γ (env x) (H x) (L x) a w
theorem J_midB {α : Type} (env' : α → Env) (H' L' : α → List AObj) {b : Nat} {c : Code} {n : Act → World → Prop} (h : J Γ env H L (c.wp P (Exit.inBlock b (Exit.then (AtE Γ env' H' L') Q)))) (k : ∀ x, J Γ (env' x) (H' x) (L' x) n) : J Γ env H L (c.wp P (Exit.inBlock b (Exit.then n Q))) := fun a w β s =>
 wp_mono (h a w β s) fun e a w he => by
  cases e with
  | normal =>
   obtain ⟨x, β', s'⟩ := he
   exact k x a w β' s'
  | exit i =>
   simp only [Exit.inBlock] at he ⊢
   split at he
   ·rename_i hi
    rw [if_pos hi]
    obtain ⟨x, β', s'⟩ := he
    exact k x a w β' s'
   ·rename_i hi
    rw [if_neg hi]
    exact he
  | _ => exact he
theorem J_end {α : Type} {env' : α → Env} {H' L' : α → List AObj} (x : α) (hs : AllLk env (env' x)) (hH : H = H' x) (hL : L = L' x) : J Γ env H L (AtE Γ env' H' L') := by
 subst hH hL
 exact fun a w β s => ⟨x, β, s.sim, s.step, s.env.sub (sub_of_all hs), s.size, s.defers⟩
end
end Go.Proofs.YtdkegmmigongoaaGreatDoor

import Derived.Test.YtdnpkgakpiopgaaGreatDoorGo
import Derived.Test.YtdnpkgakpiopgaaGreatDoorM43
import Derived.Test.YtdnpkgakpiopgaaGreatDoorM38
namespace Go.Proofs.YtdnpkgakpiopgaaGreatDoor
set_option maxRecDepth 20000
open Go.Awp Tr
theorem cutS_bnd (l : List Thg) (a m b : Nat) (h1 : a < m) (h2 : m < b) : (if (a + b) / 2 < m then (a + b) / 2 + m - b else a) ≤ cutS ltT l a m b ∧ cutS ltT l a m b ≤ (if (a + b) / 2 < m then (a + b) / 2 else m) := by
 unfold cutS
 exact zPm _ _ _ _ (Nat.le_refl _) (by split <;> omega)
set_option maxHeartbeats 16000000 in
theorem zP0 : ∀ (f : Nat) (l : List Thg) (a m b : Nat), l.length ≤ 1000000 → b - a ≤ f → a < m → m < b → b ≤ l.length → Con Tryz.prog 175 [sP l.length, nP a, nP m, nP b, cmpP] (sH l) (.tup []) (sH (symS ltT f l a m b)) [] := by
 intro f
 induction f with
 | zero => intro l a m b hl hf h1 h2 h3; omega
 | succ f ih =>
 intro l a m b hl hf h1 h2 h3
 by_cases hA : m = a + 1
 ·exact sym_one f l a m b hl h1 h2 h3 hA
 by_cases hB : b = m + 1
 ·exact sym_two f l a m b hl h1 h2 h3 hA hB
 rw [zVm f l a m b hA hB]
 have w1 : IntKind.i64.wrap ((m : Int) - (a : Int)) = ((m - a : Nat) : Int) := by rw [IntWalk.i64_in _ (by omega)]; omega
 have w3 : IntKind.i64.wrap ((b : Int) - (m : Int)) = ((b - m : Nat) : Int) := by rw [IntWalk.i64_in _ (by omega)]; omega
 have hmid := zPc a b (by omega)
 have hcut : cutS ltT l a m b = bsS (fun c => !ltS ltT l ((a + b) / 2 + m - 1 - c) c) (if (a + b) / 2 < m then (a + b) / 2 + m - b else a) (if (a + b) / 2 < m then (a + b) / 2 else m) := rfl
 have hbd := cutS_bnd l a m b h1 h2
 unfold symM
 dsimp only
 obtain ⟨mid, hm⟩ : ∃ mid, mid = (a + b) / 2 := ⟨_, rfl⟩
 rw [← hm] at hmid hcut hbd ⊢
 obtain ⟨st, hst⟩ : ∃ st, st = if mid < m then mid + m - b else a := ⟨_, rfl⟩
 obtain ⟨en, hen⟩ : ∃ en, en = if mid < m then mid else m := ⟨_, rfl⟩
 rw [← hst, ← hen] at hcut hbd
 have wn : IntKind.i64.wrap ((mid : Int) + (m : Int)) = ((mid + m : Nat) : Int) := by rw [IntWalk.i64_in _ (by omega)]; omega
 have wp : IntKind.i64.wrap (((mid + m : Nat) : Int) - 1) = ((mid + m - 1 : Nat) : Int) := by rw [IntWalk.i64_in _ (by omega)]; omega
 have hse : st ≤ en ∧ en ≤ m ∧ (∀ c, st ≤ c → c < en → mid + m - 1 - c < b ∧ c ≤ mid + m - 1) ∧ (∀ s, st ≤ s → s ≤ en → mid + m - s ≤ b ∧ s ≤ mid + m) := by
  rw [hst, hen]
  refine ⟨by split <;> omega, by split <;> omega, fun c => ?_, fun s => ?_⟩
  ·split
   ·intro q1 q2; omega
   ·intro q1 q2; omega
  ·split
   ·intro q1 q2; omega
   ·intro q1 q2; omega
 obtain ⟨s1, s2, s3, s4⟩ := hse
 refine zD Tryz.func175 rfl (by kernel_rfl) rfl fun F w0 β0 => ?_
 refine zE rfl ?_
 refine go ?_
 refine zF rfl (by rw [w1]; simp; omega) ?_
 refine go ?_
 refine zF rfl (by rw [w3]; simp; omega) ?_
 refine go ?_
 rw [hmid, wn]
 refine zFg [(0, sP l.length), (1, nP a), (2, nP m), (3, nP b), (4, cmpP), (18, nP mid), (19, nP (mid + m)), (20, nP st), (21, nP en)] (sH l) [] ?_ ?_
 ·by_cases hlt : mid < m
  ·rw [if_pos hlt] at hst hen
   have ws : IntKind.i64.wrap (((mid + m : Nat) : Int) - (b : Int)) = (st : Int) := by rw [IntWalk.i64_in _ (by omega)]; omega
   refine zG rfl (decide_eq_true (by omega)) ?_
   refine go ?_
   rw [ws]
   exact zMh ⟨rfl, rfl, rfl, rfl, rfl, rfl, rfl, rfl, by rw [hen]; rfl, trivial⟩ rfl rfl
  ·rw [if_neg hlt] at hst hen
   refine zF rfl (decide_eq_false (by omega)) ?_
   refine go ?_
   exact zMh ⟨rfl, rfl, rfl, rfl, rfl, rfl, rfl, by rw [hst]; rfl, by rw [hen]; rfl, trivial⟩ rfl rfl
 refine go ?_
 rw [wp]
 refine z9 (fun q : BsI (fun c => !ltS ltT l (mid + m - 1 - c) c) st en => [(0, sP l.length), (1, nP a), (2, nP m), (3, nP b), (4, cmpP), (18, nP mid), (19, nP (mid + m)), (20, nP q.i), (21, nP q.j), (22, nP (mid + m - 1))]) (fun _ => sH l) (fun _ => []) (fun q => q.j - q.i) ⟨st, en, by omega, rfl⟩ ⟨rfl, rfl, rfl, rfl, rfl, rfl, rfl, rfl, rfl, rfl, trivial⟩ rfl rfl (fun q => ?_)
 have hq := q.h
 have he := q.e
 rw [zM2] at he
 refine go ?_
 by_cases hlt : q.i < q.j
 ·rw [if_pos hlt] at he
  have hh := zPc q.i q.j (by omega)
  obtain ⟨h, hd⟩ : ∃ h, h = (q.i + q.j) / 2 := ⟨_, rfl⟩
  rw [← hd] at he hh
  obtain ⟨p, hp⟩ : ∃ p, p = mid + m - 1 - h := ⟨_, rfl⟩
  rw [← hp] at he
  have hb3 := s3 h (by omega) (by omega)
  have hwp : IntKind.i64.wrap (((mid + m - 1 : Nat) : Int) - (h : Int)) = (p : Int) := by rw [IntWalk.i64_in _ (by omega)]; omega
  have hx : l[p]? = some (l[p]'(by omega)) := List.getElem?_eq_getElem _
  generalize l[p]'(by omega) = x at hx
  have hy : l[h]? = some (l[h]'(by omega)) := List.getElem?_eq_getElem _
  generalize l[h]'(by omega) = y at hy
  rw [zQl hx hy] at he
  have c1 := zEb x y
  generalize Lib.compareBytes x.1 y.1 = z at c1 he
  refine zG rfl (decide_eq_true (by omega)) ?_
  refine go ?_
  rw [hh]
  refine yE [_] [] (by kernel_rfl) (by kernel_rfl) rfl ?_
  refine gd ?_
  refine zS rfl rfl rfl rfl rfl (zJ hT rfl rfl rfl rfl rfl (zAi rfl) (zEj hwp) (zEk hwp (by omega))) rfl ?_
  refine gd ?_
  refine zS rfl rfl rfl rfl rfl (zI hT rfl rfl (zAi rfl) (zK2 hwp hx) rfl rfl) rfl ?_
  refine gd ?_
  refine zS rfl rfl rfl rfl rfl (zJ hT rfl rfl rfl rfl rfl (zAi rfl) (zEj rfl) (zEk rfl (by omega))) rfl ?_
  refine gd ?_
  refine zS rfl rfl rfl rfl rfl (zI hT rfl rfl (zAi rfl) (zK2 rfl hy) rfl rfl) rfl ?_
  refine gd ?_
  refine zS rfl rfl rfl rfl rfl (zM rfl rfl (c1) rfl rfl rfl) rfl ?_
  refine gd ?_
  refine go ?_
  by_cases hz : z < 0
  ·rw [if_neg (by simpa using hz)] at he
   refine zF rfl (by simpa using hz) ?_
   refine go ?_
   refine zY 0 [(0, sP l.length), (1, nP a), (2, nP m), (3, nP b), (4, cmpP), (18, nP mid), (19, nP (mid + m)), (20, nP q.i), (21, nP h), (22, nP (mid + m - 1))] ⟨rfl, rfl, rfl, rfl, rfl, rfl, rfl, rfl, rfl, rfl, trivial⟩ rfl rfl ?_
   refine zR ⟨q.i, h, by omega, he⟩ (by show h - q.i < q.j - q.i; omega) ⟨rfl, rfl, rfl, rfl, rfl, rfl, rfl, rfl, rfl, rfl, trivial⟩ rfl rfl
  ·rw [if_pos (by simpa using hz)] at he
   have hwi : IntKind.i64.wrap ((h : Int) + 1) = ((h + 1 : Nat) : Int) := by rw [IntWalk.i64_in _ (by omega)]; rfl
   refine zG rfl (by simpa using hz) ?_
   refine go ?_
   refine zY 0 [(0, sP l.length), (1, nP a), (2, nP m), (3, nP b), (4, cmpP), (18, nP mid), (19, nP (mid + m)), (20, .p (.int .i64 (IntKind.i64.wrap ((h : Int) + 1)))), (21, nP q.j), (22, nP (mid + m - 1))] ⟨rfl, rfl, rfl, rfl, rfl, rfl, rfl, rfl, rfl, rfl, trivial⟩ rfl rfl ?_
   refine zR ⟨h + 1, q.j, by omega, he⟩ (by show q.j - (h + 1) < q.j - q.i; omega) ⟨rfl, rfl, rfl, rfl, rfl, rfl, rfl, congrArg (fun z => TV.p (.int .i64 z)) hwi, rfl, rfl, trivial⟩ rfl rfl
 rw [if_neg hlt] at he
 rw [← hcut] at he
 rw [← he] at hbd ⊢
 refine zF rfl (decide_eq_false (by omega)) ?_
 refine go ?_
 obtain ⟨s, hs⟩ : ∃ s, s = q.i := ⟨_, rfl⟩
 rw [← hs] at hbd ⊢
 obtain ⟨t1, t2⟩ := s4 s (by omega) (by omega)
 have we : IntKind.i64.wrap (((mid + m : Nat) : Int) - (s : Int)) = ((mid + m - s : Nat) : Int) := by rw [IntWalk.i64_in _ (by omega)]; omega
 rw [we]
 obtain ⟨ed, hed⟩ : ∃ ed, ed = mid + m - s := ⟨_, rfl⟩
 rw [← hed] at t1 ⊢
 have hl1 : (if s < m ∧ m < ed then rotS m l (m - s) (ed - m) else l).length = l.length := by
  split
  ·exact zO4 _ _ _ _ _ (Nat.le_refl _)
  ·rfl
 have hR : s < m → m < ed → Con Tryz.prog 191 [sP l.length, nP s, nP m, nP ed, cmpP] (sH l) (.tup []) (sH (if s < m ∧ m < ed then rotS m l (m - s) (ed - m) else l)) [] := fun u1 u2 => by
  rw [if_pos ⟨u1, u2⟩]
  exact zNm l s m ed hl u1 u2 (by omega)
 have hR0 : ¬ (s < m ∧ m < ed) → (if s < m ∧ m < ed then rotS m l (m - s) (ed - m) else l) = l := fun u => if_neg u
 generalize (if s < m ∧ m < ed then rotS m l (m - s) (ed - m) else l) = l1 at hl1 hR hR0 ⊢
 have hl2 : (if a < s ∧ s < mid then symS ltT f l1 a s mid else l1).length = l.length := by
  split
  ·rw [zFi]; exact hl1
  ·exact hl1
 have hS : a < s → s < mid → Con Tryz.prog 175 [sP l.length, nP a, nP s, nP mid, cmpP] (sH l1) (.tup []) (sH (if a < s ∧ s < mid then symS ltT f l1 a s mid else l1)) [] := fun u1 u2 => by
  rw [if_pos ⟨u1, u2⟩, ← hl1]
  exact ih l1 a s mid (by omega) (by omega) u1 u2 (by omega)
 have hS0 : ¬ (a < s ∧ s < mid) → (if a < s ∧ s < mid then symS ltT f l1 a s mid else l1) = l1 := fun u => if_neg u
 generalize (if a < s ∧ s < mid then symS ltT f l1 a s mid else l1) = l2 at hl2 hS hS0 ⊢
 have hU : mid < ed → ed < b → Con Tryz.prog 175 [sP l.length, nP mid, nP ed, nP b, cmpP] (sH l2) (.tup []) (sH (if mid < ed ∧ ed < b then symS ltT f l2 mid ed b else l2)) [] := fun u1 u2 => by
  rw [if_pos ⟨u1, u2⟩, ← hl2]
  exact ih l2 mid ed b (by omega) (by omega) u1 u2 (by omega)
 have hU0 : ¬ (mid < ed ∧ ed < b) → (if mid < ed ∧ ed < b then symS ltT f l2 mid ed b else l2) = l2 := fun u => if_neg u
 generalize (if mid < ed ∧ ed < b then symS ltT f l2 mid ed b else l2) = l3 at hU hU0 ⊢
 refine zFg [(0, sP l.length), (1, nP a), (2, nP m), (3, nP b), (4, cmpP), (18, nP mid), (20, nP s), (24, nP ed)] (sH l1) [] ?_ ?_
 ·by_cases c : s < m ∧ m < ed
  ·refine zG rfl (by simp; omega) ?_
   refine go ?_
   refine zH rfl rfl (zA [.o 0] rfl rfl (hR c.1 c.2) rfl rfl rfl ⟨⟨rfl, rfl⟩, trivial⟩ rfl rfl rfl rfl) rfl ?_
   refine go ?_
   exact zMh ⟨rfl, rfl, rfl, rfl, rfl, rfl, rfl, rfl, trivial⟩ rfl rfl
  ·refine zF rfl (by simp; omega) ?_
   rw [hR0 c]
   refine go ?_
   exact zMh ⟨rfl, rfl, rfl, rfl, rfl, rfl, rfl, rfl, trivial⟩ rfl rfl
 refine go ?_
 refine zFg [(0, sP l.length), (1, nP a), (2, nP m), (3, nP b), (4, cmpP), (18, nP mid), (20, nP s), (24, nP ed)] (sH l2) [] ?_ ?_
 ·by_cases c : a < s ∧ s < mid
  ·refine zG rfl (by simp; omega) ?_
   refine go ?_
   refine zH rfl rfl (zA [.o 0] rfl rfl (hS c.1 c.2) rfl rfl rfl ⟨⟨rfl, rfl⟩, trivial⟩ rfl rfl rfl rfl) rfl ?_
   refine go ?_
   exact zMh ⟨rfl, rfl, rfl, rfl, rfl, rfl, rfl, rfl, trivial⟩ rfl rfl
  ·refine zF rfl (by simp; omega) ?_
   rw [hS0 c]
   refine go ?_
   exact zMh ⟨rfl, rfl, rfl, rfl, rfl, rfl, rfl, rfl, trivial⟩ rfl rfl
 refine go ?_
 by_cases c : mid < ed ∧ ed < b
 ·refine zG rfl (by simp; omega) ?_
  refine go ?_
  refine zH rfl rfl (zA [.o 0] rfl rfl (hU c.1 c.2) rfl rfl rfl ⟨⟨rfl, rfl⟩, trivial⟩ rfl rfl rfl rfl) rfl ?_
  refine go ?_
  exact zC hT rfl rfl rfl
 ·refine zF rfl (by simp; omega) ?_
  rw [hU0 c]
  refine go ?_
  exact zC hT rfl rfl rfl
theorem zMr (n : Nat) (l : List Thg) (a : Nat) : blkS ltT n l a = if a + 20 ≤ n then blkS ltT n (insS ltT a (a + 20) l (a + 1)) (a + 20) else insS ltT a n l (a + 1) := by rw [blkS]
theorem zJ9 (n z : Nat) (l : List Thg) (a : Nat) (hz : z ≠ 0) : joinS ltT n z l a = if a + 2 * z ≤ n then joinS ltT n z (symS ltT (2 * z) l a (a + z) (a + 2 * z)) (a + 2 * z) else if a + z < n then symS ltT (n - a) l a (a + z) n else l := by rw [joinS, if_neg hz]
theorem allS_eq (n : Nat) (l : List Thg) (z : Nat) (hz : z ≠ 0) : allS ltT n l z = if z < n then allS ltT n (joinS ltT n z l 0) (2 * z) else l := by rw [allS, if_neg hz]
theorem blkS_len (n : Nat) : ∀ (d a : Nat) (l : List Thg), n - a ≤ d → (blkS ltT n l a).length = l.length := by
 intro d
 induction d with
 | zero => intro a l h; rw [zMr, if_neg (by omega)]; exact zFr _ _ _ _ _ (Nat.le_refl _)
 | succ d ih =>
  intro a l h
  rw [zMr]
  split
  ·rw [ih _ _ (by omega)]; exact zFr _ _ _ _ _ (Nat.le_refl _)
  ·exact zFr _ _ _ _ _ (Nat.le_refl _)
theorem zTr (n z : Nat) (hz : z ≠ 0) : ∀ (d a : Nat) (l : List Thg), n - a ≤ d → (joinS ltT n z l a).length = l.length := by
 intro d
 induction d with
 | zero =>
  intro a l h
  rw [zJ9 _ _ _ _ hz, if_neg (by omega), if_neg (by omega)]
 | succ d ih =>
  intro a l h
  rw [zJ9 _ _ _ _ hz]
  split
  ·rw [ih _ _ (by omega), zFi]
  split
  ·exact zFi _ _ _ _ _
  ·rfl
structure BkI (l : List Thg) (n : Nat) where
 a : Nat
 h : a ≤ n
 c : List Thg
 hc : c.length = l.length
 e : blkS ltT n c a = blkS ltT n l 0
structure AlI (l : List Thg) (n : Nat) where
 z : Nat
 h : 20 ≤ z ∧ z ≤ 2 * n + 20
 c : List Thg
 hc : c.length = l.length
 e : allS ltT n c z = allS ltT n l 20
structure JoI (l : List Thg) (n z : Nat) where
 a : Nat
 h : a ≤ n
 c : List Thg
 hc : c.length = l.length
 e : joinS ltT n z c a = joinS ltT n z l 0
set_option maxHeartbeats 16000000 in
theorem zM1 (l : List Thg) (hl : l.length ≤ 1000000) : Con Tryz.prog 138 [sP l.length, nP l.length, cmpP] (sH l) (.tup []) (sH (thgS l)) [] := by
 have e0 : thgS l = allS ltT l.length (blkS ltT l.length l 0) 20 := rfl
 rw [e0]
 obtain ⟨n, hn⟩ : ∃ n, n = l.length := ⟨_, rfl⟩
 rw [← hn] at hl ⊢
 have hbl := blkS_len n n 0 l (by omega)
 refine zD Tryz.func138 rfl (by kernel_rfl) rfl fun F w0 β0 => ?_
 refine zE rfl ?_
 refine go ?_
 refine z9 (fun q : BkI l n => [(0, sP n), (1, nP n), (2, cmpP), (6, nP 20), (7, nP q.a), (8, nP (q.a + 20))]) (fun q => sH q.c) (fun _ => []) (fun q => n - q.a) ⟨0, by omega, l, rfl, rfl⟩ ⟨rfl, rfl, rfl, rfl, rfl, rfl, trivial⟩ rfl rfl (fun q => ?_)
 have hq := q.h
 have hc := q.hc
 have he := q.e
 rw [zMr] at he
 refine go ?_
 by_cases hlt : q.a + 20 ≤ n
 ·rw [if_pos hlt] at he
  have c1 := zF8 q.c q.a (q.a + 20) (by omega) (by omega) (by omega)
  have hl2 := zFr q.a (q.a + 20) _ (q.a + 1) q.c (Nat.le_refl _)
  rw [hc, ← hn] at c1
  generalize insS ltT q.a (q.a + 20) q.c (q.a + 1) = c2 at c1 he hl2
  have w1 : IntKind.i64.wrap (((q.a + 20 : Nat) : Int) + 20) = ((q.a + 20 + 20 : Nat) : Int) := by rw [IntWalk.i64_in _ (by omega)]; rfl
  refine zG rfl (decide_eq_true (by omega)) ?_
  refine go ?_
  refine zH rfl rfl (zA [.o 0] rfl rfl (c1) rfl rfl rfl ⟨⟨rfl, rfl⟩, trivial⟩ rfl rfl rfl rfl) rfl ?_
  refine go ?_
  refine zY 0 [(0, sP n), (1, nP n), (2, cmpP), (6, nP 20), (7, nP (q.a + 20)), (8, .p (.int .i64 (IntKind.i64.wrap (((q.a + 20 : Nat) : Int) + 20))))] ⟨rfl, rfl, rfl, rfl, rfl, rfl, trivial⟩ rfl rfl ?_
  refine zR ⟨q.a + 20, by omega, c2, by omega, he⟩ (by show n - (q.a + 20) < n - q.a; omega) ⟨rfl, rfl, rfl, rfl, rfl, congrArg (fun z => TV.p (.int .i64 z)) w1, trivial⟩ rfl rfl
 rw [if_neg hlt] at he
 have c1 := zF8 q.c q.a n (by omega) (by omega) (by omega)
 rw [hc, ← hn, he] at c1
 generalize blkS ltT n l 0 = l1 at c1 hbl ⊢
 refine zF rfl (decide_eq_false (by omega)) ?_
 refine go ?_
 refine zH rfl rfl (zA [.o 0] rfl rfl (c1) rfl rfl rfl ⟨⟨rfl, rfl⟩, trivial⟩ rfl rfl rfl rfl) rfl ?_
 refine go ?_
 refine z9 (fun r : AlI l1 n => [(0, sP n), (1, nP n), (2, cmpP), (6, nP r.z)]) (fun r => sH r.c) (fun _ => []) (fun r => n - r.z) ⟨20, by omega, l1, rfl, rfl⟩ ⟨rfl, rfl, rfl, rfl, trivial⟩ rfl rfl (fun r => ?_)
 have hr := r.h
 have hrc := r.hc
 have hre := r.e
 rw [allS_eq _ _ _ (by omega)] at hre
 refine go ?_
 by_cases hz : r.z < n
 ·rw [if_pos hz] at hre
  have w2 : IntKind.i64.wrap (2 * (r.z : Int)) = ((2 * r.z : Nat) : Int) := by rw [IntWalk.i64_in _ (by omega)]; omega
  have w3 : IntKind.i64.wrap ((r.z : Int) * 2) = ((2 * r.z : Nat) : Int) := by rw [IntWalk.i64_in _ (by omega)]; omega
  have hjl := zTr n r.z (by omega) n 0 r.c (by omega)
  refine zG rfl (decide_eq_true (by omega)) ?_
  refine go ?_
  rw [w2]
  refine z9 (fun s : JoI r.c n r.z => [(0, sP n), (1, nP n), (2, cmpP), (6, nP r.z), (7, nP s.a), (8, nP (s.a + 2 * r.z))]) (fun s => sH s.c) (fun _ => []) (fun s => n - s.a) ⟨0, by omega, r.c, rfl, rfl⟩ ⟨rfl, rfl, rfl, rfl, rfl, (by show TV.p (.int .i64 _) = TV.p (.int .i64 _); rw [Nat.zero_add]), trivial⟩ rfl rfl (fun s => ?_)
  have hs := s.h
  have hsc := s.hc
  have hse := s.e
  rw [zJ9 _ _ _ _ (by omega)] at hse
  refine go ?_
  by_cases hb : s.a + 2 * r.z ≤ n
  ·rw [if_pos hb] at hse
   have c2 := zP0 (2 * r.z) s.c s.a (s.a + r.z) (s.a + 2 * r.z) (by omega) (by omega) (by omega) (by omega) (by omega)
   have hl3 := zFi (2 * r.z) s.c s.a (s.a + r.z) (s.a + 2 * r.z)
   rw [hsc, hrc, hbl, ← hn] at c2
   generalize symS ltT (2 * r.z) s.c s.a (s.a + r.z) (s.a + 2 * r.z) = c3 at c2 hse hl3
   have w4 : IntKind.i64.wrap ((s.a : Int) + (r.z : Int)) = ((s.a + r.z : Nat) : Int) := by rw [IntWalk.i64_in _ (by omega)]; omega
   have w5 : IntKind.i64.wrap (((s.a + 2 * r.z : Nat) : Int) + IntKind.i64.wrap (2 * (r.z : Int))) = ((s.a + 2 * r.z + 2 * r.z : Nat) : Int) := by rw [w2, IntWalk.i64_in _ (by omega)]; omega
   refine zG rfl (decide_eq_true (by omega)) ?_
   refine go ?_
   rw [w4]
   refine zH rfl rfl (zA [.o 0] rfl rfl (c2) rfl rfl rfl ⟨⟨rfl, rfl⟩, trivial⟩ rfl rfl rfl rfl) rfl ?_
   refine go ?_
   refine zY 0 [(0, sP n), (1, nP n), (2, cmpP), (6, nP r.z), (7, nP (s.a + 2 * r.z)), (8, .p (.int .i64 (IntKind.i64.wrap (((s.a + 2 * r.z : Nat) : Int) + IntKind.i64.wrap (2 * (r.z : Int))))))] ⟨rfl, rfl, rfl, rfl, rfl, rfl, trivial⟩ rfl rfl ?_
   refine zR ⟨s.a + 2 * r.z, by omega, c3, by omega, hse⟩ (by show n - (s.a + 2 * r.z) < n - s.a; omega) ⟨rfl, rfl, rfl, rfl, rfl, congrArg (fun z => TV.p (.int .i64 z)) w5, trivial⟩ rfl rfl
  rw [if_neg hb] at hse
  have w4 : IntKind.i64.wrap ((s.a : Int) + (r.z : Int)) = ((s.a + r.z : Nat) : Int) := by rw [IntWalk.i64_in _ (by omega)]; omega
  refine zF rfl (decide_eq_false (by omega)) ?_
  refine go ?_
  rw [w4]
  by_cases hm : s.a + r.z < n
  ·rw [if_pos hm] at hse
   have c2 := zP0 (n - s.a) s.c s.a (s.a + r.z) n (by omega) (by omega) (by omega) (by omega) (by omega)
   rw [hsc, hrc, hbl, ← hn, hse] at c2
   refine zG rfl (decide_eq_true (by omega)) ?_
   refine go ?_
   refine zH rfl rfl (zA [.o 0] rfl rfl (c2) rfl rfl rfl ⟨⟨rfl, rfl⟩, trivial⟩ rfl rfl rfl rfl) rfl ?_
   refine go ?_
   refine zY 0 [(0, sP n), (1, nP n), (2, cmpP), (6, .p (.int .i64 (IntKind.i64.wrap ((r.z : Int) * 2))))] ⟨rfl, rfl, rfl, rfl, trivial⟩ rfl rfl ?_
   refine zR ⟨2 * r.z, by omega, _, by omega, hre⟩ (by show n - 2 * r.z < n - r.z; omega) ⟨rfl, rfl, rfl, congrArg (fun z => TV.p (.int .i64 z)) w3, trivial⟩ rfl rfl
  ·rw [if_neg hm] at hse
   refine zF rfl (decide_eq_false (by omega)) ?_
   rw [hse]
   refine go ?_
   refine zY 0 [(0, sP n), (1, nP n), (2, cmpP), (6, .p (.int .i64 (IntKind.i64.wrap ((r.z : Int) * 2))))] ⟨rfl, rfl, rfl, rfl, trivial⟩ rfl rfl ?_
   refine zR ⟨2 * r.z, by omega, _, by omega, hre⟩ (by show n - 2 * r.z < n - r.z; omega) ⟨rfl, rfl, rfl, congrArg (fun z => TV.p (.int .i64 z)) w3, trivial⟩ rfl rfl
 rw [if_neg hz] at hre
 refine zF rfl (decide_eq_false (by omega)) ?_
 rw [hre]
 refine go ?_
 exact zC hT rfl rfl rfl
theorem zSv (l : List Thg) (hl : l.length ≤ 1000000) : Con Tryz.prog 91 [sP l.length, cmpP] (sH l) (.tup []) (sH (thgS l)) [] := by
 have c1 := zM1 l hl
 refine zD Tryz.func91 rfl (by kernel_rfl) rfl fun F w0 β0 => ?_
 refine zE rfl ?_
 refine go ?_
 refine zH rfl rfl (zP hT rfl rfl (zAi rfl)) rfl ?_
 rw [List.length_map]
 refine go ?_
 refine zH rfl rfl (zA [.o 0] rfl rfl (c1) rfl rfl rfl ⟨⟨rfl, rfl⟩, trivial⟩ rfl rfl rfl rfl) rfl ?_
 refine go ?_
 exact zC hT rfl rfl rfl
theorem opr_toH {P : Program} {o : Oper} {env : Env} {H L H1 H2 L1 L2 : List AObj} {x y : TV} (h : OpR P o env H L x H1 L1) (e : x = y) (e1 : H1 = H2) (e2 : L1 = L2) : OpR P o env H L y H2 L2 := by
 subst e e1 e2; exact h
theorem zS9 (l : List Thg) : clR (l.map thgA) := by
 intro r hr x hx
 obtain ⟨y, _, rfl⟩ := List.mem_map.1 hr
 simp [cellsOf] at hx
 rcases hx with rfl | rfl | rfl <;> rfl
theorem q9 (l : List Thg) : ∀ r ∈ l.map thgA, (cellsOf r).length = 3 := by
 intro r hr
 obtain ⟨y, _, rfl⟩ := List.mem_map.1 hr
 rfl
abbrev gvH (a : GV) : List AObj := [.box 159 [.ad (.o 1) 0, .sl (.o 3) a.o.length 0 a.o.length], vB (.o 2) a.s.base a.s.shown a.s.writes a.s.reads a.s.ranges.length, vR a.s.ranges, .arr 113 true 3 (a.o.map thgA)]
theorem zNo (s : VS) (o : List Thg) (x : Thg) : gvH ⟨s, o ++ [x]⟩ = [.box 159 [.ad (.o 1) 0, .sl (.o 3) (o.length + 1) 0 (o.length + 1)], vB (.o 2) s.base s.shown s.writes s.reads s.ranges.length, vR s.ranges, .arr 113 true 3 (o.map thgA ++ [thgA x])] := by
 simp
theorem gvD_file {l : List KV} {m : MF} {par : Int → Int} (R : Rel l m par) {t : Tr} (ht : t.row = l) (hv : ∀ x ∈ t.row, x.1.length ≤ 100000 ∧ x.2.length ≤ 100000) (n : Nat) {p : List UInt8} {i : Int} {x : MN} {a : GV} (hx : m.at i = some x) (k1 : x.k = 1) (hi : i ∈ inoK t) (h : VK t a.s) :
  (a.s.rd (keyH 73 i)).fall i = ((x.b, 0), (a.s.rd (keyH 73 i)).rd (keyH 73 i)) ∧ gvD n p i a = ⟨(a.s.rd (keyH 73 i)).rd (keyH 73 i), a.o ++ [(p, false, x.b)]⟩ := by
 have hr : Rises t.row := by rw [ht]; exact R.ri
 have hvv := h.rd (zBg (.inr hi))
 have hfile : m.file i = some x := by unfold MF.file; rw [hx]; dsimp only; rw [if_pos k1]
 have hf := zQk (s := a.s.rd (keyH 73 i)) (hvv.vj hr hv) (m := m) (par := par) (by rw [hvv.sh, ht]; exact R) (R.u i x hx).1
 rw [hfile] at hf
 refine ⟨hf, ?_⟩
 have hl : a.s.load i = some (x.k, x.n, (x.b.length : Int), par i) := by rw [h.load, zCa R ht hx]
 cases n with
 | zero => unfold gvD; rw [hl]; dsimp only; rw [if_pos k1, hf]
 | succ n => unfold gvD; rw [hl]; dsimp only; rw [if_pos k1, hf]
theorem zKk {α β : Type} (g : α → List β) {l : List α} {k : Nat} {y : α} (hy : l[k]? = some y) : ((l.take k).flatMap g).length + (g y).length ≤ (l.flatMap g).length := by
 obtain ⟨hk, e⟩ := List.getElem?_eq_some_iff.1 hy
 have : l.flatMap g = (l.take k).flatMap g ++ (g y ++ (l.drop (k + 1)).flatMap g) := by
  conv => lhs; rw [← List.take_append_drop k l, List.drop_eq_getElem_cons hk, e, List.flatMap_append, List.flatMap_cons]
 rw [this, List.length_append, List.length_append]; omega
set_option maxHeartbeats 16000000 in
theorem zKs {l : List KV} {m : MF} {par : Int → Int} (R : Rel l m par) {t : Tr} (ht : t.row = l) (hv : ∀ x ∈ t.row, x.1.length ≤ 100000 ∧ x.2.length ≤ 100000) (hz : t.size ≤ 20000) : ∀ (n : Nat) (p : List UInt8) (i : Int) (x : MN) (a : GV), n ≤ 16 → p.length + 100001 * n ≤ 2000000 → m.at i = some x → i ∈ inoK t → VK t a.s → a.o.length + (undD m n p i).length ≤ 1000000 →
  Con Tryz.prog 90 [.ad (.o 0) 0, .p (.str p), .p (.int .u32 i), .p (.int .i64 ((16 - n : Nat) : Int))] (gvH a) (.tup []) (gvH (gvD n p i a)) [] := by
 have hr : Rises t.row := by rw [ht]; exact R.ri
 have file : ∀ (n : Nat) (p : List UInt8) (i : Int) (x : MN) (a : GV), x.k = 1 → m.at i = some x → i ∈ inoK t → VK t a.s → a.o.length ≤ 1000000 →
   Con Tryz.prog 90 [.ad (.o 0) 0, .p (.str p), .p (.int .u32 i), .p (.int .i64 ((16 - n : Nat) : Int))] (gvH a) (.tup []) (gvH (gvD n p i a)) [] := by
  intro n p i x a k1 hx hi h ho
  obtain ⟨hf, hg⟩ := gvD_file R ht hv n (p := p) hx k1 hi h
  have hu := (R.u i x hx).1
  have c1 := jB (h.vj hr hv) (by omega) i hu
  rw [qH, h.load, zCa R ht hx] at c1
  have c2 := zS3 ((h.rd (zBg (.inr hi))).vj hr hv) (by omega) i hu
  rw [hf] at c2
  change Con Tryz.prog _ _ _ (.tup [.p (.ps (bv x.b)), .p (.int .i64 0)]) _ _ at c2
  have hml : (a.o.map thgA).length = a.o.length := by simp
  rw [hg, zNo]
  generalize (a.s.rd (keyH 73 i)).rd (keyH 73 i) = s2 at c2 ⊢
  generalize a.s.rd (keyH 73 i) = s1 at c1 c2
  refine zD Tryz.func90 rfl (by kernel_rfl) rfl fun F w0 β0 => ?_
  refine zE rfl ?_
  refine go ?_
  refine zH rfl rfl (zA [.o 1, .o 2] rfl rfl (c1) rfl rfl rfl ⟨⟨rfl, rfl⟩, ⟨rfl, rfl⟩, trivial⟩ rfl rfl rfl rfl) rfl ?_
  refine go ?_
  refine zG rfl (by simp [k1]) ?_
  refine go ?_
  refine zH rfl rfl (zA [.o 1, .o 2] rfl rfl (c2) rfl rfl rfl ⟨⟨rfl, rfl⟩, ⟨rfl, rfl⟩, trivial⟩ rfl rfl rfl rfl) rfl ?_
  refine go ?_
  refine jH 10 13 ([.box 159 [.ad (.o 1) 0, .sl (.o 3) a.o.length 0 a.o.length], vB (.o 2) s2.base s2.shown s2.writes s2.reads s2.ranges.length, vR s2.ranges, .arr 113 true 3 (a.o.map thgA ++ [thgA (p, false, x.b)])]) ([.box 159 [.ad (.o 1) 0, .sl (.o 3) (a.o.length + 1) 0 (a.o.length + 1)], vB (.o 2) s2.base s2.shown s2.writes s2.reads s2.ranges.length, vR s2.ranges, .arr 113 true 3 (a.o.map thgA ++ [thgA (p, false, x.b)])]) (by kernel_rfl) (by kernel_rfl) ?_
  refine gdJ ?_
  refine zBs rfl rfl rfl rfl rfl rfl rfl rfl (z4 hT rfl rfl rfl rfl rfl (.ps _)) (z4 hT rfl rfl rfl rfl rfl (.ps _)) rfl ?_
  refine gdJ ?_
  refine yI rfl rfl rfl rfl rfl rfl (opr_toH (qA hT rfl rfl rfl rfl hml rfl rfl (.rd (.ps _)) jQ (zS9 [(p, false, x.b)]) (q9 [(p, false, x.b)]) (by decide) (by show (a.o.length + 1) * 40 ≤ _; omega)) rfl rfl rfl) rfl ?_
  refine gdJ ?_
  refine go ?_
  exact zC hT rfl rfl rfl
 intro n
 induction n with
 | zero =>
  intro p i x a _ hp hx hi h ho
  rcases R.kin i x hx with ⟨k2, _⟩ | ⟨k1, _, _⟩
  ·have e : gvD 0 p i a = ⟨a.s.rd (keyH 73 i), a.o ++ [(dirP p, true, [])]⟩ := by
    unfold gvD
    rw [h.load, zCa R ht hx]
    dsimp only
    rw [if_neg (by omega)]
   have ho1 : a.o.length ≤ 1000000 := by omega
   have hu := (R.u i x hx).1
   have c1 := jB (h.vj hr hv) (by omega) i hu
   rw [qH, h.load, zCa R ht hx] at c1
   have hml : (a.o.map thgA).length = a.o.length := by simp
   rw [e, zNo]
   generalize a.s.rd (keyH 73 i) = s1 at c1 ⊢
   refine zD Tryz.func90 rfl (by kernel_rfl) rfl fun F w0 β0 => ?_
   refine zE rfl ?_
   refine go ?_
   refine zH rfl rfl (zA [.o 1, .o 2] rfl rfl (c1) rfl rfl rfl ⟨⟨rfl, rfl⟩, ⟨rfl, rfl⟩, trivial⟩ rfl rfl rfl rfl) rfl ?_
   refine go ?_
   refine zF rfl (by simp [k2]) ?_
   refine go ?_
   refine zY 0 [(57, .p (.bool (p == []))), (0, .ad (.o 0) 0), (1, .p (.str p)), (2, .p (.int .u32 i)), (3, .p (.int .i64 16)), (12, .p (.str p))] ⟨rfl, rfl, rfl, rfl, rfl, rfl, trivial⟩ rfl rfl ?_
   refine zFg [(0, .ad (.o 0) 0), (1, .p (.str p)), (2, .p (.int .u32 i)), (3, .p (.int .i64 16)), (12, .p (.str (dirP p)))] (gvH ⟨s1, a.o⟩) [] ?_ ?_
   ·by_cases hp0 : p = []
    ·subst hp0
     refine zG rfl rfl ?_
     refine go ?_
     exact zMh ⟨rfl, rfl, rfl, rfl, rfl, trivial⟩ rfl rfl
    ·have e2 : dirP p = p := if_neg hp0
     rw [e2]
     refine zF rfl (by simpa using hp0) ?_
     refine go ?_
     exact zMh ⟨rfl, rfl, rfl, rfl, rfl, trivial⟩ rfl rfl
   refine go ?_
   refine zH rfl rfl (qA hT rfl rfl rfl rfl hml rfl rfl (.rd (.ps _)) jQ (zS9 [(dirP p, true, [])]) (q9 [(dirP p, true, [])]) (by decide) (by show (a.o.length + 1) * 40 ≤ _; omega)) rfl ?_
   refine go ?_
   exact zC hT rfl rfl rfl
  ·refine file 0 p i x a k1 hx hi h ?_
   omega
 | succ n ih =>
  intro p i x a hn hp hx hi h ho
  rcases R.kin i x hx with ⟨k2, _⟩ | ⟨k1, _, _⟩
  ·obtain ⟨a0, ha0⟩ : ∃ a0 : GV, a0 = ⟨(a.s.rd (keyH 73 i)).rngE i, a.o ++ [(dirP p, true, [])]⟩ := ⟨_, rfl⟩
   have hu := (R.u i x hx).1
   have hv1 := h.rd (zBg (.inr hi))
   have hv2 : VK t a0.s := by rw [ha0]; exact hv1.rngE hi
   have hnm := zNl R ht hx
   have e : gvD (n + 1) p i a = x.e.foldl (fun b y => gvN (gvD n) p i b y.1) a0 := by
    unfold gvD
    rw [h.load, zCa R ht hx]
    dsimp only
    rw [if_neg (by omega), h.sh, hnm, List.foldl_map, ha0]
   have hst : ∀ k, VK t ((x.e.take k).foldl (fun b y => gvN (gvD n) p i b y.1) a0).s ∧ ((x.e.take k).foldl (fun b y => gvN (gvD n) p i b y.1) a0).o = a0.o ++ (x.e.take k).flatMap fun y => undD m n (p ++ 47 :: y.1) (beV y.2) := by
    intro k
    have step : ∀ (b : GV) (y : KV), y ∈ x.e → VK t b.s → VK t (gvN (gvD n) p i b y.1).s ∧ (gvN (gvD n) p i b y.1).o = b.o ++ undD m n (p ++ 47 :: y.1) (beV y.2) := by
     intro b y hy hb
     obtain ⟨c, z, h1, h2, hcu, hz', hc1, hcd, hnb, _⟩ := zGm R ht hx hy
     have hyn : y.1 ∈ namesL i t.row := by rw [hnm]; exact List.mem_map.2 ⟨y, hy, rfl⟩
     refine ⟨zTo hr hyn (fun c a'' hc ha => zU7 hr n _ c a'' hc ha) hb, ?_⟩
     unfold gvN
     rw [hb.child, hcd, h2]
     exact gv_und R ht hv n _ c z _ hz' (zFk hr hcd).1 (hb.rd (zPr hyn))
    refine ⟨zG2 (P := fun b : GV => VK t b.s) _ _ hv2 fun b y hy hb => (step b y (List.mem_of_mem_take hy) hb).1, ?_⟩
    exact zJi (t := t) (x.e.take k) a0 hv2 fun b y hy hb => step b y (List.mem_of_mem_take hy) hb
   have hund : (undD m (n + 1) p i).length = (x.e.flatMap fun y => undD m n (p ++ 47 :: y.1) (beV y.2)).length + 1 := by
    show (match m.at i with | none => [] | some x => if x.k = 1 then [(p, false, x.b)] else (dirP p, true, []) :: x.e.flatMap fun y : KV => undD m n (p ++ 47 :: y.1) (beV y.2)).length = _
    rw [hx]
    dsimp only
    rw [if_neg (by omega), List.length_cons]
   have hxe : x.e.length ≤ 20000 := by
    have : (namesL i t.row).length = x.e.length := by rw [hnm, List.length_map]
    rw [← this]
    unfold namesL
    rw [List.length_map]
    have := List.length_filter_le (fun y : KV => decide (keyH 69 i <+: y.1)) t.row
    have := yN t
    omega
   have c1 := jB (h.vj hr hv) (by omega) i hu
   rw [qH, h.load, zCa R ht hx] at c1
   have c3 := zE7 (hv1.vj hr hv) (by omega) i hu
   rw [hv1.sh, hnm, List.map_map] at c3
   have ea0 : a0 = ⟨(a.s.rd (keyH 73 i)).rngE i, a.o ++ [(dirP p, true, [])]⟩ := ha0
   have hml : (a.o.map thgA).length = a.o.length := by simp
   have hlk : (x.e.map (AV.str ∘ fun y => y.1)).length = x.e.length := by simp
   have ho0 : a0.o.length = a.o.length + 1 := by rw [ha0]; simp
   have hz0 : gvH a0 = [.box 159 [.ad (.o 1) 0, .sl (.o 3) (a.o.length + 1) 0 (a.o.length + 1)], vB (.o 2) ((a.s.rd (keyH 73 i)).rngE i).base ((a.s.rd (keyH 73 i)).rngE i).shown ((a.s.rd (keyH 73 i)).rngE i).writes ((a.s.rd (keyH 73 i)).rngE i).reads ((a.s.rd (keyH 73 i)).rngE i).ranges.length, vR ((a.s.rd (keyH 73 i)).rngE i).ranges, .arr 113 true 3 (a.o.map thgA ++ [thgA (dirP p, true, [])])] := by
    rw [ha0]; exact zNo _ _ _
   rw [e]
   generalize (a.s.rd (keyH 73 i)).rngE i = s2 at c3 hz0
   generalize a.s.rd (keyH 73 i) = s1 at c1 c3
   have hdeep : IntKind.i64.wrap (((16 - (n + 1) : Nat) : Int) + 1) = ((16 - n : Nat) : Int) := by rw [IntWalk.i64_in _ (by omega)]; omega
   obtain ⟨dp, hdp⟩ : ∃ dp, dp = ((16 - (n + 1) : Nat) : Int) := ⟨_, rfl⟩
   rw [← hdp] at hdeep ⊢
   refine zD Tryz.func90 rfl (by kernel_rfl) rfl fun F w0 β0 => ?_
   refine zE rfl ?_
   refine go ?_
   refine zH rfl rfl (zA [.o 1, .o 2] rfl rfl (c1) rfl rfl rfl ⟨⟨rfl, rfl⟩, ⟨rfl, rfl⟩, trivial⟩ rfl rfl rfl rfl) rfl ?_
   refine go ?_
   refine zF rfl (by simp [k2]) ?_
   refine go ?_
   refine zY 0 [(57, .p (.bool (p == []))), (0, .ad (.o 0) 0), (1, .p (.str p)), (2, .p (.int .u32 i)), (3, .p (.int .i64 dp)), (12, .p (.str p))] ⟨rfl, rfl, rfl, rfl, rfl, rfl, trivial⟩ rfl rfl ?_
   refine zFg [(0, .ad (.o 0) 0), (1, .p (.str p)), (2, .p (.int .u32 i)), (3, .p (.int .i64 dp)), (12, .p (.str (dirP p)))] (gvH ⟨s1, a.o⟩) [] ?_ ?_
   ·by_cases hp0 : p = []
    ·subst hp0
     refine zG rfl rfl ?_
     refine go ?_
     exact zMh ⟨rfl, rfl, rfl, rfl, rfl, trivial⟩ rfl rfl
    ·have e2 : dirP p = p := if_neg hp0
     rw [e2]
     refine zF rfl (by simpa using hp0) ?_
     refine go ?_
     exact zMh ⟨rfl, rfl, rfl, rfl, rfl, trivial⟩ rfl rfl
   refine go ?_
   refine zH rfl rfl (qA hT rfl rfl rfl rfl hml rfl rfl (.rd (.ps _)) jQ (zS9 [(dirP p, true, [])]) (q9 [(dirP p, true, [])]) (by decide) (by show (a.o.length + 1) * 40 ≤ _; omega)) rfl ?_
   refine go ?_
   refine zF rfl (by rw [hdp]; simp; omega) ?_
   refine go ?_
   refine zH rfl rfl (zA [.o 1, .o 2] rfl rfl (c3) rfl rfl rfl ⟨⟨rfl, rfl⟩, ⟨rfl, rfl⟩, trivial⟩ rfl rfl rfl rfl) rfl ?_
   refine go ?_
   rw [hlk]
   refine z9 (fun q : Ix x.e.length => [(0, .ad (.o 0) 0), (1, .p (.str p)), (2, .p (.int .u32 i)), (3, .p (.int .i64 dp)), (76, .p (.ps (x.e.map (AV.str ∘ fun y => y.1)))), (77, nP x.e.length), (78, nP q.i)]) (fun q => gvH ((x.e.take q.i).foldl (fun b y => gvN (gvD n) p i b y.1) a0)) (fun _ => []) (fun q => x.e.length - q.i) ⟨0, by omega⟩ ⟨rfl, rfl, rfl, rfl, rfl, rfl, rfl, trivial⟩ hz0 rfl (fun q => ?_)
   have hqi := q.h
   obtain ⟨hqv, hqo⟩ := hst q.i
   refine go ?_
   by_cases hlt : q.i < x.e.length
   ·have hy : x.e[q.i]? = some x.e[q.i] := List.getElem?_eq_getElem hlt
    have hym : x.e[q.i] ∈ x.e := List.getElem_mem hlt
    generalize x.e[q.i] = y at hy hym
    have hyk : (x.e.map (AV.str ∘ fun y => y.1))[((q.i : Nat) : Int).toNat]? = some (.str y.1) := by rw [Int.toNat_natCast, List.getElem?_map, hy]; rfl
    have hft := zKk (fun y => undD m n (p ++ 47 :: y.1) (beV y.2)) hy
    obtain ⟨c, z, h1, h2, hcu, hz', hc1, hcd, hnb, _⟩ := zGm R ht hx hym
    have hyn : y.1 ∈ namesL i t.row := by rw [hnm]; exact List.mem_map.2 ⟨y, hym, rfl⟩
    have hyl : y.1.length ≤ 100000 := by
     obtain ⟨v, hin⟩ := zSc hyn
     have := (hv _ hin).1
     dsimp only at this
     rw [List.length_append] at this; omega
    have etk : (x.e.take (q.i + 1)).foldl (fun b y => gvN (gvD n) p i b y.1) a0 = gvN (gvD n) p i ((x.e.take q.i).foldl (fun b y => gvN (gvD n) p i b y.1) a0) y.1 := by
     rw [List.take_add_one, hy, List.foldl_append]; rfl
    rw [h2] at hft
    have hol : ((x.e.take q.i).foldl (fun b y => gvN (gvD n) p i b y.1) a0).o.length + (undD m n (p ++ 47 :: y.1) c).length ≤ 1000000 := by
     rw [hqo, List.length_append, ho0]
     omega
    generalize (x.e.take q.i).foldl (fun b y => gvN (gvD n) p i b y.1) a0 = b at hqv etk hol
    have e3 : gvN (gvD n) p i b y.1 = gvD n (p ++ 47 :: y.1) c { b with s := b.s.rd (entryK i y.1) } := by
     unfold gvN
     rw [hqv.child, hcd]
    have c4 := zG9 (hqv.vj hr hv) (by omega) i hu y.1
    rw [hqv.child, hcd] at c4
    have c5 := ih (p ++ 47 :: y.1) c z { b with s := b.s.rd (entryK i y.1) } (by omega) (by rw [List.length_append, List.length_cons]; omega) hz' (zFk hr hcd).1 (hqv.rd (zPr hyn)) hol
    rw [← e3, ← etk] at c5
    change Con Tryz.prog _ _ _ (.tup [.p (.int .u32 c), .p (.bool true)]) _ _ at c4
    generalize b.s.rd (entryK i y.1) = s3 at c4 c5
    have hwi : IntKind.i64.wrap ((q.i : Int) + 1) = ((q.i + 1 : Nat) : Int) := by rw [IntWalk.i64_in _ (by omega)]; rfl
    refine zG rfl (decide_eq_true (by omega)) ?_
    refine go ?_
    refine zH rfl rfl (zJ hT rfl rfl rfl rfl rfl (.ps _) (by omega) (by rw [hlk]; omega)) rfl ?_
    refine go ?_
    refine zH rfl rfl (zI hT rfl rfl (.ps _) hyk rfl rfl) rfl ?_
    refine go ?_
    refine zH rfl rfl (zA [.o 1, .o 2] rfl rfl (c4) rfl rfl rfl ⟨⟨rfl, rfl⟩, ⟨rfl, rfl⟩, trivial⟩ rfl rfl rfl rfl) rfl ?_
    refine go ?_
    refine zH rfl rfl (zB3 (m := [47]) rfl rfl rfl (by simp; omega)) rfl ?_
    refine go ?_
    refine zH rfl rfl (zB3 rfl rfl rfl (by simp; omega)) rfl ?_
    refine go ?_
    rw [List.append_assoc, List.singleton_append, hdeep]
    refine zH rfl rfl (zA [.o 0, .o 1, .o 2, .o 3] rfl rfl (c5) rfl rfl rfl ⟨⟨rfl, rfl⟩, ⟨rfl, rfl⟩, ⟨rfl, rfl⟩, ⟨rfl, rfl⟩, trivial⟩ rfl rfl rfl rfl) rfl ?_
    refine go ?_
    refine zY 0 [(0, .ad (.o 0) 0), (1, .p (.str p)), (2, .p (.int .u32 i)), (3, .p (.int .i64 dp)), (76, .p (.ps (x.e.map (AV.str ∘ fun y => y.1)))), (77, nP x.e.length), (78, .p (.int .i64 (IntKind.i64.wrap ((q.i : Int) + 1))))] ⟨rfl, rfl, rfl, rfl, rfl, rfl, rfl, trivial⟩ rfl rfl ?_
    refine zR ⟨q.i + 1, by omega⟩ (by show x.e.length - (q.i + 1) < x.e.length - q.i; omega) ⟨rfl, rfl, rfl, rfl, rfl, rfl, congrArg (fun z => TV.p (.int .i64 z)) hwi, trivial⟩ rfl rfl
   refine zF rfl (decide_eq_false (by omega)) ?_
   rw [List.take_of_length_le (show x.e.length ≤ q.i by omega)]
   refine go ?_
   exact zC hT rfl rfl rfl
  ·refine file (n + 1) p i x a k1 hx hi h ?_
   omega
end Go.Proofs.YtdnpkgakpiopgaaGreatDoor

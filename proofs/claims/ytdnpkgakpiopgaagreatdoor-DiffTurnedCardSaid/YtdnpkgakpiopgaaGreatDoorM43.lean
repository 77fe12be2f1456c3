import Derived.Test.YtdnpkgakpiopgaaGreatDoorGo
import Derived.Test.YtdnpkgakpiopgaaGreatDoorM42
namespace Go.Proofs.YtdnpkgakpiopgaaGreatDoor
set_option maxRecDepth 20000
open Go.Awp Tr
theorem zTh {E : Type} (a b n : Nat) (l : List E) (k : Nat) : swR a b n l k = if k < n then swR a b n (swpS l (a + k) (b + k)) (k + 1) else l := by rw [swR]
theorem zEq {E : Type} (a b n : Nat) : ∀ (d k : Nat) (l : List E), n - k ≤ d → (swR a b n l k).length = l.length := by
 intro d
 induction d with
 | zero => intro k l h; rw [zTh, if_neg (by omega)]
 | succ d ih =>
  intro k l h
  rw [zTh]
  split
  ·rw [ih _ _ (by omega), zAl]
  ·rfl
structure SwI (l : List Thg) (a b n : Nat) where
 k : Nat
 h : k ≤ n
 c : List Thg
 hc : c.length = l.length
 e : swR a b n c k = swR a b n l 0
set_option maxHeartbeats 4000000 in
theorem zEm (l : List Thg) (a b n : Nat) (hl : l.length ≤ 1000000) (ha : a + n ≤ l.length) (hb : b + n ≤ l.length) : Con Tryz.prog 203 [sP l.length, nP a, nP b, nP n, cmpP] (sH l) (.tup []) (sH (swR a b n l 0)) [] := by
 refine zD Tryz.func203 rfl (by kernel_rfl) rfl fun F w0 β0 => ?_
 refine zE rfl ?_
 refine go ?_
 refine z9 (fun q : SwI l a b n => [(0, sP l.length), (1, nP a), (2, nP b), (3, nP n), (10, nP q.k)]) (fun q => sH q.c) (fun _ => []) (fun q => n - q.k) ⟨0, Nat.zero_le _, l, rfl, rfl⟩ ⟨rfl, rfl, rfl, rfl, rfl, trivial⟩ rfl rfl (fun q => ?_)
 have hk := q.h
 have hc := q.hc
 have he := q.e
 rw [zTh] at he
 refine go ?_
 by_cases h : q.k < n
 ·rw [if_pos h] at he
  have wa : IntKind.i64.wrap ((a : Int) + (q.k : Int)) = ((a + q.k : Nat) : Int) := by rw [IntWalk.i64_in _ (by omega)]; rfl
  have wb : IntKind.i64.wrap ((b : Int) + (q.k : Int)) = ((b + q.k : Nat) : Int) := by rw [IntWalk.i64_in _ (by omega)]; rfl
  have hwi : IntKind.i64.wrap ((q.k : Int) + 1) = ((q.k + 1 : Nat) : Int) := by rw [IntWalk.i64_in _ (by omega)]; rfl
  have hx : q.c[a + q.k]? = some (q.c[a + q.k]'(by omega)) := List.getElem?_eq_getElem _
  generalize q.c[a + q.k]'(by omega) = x at hx
  have hy : q.c[b + q.k]? = some (q.c[b + q.k]'(by omega)) := List.getElem?_eq_getElem _
  generalize q.c[b + q.k]'(by omega) = y at hy
  refine zG rfl (decide_eq_true (by omega)) ?_
  refine go ?_
  refine jH 21 23 (sH (q.c.set (a + q.k) y)) (sH ((q.c.set (a + q.k) y).set (b + q.k) x)) (by kernel_rfl) (by kernel_rfl) ?_
  refine gdJ ?_
  refine yJ rfl rfl rfl rfl rfl rfl (zJ hT rfl rfl rfl rfl rfl (zAi hc) (zEj wb) (zEk wb (by omega))) rfl ?_
  refine gdJ ?_
  refine yJ rfl rfl rfl rfl rfl rfl (zI hT rfl rfl (zAi hc) (zK2 wb hy) rfl rfl) rfl ?_
  refine gdJ ?_
  refine zBs rfl rfl rfl rfl rfl rfl rfl rfl (zJ hT rfl rfl rfl rfl rfl (zAi hc) (zEj wa) (zEk wa (by omega))) (zJ hT rfl rfl rfl rfl rfl (zAi (by rw [List.length_set]; exact hc)) (zEj wa) (zEk wa (by rw [List.length_set]; omega))) rfl ?_
  refine gdJ ?_
  refine yJ rfl rfl rfl rfl rfl rfl (zI hT rfl rfl (zAi hc) (zK2 wa hx) rfl rfl) rfl ?_
  refine gdJ ?_
  refine yJ rfl rfl rfl rfl rfl rfl (zJ hT rfl rfl rfl rfl rfl (zAi hc) (zEj wa) (zEk wa (by omega))) rfl ?_
  refine gdJ ?_
  refine yI rfl rfl rfl rfl rfl rfl (qP hT rfl rfl rfl rfl rfl rfl wa hc (by omega)) rfl ?_
  refine gdJ ?_
  refine yJ rfl rfl rfl rfl rfl rfl (zJ hT rfl rfl rfl rfl rfl (zAi (by rw [List.length_set]; exact hc)) (zEj wb) (zEk wb (by rw [List.length_set]; omega))) rfl ?_
  refine gdJ ?_
  refine yI rfl rfl rfl rfl rfl rfl (qP hT rfl rfl rfl rfl rfl rfl wb (by rw [List.length_set]; exact hc) (by rw [List.length_set]; omega)) rfl ?_
  refine gdJ ?_
  rw [← zI7 hx hy]
  refine go ?_
  refine zY 0 [(0, sP l.length), (1, nP a), (2, nP b), (3, nP n), (10, .p (.int .i64 (IntKind.i64.wrap ((q.k : Int) + 1))))] ⟨rfl, rfl, rfl, rfl, rfl, trivial⟩ rfl rfl ?_
  refine zR ⟨q.k + 1, by omega, swpS q.c (a + q.k) (b + q.k), by rw [zAl]; exact hc, he⟩ (by show n - (q.k + 1) < n - q.k; omega) ⟨rfl, rfl, rfl, rfl, congrArg (fun z => TV.p (.int .i64 z)) hwi, trivial⟩ rfl rfl
 rw [if_neg h] at he
 refine zF rfl (decide_eq_false (by omega)) ?_
 rw [he]
 refine go ?_
 exact zC hT rfl rfl rfl
theorem zN7 {E : Type} (m : Nat) (l : List E) (i j : Nat) : rotS m l i j = if i = j ∨ i = 0 ∨ j = 0 then swR (m - i) m i l 0 else if j < i then rotS m (swR (m - i) m j l 0) (i - j) j else rotS m (swR (m - i) (m + j - i) i l 0) i (j - i) := by rw [rotS]
structure RoI (l : List Thg) (m i0 j0 : Nat) where
 i : Nat
 j : Nat
 hi : 0 < i ∧ i ≤ m
 hj : 0 < j ∧ m + j ≤ l.length
 c : List Thg
 hc : c.length = l.length
 e : rotS m c i j = rotS m l i0 j0
set_option maxHeartbeats 4000000 in
theorem zNm (l : List Thg) (a m b : Nat) (hl : l.length ≤ 1000000) (h1 : a < m) (h2 : m < b) (h3 : b ≤ l.length) : Con Tryz.prog 191 [sP l.length, nP a, nP m, nP b, cmpP] (sH l) (.tup []) (sH (rotS m l (m - a) (b - m))) [] := by
 have w1 : IntKind.i64.wrap ((m : Int) - (a : Int)) = ((m - a : Nat) : Int) := by rw [IntWalk.i64_in _ (by omega)]; omega
 have w2 : IntKind.i64.wrap ((b : Int) - (m : Int)) = ((b - m : Nat) : Int) := by rw [IntWalk.i64_in _ (by omega)]; omega
 refine zD Tryz.func191 rfl (by kernel_rfl) rfl fun F w0 β0 => ?_
 refine zE rfl ?_
 refine go ?_
 rw [w1, w2]
 refine z9 (fun q : RoI l m (m - a) (b - m) => [(0, sP l.length), (2, nP m), (4, cmpP), (10, nP q.i), (11, nP q.j)]) (fun q => sH q.c) (fun _ => []) (fun q => q.i + q.j) ⟨m - a, b - m, by omega, by omega, l, rfl, rfl⟩ ⟨rfl, rfl, rfl, rfl, rfl, trivial⟩ rfl rfl (fun q => ?_)
 have hi := q.hi
 have hj := q.hj
 have hc := q.hc
 have he := q.e
 rw [zN7] at he
 refine go ?_
 by_cases h : q.i = q.j
 ·rw [if_pos (.inl h)] at he
  have c1 := zEm q.c (m - q.i) m q.i (by omega) (by omega) (by omega)
  rw [hc, he] at c1
  have w3 : IntKind.i64.wrap ((m : Int) - (q.i : Int)) = ((m - q.i : Nat) : Int) := by rw [IntWalk.i64_in _ (by omega)]; omega
  refine zF rfl (by simp [h]) ?_
  refine go ?_
  rw [w3]
  refine zH rfl rfl (zA [.o 0] rfl rfl (c1) rfl rfl rfl ⟨⟨rfl, rfl⟩, trivial⟩ rfl rfl rfl rfl) rfl ?_
  refine go ?_
  exact zC hT rfl rfl rfl
 rw [if_neg (by omega)] at he
 refine zG rfl (by simpa using fun e => h (by omega)) ?_
 refine go ?_
 by_cases h4 : q.j < q.i
 ·rw [if_pos h4] at he
  have c1 := zEm q.c (m - q.i) m q.j (by omega) (by omega) (by omega)
  have hl2 := zEq (m - q.i) m q.j q.j 0 q.c (by omega)
  rw [hc] at c1
  generalize swR (m - q.i) m q.j q.c 0 = c2 at c1 he hl2
  have w3 : IntKind.i64.wrap ((m : Int) - (q.i : Int)) = ((m - q.i : Nat) : Int) := by rw [IntWalk.i64_in _ (by omega)]; omega
  have w4 : IntKind.i64.wrap ((q.i : Int) - (q.j : Int)) = ((q.i - q.j : Nat) : Int) := by rw [IntWalk.i64_in _ (by omega)]; omega
  refine zG rfl (decide_eq_true (by omega)) ?_
  refine go ?_
  rw [w3]
  refine zH rfl rfl (zA [.o 0] rfl rfl (c1) rfl rfl rfl ⟨⟨rfl, rfl⟩, trivial⟩ rfl rfl rfl rfl) rfl ?_
  refine go ?_
  refine zY 0 [(0, sP l.length), (2, nP m), (4, cmpP), (10, .p (.int .i64 (IntKind.i64.wrap ((q.i : Int) - (q.j : Int))))), (11, nP q.j)] ⟨rfl, rfl, rfl, rfl, rfl, trivial⟩ rfl rfl ?_
  refine zR ⟨q.i - q.j, q.j, by omega, hj, c2, by omega, he⟩ (by show q.i - q.j + q.j < q.i + q.j; omega) ⟨rfl, rfl, rfl, congrArg (fun z => TV.p (.int .i64 z)) w4, rfl, trivial⟩ rfl rfl
 ·rw [if_neg h4] at he
  have c1 := zEm q.c (m - q.i) (m + q.j - q.i) q.i (by omega) (by omega) (by omega)
  have hl2 := zEq (m - q.i) (m + q.j - q.i) q.i q.i 0 q.c (by omega)
  rw [hc] at c1
  generalize swR (m - q.i) (m + q.j - q.i) q.i q.c 0 = c2 at c1 he hl2
  have w3 : IntKind.i64.wrap ((m : Int) - (q.i : Int)) = ((m - q.i : Nat) : Int) := by rw [IntWalk.i64_in _ (by omega)]; omega
  have w4 : IntKind.i64.wrap (IntKind.i64.wrap ((m : Int) + (q.j : Int)) - (q.i : Int)) = ((m + q.j - q.i : Nat) : Int) := by rw [IntWalk.i64_in ((m : Int) + (q.j : Int)) (by omega), IntWalk.i64_in _ (by omega)]; omega
  have w5 : IntKind.i64.wrap ((q.j : Int) - (q.i : Int)) = ((q.j - q.i : Nat) : Int) := by rw [IntWalk.i64_in _ (by omega)]; omega
  refine zF rfl (decide_eq_false (by omega)) ?_
  refine go ?_
  rw [w3, w4]
  refine zH rfl rfl (zA [.o 0] rfl rfl (c1) rfl rfl rfl ⟨⟨rfl, rfl⟩, trivial⟩ rfl rfl rfl rfl) rfl ?_
  refine go ?_
  refine zY 0 [(0, sP l.length), (2, nP m), (4, cmpP), (10, nP q.i), (11, .p (.int .i64 (IntKind.i64.wrap ((q.j : Int) - (q.i : Int)))))] ⟨rfl, rfl, rfl, rfl, rfl, trivial⟩ rfl rfl ?_
  refine zR ⟨q.i, q.j - q.i, hi, by omega, c2, by omega, he⟩ (by show q.i + (q.j - q.i) < q.i + q.j; omega) ⟨rfl, rfl, rfl, rfl, congrArg (fun z => TV.p (.int .i64 z)) w5, trivial⟩ rfl rfl
theorem insJ_go (a : Nat) (l : List Thg) (j : Nat) (h : a < j) : insJ ltT a l j = if ltS ltT l j (j - 1) = true then insJ ltT a (swpS l j (j - 1)) (j - 1) else l := by
 cases j with
 | zero => omega
 | succ j =>
  show (if a < j + 1 ∧ ltS ltT l (j + 1) j = true then _ else _) = if ltS ltT l (j + 1) j = true then _ else _
  by_cases c : ltS ltT l (j + 1) j = true
  ·rw [if_pos ⟨h, c⟩, if_pos c]; rfl
  ·rw [if_neg (fun q => c q.2), if_neg c]
theorem zSh (a : Nat) (l : List Thg) (j : Nat) (h : j ≤ a) : insJ ltT a l j = l := by
 cases j with
 | zero => rfl
 | succ j => show (if a < j + 1 ∧ _ then _ else _) = _; rw [if_neg (by omega)]
theorem insJ_len (a : Nat) : ∀ (j : Nat) (l : List Thg), (insJ ltT a l j).length = l.length := by
 intro j
 induction j with
 | zero => intro l; rfl
 | succ j ih =>
  intro l
  show (if a < j + 1 ∧ _ then insJ ltT a (swpS l (j + 1) j) j else l).length = _
  split
  ·rw [ih, zAl]
  ·rfl
theorem zFr (a b : Nat) : ∀ (d i : Nat) (l : List Thg), b - i ≤ d → (insS ltT a b l i).length = l.length := by
 intro d
 induction d with
 | zero => intro i l h; rw [zE5, if_neg (by omega)]
 | succ d ih =>
  intro i l h
  rw [zE5]
  split
  ·rw [ih _ _ (by omega), insJ_len]
  ·rfl
structure InI (l : List Thg) (a b : Nat) where
 i : Nat
 h : a + 1 ≤ i ∧ i ≤ l.length + 1
 c : List Thg
 hc : c.length = l.length
 e : insS ltT a b c i = insS ltT a b l (a + 1)
structure InJ (c : List Thg) (a i : Nat) where
 j : Nat
 h : a ≤ j ∧ j ≤ i
 d : List Thg
 hd : d.length = c.length
 e : insJ ltT a d j = insJ ltT a c i
set_option maxHeartbeats 8000000 in
theorem zF8 (l : List Thg) (a b : Nat) (hl : l.length ≤ 1000000) (h1 : a ≤ l.length) (h2 : b ≤ l.length) : Con Tryz.prog 174 [sP l.length, nP a, nP b, cmpP] (sH l) (.tup []) (sH (insS ltT a b l (a + 1))) [] := by
 have w1 : IntKind.i64.wrap ((a : Int) + 1) = ((a + 1 : Nat) : Int) := by rw [IntWalk.i64_in _ (by omega)]; rfl
 refine zD Tryz.func174 rfl (by kernel_rfl) rfl fun F w0 β0 => ?_
 refine zE rfl ?_
 refine go ?_
 rw [w1]
 refine z9 (fun q : InI l a b => [(0, sP l.length), (1, nP a), (2, nP b), (3, cmpP), (8, nP q.i)]) (fun q => sH q.c) (fun _ => []) (fun q => l.length + 1 - q.i) ⟨a + 1, by omega, l, rfl, rfl⟩ ⟨rfl, rfl, rfl, rfl, rfl, trivial⟩ rfl rfl (fun q => ?_)
 have hi := q.h
 have hc := q.hc
 have he := q.e
 rw [zE5] at he
 refine go ?_
 by_cases h : q.i < b
 ·rw [if_pos h] at he
  have hwi : IntKind.i64.wrap ((q.i : Int) + 1) = ((q.i + 1 : Nat) : Int) := by rw [IntWalk.i64_in _ (by omega)]; rfl
  refine zG rfl (decide_eq_true (by omega)) ?_
  refine go ?_
  refine z9 (fun r : InJ q.c a q.i => [(0, sP l.length), (1, nP a), (2, nP b), (3, cmpP), (8, nP q.i), (9, nP r.j)]) (fun r => sH r.d) (fun _ => []) (fun r => r.j) ⟨q.i, by omega, q.c, rfl, rfl⟩ ⟨rfl, rfl, rfl, rfl, rfl, rfl, trivial⟩ rfl rfl (fun r => ?_)
  have hj := r.h
  have hd := r.hd
  have hje := r.e
  have hdl : r.d.length = l.length := by omega
  by_cases g : a < r.j
  ·rw [insJ_go a r.d r.j g] at hje
   have wj : IntKind.i64.wrap ((r.j : Int) - 1) = ((r.j - 1 : Nat) : Int) := by rw [IntWalk.i64_in _ (by omega)]; omega
   have hx : r.d[r.j]? = some (r.d[r.j]'(by omega)) := List.getElem?_eq_getElem _
   generalize r.d[r.j]'(by omega) = x at hx
   have hy : r.d[r.j - 1]? = some (r.d[r.j - 1]'(by omega)) := List.getElem?_eq_getElem _
   generalize r.d[r.j - 1]'(by omega) = y at hy
   rw [zQl hx hy] at hje
   have c1 := zEb x y
   generalize Lib.compareBytes x.1 y.1 = z at c1 hje
   refine go ?_
   refine yE [_] [] (by kernel_rfl) (by kernel_rfl) rfl ?_
   refine zS rfl rfl rfl rfl rfl (zK hT rfl) rfl ?_
   refine zS rfl rfl rfl rfl rfl (zK hT rfl) rfl ?_
   refine zS rfl rfl rfl rfl rfl (zBt (zK hT rfl) (show TV.p (.bool (decide ((r.j : Int) > (a : Int)))) = .p (.bool true) from congrArg (fun z => TV.p (.bool z)) (decide_eq_true (by omega)))) rfl ?_
   refine gd ?_
   refine yT rfl rfl rfl rfl rfl rfl (zJ hT rfl rfl rfl rfl rfl (zAi hdl) (zEj rfl) (zEk rfl (by omega))) rfl ?_
   refine gd ?_
   refine yT rfl rfl rfl rfl rfl rfl (zI hT rfl rfl (zAi hdl) (zK2 rfl hx) rfl rfl) rfl ?_
   refine gd ?_
   refine yT rfl rfl rfl rfl rfl rfl (zJ hT rfl rfl rfl rfl rfl (zAi hdl) (zEj wj) (zEk wj (by omega))) rfl ?_
   refine gd ?_
   refine yT rfl rfl rfl rfl rfl rfl (zI hT rfl rfl (zAi hdl) (zK2 wj hy) rfl rfl) rfl ?_
   refine gd ?_
   refine yT rfl rfl rfl rfl rfl rfl (zM rfl rfl (c1) rfl rfl rfl) rfl ?_
   refine gd ?_
   refine go ?_
   by_cases hz : z < 0
   ·rw [if_pos (by simpa using hz)] at hje
    refine zG rfl (decide_eq_true hz) ?_
    refine go ?_
    refine jH 15 17 (sH (r.d.set (r.j) y)) (sH ((r.d.set (r.j) y).set (r.j - 1) x)) (by kernel_rfl) (by kernel_rfl) ?_
    refine gdJ ?_
    refine yJ rfl rfl rfl rfl rfl rfl (zJ hT rfl rfl rfl rfl rfl (zAi hdl) (zEj wj) (zEk wj (by omega))) rfl ?_
    refine gdJ ?_
    refine yJ rfl rfl rfl rfl rfl rfl (zI hT rfl rfl (zAi hdl) (zK2 wj hy) rfl rfl) rfl ?_
    refine gdJ ?_
    refine zBs rfl rfl rfl rfl rfl rfl rfl rfl (zJ hT rfl rfl rfl rfl rfl (zAi hdl) (zEj rfl) (zEk rfl (by omega))) (zJ hT rfl rfl rfl rfl rfl (zAi (by rw [List.length_set]; exact hdl)) (zEj rfl) (zEk rfl (by rw [List.length_set]; omega))) rfl ?_
    refine gdJ ?_
    refine yJ rfl rfl rfl rfl rfl rfl (zI hT rfl rfl (zAi hdl) (zK2 rfl hx) rfl rfl) rfl ?_
    refine gdJ ?_
    refine yJ rfl rfl rfl rfl rfl rfl (zJ hT rfl rfl rfl rfl rfl (zAi hdl) (zEj rfl) (zEk rfl (by omega))) rfl ?_
    refine gdJ ?_
    refine yI rfl rfl rfl rfl rfl rfl (qP hT rfl rfl rfl rfl rfl rfl rfl hdl (by omega)) rfl ?_
    refine gdJ ?_
    refine yJ rfl rfl rfl rfl rfl rfl (zJ hT rfl rfl rfl rfl rfl (zAi (by rw [List.length_set]; exact hdl)) (zEj wj) (zEk wj (by rw [List.length_set]; omega))) rfl ?_
    refine gdJ ?_
    refine yI rfl rfl rfl rfl rfl rfl (qP hT rfl rfl rfl rfl rfl rfl wj (by rw [List.length_set]; exact hdl) (by rw [List.length_set]; omega)) rfl ?_
    refine gdJ ?_
    rw [← zI7 hx hy]
    refine go ?_
    refine zY 0 [(0, sP l.length), (1, nP a), (2, nP b), (3, cmpP), (8, nP q.i), (9, .p (.int .i64 (IntKind.i64.wrap ((r.j : Int) - 1))))] ⟨rfl, rfl, rfl, rfl, rfl, rfl, trivial⟩ rfl rfl ?_
    refine zR ⟨r.j - 1, by omega, swpS r.d r.j (r.j - 1), by rw [zAl]; exact hd, hje⟩ (by show r.j - 1 < r.j; omega) ⟨rfl, rfl, rfl, rfl, rfl, congrArg (fun z => TV.p (.int .i64 z)) wj, trivial⟩ rfl rfl
   ·rw [if_neg (by simpa using hz)] at hje
    refine zF rfl (decide_eq_false hz) ?_
    refine go ?_
    refine zY 0 [(0, sP l.length), (1, nP a), (2, nP b), (3, cmpP), (8, .p (.int .i64 (IntKind.i64.wrap ((q.i : Int) + 1))))] ⟨rfl, rfl, rfl, rfl, rfl, trivial⟩ rfl rfl ?_
    refine zR ⟨q.i + 1, by omega, r.d, by omega, by rw [hje]; exact he⟩ (by show l.length + 1 - (q.i + 1) < l.length + 1 - q.i; omega) ⟨rfl, rfl, rfl, rfl, congrArg (fun z => TV.p (.int .i64 z)) hwi, trivial⟩ rfl rfl
  ·rw [zSh a r.d r.j (by omega)] at hje
   refine go ?_
   refine yE [_] [] (by kernel_rfl) (by kernel_rfl) rfl ?_
   refine zS rfl rfl rfl rfl rfl (zK hT rfl) rfl ?_
   refine zS rfl rfl rfl rfl rfl (zK hT rfl) rfl ?_
   refine zS rfl rfl rfl rfl rfl (zBt (zK hT rfl) (show TV.p (.bool (decide ((r.j : Int) > (a : Int)))) = .p (.bool false) from congrArg (fun z => TV.p (.bool z)) (decide_eq_false (by omega)))) rfl ?_
   refine gd ?_
   refine go ?_
   refine zY 0 [(0, sP l.length), (1, nP a), (2, nP b), (3, cmpP), (8, .p (.int .i64 (IntKind.i64.wrap ((q.i : Int) + 1))))] ⟨rfl, rfl, rfl, rfl, rfl, trivial⟩ rfl rfl ?_
   refine zR ⟨q.i + 1, by omega, r.d, by omega, by rw [hje]; exact he⟩ (by show l.length + 1 - (q.i + 1) < l.length + 1 - q.i; omega) ⟨rfl, rfl, rfl, rfl, congrArg (fun z => TV.p (.int .i64 z)) hwi, trivial⟩ rfl rfl
 rw [if_neg h] at he
 refine zF rfl (decide_eq_false (by omega)) ?_
 rw [he]
 refine go ?_
 exact zC hT rfl rfl rfl
theorem zPc (i j : Nat) (h : i + j ≤ 9000000) : IntKind.i64.wrap (Int.fdiv (IntKind.u64.wrap (IntKind.i64.wrap ((i : Int) + (j : Int)))) (2 ^ min 1 IntKind.u64.bits)) = (((i + j) / 2 : Nat) : Int) := by
 rw [IntWalk.i64_in ((i : Int) + (j : Int)) (by omega), IntWalk.u64_in _ (by omega), show (2 : Int) ^ min 1 IntKind.u64.bits = 2 from rfl, Int.fdiv_eq_ediv_of_nonneg _ (by decide), IntWalk.i64_in _ (by omega)]
 omega
theorem zNv {E : Type} (l : List E) (k e : Nat) : shlS l k e = if k < e then shlS (swpS l k (k + 1)) (k + 1) e else l := by rw [shlS]
theorem shrS_go {E : Type} (l : List E) (i k : Nat) (h : i < k) : shrS l i k = shrS (swpS l k (k - 1)) i (k - 1) := by
 cases k with
 | zero => omega
 | succ k => show (if i < k + 1 then _ else _) = _; rw [if_pos h]; rfl
theorem zTm {E : Type} (l : List E) (i k : Nat) (h : k ≤ i) : shrS l i k = l := by
 cases k with
 | zero => rfl
 | succ k => show (if i < k + 1 then _ else _) = _; rw [if_neg (by omega)]
theorem shlS_len {E : Type} (e : Nat) : ∀ (d k : Nat) (l : List E), e - k ≤ d → (shlS l k e).length = l.length := by
 intro d
 induction d with
 | zero => intro k l h; rw [zNv, if_neg (by omega)]
 | succ d ih =>
  intro k l h
  rw [zNv]
  split
  ·rw [ih _ _ (by omega), zAl]
  ·rfl
theorem shrS_len {E : Type} (i : Nat) : ∀ (k : Nat) (l : List E), (shrS l i k).length = l.length := by
 intro k
 induction k with
 | zero => intro l; rfl
 | succ k ih =>
  intro l
  show (if i < k + 1 then shrS (swpS l (k + 1) k) i k else l).length = _
  split
  ·rw [ih, zAl]
  ·rfl
theorem zO4 {E : Type} (m : Nat) : ∀ (d i j : Nat) (l : List E), i + j ≤ d → (rotS m l i j).length = l.length := by
 intro d
 induction d with
 | zero =>
  intro i j l h
  rw [zN7, if_pos (by omega), zEq _ _ _ i 0 l (by omega)]
 | succ d ih =>
  intro i j l h
  rw [zN7]
  split
  ·exact zEq _ _ _ i 0 l (by omega)
  split
  ·rw [ih _ _ _ (by omega)]; exact zEq _ _ _ j 0 l (by omega)
  ·rw [ih _ _ _ (by omega)]; exact zEq _ _ _ i 0 l (by omega)
def symM (f : Nat) (l : List Thg) (a m b s : Nat) : List Thg :=
 let l1 := if s < m ∧ m < (a + b) / 2 + m - s then rotS m l (m - s) ((a + b) / 2 + m - s - m) else l
 let l2 := if a < s ∧ s < (a + b) / 2 then symS ltT f l1 a s ((a + b) / 2) else l1
 if (a + b) / 2 < (a + b) / 2 + m - s ∧ (a + b) / 2 + m - s < b then symS ltT f l2 ((a + b) / 2) ((a + b) / 2 + m - s) b else l2
theorem zP2 (f : Nat) (l : List Thg) (a m b : Nat) (h : m = a + 1) : symS ltT (f + 1) l a m b = shlS l a (bsS (fun h => ltS ltT l h a) m b - 1) := by
 show (if m = a + 1 then _ else _) = _
 rw [if_pos h]
theorem zOr (f : Nat) (l : List Thg) (a m b : Nat) (h : m ≠ a + 1) (h2 : b = m + 1) : symS ltT (f + 1) l a m b = shrS l (bsS (fun h => !ltS ltT l m h) a m) m := by
 show (if m = a + 1 then _ else if b = m + 1 then _ else _) = _
 rw [if_neg h, if_pos h2]
theorem zVm (f : Nat) (l : List Thg) (a m b : Nat) (h : m ≠ a + 1) (h2 : b ≠ m + 1) : symS ltT (f + 1) l a m b = symM f l a m b (cutS ltT l a m b) := by
 show (if m = a + 1 then _ else if b = m + 1 then _ else _) = _
 rw [if_neg h, if_neg h2]; rfl
theorem zFi : ∀ (f : Nat) (l : List Thg) (a m b : Nat), (symS ltT f l a m b).length = l.length := by
 intro f
 induction f with
 | zero => intro l a m b; rfl
 | succ f ih =>
  intro l a m b
  by_cases h : m = a + 1
  ·rw [zP2 f l a m b h]; exact shlS_len _ (bsS (fun h => ltS ltT l h a) m b - 1) _ _ (by omega)
  by_cases h2 : b = m + 1
  ·rw [zOr f l a m b h h2]; exact shrS_len _ _ _
  rw [zVm f l a m b h h2]
  generalize cutS ltT l a m b = s
  unfold symM
  have e1 : (if s < m ∧ m < (a + b) / 2 + m - s then rotS m l (m - s) ((a + b) / 2 + m - s - m) else l).length = l.length := by
   split
   ·exact zO4 _ _ _ _ _ (Nat.le_refl _)
   ·rfl
  generalize (if s < m ∧ m < (a + b) / 2 + m - s then rotS m l (m - s) ((a + b) / 2 + m - s - m) else l) = l1 at e1
  dsimp only
  split
  ·rw [ih]
   split
   ·rw [ih]; exact e1
   ·exact e1
  ·split
   ·rw [ih]; exact e1
   ·exact e1
structure BsI (f : Nat → Bool) (lo hi : Nat) where
 i : Nat
 j : Nat
 h : lo ≤ i ∧ i ≤ j ∧ j ≤ hi
 e : bsS f i j = bsS f lo hi
structure ShI (l : List Thg) (G : List Thg → Nat → List Thg) (lo hi k0 : Nat) where
 k : Nat
 h : lo ≤ k ∧ k ≤ hi
 c : List Thg
 hc : c.length = l.length
 e : G c k = G l k0
set_option maxHeartbeats 8000000 in
theorem sym_one (f : Nat) (l : List Thg) (a m b : Nat) (hl : l.length ≤ 1000000) (_h1 : a < m) (h2 : m < b) (h3 : b ≤ l.length) (h : m = a + 1) : Con Tryz.prog 175 [sP l.length, nP a, nP m, nP b, cmpP] (sH l) (.tup []) (sH (symS ltT (f + 1) l a m b)) [] := by
 rw [zP2 f l a m b h]
 have w1 : IntKind.i64.wrap ((m : Int) - (a : Int)) = 1 := by rw [IntWalk.i64_in _ (by omega)]; omega
 refine zD Tryz.func175 rfl (by kernel_rfl) rfl fun F w0 β0 => ?_
 refine zE rfl ?_
 refine go ?_
 refine zG rfl (by rw [w1]; rfl) ?_
 refine go ?_
 refine z9 (fun q : BsI (fun h => ltS ltT l h a) m b => [(0, sP l.length), (1, nP a), (4, cmpP), (10, nP q.i), (11, nP q.j)]) (fun _ => sH l) (fun _ => []) (fun q => q.j - q.i) ⟨m, b, by omega, rfl⟩ ⟨rfl, rfl, rfl, rfl, rfl, trivial⟩ rfl rfl (fun q => ?_)
 have hq := q.h
 have he := q.e
 rw [zM2] at he
 refine go ?_
 by_cases hlt : q.i < q.j
 ·rw [if_pos hlt] at he
  have hh := zPc q.i q.j (by omega)
  obtain ⟨h, hd⟩ : ∃ h, h = (q.i + q.j) / 2 := ⟨_, rfl⟩
  rw [← hd] at he hh
  have hx : l[h]? = some (l[h]'(by omega)) := List.getElem?_eq_getElem _
  generalize l[h]'(by omega) = x at hx
  have hy : l[a]? = some (l[a]'(by omega)) := List.getElem?_eq_getElem _
  generalize l[a]'(by omega) = y at hy
  rw [zQl hx hy] at he
  have c1 := zEb x y
  generalize Lib.compareBytes x.1 y.1 = z at c1 he
  refine zG rfl (decide_eq_true (by omega)) ?_
  refine go ?_
  rw [hh]
  refine yE [_] [] (by kernel_rfl) (by kernel_rfl) rfl ?_
  refine gd ?_
  refine zS rfl rfl rfl rfl rfl (zJ hT rfl rfl rfl rfl rfl (zAi rfl) (zEj rfl) (zEk rfl (by omega))) rfl ?_
  refine gd ?_
  refine zS rfl rfl rfl rfl rfl (zI hT rfl rfl (zAi rfl) (zK2 rfl hx) rfl rfl) rfl ?_
  refine gd ?_
  refine zS rfl rfl rfl rfl rfl (zJ hT rfl rfl rfl rfl rfl (zAi rfl) (zEj rfl) (zEk rfl (by omega))) rfl ?_
  refine gd ?_
  refine zS rfl rfl rfl rfl rfl (zI hT rfl rfl (zAi rfl) (zK2 rfl hy) rfl rfl) rfl ?_
  refine gd ?_
  refine zS rfl rfl rfl rfl rfl (zM rfl rfl (c1) rfl rfl rfl) rfl ?_
  refine gd ?_
  refine go ?_
  by_cases hz : z < 0
  ·rw [if_pos (by simpa using hz)] at he
   have hwi : IntKind.i64.wrap ((h : Int) + 1) = ((h + 1 : Nat) : Int) := by rw [IntWalk.i64_in _ (by omega)]; rfl
   refine zG rfl (decide_eq_true hz) ?_
   refine go ?_
   refine zY 0 [(0, sP l.length), (1, nP a), (4, cmpP), (10, .p (.int .i64 (IntKind.i64.wrap ((h : Int) + 1)))), (11, nP q.j)] ⟨rfl, rfl, rfl, rfl, rfl, trivial⟩ rfl rfl ?_
   refine zR ⟨h + 1, q.j, by omega, he⟩ (by show q.j - (h + 1) < q.j - q.i; omega) ⟨rfl, rfl, rfl, congrArg (fun z => TV.p (.int .i64 z)) hwi, rfl, trivial⟩ rfl rfl
  ·rw [if_neg (by simpa using hz)] at he
   refine zF rfl (decide_eq_false hz) ?_
   refine go ?_
   refine zY 0 [(0, sP l.length), (1, nP a), (4, cmpP), (10, nP q.i), (11, nP h)] ⟨rfl, rfl, rfl, rfl, rfl, trivial⟩ rfl rfl ?_
   refine zR ⟨q.i, h, by omega, he⟩ (by show h - q.i < q.j - q.i; omega) ⟨rfl, rfl, rfl, rfl, rfl, trivial⟩ rfl rfl
 rw [if_neg hlt] at he
 rw [← he]
 refine zF rfl (decide_eq_false (by omega)) ?_
 refine go ?_
 have w2 : IntKind.i64.wrap ((q.i : Int) - 1) = ((q.i - 1 : Nat) : Int) := by rw [IntWalk.i64_in _ (by omega)]; omega
 obtain ⟨s, hs⟩ : ∃ s, s = q.i := ⟨_, rfl⟩
 rw [← hs] at w2 ⊢
 refine z9 (fun r : ShI l (fun c k => shlS c k (s - 1)) a b a => [(0, sP l.length), (10, nP s), (13, nP r.k)]) (fun r => sH r.c) (fun _ => []) (fun r => b - r.k) ⟨a, by omega, l, rfl, rfl⟩ ⟨rfl, rfl, rfl, trivial⟩ rfl rfl (fun r => ?_)
 have hr := r.h
 have hc := r.hc
 have hre := r.e
 rw [zNv] at hre
 refine go ?_
 rw [w2]
 by_cases hk : r.k < s - 1
 ·rw [if_pos hk] at hre
  have wk : IntKind.i64.wrap ((r.k : Int) + 1) = ((r.k + 1 : Nat) : Int) := by rw [IntWalk.i64_in _ (by omega)]; rfl
  have hx : r.c[r.k]? = some (r.c[r.k]'(by omega)) := List.getElem?_eq_getElem _
  generalize r.c[r.k]'(by omega) = x at hx
  have hy : r.c[r.k + 1]? = some (r.c[r.k + 1]'(by omega)) := List.getElem?_eq_getElem _
  generalize r.c[r.k + 1]'(by omega) = y at hy
  refine zG rfl (decide_eq_true (by omega)) ?_
  refine go ?_
  refine jH 15 17 (sH (r.c.set (r.k) y)) (sH ((r.c.set (r.k) y).set (r.k + 1) x)) (by kernel_rfl) (by kernel_rfl) ?_
  refine gdJ ?_
  refine yJ rfl rfl rfl rfl rfl rfl (zJ hT rfl rfl rfl rfl rfl (zAi hc) (zEj wk) (zEk wk (by omega))) rfl ?_
  refine gdJ ?_
  refine yJ rfl rfl rfl rfl rfl rfl (zI hT rfl rfl (zAi hc) (zK2 wk hy) rfl rfl) rfl ?_
  refine gdJ ?_
  refine zBs rfl rfl rfl rfl rfl rfl rfl rfl (zJ hT rfl rfl rfl rfl rfl (zAi hc) (zEj rfl) (zEk rfl (by omega))) (zJ hT rfl rfl rfl rfl rfl (zAi (by rw [List.length_set]; exact hc)) (zEj rfl) (zEk rfl (by rw [List.length_set]; omega))) rfl ?_
  refine gdJ ?_
  refine yJ rfl rfl rfl rfl rfl rfl (zI hT rfl rfl (zAi hc) (zK2 rfl hx) rfl rfl) rfl ?_
  refine gdJ ?_
  refine yJ rfl rfl rfl rfl rfl rfl (zJ hT rfl rfl rfl rfl rfl (zAi hc) (zEj rfl) (zEk rfl (by omega))) rfl ?_
  refine gdJ ?_
  refine yI rfl rfl rfl rfl rfl rfl (qP hT rfl rfl rfl rfl rfl rfl rfl hc (by omega)) rfl ?_
  refine gdJ ?_
  refine yJ rfl rfl rfl rfl rfl rfl (zJ hT rfl rfl rfl rfl rfl (zAi (by rw [List.length_set]; exact hc)) (zEj wk) (zEk wk (by rw [List.length_set]; omega))) rfl ?_
  refine gdJ ?_
  refine yI rfl rfl rfl rfl rfl rfl (qP hT rfl rfl rfl rfl rfl rfl wk (by rw [List.length_set]; exact hc) (by rw [List.length_set]; omega)) rfl ?_
  refine gdJ ?_
  rw [← zI7 hx hy]
  refine go ?_
  refine zY 0 [(0, sP l.length), (10, nP s), (13, .p (.int .i64 (IntKind.i64.wrap ((r.k : Int) + 1))))] ⟨rfl, rfl, rfl, trivial⟩ rfl rfl ?_
  refine zR ⟨r.k + 1, by omega, swpS r.c r.k (r.k + 1), by rw [zAl]; exact hc, hre⟩ (by show b - (r.k + 1) < b - r.k; omega) ⟨rfl, rfl, congrArg (fun z => TV.p (.int .i64 z)) wk, trivial⟩ rfl rfl
 rw [if_neg hk] at hre
 refine zF rfl (decide_eq_false (by omega)) ?_
 rw [hre]
 refine go ?_
 exact zC hT rfl rfl rfl
set_option maxHeartbeats 8000000 in
theorem sym_two (f : Nat) (l : List Thg) (a m b : Nat) (hl : l.length ≤ 1000000) (h1 : a < m) (_h2 : m < b) (h3 : b ≤ l.length) (hn : m ≠ a + 1) (h : b = m + 1) : Con Tryz.prog 175 [sP l.length, nP a, nP m, nP b, cmpP] (sH l) (.tup []) (sH (symS ltT (f + 1) l a m b)) [] := by
 rw [zOr f l a m b hn h]
 have w1 : IntKind.i64.wrap ((m : Int) - (a : Int)) = ((m - a : Nat) : Int) := by rw [IntWalk.i64_in _ (by omega)]; omega
 have w3 : IntKind.i64.wrap ((b : Int) - (m : Int)) = 1 := by rw [IntWalk.i64_in _ (by omega)]; omega
 refine zD Tryz.func175 rfl (by kernel_rfl) rfl fun F w0 β0 => ?_
 refine zE rfl ?_
 refine go ?_
 refine zF rfl (by rw [w1]; simp; omega) ?_
 refine go ?_
 refine zG rfl (by rw [w3]; rfl) ?_
 refine go ?_
 refine z9 (fun q : BsI (fun h => !ltS ltT l m h) a m => [(0, sP l.length), (2, nP m), (4, cmpP), (14, nP q.i), (15, nP q.j)]) (fun _ => sH l) (fun _ => []) (fun q => q.j - q.i) ⟨a, m, by omega, rfl⟩ ⟨rfl, rfl, rfl, rfl, rfl, trivial⟩ rfl rfl (fun q => ?_)
 have hq := q.h
 have he := q.e
 rw [zM2] at he
 refine go ?_
 by_cases hlt : q.i < q.j
 ·rw [if_pos hlt] at he
  have hh := zPc q.i q.j (by omega)
  obtain ⟨h, hd⟩ : ∃ h, h = (q.i + q.j) / 2 := ⟨_, rfl⟩
  rw [← hd] at he hh
  have hx : l[m]? = some (l[m]'(by omega)) := List.getElem?_eq_getElem _
  generalize l[m]'(by omega) = x at hx
  have hy : l[h]? = some (l[h]'(by omega)) := List.getElem?_eq_getElem _
  generalize l[h]'(by omega) = y at hy
  rw [zQl hx hy] at he
  have c1 := zEb x y
  generalize Lib.compareBytes x.1 y.1 = z at c1 he
  refine zG rfl (decide_eq_true (by omega)) ?_
  refine go ?_
  rw [hh]
  refine yE [_] [] (by kernel_rfl) (by kernel_rfl) rfl ?_
  refine gd ?_
  refine zS rfl rfl rfl rfl rfl (zJ hT rfl rfl rfl rfl rfl (zAi rfl) (zEj rfl) (zEk rfl (by omega))) rfl ?_
  refine gd ?_
  refine zS rfl rfl rfl rfl rfl (zI hT rfl rfl (zAi rfl) (zK2 rfl hx) rfl rfl) rfl ?_
  refine gd ?_
  refine zS rfl rfl rfl rfl rfl (zJ hT rfl rfl rfl rfl rfl (zAi rfl) (zEj rfl) (zEk rfl (by omega))) rfl ?_
  refine gd ?_
  refine zS rfl rfl rfl rfl rfl (zI hT rfl rfl (zAi rfl) (zK2 rfl hy) rfl rfl) rfl ?_
  refine gd ?_
  refine zS rfl rfl rfl rfl rfl (zM rfl rfl (c1) rfl rfl rfl) rfl ?_
  refine gd ?_
  refine go ?_
  by_cases hz : z < 0
  ·rw [if_neg (by simpa using hz)] at he
   refine zF rfl (by simpa using hz) ?_
   refine go ?_
   refine zY 0 [(0, sP l.length), (2, nP m), (4, cmpP), (14, nP q.i), (15, nP h)] ⟨rfl, rfl, rfl, rfl, rfl, trivial⟩ rfl rfl ?_
   refine zR ⟨q.i, h, by omega, he⟩ (by show h - q.i < q.j - q.i; omega) ⟨rfl, rfl, rfl, rfl, rfl, trivial⟩ rfl rfl
  ·rw [if_pos (by simpa using hz)] at he
   have hwi : IntKind.i64.wrap ((h : Int) + 1) = ((h + 1 : Nat) : Int) := by rw [IntWalk.i64_in _ (by omega)]; rfl
   refine zG rfl (by simpa using hz) ?_
   refine go ?_
   refine zY 0 [(0, sP l.length), (2, nP m), (4, cmpP), (14, .p (.int .i64 (IntKind.i64.wrap ((h : Int) + 1)))), (15, nP q.j)] ⟨rfl, rfl, rfl, rfl, rfl, trivial⟩ rfl rfl ?_
   refine zR ⟨h + 1, q.j, by omega, he⟩ (by show q.j - (h + 1) < q.j - q.i; omega) ⟨rfl, rfl, rfl, congrArg (fun z => TV.p (.int .i64 z)) hwi, rfl, trivial⟩ rfl rfl
 rw [if_neg hlt] at he
 rw [← he]
 refine zF rfl (decide_eq_false (by omega)) ?_
 refine go ?_
 obtain ⟨s, hs⟩ : ∃ s, s = q.i := ⟨_, rfl⟩
 rw [← hs]
 refine z9 (fun r : ShI l (fun c k => shrS c s k) 0 m m => [(0, sP l.length), (14, nP s), (17, nP r.k)]) (fun r => sH r.c) (fun _ => []) (fun r => r.k) ⟨m, by omega, l, rfl, rfl⟩ ⟨rfl, rfl, rfl, trivial⟩ rfl rfl (fun r => ?_)
 have hr := r.h
 have hc := r.hc
 have hre := r.e
 refine go ?_
 by_cases hk : s < r.k
 ·rw [shrS_go _ _ _ hk] at hre
  have wk : IntKind.i64.wrap ((r.k : Int) - 1) = ((r.k - 1 : Nat) : Int) := by rw [IntWalk.i64_in _ (by omega)]; omega
  have hx : r.c[r.k]? = some (r.c[r.k]'(by omega)) := List.getElem?_eq_getElem _
  generalize r.c[r.k]'(by omega) = x at hx
  have hy : r.c[r.k - 1]? = some (r.c[r.k - 1]'(by omega)) := List.getElem?_eq_getElem _
  generalize r.c[r.k - 1]'(by omega) = y at hy
  refine zG rfl (decide_eq_true (by omega)) ?_
  refine go ?_
  refine jH 15 17 (sH (r.c.set (r.k) y)) (sH ((r.c.set (r.k) y).set (r.k - 1) x)) (by kernel_rfl) (by kernel_rfl) ?_
  refine gdJ ?_
  refine yJ rfl rfl rfl rfl rfl rfl (zJ hT rfl rfl rfl rfl rfl (zAi hc) (zEj wk) (zEk wk (by omega))) rfl ?_
  refine gdJ ?_
  refine yJ rfl rfl rfl rfl rfl rfl (zI hT rfl rfl (zAi hc) (zK2 wk hy) rfl rfl) rfl ?_
  refine gdJ ?_
  refine zBs rfl rfl rfl rfl rfl rfl rfl rfl (zJ hT rfl rfl rfl rfl rfl (zAi hc) (zEj rfl) (zEk rfl (by omega))) (zJ hT rfl rfl rfl rfl rfl (zAi (by rw [List.length_set]; exact hc)) (zEj rfl) (zEk rfl (by rw [List.length_set]; omega))) rfl ?_
  refine gdJ ?_
  refine yJ rfl rfl rfl rfl rfl rfl (zI hT rfl rfl (zAi hc) (zK2 rfl hx) rfl rfl) rfl ?_
  refine gdJ ?_
  refine yJ rfl rfl rfl rfl rfl rfl (zJ hT rfl rfl rfl rfl rfl (zAi hc) (zEj rfl) (zEk rfl (by omega))) rfl ?_
  refine gdJ ?_
  refine yI rfl rfl rfl rfl rfl rfl (qP hT rfl rfl rfl rfl rfl rfl rfl hc (by omega)) rfl ?_
  refine gdJ ?_
  refine yJ rfl rfl rfl rfl rfl rfl (zJ hT rfl rfl rfl rfl rfl (zAi (by rw [List.length_set]; exact hc)) (zEj wk) (zEk wk (by rw [List.length_set]; omega))) rfl ?_
  refine gdJ ?_
  refine yI rfl rfl rfl rfl rfl rfl (qP hT rfl rfl rfl rfl rfl rfl wk (by rw [List.length_set]; exact hc) (by rw [List.length_set]; omega)) rfl ?_
  refine gdJ ?_
  rw [← zI7 hx hy]
  refine go ?_
  refine zY 0 [(0, sP l.length), (14, nP s), (17, .p (.int .i64 (IntKind.i64.wrap ((r.k : Int) - 1))))] ⟨rfl, rfl, rfl, trivial⟩ rfl rfl ?_
  refine zR ⟨r.k - 1, by omega, swpS r.c r.k (r.k - 1), by rw [zAl]; exact hc, hre⟩ (by show r.k - 1 < r.k; omega) ⟨rfl, rfl, congrArg (fun z => TV.p (.int .i64 z)) wk, trivial⟩ rfl rfl
 rw [zTm _ _ _ (by omega)] at hre
 refine zF rfl (decide_eq_false (by omega)) ?_
 rw [hre]
 refine go ?_
 exact zC hT rfl rfl rfl
end Go.Proofs.YtdnpkgakpiopgaaGreatDoor

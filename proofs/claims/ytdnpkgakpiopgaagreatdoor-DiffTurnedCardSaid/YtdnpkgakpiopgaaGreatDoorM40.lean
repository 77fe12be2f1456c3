import Derived.Test.YtdnpkgakpiopgaaGreatDoorGo
import Derived.Test.YtdnpkgakpiopgaaGreatDoorM39
namespace Go.Proofs.YtdnpkgakpiopgaaGreatDoor
set_option maxRecDepth 20000
open Go.Awp
theorem zM2 (f : Nat → Bool) (i j : Nat) : bsS f i j = if i < j then (if f ((i + j) / 2) then bsS f ((i + j) / 2 + 1) j else bsS f i ((i + j) / 2)) else i := by
 rw [bsS]
theorem zPm (f : Nat → Bool) : ∀ (n i j : Nat), j - i ≤ n → i ≤ j → i ≤ bsS f i j ∧ bsS f i j ≤ j := by
 intro n
 induction n with
 | zero =>
  intro i j h h2
  rw [zM2, if_neg (by omega)]
  omega
 | succ n ih =>
  intro i j h h2
  rw [zM2]
  by_cases c : i < j
  ·rw [if_pos c]
   split
   ·have := ih ((i + j) / 2 + 1) j (by omega) (by omega)
    omega
   ·have := ih i ((i + j) / 2) (by omega) (by omega)
    omega
  ·rw [if_neg c]
   omega
theorem bs_ok (f : Nat → Bool) : ∀ (n i j : Nat), j - i ≤ n → i ≤ j → (∀ c d, i ≤ c → c ≤ d → d < j → f d = true → f c = true) →
  (∀ c, i ≤ c → c < bsS f i j → f c = true) ∧ (∀ c, bsS f i j ≤ c → c < j → f c = false) := by
 intro n
 induction n with
 | zero =>
  intro i j h h2 _
  rw [zM2, if_neg (by omega)]
  exact ⟨fun c h3 h4 => by omega, fun c h3 h4 => by omega⟩
 | succ n ih =>
  intro i j h h2 hm
  rw [zM2]
  by_cases c : i < j
  ·rw [if_pos c]
   by_cases c2 : f ((i + j) / 2) = true
   ·rw [if_pos c2]
    obtain ⟨g1, g2⟩ := ih ((i + j) / 2 + 1) j (by omega) (by omega) fun c d q1 q2 q3 q4 => hm c d (by omega) q2 q3 q4
    refine ⟨fun c h3 h4 => ?_, fun c h3 h4 => g2 c h3 h4⟩
    by_cases c3 : c ≤ (i + j) / 2
    ·exact hm c _ h3 c3 (by omega) c2
    ·exact g1 c (by omega) h4
   ·rw [if_neg c2]
    obtain ⟨g1, g2⟩ := ih i ((i + j) / 2) (by omega) (by omega) fun c d q1 q2 q3 q4 => hm c d q1 q2 (by omega) q4
    refine ⟨fun c h3 h4 => g1 c h3 h4, fun c h3 h4 => ?_⟩
    by_cases c3 : c < (i + j) / 2
    ·exact g2 c h3 c3
    ·cases q : f c with
     | false => rfl
     | true => exact absurd (hm ((i + j) / 2) c (by omega) (by omega) h4 q) c2
  ·rw [if_neg c]
   exact ⟨fun c h3 h4 => by omega, fun c h3 h4 => by omega⟩
theorem shl_ok {E : Type} (x : E) (R : List E) : ∀ (Y A : List E) (k e : Nat), k = A.length → e = A.length + Y.length →
  shlS (A ++ x :: (Y ++ R)) k e = A ++ (Y ++ x :: R) := by
 intro Y
 induction Y with
 | nil =>
  intro A k e h h2
  rw [shlS, if_neg (by rw [List.length_nil] at h2; omega)]
  rfl
 | cons y Y ih =>
  intro A k e h h2
  rw [List.length_cons] at h2
  rw [shlS, if_pos (by omega), List.cons_append]
  have e1 := zT1 A x [] y (Y ++ R) k (k + 1) h (by rw [List.length_nil]; omega)
  rw [List.nil_append, List.nil_append] at e1
  rw [e1]
  have e2 := ih (A ++ [y]) (k + 1) e (by rw [List.length_append, List.length_singleton]; omega) (by rw [List.length_append, List.length_singleton]; omega)
  rw [List.append_assoc, List.singleton_append, List.append_assoc, List.singleton_append] at e2
  exact e2
theorem shr_ok {E : Type} (y : E) (i : Nat) : ∀ (n : Nat) (R X A : List E) (k : Nat), X.length = n → k = A.length + X.length → i = A.length →
  shrS (A ++ (X ++ y :: R)) i k = A ++ y :: (X ++ R) := by
 intro n
 induction n with
 | zero =>
  intro R X A k h h2 h3
  have : X = [] := List.length_eq_zero_iff.1 h
  subst this
  cases k with
  | zero => rfl
  | succ k =>
   unfold shrS
   rw [if_neg (by rw [List.length_nil] at h2; omega)]
   rfl
 | succ n ih =>
  intro R X A k h h2 h3
  have hX : X ≠ [] := fun e => by rw [e, List.length_nil] at h; omega
  obtain ⟨X', x, rfl⟩ : ∃ X' x, X = X' ++ [x] := ⟨X.dropLast, X.getLast hX, (List.dropLast_concat_getLast hX).symm⟩
  rw [List.length_append, List.length_singleton] at h h2
  obtain ⟨k', rfl⟩ : ∃ k', k = k' + 1 := ⟨k - 1, by omega⟩
  unfold shrS
  rw [if_pos (by omega)]
  have e1 := zQm (A ++ X') x [] y R k' (k' + 1) (by rw [List.length_append]; omega) (by rw [List.length_append, List.length_nil]; omega)
  rw [List.nil_append, List.nil_append] at e1
  have e2 : A ++ (X' ++ [x] ++ y :: R) = A ++ X' ++ x :: y :: R := by simp
  rw [e2, e1]
  have e3 := ih (x :: R) X' A k' (by omega) (by omega) h3
  rw [← List.append_assoc] at e3
  rw [e3, List.append_assoc, List.singleton_append]
theorem zUh {E : Type} (a b n : Nat) : ∀ (U V A B Q : List E) (k : Nat), U.length = V.length → a + k = A.length → b + k = A.length + U.length + B.length → n = k + U.length →
  swR a b n (A ++ (U ++ (B ++ (V ++ Q)))) k = A ++ (V ++ (B ++ (U ++ Q))) := by
 intro U
 induction U with
 | nil =>
  intro V A B Q k h h2 h3 h4
  rw [List.length_nil] at h h4
  have : V = [] := List.length_eq_zero_iff.1 h.symm
  subst this
  rw [swR, if_neg (by omega)]
 | cons x U ih =>
  intro V A B Q k h h2 h3 h4
  cases V with
  | nil => cases h
  | cons y V =>
   rw [List.length_cons] at h h3 h4
   rw [List.length_cons] at h
   rw [swR, if_pos (by omega)]
   have e1 := zT1 A x (U ++ B) y (V ++ Q) (a + k) (b + k) h2 (by rw [List.length_append]; omega)
   have e2 : A ++ (x :: U ++ (B ++ (y :: V ++ Q))) = A ++ x :: (U ++ B ++ y :: (V ++ Q)) := by simp
   rw [e2, e1]
   have e3 := ih V (A ++ [y]) (B ++ [x]) Q (k + 1) (by omega) (by rw [List.length_append, List.length_singleton]; omega)
    (by rw [List.length_append, List.length_append, List.length_singleton, List.length_singleton]; omega) (by omega)
   have e4 : A ++ [y] ++ (U ++ (B ++ [x] ++ (V ++ Q))) = A ++ y :: (U ++ B ++ x :: (V ++ Q)) := by simp
   have e5 : A ++ [y] ++ (V ++ (B ++ [x] ++ (U ++ Q))) = A ++ (y :: V ++ (B ++ (x :: U ++ Q))) := by simp
   rw [e4, e5] at e3
   exact e3
theorem rot_ok {E : Type} (m : Nat) : ∀ (n : Nat) (U V A Q : List E), U.length + V.length ≤ n → U ≠ [] → V ≠ [] → m = A.length + U.length →
  rotS m (A ++ (U ++ (V ++ Q))) U.length V.length = A ++ (V ++ (U ++ Q)) := by
 intro n
 induction n with
 | zero =>
  intro U V A Q h h2 h3 h4
  have := List.length_pos_iff.2 h2
  omega
 | succ n ih =>
  intro U V A Q h h2 h3 h4
  have p1 := List.length_pos_iff.2 h2
  have p2 := List.length_pos_iff.2 h3
  rw [rotS]
  by_cases c : U.length = V.length
  ·rw [if_pos (Or.inl c)]
   exact zUh (m - U.length) m U.length U V A [] Q 0 c (by omega) (by rw [List.length_nil]; omega) (by omega)
  ·rw [if_neg (by omega)]
   by_cases c2 : V.length < U.length
   ·rw [if_pos c2]
    obtain ⟨U1, U2, rfl, hl⟩ : ∃ U1 U2, U = U1 ++ U2 ∧ U1.length = V.length := ⟨U.take V.length, U.drop V.length, (List.take_append_drop _ _).symm, by rw [List.length_take]; omega⟩
    rw [List.length_append] at h h4 c2 p1 c ⊢
    have e1 := zUh (m - (U1.length + U2.length)) m V.length U1 V A U2 Q 0 hl (by omega) (by omega) (by omega)
    have e2 : A ++ (U1 ++ U2 ++ (V ++ Q)) = A ++ (U1 ++ (U2 ++ (V ++ Q))) := by simp
    rw [e2, e1]
    have hU2 : U2 ≠ [] := fun e => by rw [e, List.length_nil] at c2; omega
    have hU1 : U1 ≠ [] := fun e => by rw [e, List.length_nil] at hl; omega
    have e3 := ih U2 U1 (A ++ V) Q (by omega) hU2 hU1 (by rw [List.length_append]; omega)
    have q1 : U1.length + U2.length - V.length = U2.length := by omega
    rw [q1, ← hl]
    rw [List.append_assoc] at e3
    rw [e3]
    simp
   ·rw [if_neg c2]
    obtain ⟨V1, V2, rfl, hl⟩ : ∃ V1 V2, V = V1 ++ V2 ∧ V2.length = U.length := ⟨V.take (V.length - U.length), V.drop (V.length - U.length), (List.take_append_drop _ _).symm, by rw [List.length_drop]; omega⟩
    rw [List.length_append] at h c2 p2 c ⊢
    have e1 := zUh (m - U.length) (m + (V1.length + V2.length) - U.length) U.length U V2 A V1 Q 0 hl.symm (by omega) (by omega) (by omega)
    have e2 : A ++ (U ++ (V1 ++ V2 ++ Q)) = A ++ (U ++ (V1 ++ (V2 ++ Q))) := by simp
    rw [e2, e1]
    have hV1 : V1 ≠ [] := fun e => by rw [e, List.length_nil] at c; omega
    have hV2 : V2 ≠ [] := fun e => by rw [e, List.length_nil] at hl; omega
    have e3 := ih V2 V1 A (U ++ Q) (by omega) hV2 hV1 (by omega)
    have q1 : V1.length + V2.length - U.length = V1.length := by omega
    rw [q1, ← hl, e3]
    simp
abbrev Srt {E : Type} (lt : E → E → Bool) (X : List E) : Prop := X.Pairwise fun x y => lt y x = false
structure Ord {E : Type} (lt : E → E → Bool) : Prop where
 tr : ∀ x y z, lt y x = false → lt z y = false → lt z x = false
 asy : ∀ x y, lt x y = true → lt y x = false
theorem Ord.irr {E : Type} {lt : E → E → Bool} (h : Ord lt) (x : E) : lt x x = false := by
 cases q : lt x x with
 | false => rfl
 | true => exact absurd (h.asy x x q) (by rw [q]; decide)
theorem zBy {E : Type} {lt : E → E → Bool} (h : Ord lt) {X : List E} (s : Srt lt X) {p q : Nat} (hp : p ≤ q) (hq : q < X.length) :
  lt (X[q]) (X[p]'(by omega)) = false := by
 by_cases c : p = q
 ·subst c; exact h.irr _
 ·exact List.pairwise_iff_getElem.1 s p q (by omega) hq (by omega)
theorem seg_x {E : Type} (A X R : List E) (q i : Nat) (hq : q < X.length) (e : i = A.length + q) : (A ++ (X ++ R))[i]? = some X[q] := by
 subst e
 rw [List.getElem?_append_right (by omega), List.getElem?_append_left (by omega), Nat.add_sub_cancel_left, List.getElem?_eq_getElem hq]
theorem lt_yx {E : Type} (lt : E → E → Bool) (A X Y B : List E) (p q i j : Nat) (hp : p < Y.length) (hq : q < X.length) (e : i = A.length + X.length + p) (e2 : j = A.length + q) :
  ltS lt (A ++ (X ++ (Y ++ B))) i j = lt Y[p] X[q] := by
 unfold ltS
 rw [seg_x A X _ q j hq e2]
 have : A ++ (X ++ (Y ++ B)) = (A ++ X) ++ (Y ++ B) := by rw [List.append_assoc]
 rw [this, seg_x (A ++ X) Y B p i hp (by rw [List.length_append]; omega)]
theorem cut2 {E : Type} (X : List E) (n : Nat) (h : n ≤ X.length) : ∃ X1 X2, X = X1 ++ X2 ∧ X1.length = n :=
 ⟨X.take n, X.drop n, (List.take_append_drop _ _).symm, by rw [List.length_take]; omega⟩
theorem jV {E : Type} {lt : E → E → Bool} {P Q : List E} : Srt lt (P ++ Q) ↔ Srt lt P ∧ Srt lt Q ∧ ∀ x ∈ P, ∀ y ∈ Q, lt y x = false := List.pairwise_append
theorem one_x {E : Type} (lt : E → E → Bool) (A : List E) (x : E) (Y B : List E) :
  ∃ Z, shlS (A ++ ([x] ++ (Y ++ B))) A.length (bsS (fun h => ltS lt (A ++ ([x] ++ (Y ++ B))) h A.length) (A.length + 1) (A.length + 1 + Y.length) - 1) = A ++ (Z ++ B) ∧
   Z.Perm ([x] ++ Y) ∧ (Ord lt → Srt lt Y → Srt lt Z) := by
 obtain ⟨b1, b2⟩ := zPm (fun h => ltS lt (A ++ ([x] ++ (Y ++ B))) h A.length) Y.length (A.length + 1) (A.length + 1 + Y.length) (by omega) (by omega)
 have ok := bs_ok (fun h => ltS lt (A ++ ([x] ++ (Y ++ B))) h A.length) Y.length (A.length + 1) (A.length + 1 + Y.length) (by omega) (by omega)
 generalize bsS (fun h => ltS lt (A ++ ([x] ++ (Y ++ B))) h A.length) (A.length + 1) (A.length + 1 + Y.length) = r at b1 b2 ok
 have hf : ∀ p (hp : p < Y.length), ltS lt (A ++ ([x] ++ (Y ++ B))) (A.length + 1 + p) A.length = lt Y[p] x := fun p hp =>
  lt_yx lt A [x] Y B p 0 _ _ hp (by simp) (by simp) (by omega)
 obtain ⟨Y1, Y2, hY, hl⟩ := cut2 Y (r - (A.length + 1)) (by omega)
 have e1 := shl_ok x (Y2 ++ B) Y1 A A.length (r - 1) rfl (by omega)
 refine ⟨Y1 ++ x :: Y2, ?_, ?_, ?_⟩
 ·rw [hY]
  have e2 : A ++ ([x] ++ (Y1 ++ Y2 ++ B)) = A ++ x :: (Y1 ++ (Y2 ++ B)) := by simp
  rw [e2, e1]
  simp
 ·rw [hY]
  exact List.perm_middle
 ·intro o s
  have mono : ∀ c d, A.length + 1 ≤ c → c ≤ d → d < A.length + 1 + Y.length → ltS lt (A ++ ([x] ++ (Y ++ B))) d A.length = true → ltS lt (A ++ ([x] ++ (Y ++ B))) c A.length = true := by
   intro c d h1 h2 h3 h4
   have g1 := hf (c - (A.length + 1)) (by omega)
   have g2 := hf (d - (A.length + 1)) (by omega)
   rw [show A.length + 1 + (c - (A.length + 1)) = c by omega] at g1
   rw [show A.length + 1 + (d - (A.length + 1)) = d by omega] at g2
   rw [g2] at h4
   rw [g1]
   cases q : lt Y[c - (A.length + 1)] x with
   | true => rfl
   | false =>
    have := o.tr _ _ _ q (zBy o s (show c - (A.length + 1) ≤ d - (A.length + 1) by omega) (by omega))
    rw [this] at h4
    cases h4
  obtain ⟨k1, k2⟩ := ok mono
  rw [hY, jV] at s
  rw [jV]
  have m1 : ∀ y ∈ Y1, lt y x = true := by
   intro y hy
   obtain ⟨p, hp, rfl⟩ := List.getElem_of_mem hy
   have g1 := hf p (by omega)
   have g2 := k1 (A.length + 1 + p) (by omega) (by omega)
   rw [g1] at g2
   have g3 : Y[p]'(by omega) = Y1[p] := by
    simp only [hY]
    exact List.getElem_append_left hp
   rw [g3] at g2
   exact g2
  have m2 : ∀ y ∈ Y2, lt y x = false := by
   intro y hy
   obtain ⟨p, hp, rfl⟩ := List.getElem_of_mem hy
   have hlen : Y.length = Y1.length + Y2.length := by rw [hY, List.length_append]
   have g1 := hf (Y1.length + p) (by omega)
   have g2 := k2 (A.length + 1 + (Y1.length + p)) (by omega) (by omega)
   rw [g1] at g2
   have g3 : Y[Y1.length + p]'(by omega) = Y2[p] := by
    simp only [hY]
    rw [List.getElem_append_right (by omega)]
    simp only [Nat.add_sub_cancel_left]
   rw [g3] at g2
   exact g2
  refine ⟨s.1, List.pairwise_cons.2 ⟨m2, s.2.1⟩, ?_⟩
  intro y hy z hz
  rcases List.mem_cons.1 hz with e | e
  ·rw [e]; exact o.asy _ _ (m1 y hy)
  ·exact s.2.2 y hy z e
theorem one_y {E : Type} (lt : E → E → Bool) (A X : List E) (y : E) (B : List E) :
  ∃ Z, shrS (A ++ (X ++ ([y] ++ B))) (bsS (fun h => !ltS lt (A ++ (X ++ ([y] ++ B))) (A.length + X.length) h) A.length (A.length + X.length)) (A.length + X.length) = A ++ (Z ++ B) ∧
   Z.Perm (X ++ [y]) ∧ (Ord lt → Srt lt X → Srt lt Z) := by
 obtain ⟨b1, b2⟩ := zPm (fun h => !ltS lt (A ++ (X ++ ([y] ++ B))) (A.length + X.length) h) X.length A.length (A.length + X.length) (by omega) (by omega)
 have ok := bs_ok (fun h => !ltS lt (A ++ (X ++ ([y] ++ B))) (A.length + X.length) h) X.length A.length (A.length + X.length) (by omega) (by omega)
 generalize bsS (fun h => !ltS lt (A ++ (X ++ ([y] ++ B))) (A.length + X.length) h) A.length (A.length + X.length) = r at b1 b2 ok
 have hf : ∀ p (hp : p < X.length), (!ltS lt (A ++ (X ++ ([y] ++ B))) (A.length + X.length) (A.length + p)) = !lt y X[p] := fun p hp => by
  rw [lt_yx lt A X [y] B 0 p _ _ (by simp) hp (by omega) rfl]
  rfl
 obtain ⟨X1, X2, hX, hl⟩ := cut2 X (r - A.length) (by omega)
 have e1 := shr_ok y r X2.length B X2 (A ++ X1) (A.length + X.length) rfl (by rw [hX, List.length_append, List.length_append]; omega) (by rw [List.length_append]; omega)
 refine ⟨X1 ++ y :: X2, ?_, ?_, ?_⟩
 ·have e2 : A ++ (X ++ ([y] ++ B)) = A ++ X1 ++ (X2 ++ y :: B) := by rw [hX]; simp
  rw [e2, e1]
  simp
 ·rw [hX]
  exact List.perm_middle.trans (List.perm_append_comm (l₁ := [y]) (l₂ := X1 ++ X2))
 ·intro o s
  have mono : ∀ c d, A.length ≤ c → c ≤ d → d < A.length + X.length → (!ltS lt (A ++ (X ++ ([y] ++ B))) (A.length + X.length) d) = true → (!ltS lt (A ++ (X ++ ([y] ++ B))) (A.length + X.length) c) = true := by
   intro c d h1 h2 h3 h4
   have g1 := hf (c - A.length) (by omega)
   have g2 := hf (d - A.length) (by omega)
   rw [show A.length + (c - A.length) = c by omega] at g1
   rw [show A.length + (d - A.length) = d by omega] at g2
   rw [g2, Bool.not_eq_true'] at h4
   rw [g1, Bool.not_eq_true']
   exact o.tr _ _ _ (zBy o s (show c - A.length ≤ d - A.length by omega) (by omega)) h4
  obtain ⟨k1, k2⟩ := ok mono
  rw [hX, jV] at s
  rw [jV]
  have m1 : ∀ x ∈ X1, lt y x = false := by
   intro x hx
   obtain ⟨p, hp, rfl⟩ := List.getElem_of_mem hx
   have g1 := hf p (by omega)
   have g2 := k1 (A.length + p) (by omega) (by omega)
   rw [g1, Bool.not_eq_true'] at g2
   have g3 : X[p]'(by omega) = X1[p] := by
    simp only [hX]
    exact List.getElem_append_left hp
   rw [g3] at g2
   exact g2
  have m2 : ∀ x ∈ X2, lt y x = true := by
   intro x hx
   obtain ⟨p, hp, rfl⟩ := List.getElem_of_mem hx
   have hlen : X.length = X1.length + X2.length := by rw [hX, List.length_append]
   have g1 := hf (X1.length + p) (by omega)
   have g2 := k2 (A.length + (X1.length + p)) (by omega) (by omega)
   rw [g1, Bool.not_eq_false'] at g2
   have g3 : X[X1.length + p]'(by omega) = X2[p] := by
    simp only [hX]
    rw [List.getElem_append_right (by omega)]
    simp only [Nat.add_sub_cancel_left]
   rw [g3] at g2
   exact g2
  refine ⟨s.1, List.pairwise_cons.2 ⟨fun z hz => o.asy _ _ (m2 z hz), s.2.1⟩, ?_⟩
  intro x hx z hz
  rcases List.mem_cons.1 hz with e | e
  ·rw [e]; exact m1 x hx
  ·exact s.2.2 x hx z e
theorem sym_ok {E : Type} (lt : E → E → Bool) : ∀ (f : Nat) (A X Y B : List E), X ≠ [] → Y ≠ [] → X.length + Y.length ≤ f →
  ∃ Z, symS lt f (A ++ (X ++ (Y ++ B))) A.length (A.length + X.length) (A.length + X.length + Y.length) = A ++ (Z ++ B) ∧ Z.Perm (X ++ Y) ∧ (Ord lt → Srt lt X → Srt lt Y → Srt lt Z) := by
 intro f
 induction f with
 | zero =>
  intro A X Y B hX hY h
  have := List.length_pos_iff.2 hX
  omega
 | succ f ih =>
  intro A X Y B hX hY h
  have pX := List.length_pos_iff.2 hX
  have pY := List.length_pos_iff.2 hY
  rw [symS]
  by_cases c1 : X.length = 1
  ·rw [if_pos (by omega)]
   obtain ⟨x, rfl⟩ := List.length_eq_one_iff.1 c1
   obtain ⟨Z, z1, z2, z3⟩ := one_x lt A x Y B
   exact ⟨Z, z1, z2, fun o _ s => z3 o s⟩
  rw [if_neg (by omega)]
  by_cases c2 : Y.length = 1
  ·rw [if_pos (by omega)]
   obtain ⟨y, rfl⟩ := List.length_eq_one_iff.1 c2
   obtain ⟨Z, z1, z2, z3⟩ := one_y lt A X y B
   exact ⟨Z, z1, z2, fun o s _ => z3 o s⟩
  rw [if_neg (by omega)]
  dsimp only
  have ltyx : ∀ p q (hp : p < Y.length) (hq : q < X.length) i j, i = A.length + X.length + p → j = A.length + q → ltS lt (A ++ (X ++ (Y ++ B))) i j = lt Y[p] X[q] :=
   fun p q hp hq i j e e2 => lt_yx lt A X Y B p q i j hp hq e e2
  generalize hl : A ++ (X ++ (Y ++ B)) = l at ltyx
  generalize ha : A.length = a at ltyx
  generalize hm : a + X.length = m at ltyx
  generalize hb : m + Y.length = b
  generalize hd : (a + b) / 2 = d
  have hd1 : a + 1 < d ∧ d + 1 < b := by omega
  unfold cutS
  rw [hd]
  generalize hlo : (if d < m then d + m - b else a) = lo
  generalize hhi : (if d < m then d else m) = hi
  have hlh : a ≤ lo ∧ lo ≤ hi ∧ hi ≤ m ∧ hi ≤ d ∧ d + m ≤ b + lo ∧ (lo = a ∨ lo + b = d + m) ∧ (hi = m ∨ hi = d) := by
   by_cases c : d < m
   ·rw [if_pos c] at hlo hhi; omega
   ·rw [if_neg c] at hlo hhi; omega
  obtain ⟨b1, b2⟩ := zPm (fun c => !ltS lt l (d + m - 1 - c) c) (hi - lo) lo hi (by omega) hlh.2.1
  have ok := bs_ok (fun c => !ltS lt l (d + m - 1 - c) c) (hi - lo) lo hi (by omega) hlh.2.1
  generalize bsS (fun c => !ltS lt l (d + m - 1 - c) c) lo hi = s at b1 b2 ok
  have hf : ∀ c, lo ≤ c → c < hi → ∀ p q (hp : p < Y.length) (hq : q < X.length), m + p = d + m - 1 - c → a + q = c → (!ltS lt l (d + m - 1 - c) c) = !lt Y[p] X[q] :=
   fun c h1 h2 p q hp hq e1 e2 => by rw [ltyx p q hp hq _ _ e1.symm e2.symm]
  obtain ⟨X1, X2, eX, l1⟩ := cut2 X (s - a) (by omega)
  obtain ⟨Y1, Y2, eY, l2⟩ := cut2 Y (d + m - s - m) (by omega)
  have hXl : X.length = X1.length + X2.length := by rw [eX, List.length_append]
  have hYl : Y.length = Y1.length + Y2.length := by rw [eY, List.length_append]
  have hrot : (if s < m ∧ m < d + m - s then rotS m l (m - s) (d + m - s - m) else l) = A ++ (X1 ++ (Y1 ++ (X2 ++ (Y2 ++ B)))) := by
   by_cases c : s < m ∧ m < d + m - s
   ·rw [if_pos c]
    have e := rot_ok m (X2.length + Y1.length) X2 Y1 (A ++ X1) (Y2 ++ B) (Nat.le_refl _) (List.length_pos_iff.1 (by omega)) (List.length_pos_iff.1 (by omega)) (by rw [List.length_append]; omega)
    rw [show m - s = X2.length by omega, show d + m - s - m = Y1.length by omega, ← hl, eX, eY]
    have e2 : A ++ (X1 ++ X2 ++ (Y1 ++ Y2 ++ B)) = A ++ X1 ++ (X2 ++ (Y1 ++ (Y2 ++ B))) := by simp
    rw [e2, e, List.append_assoc]
   ·rw [if_neg c, ← hl, eX, eY]
    rcases (show X2.length = 0 ∨ Y1.length = 0 by omega) with e | e <;> (rw [List.length_eq_zero_iff] at e; subst e; simp)
  rw [hrot]
  obtain ⟨Z1, z1, z2, z3⟩ : ∃ Z1, (if a < s ∧ s < d then symS lt f (A ++ (X1 ++ (Y1 ++ (X2 ++ (Y2 ++ B))))) a s d else A ++ (X1 ++ (Y1 ++ (X2 ++ (Y2 ++ B))))) = A ++ (Z1 ++ (X2 ++ (Y2 ++ B))) ∧
    Z1.Perm (X1 ++ Y1) ∧ (Ord lt → Srt lt X1 → Srt lt Y1 → Srt lt Z1) := by
   by_cases c : a < s ∧ s < d
   ·rw [if_pos c]
    have := ih A X1 Y1 (X2 ++ (Y2 ++ B)) (List.length_pos_iff.1 (by omega)) (List.length_pos_iff.1 (by omega)) (by omega)
    rw [ha, show a + X1.length = s by omega, show s + Y1.length = d by omega] at this
    exact this
   ·rw [if_neg c]
    rcases (show X1.length = 0 ∨ Y1.length = 0 by omega) with e | e <;> (rw [List.length_eq_zero_iff] at e; subst e)
    ·exact ⟨Y1, by simp, by simp, fun _ _ h => h⟩
    ·exact ⟨X1, by simp, by simp, fun _ h _ => h⟩
  rw [z1]
  have hz1 : Z1.length = X1.length + Y1.length := by rw [z2.length_eq, List.length_append]
  obtain ⟨Z2, w1, w2, w3⟩ : ∃ Z2, (if d < d + m - s ∧ d + m - s < b then symS lt f (A ++ (Z1 ++ (X2 ++ (Y2 ++ B)))) d (d + m - s) b else A ++ (Z1 ++ (X2 ++ (Y2 ++ B)))) = A ++ (Z1 ++ (Z2 ++ B)) ∧
    Z2.Perm (X2 ++ Y2) ∧ (Ord lt → Srt lt X2 → Srt lt Y2 → Srt lt Z2) := by
   by_cases c : d < d + m - s ∧ d + m - s < b
   ·rw [if_pos c]
    have := ih (A ++ Z1) X2 Y2 B (List.length_pos_iff.1 (by omega)) (List.length_pos_iff.1 (by omega)) (by omega)
    rw [List.length_append, ha, show a + Z1.length = d by omega, show d + X2.length = d + m - s by omega, show d + m - s + Y2.length = b by omega] at this
    rw [List.append_assoc] at this
    obtain ⟨Z2, q1, q2, q3⟩ := this
    exact ⟨Z2, by rw [q1, List.append_assoc], q2, q3⟩
   ·rw [if_neg c]
    rcases (show X2.length = 0 ∨ Y2.length = 0 by omega) with e | e <;> (rw [List.length_eq_zero_iff] at e; subst e)
    ·exact ⟨Y2, by simp, by simp, fun _ _ h => h⟩
    ·exact ⟨X2, by simp, by simp, fun _ h _ => h⟩
  rw [w1]
  refine ⟨Z1 ++ Z2, by rw [List.append_assoc], ?_, ?_⟩
  ·rw [eX, eY]
   refine (z2.append w2).trans ?_
   rw [List.append_assoc, List.append_assoc]
   refine List.Perm.append_left X1 ?_
   rw [← List.append_assoc, ← List.append_assoc]
   exact List.Perm.append_right Y2 List.perm_append_comm
  ·intro o sX sY
   have hmono : ∀ c e, lo ≤ c → c ≤ e → e < hi → (!ltS lt l (d + m - 1 - e) e) = true → (!ltS lt l (d + m - 1 - c) c) = true := by
    intro c e h1 h2 h3 h4
    rw [hf e (by omega) h3 (d - 1 - e) (e - a) (by omega) (by omega) (by omega) (by omega), Bool.not_eq_true'] at h4
    rw [hf c h1 (by omega) (d - 1 - c) (c - a) (by omega) (by omega) (by omega) (by omega), Bool.not_eq_true']
    have g1 := zBy o sX (show c - a ≤ e - a by omega) (by omega)
    have g2 := zBy o sY (show d - 1 - e ≤ d - 1 - c by omega) (by omega)
    exact o.tr _ _ _ (o.tr _ _ _ g1 h4) g2
   obtain ⟨k1, k2⟩ := ok hmono
   have gx : ∀ x ∈ X1, ∀ z ∈ Y2, lt z x = false := by
    intro x hx z hz
    obtain ⟨p, hp, rfl⟩ := List.getElem_of_mem hx
    obtain ⟨q, hq, rfl⟩ := List.getElem_of_mem hz
    have g := k1 (s - 1) (by omega) (by omega)
    rw [hf (s - 1) (by omega) (by omega) Y1.length (s - 1 - a) (by omega) (by omega) (by omega) (by omega), Bool.not_eq_true'] at g
    have g1 := zBy o sX (show p ≤ s - 1 - a by omega) (by omega)
    have g2 := zBy o sY (show Y1.length ≤ Y1.length + q by omega) (by omega)
    have e1 : X[p]'(by omega) = X1[p] := by
     simp only [eX]
     exact List.getElem_append_left hp
    have e2 : Y[Y1.length + q]'(by omega) = Y2[q] := by
     simp only [eY]
     rw [List.getElem_append_right (by omega)]
     simp only [Nat.add_sub_cancel_left]
    rw [← e1, ← e2]
    exact o.tr _ _ _ (o.tr _ _ _ g1 g) g2
   have gy : ∀ x ∈ Y1, ∀ z ∈ X2, lt z x = false := by
    intro x hx z hz
    obtain ⟨p, hp, rfl⟩ := List.getElem_of_mem hx
    obtain ⟨q, hq, rfl⟩ := List.getElem_of_mem hz
    have g := k2 s (by omega) (by omega)
    rw [hf s (by omega) (by omega) (Y1.length - 1) (s - a) (by omega) (by omega) (by omega) (by omega), Bool.not_eq_false'] at g
    have g := o.asy _ _ g
    have g1 := zBy o sY (show p ≤ Y1.length - 1 by omega) (by omega)
    have g2 := zBy o sX (show s - a ≤ X1.length + q by omega) (by omega)
    have e1 : Y[p]'(by omega) = Y1[p] := by
     simp only [eY]
     exact List.getElem_append_left hp
    have e2 : X[X1.length + q]'(by omega) = X2[q] := by
     simp only [eX]
     rw [List.getElem_append_right (by omega)]
     simp only [Nat.add_sub_cancel_left]
    rw [← e1, ← e2]
    exact o.tr _ _ _ (o.tr _ _ _ g1 g) g2
   rw [eX, jV] at sX
   rw [eY, jV] at sY
   rw [jV]
   refine ⟨z3 o sX.1 sY.1, w3 o sX.2.1 sY.2.1, ?_⟩
   intro x hx z hz
   rw [z2.mem_iff, List.mem_append] at hx
   rw [w2.mem_iff, List.mem_append] at hz
   rcases hx with hx | hx <;> rcases hz with hz | hz
   ·exact sX.2.2 x hx z hz
   ·exact gx x hx z hz
   ·exact gy x hx z hz
   ·exact sY.2.2 x hx z hz
theorem insJ_ok {E : Type} (lt : E → E → Bool) : ∀ (n : Nat) (R P A : List E) (y : E), P.length = n →
  ∃ Z, insJ lt A.length (A ++ (P ++ y :: R)) (A.length + P.length) = A ++ (Z ++ R) ∧ Z.Perm (P ++ [y]) ∧ (Ord lt → Srt lt P → Srt lt Z) := by
 intro n
 induction n with
 | zero =>
  intro R P A y h
  have : P = [] := List.length_eq_zero_iff.1 h
  subst this
  refine ⟨[y], ?_, List.Perm.refl _, fun _ _ => List.pairwise_singleton _ _⟩
  rw [List.length_nil, Nat.add_zero]
  cases A with
  | nil => rfl
  | cons a A =>
   rw [List.length_cons, insJ, if_neg (by omega)]
   rfl
 | succ n ih =>
  intro R P A y h
  obtain ⟨P', x, rfl⟩ : ∃ X' x, P = X' ++ [x] := ⟨P.dropLast, P.getLast (fun e => by rw [e, List.length_nil] at h; omega), (List.dropLast_concat_getLast _).symm⟩
  rw [List.length_append, List.length_singleton] at h ⊢
  rw [← Nat.add_assoc, insJ]
  have e1 : A ++ (P' ++ [x] ++ y :: R) = A ++ P' ++ x :: ([] ++ y :: R) := by simp
  have e2 := (lt_seg lt (A ++ P') x [] y R (A.length + P'.length) (A.length + P'.length + 1) (by rw [List.length_append]) (by rw [List.length_append, List.length_nil])).2
  have e3 := zQm (A ++ P') x [] y R (A.length + P'.length) (A.length + P'.length + 1) (by rw [List.length_append]) (by rw [List.length_append, List.length_nil])
  rw [e1, e2, e3]
  by_cases c : lt y x = true
  ·rw [if_pos ⟨by omega, c⟩]
   obtain ⟨Z, z1, z2, z3⟩ := ih (x :: R) P' A y (by omega)
   refine ⟨Z ++ [x], ?_, ?_, ?_⟩
   ·rw [List.nil_append, List.append_assoc, z1, List.append_assoc Z, List.singleton_append]
   ·refine (z2.append_right [x]).trans ?_
    rw [List.append_assoc, List.append_assoc]
    exact List.Perm.append_left P' List.perm_append_comm
   ·intro o s
    rw [jV] at s
    rw [jV]
    refine ⟨z3 o s.1, List.pairwise_singleton _ _, ?_⟩
    intro p hp q hq
    rw [List.mem_singleton] at hq
    subst hq
    rw [z2.mem_iff, List.mem_append, List.mem_singleton] at hp
    rcases hp with hp | hp
    ·exact s.2.2 p hp q (List.mem_singleton.2 rfl)
    ·rw [hp]; exact o.asy _ _ c
  ·rw [if_neg (fun e => c e.2)]
   refine ⟨P' ++ [x] ++ [y], by simp, List.Perm.refl _, ?_⟩
   intro o s
   have c' : lt y x = false := by
    cases q : lt y x with
    | false => rfl
    | true => exact absurd q c
   rw [jV (P := P' ++ [x])]
   refine ⟨s, List.pairwise_singleton _ _, ?_⟩
   intro p hp q hq
   rw [List.mem_singleton] at hq
   subst hq
   rw [List.mem_append, List.mem_singleton] at hp
   rcases hp with hp | hp
   ·rw [jV] at s
    exact o.tr _ _ _ (s.2.2 p hp x (List.mem_singleton.2 rfl)) c'
   ·rw [hp]; exact c'
theorem zE5 {E : Type} (lt : E → E → Bool) (a b : Nat) (l : List E) (i : Nat) : insS lt a b l i = if i < b then insS lt a b (insJ lt a l i) (i + 1) else l := by
 rw [insS]
theorem insS_ok {E : Type} (lt : E → E → Bool) (A B : List E) : ∀ (n : Nat) (Q P : List E), Q.length = n →
  ∃ Z, insS lt A.length (A.length + P.length + Q.length) (A ++ (P ++ (Q ++ B))) (A.length + P.length) = A ++ (Z ++ B) ∧ Z.Perm (P ++ Q) ∧ (Ord lt → Srt lt P → Srt lt Z) := by
 intro n
 induction n with
 | zero =>
  intro Q P h
  have : Q = [] := List.length_eq_zero_iff.1 h
  subst this
  rw [zE5, if_neg (by rw [List.length_nil]; omega)]
  exact ⟨P, by simp, by simp, fun _ s => s⟩
 | succ n ih =>
  intro Q P h
  cases Q with
  | nil => cases h
  | cons y Q =>
   rw [List.length_cons] at h ⊢
   rw [zE5, if_pos (by omega)]
   obtain ⟨Z, z1, z2, z3⟩ := insJ_ok lt P.length (Q ++ B) P A y rfl
   rw [List.cons_append, z1]
   have hz : Z.length = P.length + 1 := by rw [z2.length_eq, List.length_append, List.length_singleton]
   obtain ⟨W, w1, w2, w3⟩ := ih Q Z (by omega)
   rw [show A.length + Z.length + Q.length = A.length + P.length + (Q.length + 1) by omega, show A.length + Z.length = A.length + P.length + 1 by omega] at w1
   refine ⟨W, w1, ?_, fun o s => w3 o (z3 o s)⟩
   refine w2.trans ((z2.append_right Q).trans ?_)
   rw [List.append_assoc, List.singleton_append]
theorem zUf {E : Type} (lt : E → E → Bool) (A X B : List E) :
  ∃ Z, insS lt A.length (A.length + X.length) (A ++ (X ++ B)) (A.length + 1) = A ++ (Z ++ B) ∧ Z.Perm X ∧ (Ord lt → Srt lt Z) := by
 cases X with
 | nil =>
  rw [zE5, if_neg (by rw [List.length_nil]; omega)]
  exact ⟨[], rfl, List.Perm.refl _, fun _ => List.Pairwise.nil⟩
 | cons x X =>
  obtain ⟨Z, z1, z2, z3⟩ := insS_ok lt A B X.length X [x] rfl
  rw [List.length_singleton] at z1
  refine ⟨Z, ?_, z2, fun o => z3 o (List.pairwise_singleton _ _)⟩
  rw [List.length_cons, show A.length + (X.length + 1) = A.length + 1 + X.length by omega]
  exact z1
inductive Runs {E : Type} (lt : E → E → Bool) (z : Nat) : List E → Prop
 | last (X : List E) : X.length ≤ z → Srt lt X → Runs lt z X
 | more (X R : List E) : X.length = z → Srt lt X → Runs lt z R → Runs lt z (X ++ R)
theorem Runs.cut {E : Type} {lt : E → E → Bool} {z : Nat} {L : List E} (h : Runs lt z L) : ∀ X R, L = X ++ R → X.length = z → Srt lt X ∧ Runs lt z R := by
 cases h with
 | last _ h1 h2 =>
  intro X R e h3
  subst e
  rw [List.length_append] at h1
  have : R = [] := List.length_eq_zero_iff.1 (by omega)
  subst this
  exact ⟨(jV.1 h2).1, .last _ (by rw [List.length_nil]; omega) List.Pairwise.nil⟩
 | more X' R' h1 h2 h3 =>
  intro X R e h4
  obtain ⟨e1, e2⟩ := List.append_inj e (by omega)
  subst e1 e2
  exact ⟨h2, h3⟩
theorem Runs.one {E : Type} {lt : E → E → Bool} {z : Nat} {L : List E} (h : Runs lt z L) (h2 : L.length ≤ z) : Srt lt L := by
 cases h with
 | last _ _ h => exact h
 | more X R h3 h4 _ =>
  rw [List.length_append] at h2
  have : R = [] := List.length_eq_zero_iff.1 (by omega)
  subst this
  rw [List.append_nil]
  exact h4
theorem blk_ok {E : Type} (lt : E → E → Bool) : ∀ (n : Nat) (A X : List E), X.length ≤ n →
  ∃ Z, blkS lt (A.length + X.length) (A ++ X) A.length = A ++ Z ∧ Z.Perm X ∧ (Ord lt → Runs lt 20 Z) := by
 intro n
 induction n with
 | zero =>
  intro A X h
  rw [blkS, if_neg (by omega)]
  obtain ⟨Z, z1, z2, z3⟩ := zUf lt A X []
  rw [List.append_nil, List.append_nil] at z1
  exact ⟨Z, z1, z2, fun o => .last _ (by rw [z2.length_eq]; omega) (z3 o)⟩
 | succ n ih =>
  intro A X h
  rw [blkS]
  by_cases c : A.length + 20 ≤ A.length + X.length
  ·rw [if_pos c]
   obtain ⟨X1, X2, rfl, hl⟩ := cut2 X 20 (by omega)
   obtain ⟨Z, z1, z2, z3⟩ := zUf lt A X1 X2
   rw [hl] at z1
   rw [z1]
   have hz : Z.length = 20 := by rw [z2.length_eq, hl]
   obtain ⟨W, w1, w2, w3⟩ := ih (A ++ Z) X2 (by rw [List.length_append] at h; omega)
   rw [List.length_append, hz, List.append_assoc, show A.length + 20 + X2.length = A.length + (X1 ++ X2).length by rw [List.length_append]; omega] at w1
   refine ⟨Z ++ W, by rw [w1, List.append_assoc], z2.append w2, fun o => .more _ _ hz (z3 o) (w3 o)⟩
  ·rw [if_neg c]
   obtain ⟨Z, z1, z2, z3⟩ := zUf lt A X []
   rw [List.append_nil, List.append_nil] at z1
   exact ⟨Z, z1, z2, fun o => .last _ (by rw [z2.length_eq]; omega) (z3 o)⟩
theorem join_ok {E : Type} (lt : E → E → Bool) (z : Nat) (hz : 0 < z) : ∀ (n : Nat) (A X : List E), X.length ≤ n →
  ∃ Z, joinS lt (A.length + X.length) z (A ++ X) A.length = A ++ Z ∧ Z.Perm X ∧ (Ord lt → Runs lt z X → Runs lt (2 * z) Z) := by
 intro n
 induction n with
 | zero =>
  intro A X h
  rw [joinS, if_neg (by omega), if_neg (by omega), if_neg (by omega)]
  exact ⟨X, rfl, List.Perm.refl _, fun _ r => .last _ (by omega) (r.one (by omega))⟩
 | succ n ih =>
  intro A X h
  rw [joinS, if_neg (by omega)]
  by_cases c : A.length + 2 * z ≤ A.length + X.length
  ·rw [if_pos c]
   obtain ⟨X1, R1, rfl, hl⟩ := cut2 X z (by omega)
   rw [List.length_append] at c h ⊢
   obtain ⟨X2, R, rfl, hl2⟩ := cut2 R1 z (by omega)
   rw [List.length_append] at c h ⊢
   obtain ⟨Z, z1, z2, z3⟩ := sym_ok lt (2 * z) A X1 X2 R (List.length_pos_iff.1 (by omega)) (List.length_pos_iff.1 (by omega)) (by omega)
   rw [hl, hl2, show A.length + z + z = A.length + 2 * z by omega] at z1
   rw [z1]
   have hZ : Z.length = 2 * z := by rw [z2.length_eq, List.length_append]; omega
   obtain ⟨W, w1, w2, w3⟩ := ih (A ++ Z) R (by omega)
   rw [List.length_append, hZ, List.append_assoc, show A.length + 2 * z + R.length = A.length + (X1.length + (X2.length + R.length)) by omega] at w1
   refine ⟨Z ++ W, by rw [w1, List.append_assoc], ?_, fun o r => ?_⟩
   ·rw [← List.append_assoc]
    exact z2.append w2
   ·obtain ⟨s1, r1⟩ := r.cut _ _ rfl hl
    obtain ⟨s2, r2⟩ := r1.cut _ _ rfl hl2
    exact .more _ _ hZ (z3 o s1 s2) (w3 o r2)
  ·rw [if_neg c]
   by_cases c2 : A.length + z < A.length + X.length
   ·rw [if_pos c2]
    obtain ⟨X1, R, rfl, hl⟩ := cut2 X z (by omega)
    rw [List.length_append] at c h c2 ⊢
    obtain ⟨Z, z1, z2, z3⟩ := sym_ok lt (A.length + (X1.length + R.length) - A.length) A X1 R [] (List.length_pos_iff.1 (by omega)) (List.length_pos_iff.1 (by omega)) (by omega)
    rw [List.append_nil, List.append_nil, show A.length + X1.length + R.length = A.length + (X1.length + R.length) by omega, show A.length + X1.length = A.length + z by omega] at z1
    refine ⟨Z, z1, z2, fun o r => ?_⟩
    obtain ⟨s1, r1⟩ := r.cut _ _ rfl hl
    exact .last _ (by rw [z2.length_eq, List.length_append]; omega) (z3 o s1 (r1.one (by omega)))
   ·rw [if_neg c2]
    exact ⟨X, rfl, List.Perm.refl _, fun _ r => .last _ (by omega) (r.one (by omega))⟩
theorem all_ok {E : Type} (lt : E → E → Bool) : ∀ (n : Nat) (X : List E) (z : Nat), 0 < z → X.length ≤ n + z →
  (allS lt X.length X z).Perm X ∧ (Ord lt → Runs lt z X → Srt lt (allS lt X.length X z)) := by
 intro n
 induction n with
 | zero =>
  intro X z h h2
  rw [allS, if_neg (by omega), if_neg (by omega)]
  exact ⟨List.Perm.refl _, fun _ r => r.one (by omega)⟩
 | succ n ih =>
  intro X z h h2
  rw [allS, if_neg (by omega)]
  by_cases c : z < X.length
  ·rw [if_pos c]
   obtain ⟨Z, z1, z2, z3⟩ := join_ok lt z h X.length [] X (Nat.le_refl _)
   rw [List.nil_append, List.nil_append, List.length_nil, Nat.zero_add] at z1
   rw [z1, ← z2.length_eq]
   obtain ⟨k1, k2⟩ := ih Z (2 * z) (by omega) (by rw [z2.length_eq]; omega)
   exact ⟨k1.trans z2, fun o r => k2 o (z3 o r)⟩
  ·rw [if_neg c]
   exact ⟨List.Perm.refl _, fun _ r => r.one (by omega)⟩
theorem zTt {E : Type} (lt : E → E → Bool) (l : List E) : (stabS lt l).Perm l ∧ (Ord lt → Srt lt (stabS lt l)) := by
 unfold stabS
 obtain ⟨Z, z1, z2, z3⟩ := blk_ok lt l.length [] l (Nat.le_refl _)
 rw [List.nil_append, List.nil_append, List.length_nil, Nat.zero_add] at z1
 rw [z1, ← z2.length_eq]
 obtain ⟨k1, k2⟩ := all_ok lt Z.length Z 20 (by omega) (by omega)
 exact ⟨k1.trans z2, fun o => k2 o (z3 o)⟩
end Go.Proofs.YtdnpkgakpiopgaaGreatDoor

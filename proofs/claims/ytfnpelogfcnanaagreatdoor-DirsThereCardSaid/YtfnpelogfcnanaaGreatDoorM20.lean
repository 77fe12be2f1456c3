/- Contracts and plain laws, several texts joined: RelM, RelN, F18m, RelP. -/
import Derived.Test.YtfnpelogfcnanaaGreatDoorGo
import Derived.Test.YtfnpelogfcnanaaGreatDoorM19
import Derived.Test.YtfnpelogfcnanaaGreatDoorM3
/- What the reference calls the same; what changes it. -/
-- @D
namespace Go.Proofs.YtfnpelogfcnanaaGreatDoor
set_option maxRecDepth 20000
open Go.Awp Tr
theorem zip_get {f : Int → Int → Bool} : ∀ {x y : List KV}, x.length = y.length → (x.zip y).all (sameP f) = true → ∀ nm, (lget nm x).isSome = (lget nm y).isSome ∧ ∀ v, lget nm y = some v → ∃ u, lget nm x = some u ∧ f (beV u) (beV v) = true
  | [], [], _, _, nm => ⟨rfl, fun v h => by cases h⟩
  | [], _ :: _, h, _, _ => by simp at h
  | _ :: _, [], h, _, _ => by simp at h
  | a :: r, b :: q, hl, h, nm => by
    rw [List.zip_cons_cons, List.all_cons, Bool.and_eq_true] at h
    obtain ⟨h1, h2⟩ := h
    have ih := zip_get (by simpa using hl) h2 nm
    unfold sameP at h1
    rw [Bool.and_eq_true, decide_eq_true_eq] at h1
    dsimp only at h1
    unfold lget
    by_cases e : a.1 = nm
    · rw [if_pos e, if_pos (by rw [← h1.1]; exact e)]
      exact ⟨rfl, fun v hv => ⟨_, rfl, by rw [← Option.some.inj hv]; exact h1.2⟩⟩
    · rw [if_neg e, if_neg (by rw [← h1.1]; exact e)]
      exact ih
theorem sameF_at {a b : MF} {n : Nat} {i k : Int} (h : sameF a b (n + 1) i k = true) : ∃ x y, a.at i = some x ∧ b.at k = some y ∧ x.k = y.k ∧ x.n = y.n ∧ x.b = y.b ∧ ∀ nm, (lget nm x.e).isSome = (lget nm y.e).isSome ∧ ∀ v, lget nm y.e = some v → ∃ u, lget nm x.e = some u ∧ sameF a b n (beV u) (beV v) = true := by
  have h : (match a.at i, b.at k with
    | some x, some y => decide (x.k = y.k) && decide (x.n = y.n) && decide (x.b = y.b) && decide (x.e.length = y.e.length) && (x.e.zip y.e).all (sameP (sameF a b n))
    | _, _ => false) = true := h
  cases hx : a.at i with
  | none => rw [hx] at h; cases h
  | some x =>
    cases hy : b.at k with
    | none => rw [hx, hy] at h; cases h
    | some y =>
      rw [hx, hy] at h
      simp only [Bool.and_eq_true, decide_eq_true_eq] at h
      exact ⟨x, y, rfl, rfl, h.1.1.1.1, h.1.1.1.2, h.1.1.2, zip_get h.1.2 h.2⟩
theorem reach_fun {m : MF} {N : List (List UInt8)} {i : Int} (h : Reach m N i) : ∀ {j : Int}, Reach m N j → i = j := by
  induction h with
  | nil =>
    intro j h2
    generalize hN : ([] : List (List UInt8)) = M at h2
    cases h2 with
    | nil => rfl
    | snoc h hd hk hg hi => simp at hN
  | @snoc N d i xd x h hd hk hg hi ih =>
    intro j h2
    generalize hN : N ++ [x] = M at h2
    cases h2 with
    | nil => simp at hN
    | @snoc N2 d2 _ xd2 x2 h' hd' hk' hg' hi' =>
      obtain ⟨e1, e2⟩ := List.append_inj' hN rfl
      injection e2 with e2
      subst e1 e2
      obtain rfl := ih h'
      obtain rfl : xd = xd2 := Option.some.inj (hd.symm.trans hd')
      exact (be4_inj hi hi').1 (Option.some.inj (hg.symm.trans hg'))
theorem same_path {l : List KV} {a b : MF} {par : Int → Int} (R : Rel l a par) (hs : sameF a b 41 1 1 = true) {N : List (List UInt8)} {k : Int} (h : Reach b N k) : ∀ n : Nat, n + N.length = 41 → ∃ i, Reach a N i ∧ sameF a b n i k = true := by
  induction h with
  | nil => intro n hn; exact ⟨1, .nil, by simpa [show n = 41 by simpa using hn] using hs⟩
  | @snoc N d i xd x h hd hk hg hi ih =>
    intro n hn
    rw [List.length_append, List.length_singleton] at hn
    obtain ⟨j, g1, g2⟩ := ih (n + 1) (by omega)
    obtain ⟨y, y2, f1, f2, f3, _, _, f4⟩ := sameF_at g2
    obtain rfl : xd = y2 := Option.some.inj (hd.symm.trans f2)
    obtain ⟨u, u1, u2⟩ := (f4 x).2 _ hg
    obtain ⟨_, c, z, w1, w2, _⟩ := R.nam _ _ f1 _ _ u1
    have hcu := (R.u c z w2).1
    rw [beV_be4 i hi, w1, beV_be4 c hcu] at u2
    exact ⟨c, .snoc g1 f1 (f3.trans hk) (by rw [u1, w1]) hcu, u2⟩
/-- Names that aren't the same at a path of both. -/
theorem not_same {l : List KV} {a b : MF} {par : Int → Int} (R : Rel l a par) {N : List (List UInt8)} {d : Int} (h1 : Reach b N d) (h2 : Reach a N d) (hN : N.length ≤ 40) {x y : MN} (hx : a.at d = some x) (hy : b.at d = some y) (nm : List UInt8) (hne : (lget nm x.e).isSome ≠ (lget nm y.e).isSome) : a.same b = false := by
  rw [Bool.eq_false_iff]
  intro h
  unfold MF.same at h
  rw [Bool.and_eq_true] at h
  obtain ⟨i, g1, g2⟩ := same_path R h.1 h1 (40 - N.length + 1) (by omega)
  obtain rfl := reach_fun h2 g1
  obtain ⟨x', y', f1, f2, _, _, _, f4⟩ := sameF_at g2
  rw [hx] at f1
  rw [hy] at f2
  cases f1; cases f2
  exact hne (f4 nm).1
theorem not_same_len {a b : MF} (h : a.length ≠ b.length) : a.same b = false := by
  unfold MF.same
  rw [decide_eq_false h, Bool.and_false]
/-- Directories stay, with all entries but some. -/
def Keep (m m' : MF) (P : Int → List UInt8 → Prop) : Prop := ∀ d x, m.at d = some x → x.k = 2 → ∃ x', m'.at d = some x' ∧ x'.k = 2 ∧ ∀ nm, ¬ P d nm → lget nm x'.e = lget nm x.e
theorem Keep.refl (m : MF) : Keep m m (fun _ _ => False) := fun d x h k => ⟨x, h, k, fun _ _ => rfl⟩
theorem Keep.trans {m m' m'' : MF} {P Q : Int → List UInt8 → Prop} (h : Keep m m' P) (h2 : Keep m' m'' Q) : Keep m m'' (fun d nm => P d nm ∨ Q d nm) := fun d x hx hk => by
  obtain ⟨x', a1, a2, a3⟩ := h d x hx hk
  obtain ⟨x'', b1, b2, b3⟩ := h2 d x' a1 a2
  exact ⟨x'', b1, b2, fun nm q => (b3 nm fun e => q (.inr e)).trans (a3 nm fun e => q (.inl e))⟩
theorem Keep.linked (m : MF) (j b : Int) : Keep m (m.linked j b) (fun _ _ => False) := fun d x h k => by
  rw [at_linked]
  split
  · rename_i e; subst e; rw [h]; exact ⟨_, rfl, k, fun _ _ => rfl⟩
  · exact ⟨x, h, k, fun _ _ => rfl⟩
theorem nmE_ne {e : List KV} (h : Rises e) {nm m : List UInt8} (j : Int) (hne : nm ≠ m) : lget nm (nmE e m j) = lget nm e := by
  unfold nmE
  split
  · rw [lget_lcut, if_neg hne]
  · rw [lget_lset h, if_neg hne]
theorem Keep.named {m : MF} {c : Nat} (hw : m.wk c) (d0 : Int) (n0 : List UInt8) (j : Int) : Keep m (m.named d0 n0 j) (fun d nm => d = d0 ∧ nm = n0) := fun d x h k => by
  rw [at_named]
  split
  · rename_i e; subst e; rw [h]
    exact ⟨_, rfl, k, fun nm q => nmE_ne (hw.r x (at_mem h).1) j fun e => q ⟨rfl, e⟩⟩
  · exact ⟨x, h, k, fun _ _ => rfl⟩
theorem Keep.without {m : MF} {j : Int} (hj : m.kind j ≠ 2) : Keep m (m.without j) (fun _ _ => False) := fun d x h k => by
  rw [at_without, if_neg]
  · exact ⟨x, h, k, fun _ _ => rfl⟩
  · intro e; subst e; unfold MF.kind at hj; rw [h] at hj; exact hj k
/-- A path to a directory stays, where its entries stay. -/
theorem reach_keep {l : List KV} {m m' : MF} {par : Int → Int} (R : Rel l m par) {P : Int → List UInt8 → Prop} (hK : Keep m m' P) {N : List (List UInt8)} {d : Int} (h : Reach m N d) : (∃ x, m.at d = some x ∧ x.k = 2) → (∀ M dd nm xd i z, Reach m M dd → m.at dd = some xd → lget nm xd.e = some (beB 4 i) → m.at i = some z → z.k = 2 → M ++ [nm] <+: N → ¬ P dd nm) → Reach m' N d := by
  induction h with
  | nil => intro _ _; exact .nil
  | @snoc N d i xd x h hd hk hg hi ih =>
    intro ⟨z, hz, hzk⟩ hP
    obtain ⟨xd', a1, a2, a3⟩ := hK d xd hd hk
    have hr := ih ⟨xd, hd, hk⟩ fun M dd nm xd2 i2 z2 g1 g2 g3 g4 g5 g6 => hP M dd nm xd2 i2 z2 g1 g2 g3 g4 g5 (List.IsPrefix.trans g6 (List.prefix_append _ _))
    exact .snoc hr a1 a2 (by rw [a3 x (hP N d x xd i z h hd hg hz hzk (List.prefix_refl _))]; exact hg) hi
theorem with_length (f : MF) (x : MN) : (f.with x).length = f.length + if (f.at x.i).isSome = true then 0 else 1 := by
  unfold MF.with
  rw [List.length_append, List.length_map]
  split <;> rfl
theorem linked_length (f : MF) (j b : Int) : (f.linked j b).length = f.length := by
  unfold MF.linked
  split
  · rename_i x hx
    rw [with_length]
    have := (at_mem hx).2
    dsimp only
    rw [this, hx]; rfl
  · rfl
theorem named_length (f : MF) (d : Int) (m : List UInt8) (j : Int) : (f.named d m j).length = f.length := by
  unfold MF.named
  split
  · rename_i x hx
    rw [with_length]
    have := (at_mem hx).2
    dsimp only
    rw [this, hx]; rfl
  · rfl
theorem without_length {f : MF} {j : Int} {x : MN} (h : f.at j = some x) : (f.without j).length < f.length := by
  have h1 := at_mem h
  unfold MF.without
  exact List.length_filter_lt_length_iff_exists.2 ⟨x, h1.1, by simp [h1.2]⟩
theorem moved_length (f : MF) (s t : MS) (b : Bool) : (f.moved s t b).length = f.length := by
  unfold MF.moved
  split
  · rw [linked_length, linked_length, named_length, named_length]
  · rw [named_length, named_length]
end Go.Proofs.YtfnpelogfcnanaaGreatDoor

/- An operation that isn't refused changes the model, or writes nothing. -/
-- @D
namespace Go.Proofs.YtfnpelogfcnanaaGreatDoor
set_option maxRecDepth 20000
open Go.Awp Tr
def Lacks (m : MF) (d : Int) (nm : List UInt8) : Prop := ∀ x, m.at d = some x → lget nm x.e = none
theorem lacks_cut (m : MF) (d : Int) (nm : List UInt8) : Lacks (m.named d nm 0) d nm := fun x h => by
  rw [at_named, if_pos rfl] at h
  cases hm : m.at d with
  | none => rw [hm] at h; cases h
  | some y =>
    rw [hm] at h
    obtain rfl := Option.some.inj h
    dsimp only
    rw [nmE_cut, lget_lcut, if_pos rfl]
theorem Lacks.named {m : MF} {c : Nat} (hw : m.wk c) {d : Int} {nm : List UInt8} (h : Lacks m d nm) {d' : Int} {nm' : List UInt8} (hne : ¬ (d = d' ∧ nm = nm')) (j : Int) : Lacks (m.named d' nm' j) d nm := fun x hx => by
  rw [at_named] at hx
  split at hx
  · rename_i e
    subst e
    cases hm : m.at d with
    | none => rw [hm] at hx; cases hx
    | some y =>
      rw [hm] at hx
      obtain rfl := Option.some.inj hx
      dsimp only
      rw [nmE_ne (hw.r y (at_mem hm).1) j (fun e => hne ⟨rfl, e⟩)]
      exact h y hm
  · exact h x hx
theorem Lacks.linked {m : MF} {d : Int} {nm : List UInt8} (h : Lacks m d nm) (j b : Int) : Lacks (m.linked j b) d nm := fun x hx => by
  rw [at_linked] at hx
  split at hx
  · rename_i e
    subst e
    cases hm : m.at d with
    | none => rw [hm] at hx; cases hx
    | some y =>
      rw [hm] at hx
      obtain rfl := Option.some.inj hx
      exact h y hm
  · exact h x hx
theorem prefix_self {α : Type} {A B : List α} {x : α} (h : A ++ [x] <+: B) (e : A = B) : False := by
  have := h.length_le
  rw [List.length_append, List.length_singleton, e] at this
  omega
/-- What moves leaves its name. -/
theorem moved_diff {l l' : List KV} {m m1 : MF} {par par' : Int → Int} (R : Rel l m par) {a b : MS} {dir : Bool} (R' : Rel l' (m1.moved a b dir) par') {c : Nat} (hw : m1.wk c) {P : Int → List UInt8 → Prop} (hK : Keep m m1 P) (hP : ∀ d nm, P d nm → d = b.d ∧ nm = b.m)
    {xd z : MN} (hx : InD m par a.d a.m a.i xd z) (hne : ¬ (a.d = b.d ∧ a.m = b.m)) {N1 : List (List UInt8)} (hN : Reach m N1 a.d) (hl : N1.length ≤ 40) (hb : ∀ xb i w, m.at b.d = some xb → lget b.m xb.e = some (beB 4 i) → m.at i = some w → w.k ≠ 2) : (m1.moved a b dir).same m = false := by
  have w2 := hw.named a.d a.m 0
  have hK2 := hK.trans ((Keep.named hw a.d a.m 0).trans (Keep.named w2 b.d b.m a.i))
  have hla : Lacks ((m1.named a.d a.m 0).named b.d b.m a.i) a.d a.m := (lacks_cut m1 a.d a.m).named w2 hne a.i
  have hfin : Keep m (m1.moved a b dir) (fun d nm => (d = a.d ∧ nm = a.m) ∨ (d = b.d ∧ nm = b.m)) ∧ Lacks (m1.moved a b dir) a.d a.m := by
    unfold MF.moved
    split
    · refine ⟨fun d x h k => ?_, (hla.linked _ _).linked _ _⟩
      obtain ⟨x', a1, a2, a3⟩ := (hK2.trans ((Keep.linked _ a.d (-1)).trans (Keep.linked _ b.d 1))) d x h k
      exact ⟨x', a1, a2, fun nm q => a3 nm (by
        rintro ((h | h | h) | h | h)
        · exact q (.inr (hP _ _ h))
        · exact q (.inl h)
        · exact q (.inr h)
        · exact h
        · exact h)⟩
    · refine ⟨fun d x h k => ?_, hla⟩
      obtain ⟨x', a1, a2, a3⟩ := hK2 d x h k
      exact ⟨x', a1, a2, fun nm q => a3 nm (by
        rintro (h | h | h)
        · exact q (.inr (hP _ _ h))
        · exact q (.inl h)
        · exact q (.inr h))⟩
  obtain ⟨k1, k2⟩ := hfin
  have hr : Reach (m1.moved a b dir) N1 a.d := reach_keep R k1 hN ⟨xd, hx.hd, hx.hk⟩ fun M dd nm xd2 i z2 g1 g2 g3 g4 g5 g6 q => by
    rcases q with ⟨rfl, rfl⟩ | ⟨rfl, rfl⟩
    · exact prefix_self g6 (reach_one R g1 hN hx.hd hx.hk)
    · exact hb _ _ _ g2 g3 g4 g5
  obtain ⟨x', a1, _, _⟩ := k1 a.d xd hx.hd hx.hk
  refine not_same R' hN hr hl a1 hx.hd a.m ?_
  rw [k2 x' a1, hx.hg]
  simp
abbrev Quiet (s : VS) (m : MF) (q : Int × VS) (r : Int × MF) : Prop := q.1 = 21 ∨ q.2.writes = s.writes ∨ r.2.same m = false
theorem make_quiet {s : VS} {n : Nat} (h : VJ s n) {m : MF} {par : Int → Int} (R : Rel s.shown.row m par) (p : List UInt8) {k i : Int} (hi : m.at i = none) : Quiet s m (s.make p k i) (m.make p k i) := by
  obtain ⟨he, hs⟩ := find_sim h R p
  unfold Quiet VS.make MF.make
  rw [he]
  by_cases h0 : (m.findP p).2 ≠ 0
  · rw [if_pos h0]; exact .inr (.inl rfl)
  rw [if_neg h0, if_neg h0]
  have hs := hs (by simpa using h0)
  rw [hs.hi]
  by_cases h1 : (m.findP p).1.i ≠ 0
  · rw [if_pos h1]; exact .inr (.inl rfl)
  rw [if_neg h1, if_neg h1]
  refine .inr (.inr (not_same_len ?_))
  rw [named_length]
  split
  · rw [with_length]; dsimp only; rw [hi]; simp
  · rw [linked_length, with_length]; dsimp only; rw [hi]; simp
theorem removes_quiet {s : VS} {n : Nat} (h : VJ s n) {m : MF} {par : Int → Int} (R : Rel s.shown.row m par) {a : Sp} {z : MN} (hi : m.at a.i = some z) (han : a.n = (z.k, z.n, (z.b.length : Int), par a.i)) (b : MS) (hb3 : b.i = a.i) : ((s.removes a).2.writes = s.writes ∧ (s.removes a).1 ≠ 0) ∨ ((m.rmv b).1 = 0 ∧ (m.rmv b).2.length < m.length) := by
  unfold VS.removes MF.rmv
  dsimp only
  rw [hb3, hi, han]
  dsimp only
  by_cases hk : z.k ≠ 2
  · rw [if_pos hk]; exact .inl ⟨rfl, (by decide : (12 : Int) ≠ 0)⟩
  rw [if_neg hk, if_neg hk]
  have hlen : (namesL a.i s.shown.row).length = z.e.length := by rw [namesL_sub, List.length_map, ← R.ent _ _ hi]
  rw [hlen]
  by_cases he : z.e.length > 0
  · rw [if_pos he]
    left
    exact ⟨by unfold VS.rngE VS.range; split <;> rfl, (by decide : (14 : Int) ≠ 0)⟩
  rw [if_neg he, if_neg he]
  refine .inr ⟨rfl, ?_⟩
  dsimp only
  rw [named_length, linked_length]
  exact without_length hi
theorem remove_quiet {s : VS} {n : Nat} (h : VJ s n) {m : MF} {par : Int → Int} (R : Rel s.shown.row m par) (p : List UInt8) : Quiet s m (s.remove p) (m.remove p) := by
  unfold Quiet VS.remove MF.remove
  rcases there_sim h R p false with ⟨h1, e⟩ | ⟨h1, _, h2, e⟩ | ⟨h1, h2, e⟩ | ⟨h1, h2, h3, e, es⟩
  · rw [e, if_pos h1]; exact .inr (.inl rfl)
  · rw [e, if_pos (by decide)]; exact .inr (.inl rfl)
  · rw [e, if_pos (by decide)]; exact .inr (.inl rfl)
  have h3 := h3 rfl
  rw [e, if_neg (by decide), if_neg (by simpa using h1), if_neg h3, if_neg h2]
  obtain ⟨w, g1, g2⟩ := es.hn (by rw [es.hi]; exact h2)
  rcases removes_quiet (s := s.rdp p) (h.rdp p) R g1 g2 (m.findP p).1 es.hi.symm with ⟨q, _⟩ | ⟨_, q⟩
  · exact .inr (.inl q)
  · exact .inr (.inr (not_same_len (by omega)))
/-- An unlinked file, of which links are left: its name is gone. -/
theorem unlinks_quiet {s : VS} {n c : Nat} (h : VJ s n) {m : MF} {par : Int → Int} (R : Rel s.shown.row m par) (hw : m.wk c) {a : Sp} {z : MN} (hi : m.at a.i = some z) (han : a.n = (z.k, z.n, (z.b.length : Int), par a.i)) (b : MS) (hb3 : b.i = a.i) : ((s.unlinks a).2.writes = s.writes ∧ (s.unlinks a).1 ≠ 0) ∨ ((m.unl b).1 = 0 ∧ z.k = 1 ∧ ((m.unl b).2.length < m.length ∨ (Keep m (m.unl b).2 (fun d nm => d = b.d ∧ nm = b.m) ∧ Lacks (m.unl b).2 b.d b.m))) := by
  unfold VS.unlinks MF.unl
  dsimp only
  rw [hb3, hi, han]
  dsimp only
  by_cases hk : z.k = 2
  · rw [if_pos hk]; exact .inl ⟨rfl, (by decide : (13 : Int) ≠ 0)⟩
  rw [if_neg hk, if_neg hk]
  refine .inr ⟨rfl, (k12 R.toA hi).resolve_right hk, ?_⟩
  dsimp only
  by_cases h1 : z.n = 1
  · rw [if_pos h1]
    left
    rw [named_length]
    exact without_length hi
  · rw [if_neg h1]
    refine .inr ⟨fun d x hd hk => ?_, lacks_cut _ _ _⟩
    obtain ⟨x', a1, a2, a3⟩ := ((Keep.linked m a.i (-1)).trans (Keep.named (hw.linked a.i (-1) (by omega)) b.d b.m 0)) d x hd hk
    exact ⟨x', a1, a2, fun nm q => a3 nm (by rintro (h | h); exact h; exact q h)⟩
theorem unlink_quiet {s : VS} {n c : Nat} (h : VJ s n) {m : MF} {par : Int → Int} (R : Rel s.shown.row m par) (hw : m.wk c) (p : List UInt8) : Quiet s m (s.unlink p) (m.unlink p) := by
  have hsim := unlink_sim h R p
  unfold Quiet
  by_cases h21 : (s.unlink p).1 = 21
  · exact .inl h21
  obtain ⟨_, R'⟩ := hsim.resolve_left h21
  right
  unfold VS.unlink
  rcases there_sim h R p true with ⟨h1, e⟩ | ⟨h1, q, h2, e⟩ | ⟨h1, h2, e⟩ | ⟨h1, h2, h3, e, es⟩
  · rw [e, if_pos h1]; exact .inl rfl
  · cases q
  · rw [e, if_pos (by decide)]; exact .inl rfl
  rw [e, if_neg (by decide)]
  have em : m.unlink p = m.unl (m.findP p).1 := by unfold MF.unlink; rw [if_neg (by simpa using h1), if_neg h2]
  rw [em] at R' ⊢
  obtain ⟨w, g1, g2⟩ := es.hn (by rw [es.hi]; exact h2)
  rcases unlinks_quiet (s := s.rdp p) (h.rdp p) R hw g1 g2 (m.findP p).1 es.hi.symm with ⟨q, _⟩ | ⟨_, k1, q | ⟨q1, q2⟩⟩
  · exact .inl q
  · exact .inr (not_same_len (by omega))
  · right
    have h3 : (m.findP p).1.i ≠ 1 := fun q => by
      obtain ⟨y, f1, f2⟩ := R.root
      rw [es.hi, q, f1] at g1
      cases g1; omega
    obtain ⟨xd, z, hx⟩ := R.ind h1 h2 h3
    obtain ⟨N1, p1, p2, _⟩ := R.path h1 h3
    have h16 := namesP_len p
    rw [p1, List.length_append] at h16
    rw [es.hi, hx.hi] at g1
    obtain rfl := Option.some.inj g1
    have hr := reach_keep R q1 p2 ⟨xd, hx.hd, hx.hk⟩ fun M dd nm xd2 i z2 f1 f2 f3 f4 f5 f6 q => by
      obtain ⟨rfl, rfl⟩ := q
      rw [hx.hd] at f2
      obtain rfl := Option.some.inj f2
      rw [hx.hg] at f3
      have := (be4_inj (R.u _ _ hx.hi).1 (R.u _ _ f4).1).1 (Option.some.inj f3)
      rw [← this, hx.hi] at f4
      cases f4; omega
    obtain ⟨x', a1, _, _⟩ := q1 _ xd hx.hd hx.hk
    refine not_same R' p2 hr (by omega) a1 hx.hd (m.findP p).1.m ?_
    rw [q2 x' a1, hx.hg]; simp
theorem link_quiet {s : VS} {n c : Nat} (h : VJ s n) {m : MF} {par : Int → Int} (R : Rel s.shown.row m par) (hw : m.wk c) (o p : List UInt8) : Quiet s m (s.link o p) (m.link o p) := by
  have hsim := link_sim h R o p
  unfold Quiet
  by_cases h21 : (s.link o p).1 = 21
  · exact .inl h21
  obtain ⟨_, R'⟩ := hsim.resolve_left h21
  right
  unfold VS.link
  rcases there_sim h R o true with ⟨h1, e⟩ | ⟨h1, q, h2, e⟩ | ⟨h1, h2, e⟩ | ⟨h1, h2, h3, e, es⟩
  · rw [e, if_pos h1]; exact .inl rfl
  · cases q
  · rw [e, if_pos (by decide)]; exact .inl rfl
  rw [e, if_neg (by decide)]
  obtain ⟨z, g1, g2⟩ := es.hn (by rw [es.hi]; exact h2)
  rw [g2]
  dsimp only
  by_cases hk : z.k = 2
  · rw [if_pos hk]; exact .inl rfl
  rw [if_neg hk]
  obtain ⟨he, hs⟩ := find_sim (s := s.rdp o) (h.rdp o) R p
  rw [he]
  by_cases h4 : (m.findP p).2 ≠ 0
  · rw [if_pos h4]; exact .inl rfl
  rw [if_neg h4]
  have h4' : (m.findP p).2 = 0 := by simpa using h4
  have hs := hs h4'
  rw [hs.hi]
  by_cases h5 : (m.findP p).1.i ≠ 0
  · rw [if_pos h5]; exact .inl rfl
  rw [if_neg h5]
  by_cases h6 : z.n ≥ 1000
  · rw [if_pos h6]; exact .inl rfl
  right
  have em : m.link o p = (0, (m.linked (m.findP o).1.i 1).named (m.findP p).1.d (m.findP p).1.m (m.findP o).1.i) := by
    unfold MF.link
    rw [if_neg (show ¬ (m.findP o).2 ≠ 0 by simpa using h1), if_neg h2, ← es.hi, g1]
    dsimp only
    rw [if_neg hk, if_neg h4, if_neg h5, if_neg h6]
  rw [em] at R' ⊢
  have h3' : (m.findP p).1.i ≠ 1 := fun q => h5 (by omega)
  obtain ⟨N1, p1, p2, _⟩ := R.path h4' h3'
  have h16 := namesP_len p
  rw [p1, List.length_append] at h16
  rcases R.fnd h4' with e | ⟨xd, hx, _⟩ | ⟨xd, z, hx⟩
  · rw [e] at h3'; exact absurd rfl h3'
  · have w1 := hw.linked (m.findP o).1.i 1 (by omega)
    have hK := (Keep.linked m (m.findP o).1.i 1).trans (Keep.named w1 (m.findP p).1.d (m.findP p).1.m (m.findP o).1.i)
    have hr := reach_keep R hK p2 ⟨xd, hx.hd, hx.hk⟩ fun M dd nm xd2 i z2 f1 f2 f3 f4 f5 f6 q => by
      rcases q with q | ⟨rfl, rfl⟩
      · exact q
      · rw [hx.hd] at f2
        obtain rfl := Option.some.inj f2
        rw [hx.hg] at f3; cases f3
    have hiu := R.u _ _ g1
    rw [es.hi] at hiu
    have hat : ∃ x', ((m.linked (m.findP o).1.i 1).named (m.findP p).1.d (m.findP p).1.m (m.findP o).1.i).at (m.findP p).1.d = some x' ∧ (lget (m.findP p).1.m x'.e).isSome = true := by
      obtain ⟨x1, f1, _, f3⟩ := Keep.linked m (m.findP o).1.i 1 _ xd hx.hd hx.hk
      rw [at_named, if_pos rfl, f1]
      refine ⟨_, rfl, ?_⟩
      dsimp only
      rw [nmE_set hiu.2, lget_lset (w1.r x1 (at_mem f1).1), if_pos rfl]; rfl
    obtain ⟨x', a1, a2⟩ := hat
    refine not_same R' p2 hr (by omega) a1 hx.hd (m.findP p).1.m ?_
    rw [a2, hx.hg]; simp
  · exact absurd hx.h0 h5
theorem rename_quiet {s : VS} {n c : Nat} (h : VJ s n) {m : MF} {par : Int → Int} (R : Rel s.shown.row m par) (hw : m.wk c) (hc : c + 2 ≤ 100000) (o p : List UInt8) : Quiet s m (s.rename o p) (m.rename o p) := by
  have hsim := rename_sim h R hw hc o p
  unfold Quiet
  by_cases h21 : (s.rename o p).1 = 21
  · exact .inl h21
  obtain ⟨_, par', R'⟩ := hsim.resolve_left h21
  clear hsim
  right
  unfold VS.rename at h21 ⊢
  rcases there_sim h R o false with ⟨h1, e⟩ | ⟨h1, _, h2, e⟩ | ⟨h1, h2, e⟩ | ⟨h1, h2, h3, e, es⟩
  · rw [e, if_pos h1]; exact .inl rfl
  · rw [e, if_pos (by decide)]; exact .inl rfl
  · rw [e, if_pos (by decide)]; exact .inl rfl
  have h3 := h3 rfl
  rw [e, if_neg (show ¬ (0 : Int) ≠ 0 by decide)] at h21 ⊢
  unfold MF.rename at R' ⊢
  rw [if_neg (show ¬ (m.findP o).2 ≠ 0 by simpa using h1), if_neg h3, if_neg h2] at R' ⊢
  obtain ⟨he, hs⟩ := find_sim (s := s.rdp o) (h.rdp o) R p
  rw [he] at h21 ⊢
  by_cases h4 : (m.findP p).2 ≠ 0
  · rw [if_pos h4]; exact .inl rfl
  rw [if_neg h4] at h21 R' ⊢
  rw [if_neg h4]
  have h4 : (m.findP p).2 = 0 := by simpa using h4
  have ts := hs h4
  rw [ts.hi, es.hi] at h21 ⊢
  by_cases h5 : (m.findP p).1.i = 1
  · rw [if_pos h5]; exact .inl rfl
  rw [if_neg h5] at h21 R' ⊢
  rw [if_neg h5]
  by_cases h6 : (m.findP p).1.i = (m.findP o).1.i
  · rw [if_pos h6]; exact .inl rfl
  rw [if_neg h6] at h21 R' ⊢
  rw [if_neg h6]
  obtain ⟨xd, z, hx⟩ := R.ind h1 h2 h3
  obtain ⟨w, g1, g2⟩ := es.hn (by rw [es.hi]; exact h2)
  rw [es.hi, hx.hi] at g1
  obtain rfl : z = w := Option.some.inj g1
  obtain ⟨N1, p1, p2, p3⟩ := R.path h1 h3
  have h16 := namesP_len o
  rw [p1, List.length_append] at h16
  have hkz : m.kind (m.findP o).1.i = z.k := by unfold MF.kind; rw [hx.hi]
  rw [hkz] at R' ⊢
  have hak : (s.there o false).1.n.1 = z.k := by rw [g2]
  have hv : VJ ((s.rdp o).rdp p) (n + 33 + 33) := (h.rdp o).rdp p
  have Rr : Rel ((s.rdp o).rdp p).shown.row m par := R
  have hwr : ((s.rdp o).rdp p).writes = s.writes := rfl
  generalize ((s.rdp o).rdp p) = s1 at hv Rr hwr h21
  unfold VS.renameAt at h21 ⊢
  by_cases hun : z.k = 2 ∧ underB (namesP o) (namesP p) = true
  · have e1 : s1.clears (s.there o false).1 ((s.rdp o).find p).1 o p = (15, s1) := by unfold VS.clears; rw [hak, if_pos hun]
    rw [e1, if_pos (show ((15 : Int), s1).1 ≠ 0 from (by decide : (15 : Int) ≠ 0))]
    exact .inl hwr
  rw [if_neg (show ¬ (z.k = 2 && underB (namesP o) (namesP p)) = true by simpa using hun)] at R' ⊢
  have hc1 : ((s.there o false).1.n.1 = 2 ∧ underB (namesP o) (namesP p) = true) ↔ (z.k = 2 ∧ underB (namesP o) (namesP p) = true) := by rw [hak]
  have hcl : s1.clears (s.there o false).1 ((s.rdp o).find p).1 o p = if (m.findP p).1.i = 0 then (0, s1) else if z.k = 2 then s1.removes ((s.rdp o).find p).1 else s1.unlinks ((s.rdp o).find p).1 := by
    unfold VS.clears
    rw [if_neg (fun q => hun (hc1.1 q)), ts.hi, hak]
  rw [hcl] at h21 ⊢
  by_cases h7 : (m.findP p).1.i = 0
  · rw [if_pos h7] at R' ⊢
    rw [if_pos h7]
    right
    rcases R.fnd h4 with e | ⟨xt, ht, _⟩ | ⟨xt, zt, ht⟩
    · rw [e] at h5; exact absurd rfl h5
    · exact moved_diff R R' hw (Keep.refl m) (fun _ _ q => q.elim) hx (fun q => by
        have := hx.hd
        rw [q.1, ht.hd] at this
        have := hx.hg
        rw [← Option.some.inj ‹some xt = some xd›, q.2, ht.hg] at this
        cases this) p2 (by omega) (fun xb i w f1 f2 _ => by
          rw [ht.hd] at f1
          obtain rfl := Option.some.inj f1
          rw [ht.hg] at f2; cases f2)
    · exact absurd h7 ht.h0
  rw [if_neg h7] at h21 R' ⊢
  rw [if_neg h7]
  obtain ⟨xt, zt, ht⟩ := R.ind h4 h7 h5
  obtain ⟨w, f1, f2⟩ := ts.hn (by rw [ts.hi]; exact h7)
  have f1' := f1
  rw [ts.hi, ht.hi] at f1
  obtain rfl : zt = w := Option.some.inj f1
  dsimp only at R' ⊢
  by_cases k2 : z.k = 2
  · rw [if_pos k2] at h21 R' ⊢
    rw [if_pos k2]
    rcases removes_quiet hv Rr f1' f2 (m.findP p).1 ts.hi.symm with ⟨q, q0⟩ | ⟨q0, q⟩
    · rw [if_pos q0]; exact .inl (q.trans hwr)
    · right
      rw [if_neg (by rw [q0]; decide)]
      refine not_same_len ?_
      rw [moved_length]; omega
  · rw [if_neg k2] at h21 R' ⊢
    rw [if_neg k2]
    rcases unlinks_quiet hv Rr hw f1' f2 (m.findP p).1 ts.hi.symm with ⟨q, q0⟩ | ⟨q0, k1, q⟩
    · rw [if_pos q0]; exact .inl (q.trans hwr)
    · right
      rw [if_neg (by rw [q0]; decide)] at R' ⊢
      rcases q with q | ⟨q1, q2⟩
      · refine not_same_len ?_
        rw [moved_length]; omega
      · exact moved_diff R R' (unl_wk hw _) q1 (fun _ _ q => q) hx (fun q => by
          have := hx.hd
          rw [q.1, ht.hd] at this
          have := hx.hg
          rw [← Option.some.inj ‹some xt = some xd›, q.2, ht.hg] at this
          exact h6 ((be4_inj (R.u _ _ ht.hi).1 (R.u _ _ hx.hi).1).1 (Option.some.inj this))) p2 (by omega) (fun xb i w f1 f2 f3 f4 => by
            rw [ht.hd] at f1
            obtain rfl := Option.some.inj f1
            rw [ht.hg] at f2
            have := (be4_inj (R.u _ _ ht.hi).1 (R.u _ _ f3).1).1 (Option.some.inj f2)
            rw [← this, ht.hi] at f3
            cases f3; omega)
end Go.Proofs.YtfnpelogfcnanaaGreatDoor

/- An operation of layer 18: writes, changes. -/
-- @D
namespace Go.Proofs.YtfnpelogfcnanaaGreatDoor
set_option maxRecDepth 20000
open Go.Awp Tr
/-- An operation more, whatever number it makes, if a new one. -/
theorem D18.step0 {s : VS} {m : MF} {i : Nat} (h : D18 s m i) (hi : i ≤ 100) (k : Int) (p o : List UInt8) (j : Int) (hju : U32 j) (hj : 2 + i ≤ j) :
    ((doT s m k p o j).1.2.2 = true ∨ ((doT s m k p o j).1.1 = true ∧ (doT s m k p o j).1.2.2 = false ∧ (∃ par, Rel (doT s m k p o j).2.shown.row (doT s m k p o j).1.2.1 par) ∧ (doT s m k p o j).1.2.1.wk (6 * i + 8) ∧ VJ (doT s m k p o j).2 (200 * i + 200)))
    ∧ (WC s → WC (doT s m k p o j).2) ∧ ((doT s m k p o j).1.2.2 = true ∨ (doT s m k p o j).2.writes = s.writes ∨ (doT s m k p o j).1.2.1.same m = false) := by
  obtain ⟨par, R⟩ := h.r
  have hat : m.at j = none := h.l.none (by omega)
  have key : ∀ (q : Int × VS) (r : Int × MF), (q.1 = 21 ∨ (q.1 = r.1 ∧ ∃ par', Rel q.2.shown.row r.2 par')) → VJ q.2 (200 * i + 200) → r.2.wk (6 * i + 2 + 6) → (WC s → WC q.2) → Quiet s m q r → ∀ t, t = (if q.1 = 21 then ((true, m, true), q.2) else ((decide (q.1 = r.1), r.2, false), q.2)) →
      (t.1.2.2 = true ∨ (t.1.1 = true ∧ t.1.2.2 = false ∧ (∃ par, Rel t.2.shown.row t.1.2.1 par) ∧ t.1.2.1.wk (6 * i + 8) ∧ VJ t.2 (200 * i + 200))) ∧ (WC s → WC t.2) ∧ (t.1.2.2 = true ∨ t.2.writes = s.writes ∨ t.1.2.1.same m = false) := by
    intro q r h1 h2 h3 h4 h5 t ht
    by_cases e : q.1 = 21
    · rw [if_pos e] at ht; subst ht; exact ⟨.inl rfl, h4, .inl rfl⟩
    · rw [if_neg e] at ht
      subst ht
      obtain ⟨h6, h7⟩ := h1.resolve_left e
      exact ⟨.inr ⟨decide_eq_true h6, rfl, h7, h3.mono (by omega), h2⟩, h4, .inr (h5.resolve_left e)⟩
  by_cases h3 : k = 3
  · unfold doT
    rw [if_pos h3]
    obtain ⟨e1, e2⟩ := list_sim h.v R p
    refine ⟨.inr ⟨?_, rfl, ⟨par, by dsimp only; rw [e2]; exact R⟩, h.w.mono (by omega), dlist_ok h.v p⟩, fun hw => hw.dlist p, .inr (.inl ?_)⟩
    · dsimp only
      rw [e1]; simp
    · dsimp only
      unfold VS.dlist
      split
      · rfl
      split
      · rfl
      · dsimp only; unfold VS.rngE VS.range; split <;> rfl
  have hd : doT s m k p o j = if (do18 s m k p o j).1.1 = 21 then ((true, m, true), (do18 s m k p o j).1.2) else ((decide ((do18 s m k p o j).1.1 = (do18 s m k p o j).2.1), (do18 s m k p o j).2.2, false), (do18 s m k p o j).1.2) := by unfold doT; rw [if_neg h3]
  by_cases h0 : k = 0
  · have e : do18 s m k p o j = (s.make p 1 j, m.make p 1 j) := by unfold do18; rw [if_pos h0]
    rw [e] at hd
    exact key _ _ (make_sim h.v R h.w (by omega) p (.inl rfl) hju (by omega) hat) (make_ok h.v p 1 j) (make_wk h.w (by omega) p 1 j) (fun hw => hw.make h.v p 1 j) (make_quiet h.v R p hat) _ hd
  by_cases h1 : k = 1
  · have e : do18 s m k p o j = (s.make p 2 j, m.make p 2 j) := by unfold do18; rw [if_neg h0, if_pos h1]
    rw [e] at hd
    exact key _ _ (make_sim h.v R h.w (by omega) p (.inr rfl) hju (by omega) hat) (make_ok h.v p 2 j) (make_wk h.w (by omega) p 2 j) (fun hw => hw.make h.v p 2 j) (make_quiet h.v R p hat) _ hd
  by_cases h2 : k = 2
  · have e : do18 s m k p o j = (s.remove p, m.remove p) := by unfold do18; rw [if_neg h0, if_neg h1, if_pos h2]
    rw [e] at hd
    exact key _ _ ((remove_sim h.v R h.w (by omega) p).imp_right fun q => ⟨q.1, par, q.2⟩) (remove_ok h.v p) (remove_wk h.w p) (fun hw => hw.remove h.v p) (remove_quiet h.v R p) _ hd
  by_cases h4 : k = 4
  · have e : do18 s m k p o j = (s.link p o, m.link p o) := by unfold do18; rw [if_neg h0, if_neg h1, if_neg h2, if_pos h4]
    rw [e] at hd
    exact key _ _ ((link_sim h.v R p o).imp_right fun q => ⟨q.1, par, q.2⟩) (link_ok h.v p o) (link_wk h.w p o) (fun hw => hw.link h.v p o) (link_quiet h.v R h.w p o) _ hd
  by_cases h5 : k = 5
  · have e : do18 s m k p o j = (s.unlink p, m.unlink p) := by unfold do18; rw [if_neg h0, if_neg h1, if_neg h2, if_neg h4, if_pos h5]
    rw [e] at hd
    exact key _ _ ((unlink_sim h.v R p).imp_right fun q => ⟨q.1, par, q.2⟩) (unlink_ok h.v R p) (unlink_wk h.w p) (fun hw => hw.unlink h.v p) (unlink_quiet h.v R h.w p) _ hd
  by_cases h6 : k = 6
  · have e : do18 s m k p o j = (s.rename p o, m.rename p o) := by unfold do18; rw [if_neg h0, if_neg h1, if_neg h2, if_neg h4, if_neg h5, if_pos h6]
    rw [e] at hd
    exact key _ _ (rename_sim h.v R h.w (by omega) p o) (rename_ok h.v R p o) (rename_wk h.w p o) (fun hw => hw.rename h.v p o) (rename_quiet h.v R h.w (by omega) p o) _ hd
  have e : do18 s m k p o j = ((0, s), (0, m)) := by unfold do18; rw [if_neg h0, if_neg h1, if_neg h2, if_neg h4, if_neg h5, if_neg h6]
  rw [e] at hd
  exact key (0, s) (0, m) (.inr ⟨rfl, par, R⟩) (h.v.mono (by omega)) (h.w.mono (by omega)) (fun hw => hw) (.inr (.inl rfl)) _ hd
end Go.Proofs.YtfnpelogfcnanaaGreatDoor

/- There and back: paths found again; what is moved back is as it was; rows told by their models. -/
-- @D
namespace Go.Proofs.YtfnpelogfcnanaaGreatDoor
set_option maxRecDepth 20000
open Go.Awp Tr
/-- A path to a node is gone through. -/
theorem reach_go {l : List KV} {m : MF} {par : Int → Int} (R : Rel l m par) {N : List (List UInt8)} {d : Int} (h : Reach m N d) : ∃ b, b.i = d ∧ ∀ r, m.go (N ++ r) ⟨0, [], 1⟩ = m.go r b := by
  induction h with
  | nil => exact ⟨⟨0, [], 1⟩, rfl, fun r => rfl⟩
  | @snoc N d i xd x h hd hk hg hi ih =>
    obtain ⟨b, b1, b2⟩ := ih
    refine ⟨⟨d, x, i⟩, rfl, fun r => ?_⟩
    rw [List.append_assoc, b2]
    have hdu := R.u _ _ hd
    show m.go (x :: r) b = _
    have e : m.go (x :: r) b = if b.i = 0 then (ms0, 10) else match m.at b.i with
      | none => (ms0, 0)
      | some n => if n.k ≠ 2 then (ms0, 12) else m.go r ⟨b.i, x, n.entry x⟩ := rfl
    rw [e, b1, if_neg hdu.2, hd]
    dsimp only
    rw [if_neg (by omega)]
    have : xd.entry x = i := by unfold MN.entry; rw [hg]; exact beV_be4 i hi
    rw [this]
theorem reach_find {l : List KV} {m : MF} {par : Int → Int} (R : Rel l m par) {p : List UInt8} {N : List (List UInt8)} {x : List UInt8} {d : Int} {xd : MN} (hs : (splitN p).2 = 0) (hp : namesP p = N ++ [x]) (h : Reach m N d) (hd : m.at d = some xd) (hk : xd.k = 2) : m.findP p = (⟨d, x, xd.entry x⟩, 0) := by
  obtain ⟨b, b1, b2⟩ := reach_go R h
  unfold MF.findP
  rw [if_neg (by simpa using hs), hp, b2]
  have hdu := R.u _ _ hd
  have e : m.go [x] b = if b.i = 0 then (ms0, 10) else match m.at b.i with
    | none => (ms0, 0)
    | some n => if n.k ≠ 2 then (ms0, 12) else m.go [] ⟨b.i, x, n.entry x⟩ := rfl
  rw [e, b1, if_neg hdu.2, hd]
  dsimp only
  rw [if_neg (by omega)]
  rfl
/-- The model where something has moved. -/
theorem moved_at {m : MF} {a b : MS} {dir : Bool} {xd xe : MN} (hd : m.at a.d = some xd) (he : m.at b.d = some xe) (hne : a.d ≠ b.d) (hi0 : a.i ≠ 0) :
    (m.moved a b dir).at = updA (updA m.at a.d (some { xd with n := xd.n + (if dir = true then -1 else 0), e := lcut a.m xd.e })) b.d (some { xe with n := xe.n + (if dir = true then 1 else 0), e := lset b.m (beB 4 a.i) xe.e }) := by
  have he' : updA m.at a.d (some { xd with e := lcut a.m xd.e }) b.d = some xe := by rw [updA_ne _ _ (Ne.symm hne)]; exact he
  have h0 := at_moved0 (nm := a.m) (tm := b.m) hd he' hi0
  unfold MF.moved
  cases dir with
  | false =>
    simp only [Bool.false_eq_true, if_false, Int.add_zero]
    exact h0
  | true =>
    simp only [if_true]
    have hd3 : ((m.named a.d a.m 0).named b.d b.m a.i).at a.d = some { xd with e := lcut a.m xd.e } := by rw [h0, updA_ne _ _ hne]; exact updA_same _ _ _
    have e1 := atE_linked _ a.d (-1) hd3
    have he3 : (((m.named a.d a.m 0).named b.d b.m a.i).linked a.d (-1)).at b.d = some { xe with e := lset b.m (beB 4 a.i) xe.e } := by rw [e1, updA_ne _ _ (Ne.symm hne), h0]; exact updA_same _ _ _
    rw [atE_linked _ b.d 1 he3, e1, h0, updA_comm _ (Ne.symm hne), updA_idem, updA_idem]
theorem moved_at1 {m : MF} {a b : MS} {dir : Bool} {xd : MN} (hd : m.at a.d = some xd) (hne : a.d = b.d) (hi0 : a.i ≠ 0) :
    (m.moved a b dir).at = updA m.at a.d (some { xd with e := lset b.m (beB 4 a.i) (lcut a.m xd.e) }) := by
  have he' : updA m.at a.d (some { xd with e := lcut a.m xd.e }) b.d = some { xd with e := lcut a.m xd.e } := by rw [← hne]; exact updA_same _ _ _
  have h0 := at_moved0 (nm := a.m) (tm := b.m) hd he' hi0
  rw [← hne, updA_idem] at h0
  unfold MF.moved
  rw [← hne]
  cases dir with
  | false => simp only [Bool.false_eq_true, if_false]; exact h0
  | true =>
    simp only [if_true]
    have hd3 : ((m.named a.d a.m 0).named a.d b.m a.i).at a.d = some { xd with e := lset b.m (beB 4 a.i) (lcut a.m xd.e) } := by rw [h0]; exact updA_same _ _ _
    have e1 := atE_linked _ a.d (-1) hd3
    have he3 : (((m.named a.d a.m 0).named a.d b.m a.i).linked a.d (-1)).at a.d = some { xd with n := xd.n + -1, e := lset b.m (beB 4 a.i) (lcut a.m xd.e) } := by rw [e1]; exact updA_same _ _ _
    rw [atE_linked _ a.d 1 he3, e1, h0, updA_idem, updA_idem]
    have e3 : xd.n + -1 + 1 = xd.n := by omega
    dsimp only
    rw [e3]
theorem cut_set {k v : List UInt8} {l : List KV} (h : Rises l) (hn : lget k l = none) : lcut k (lset k v l) = l := by
  refine lget_ext (lcut_rises (lset_rises h)) h fun q => ?_
  rw [lget_lcut, lget_lset h]
  by_cases e : q = k
  · rw [if_pos e, e, hn]
  · rw [if_neg e, if_neg e]
theorem set_cut {k v : List UInt8} {l : List KV} (h : Rises l) (hn : lget k l = some v) : lset k v (lcut k l) = l := by
  refine lget_ext (lset_rises (lcut_rises h)) h fun q => ?_
  rw [lget_lset (lcut_rises h), lget_lcut]
  by_cases e : q = k
  · rw [if_pos e, e, hn]
  · rw [if_neg e, if_neg e]
theorem set_cut2 {k k' v : List UInt8} {l : List KV} (h : Rises l) (hn : lget k l = some v) (hn' : lget k' l = none) : lset k v (lcut k' (lset k' v (lcut k l))) = l := by
  have h1 := lcut_rises (k := k) h
  have h2 := lset_rises (k := k') (v := v) h1
  refine lget_ext (lset_rises (lcut_rises h2)) h fun q => ?_
  rw [lget_lset (lcut_rises h2), lget_lcut, lget_lset h1, lget_lcut]
  by_cases e : q = k
  · rw [if_pos e, e, hn]
  · rw [if_neg e, if_neg e]
    by_cases e2 : q = k'
    · rw [if_pos e2, e2, hn']
    · rw [if_neg e2, if_neg e2]
/-- Moved there and back. -/
theorem moved_back {m : MF} {c : Nat} (hw : m.wk c) {d e i : Int} {nm tm : List UInt8} {xd xe : MN} (dir : Bool) (hd : m.at d = some xd) (hg : lget nm xd.e = some (beB 4 i)) (he : m.at e = some xe) (hn : lget tm xe.e = none) (hi0 : i ≠ 0) :
    ((m.moved ⟨d, nm, i⟩ ⟨e, tm, 0⟩ dir).moved ⟨e, tm, i⟩ ⟨d, nm, 0⟩ dir).at = m.at := by
  have hrd := hw.r xd (at_mem hd).1
  have hre := hw.r xe (at_mem he).1
  by_cases hde : d = e
  · subst hde
    obtain rfl : xd = xe := Option.some.inj (hd.symm.trans he)
    have h1 := moved_at1 (m := m) (a := ⟨d, nm, i⟩) (b := ⟨d, tm, 0⟩) (dir := dir) hd rfl hi0
    have hd2 : (m.moved ⟨d, nm, i⟩ ⟨d, tm, 0⟩ dir).at d = some { xd with e := lset tm (beB 4 i) (lcut nm xd.e) } := by rw [h1]; exact updA_same _ _ _
    rw [moved_at1 (a := ⟨d, tm, i⟩) (b := ⟨d, nm, 0⟩) hd2 rfl hi0, h1, updA_idem]
    dsimp only
    rw [set_cut2 hrd hg hn]
    exact updA_self _ _ hd
  · have h1 := moved_at (m := m) (a := ⟨d, nm, i⟩) (b := ⟨e, tm, 0⟩) (dir := dir) hd he hde hi0
    dsimp only at h1
    have hd2 : (m.moved ⟨d, nm, i⟩ ⟨e, tm, 0⟩ dir).at d = some { xd with n := xd.n + (if dir = true then -1 else 0), e := lcut nm xd.e } := by rw [h1, updA_ne _ _ hde]; exact updA_same _ _ _
    have he2 : (m.moved ⟨d, nm, i⟩ ⟨e, tm, 0⟩ dir).at e = some { xe with n := xe.n + (if dir = true then 1 else 0), e := lset tm (beB 4 i) xe.e } := by rw [h1]; exact updA_same _ _ _
    rw [moved_at (a := ⟨e, tm, i⟩) (b := ⟨d, nm, 0⟩) he2 hd2 (Ne.symm hde) hi0, h1]
    dsimp only
    rw [updA_idem, updA_comm _ (Ne.symm hde), updA_idem, cut_set hre hn, set_cut hrd hg]
    have e1 : xd.n + (if dir = true then -1 else 0) + (if dir = true then 1 else 0) = xd.n := by split <;> omega
    have e2 : xe.n + (if dir = true then 1 else 0) + (if dir = true then -1 else 0) = xe.n := by split <;> omega
    rw [e1, e2]
    funext j
    unfold updA
    split
    · rename_i q; subst q; exact he.symm
    · split
      · rename_i q; subst q; exact hd.symm
      · rfl
/-- An inode's bytes, told by what they mean. -/
theorem getNode_inj {v w : List UInt8} {g : Nd} (hv : getNode v = some g) (hw : getNode w = some g) : v = w := by
  have key : ∀ {v : List UInt8}, getNode v = some g → v = nodeB g.1 g.2.1 g.2.2.1 g.2.2.2 := fun {v} h => by
    unfold getNode at h
    split at h
    · rename_i hh
      injection h with h
      subst h
      exact (nodeB_get hh.1).symm
    · cases h
  rw [key hv, key hw]
/-- A directory's parent, told by its entry. -/
theorem par_at {l : List KV} {m : MF} {par : Int → Int} (R : Rel l m par) {j : Int} {x : MN} (hx : m.at j = some x) (hk : x.k = 2) (h1 : j ≠ 1) : ∃ d y nm, m.at d = some y ∧ lget nm y.e = some (beB 4 j) ∧ par j = d := by
  have hr := R.one j x hx hk
  rw [if_neg h1] at hr
  have hp : 0 < refs j l := by omega
  obtain ⟨y, hy, hb⟩ := List.countP_pos_iff.1 hp
  obtain ⟨c, d, r, hc, hd, hkey⟩ := R.key y hy
  unfold refB at hb
  rw [Bool.and_eq_true, hkey, head_key] at hb
  have hc8 : L8 c := by unfold L8; omega
  obtain rfl := ofNat69 hc8 hb.1
  have hv : y.2 = beB 4 j := by simpa using hb.2
  have hm : (r, y.2) ∈ subL 69 d l := sub_mem.2 (by rw [← hkey]; exact hy)
  cases hA : m.at d with
  | none => rw [R.eno d hd hA] at hm; cases hm
  | some z =>
    have hg : lget r z.e = some (beB 4 j) := by
      rw [R.ent d z hA]
      exact (lget_some (sub_rises R.ri)).2 (by rw [← hv]; exact hm)
    obtain ⟨_, c, w, g1, g2, g3, g4⟩ := R.nam d z hA r _ hg
    have hju := (R.u j x hx).1
    have := (be4_inj hju (R.u c w g2).1).1 g1
    subst this
    obtain rfl : x = w := Option.some.inj (hx.symm.trans g2)
    exact ⟨d, z, r, hA, hg, g4 hk⟩
/-- Rows of the same model. -/
theorem row_eq {l l' : List KV} {m m' : MF} {par par' : Int → Int} (R : Rel l m par) (R' : Rel l' m' par') (ha : m'.at = m.at) (h1 : lget (keyH 73 1) l' = none ↔ lget (keyH 73 1) l = none) : l' = l := by
  have hpar : ∀ j x, m.at j = some x → par' j = par j := fun j x hx => by
    rcases R.kin j x hx with ⟨k2, _⟩ | ⟨_, _, q⟩
    · by_cases e : j = 1
      · rw [e, R.rpar, R'.rpar]
      · obtain ⟨d, y, nm, g1, g2, g3⟩ := par_at R hx k2 e
        obtain ⟨_, c, w, f1, f2, f3, f4⟩ := R'.nam d y (by rw [ha]; exact g1) nm _ g2
        have := (be4_inj (R.u j x hx).1 (R'.u c w f2).1).1 f1
        subst this
        rw [ha, hx] at f2
        obtain rfl := Option.some.inj f2
        rw [f4 k2, g3]
    · rcases R'.kin j x (by rw [ha]; exact hx) with ⟨k2, _⟩ | ⟨_, _, q'⟩
      · have := R.kin j x hx
        omega
      · rw [q, q']
  have key : ∀ c j r, (c = 73 ∧ r = [] ∨ c = 69 ∨ c = 68) → U32 j → lget (keyH c j ++ r) l' = lget (keyH c j ++ r) l := fun c j r hc hj => by
    rcases hc with ⟨rfl, rfl⟩ | rfl | rfl
    · rw [List.append_nil]
      cases hm : m.at j with
      | none => rw [R.non j hj hm, R'.non j hj (by rw [ha]; exact hm)]
      | some x =>
        have n1 := R.nod j x hm
        have n2 := R'.nod j x (by rw [ha]; exact hm)
        rw [hpar j x hm, ← n1] at n2
        cases q1 : lget (keyH 73 j) l with
        | none =>
          cases q2 : lget (keyH 73 j) l' with
          | none => rfl
          | some v =>
            have : j = 1 := by
              rw [q1] at n1
              unfold ndOf at n1
              dsimp only at n1
              split at n1
              · rename_i e; exact e
              · cases n1
            subst this
            rw [h1.2 q1] at q2; cases q2
        | some v =>
          cases q2 : lget (keyH 73 j) l' with
          | none =>
            have : j = 1 := by
              rw [q2, n1] at n2
              unfold ndOf at n2
              dsimp only at n2
              split at n2
              · rename_i e; exact e
              · cases n2
            subst this
            rw [h1.1 q2] at q1; cases q1
          | some w =>
            rw [q1] at n1
            rw [q1, q2, n1] at n2
            exact congrArg some (getNode_inj n2 n1)
    · rw [← sub_get R.ri, ← sub_get R'.ri]
      cases hm : m.at j with
      | none => rw [R.eno j hj hm, R'.eno j hj (by rw [ha]; exact hm)]
      | some x => rw [← R.ent j x hm, ← R'.ent j x (by rw [ha]; exact hm)]
    · rw [← sub_get R.ri, ← sub_get R'.ri]
      cases hm : m.at j with
      | none => rw [R.bno j hj hm, R'.bno j hj (by rw [ha]; exact hm)]
      | some x => rw [R.blk j x hm, R'.blk j x (by rw [ha]; exact hm)]
  refine lget_ext R'.ri R.ri fun k => ?_
  cases q1 : lget k l with
  | some v =>
    obtain ⟨c, j, r, hc, hj, hk⟩ := R.key (k, v) ((lget_some R.ri).1 q1)
    dsimp only at hk
    rw [hk] at q1 ⊢
    rw [key c j r hc hj, q1]
  | none =>
    cases q2 : lget k l' with
    | none => rfl
    | some v =>
      obtain ⟨c, j, r, hc, hj, hk⟩ := R'.key (k, v) ((lget_some R'.ri).1 q2)
      dsimp only at hk
      rw [hk, key c j r hc hj, ← hk, q1] at q2
      cases q2
end Go.Proofs.YtfnpelogfcnanaaGreatDoor

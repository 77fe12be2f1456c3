import Derived.Test.YtdkegmmigongoaaGreatDoorGo
import Derived.Test.YtdkegmmigongoaaGreatDoorM4
namespace Go.Proofs.YtdkegmmigongoaaGreatDoor
set_option maxRecDepth 20000
open Go.Awp
abbrev KV := List UInt8 × List UInt8
def lt (a b : List UInt8) : Prop := Op.bytesLess a b = true
theorem lt_trans {a b c : List UInt8} (h : lt a b) (k : lt b c) : lt a c := bl_trans h k
theorem lt_irrefl (a : List UInt8) : ¬ lt a a := fun h => by unfold lt at h; rw [bl_irrefl] at h; cases h
theorem lt_asymm {a b : List UInt8} (h : lt a b) : ¬ lt b a := fun k => lt_irrefl a (lt_trans h k)
theorem lt_ne {a b : List UInt8} (h : lt a b) : a ≠ b := fun e => by rw [e] at h; exact lt_irrefl b h
theorem lt_cases (a b : List UInt8) : lt a b ∨ a = b ∨ lt b a := by
 unfold lt
 cases h1 : Op.bytesLess a b with
 | true => exact .inl rfl
 | false =>
  cases h2 : Op.bytesLess b a with
  | true => exact .inr (.inr rfl)
  | false => exact .inr (.inl (bl_total h1 h2))
instance (a b : List UInt8) : Decidable (lt a b) := by unfold lt; infer_instance
def Rises (l : List KV) : Prop := l.Pairwise fun a b => lt a.1 b.1
def lset (k v : List UInt8) : List KV → List KV
 | [] => [(k, v)]
 | x :: r => if lt k x.1 then (k, v) :: x :: r else if k = x.1 then (k, v) :: r else x :: lset k v r
def lget (k : List UInt8) : List KV → Option (List UInt8)
 | [] => none
 | x :: r => if x.1 = k then some x.2 else lget k r
def lcut (k : List UInt8) (l : List KV) : List KV := l.filter fun x => !(x.1 == k)
def lrange (a b : List UInt8) (l : List KV) : List KV := l.filter fun x => inR x.1 a b
theorem rises_app {A B : List KV} {x : KV} : Rises (A ++ x :: B) ↔ Rises A ∧ Rises B ∧ (∀ a ∈ A, lt a.1 x.1) ∧ (∀ b ∈ B, lt x.1 b.1) ∧ ∀ a ∈ A, ∀ b ∈ B, lt a.1 b.1 := by
 unfold Rises
 rw [List.pairwise_append, List.pairwise_cons]
 constructor
 ·rintro ⟨h1, ⟨h2, h3⟩, h4⟩
  exact ⟨h1, h3, fun a ha => h4 a ha x (by simp), h2, fun a ha b hb => h4 a ha b (by simp [hb])⟩
 ·rintro ⟨h1, h2, h3, h4, h5⟩
  refine ⟨h1, ⟨h4, h2⟩, fun a ha b hb => ?_⟩
  rcases List.mem_cons.1 hb with rfl | hb
  ·exact h3 a ha
  ·exact h5 a ha b hb
theorem lset_left (k v : List UInt8) (x : KV) (B : List KV) (hk : lt k x.1) : ∀ A : List KV, (∀ a ∈ A, lt a.1 x.1) → lset k v (A ++ x :: B) = lset k v A ++ x :: B
 | [], _ => by simp [lset, hk]
 | a :: A, h => by
  simp only [List.cons_append, lset]
  split
  ·rfl
  ·split
   ·rfl
   ·rw [lset_left k v x B hk A fun b hb => h b (by simp [hb])]; rfl
theorem lset_at (k v : List UInt8) (x : KV) (B : List KV) (hk : k = x.1) : ∀ A : List KV, (∀ a ∈ A, lt a.1 x.1) → lset k v (A ++ x :: B) = A ++ (k, v) :: B
 | [], _ => by subst hk; simp [lset, lt_irrefl]
 | a :: A, h => by
  have h1 := h a (by simp)
  simp only [List.cons_append, lset]
  rw [if_neg (by rw [hk]; exact lt_asymm h1), if_neg (by rw [hk]; exact fun e => lt_ne h1 e.symm), lset_at k v x B hk A fun b hb => h b (by simp [hb])]
theorem lset_right (k v : List UInt8) (x : KV) (B : List KV) (hk : lt x.1 k) : ∀ A : List KV, (∀ a ∈ A, lt a.1 x.1) → lset k v (A ++ x :: B) = A ++ x :: lset k v B
 | [], _ => by simp only [List.nil_append, lset]; rw [if_neg (lt_asymm hk), if_neg fun e => lt_ne hk e.symm]
 | a :: A, h => by
  have h1 := lt_trans (h a (by simp)) hk
  simp only [List.cons_append, lset]
  rw [if_neg (lt_asymm h1), if_neg fun e => lt_ne h1 e.symm, lset_right k v x B hk A fun b hb => h b (by simp [hb])]
theorem lget_none {k : List UInt8} : ∀ {l : List KV}, (∀ x ∈ l, x.1 ≠ k) → lget k l = none
 | [], _ => rfl
 | x :: r, h => by simp only [lget]; rw [if_neg (h x (by simp)), lget_none fun y hy => h y (by simp [hy])]
theorem lget_append (k : List UInt8) : ∀ (A B : List KV), lget k (A ++ B) = (lget k A).or (lget k B)
 | [], B => by simp [lget]
 | a :: A, B => by
  simp only [List.cons_append, lget]
  split
  ·rfl
  ·exact lget_append k A B
theorem lset_mem {k v : List UInt8} : ∀ {l : List KV} {y : KV}, y ∈ lset k v l → y = (k, v) ∨ y ∈ l
 | [], y, h => by simp [lset] at h; exact .inl h
 | x :: r, y, h => by
  simp only [lset] at h
  split at h
  ·rcases List.mem_cons.1 h with h | h
   ·exact .inl h
   ·exact .inr h
  ·split at h
   ·rcases List.mem_cons.1 h with h | h
    ·exact .inl h
    ·exact .inr (by simp [h])
   ·rcases List.mem_cons.1 h with h | h
    ·exact .inr (by simp [h])
    ·rcases lset_mem h with h | h
     ·exact .inl h
     ·exact .inr (by simp [h])
theorem lset_rises {k v : List UInt8} : ∀ {l : List KV}, Rises l → Rises (lset k v l)
 | [], _ => by simp [lset, Rises]
 | x :: r, h => by
  have h' := List.pairwise_cons.1 h
  simp only [lset]
  split
  ·rename_i hk
   refine List.pairwise_cons.2 ⟨fun y hy => ?_, h⟩
   rcases List.mem_cons.1 hy with rfl | hy
   ·exact hk
   ·exact lt_trans hk (h'.1 y hy)
  ·split
   ·rename_i hk
    exact List.pairwise_cons.2 ⟨fun y hy => by rw [hk]; exact h'.1 y hy, h'.2⟩
   ·rename_i h1 h2
    have hk : lt x.1 k := (lt_cases k x.1).elim (fun h => absurd h h1) fun h => h.elim (fun h => absurd h h2) id
    refine List.pairwise_cons.2 ⟨fun y hy => ?_, lset_rises h'.2⟩
    rcases lset_mem hy with rfl | hy
    ·exact hk
    ·exact h'.1 y hy
theorem lcut_rises {k : List UInt8} {l : List KV} (h : Rises l) : Rises (lcut k l) := List.Pairwise.sublist List.filter_sublist h
theorem lcut_none {k : List UInt8} {l : List KV} (h : ∀ x ∈ l, x.1 ≠ k) : lcut k l = l := List.filter_eq_self.2 fun x hx => by simpa using h x hx
namespace Tr
def row : Tr → List KV
 | nil => []
 | node k v l r => l.row ++ (k, v) :: r.row
theorem row_len : ∀ (t : Tr), t.row.length = t.size
 | nil => rfl
 | node k v l r => by simp only [row, size, List.length_append, List.length_cons, row_len l, row_len r]; omega
theorem rotR_row (t : Tr) : t.rotR.row = t.row := by
 unfold rotR; split
 ·simp [row]
 ·rfl
theorem rotL_row (t : Tr) : t.rotL.row = t.row := by
 unfold rotL; split
 ·simp [row]
 ·rfl
theorem join_row (k v : List UInt8) (l r : Tr) : (join k v l r).row = l.row ++ (k, v) :: r.row := by
 unfold join
 split
 ·rw [rotR_row]; split <;> simp only [row, rotL_row]
 ·split
  ·rw [rotL_row]; split <;> simp only [row, rotR_row]
  ·rfl
theorem set_row (k v : List UInt8) : ∀ (t : Tr), Rises t.row → (t.set k v).row = lset k v t.row
 | nil, _ => rfl
 | node k0 v0 l r, h => by
  obtain ⟨h1, h2, h3, h4, _⟩ := rises_app.1 h
  simp only [set, row]
  by_cases hk : Op.bytesLess k k0 = true
  ·rw [if_pos hk, join_row, set_row k v l h1, lset_left k v (k0, v0) r.row hk l.row h3]
  ·rw [if_neg hk]
   by_cases he : k = k0
   ·rw [if_pos he, lset_at k v (k0, v0) r.row he l.row h3]; rfl
   ·rw [if_neg he, join_row, set_row k v r h2]
    have hk2 : lt k0 k := (lt_cases k k0).elim (fun h => absurd h hk) fun h => h.elim (fun h => absurd h he) id
    rw [lset_right k v (k0, v0) r.row hk2 l.row h3]
theorem get_row (k : List UInt8) : ∀ (t : Tr), Rises t.row → t.get k = lget k t.row
 | nil, _ => rfl
 | node k0 v0 l r, h => by
  obtain ⟨h1, h2, h3, h4, _⟩ := rises_app.1 h
  simp only [get, row]
  rw [lget_append]
  by_cases he : k0 = k
  ·rw [if_pos he, lget_none (l := l.row) fun x hx => by rw [← he]; exact lt_ne (h3 x hx)]
   simp [lget, he]
  ·rw [if_neg he]
   by_cases hk : Op.bytesLess k k0 = true
   ·rw [if_pos hk, get_row k l h1]
    have : lget k ((k0, v0) :: r.row) = none := lget_none fun x hx => by
     rcases List.mem_cons.1 hx with rfl | hx
     ·exact he
     ·exact fun e => lt_ne (lt_trans hk (h4 x hx)) e.symm
    rw [this]; cases lget k l.row <;> rfl
   ·rw [if_neg hk, get_row k r h2]
    have hk2 : lt k0 k := (lt_cases k k0).elim (fun h => absurd h hk) fun h => h.elim (fun h => absurd h.symm he) id
    rw [lget_none (l := l.row) fun x hx => lt_ne (lt_trans (h3 x hx) hk2)]
    simp [lget, he]
theorem min_row : ∀ (t : Tr), t ≠ nil → ∃ B, t.row = t.min :: B
 | nil, h => absurd rfl h
 | node k v nil r, _ => ⟨r.row, by simp [row, min]⟩
 | node k v (node k2 v2 a b) r, _ => by
  obtain ⟨B, hB⟩ := min_row (node k2 v2 a b) (by simp)
  refine ⟨B ++ (k, v) :: r.row, ?_⟩
  rw [row, hB]
  rfl
theorem cut_row : ∀ (t : Tr) (k : List UInt8), Rises t.row → (t.cut k).row = lcut k t.row
 | nil, k, _ => rfl
 | node k0 v0 l r, k, h => by
  obtain ⟨h1, h2, h3, h4, h5⟩ := rises_app.1 h
  have happ : lcut k (node k0 v0 l r).row = lcut k l.row ++ lcut k ((k0, v0) :: r.row) := by simp [row, lcut]
  rw [cut_node]
  split
  ·rename_i hn
   rw [get_row k _ h] at hn
   refine (lcut_none fun x hx e => ?_).symm
   have : ∀ l : List KV, lget k l = none → ∀ x ∈ l, x.1 ≠ k := by
    intro l
    induction l with
    | nil => intro _ x hx; simp at hx
    | cons y r ih =>
     intro hg x hx
     simp only [lget] at hg
     split at hg
     ·cases hg
     ·rename_i hy
      rcases List.mem_cons.1 hx with rfl | hx
      ·exact hy
      ·exact ih hg x hx
   exact this _ hn x hx e
  ·by_cases hk : Op.bytesLess k k0 = true
   ·rw [if_pos hk, join_row, cut_row l k h1, happ]
    congr 1
    refine (lcut_none fun x hx => ?_).symm
    rcases List.mem_cons.1 hx with rfl | hx
    ·exact fun e => lt_ne hk e.symm
    ·exact fun e => lt_ne (lt_trans hk (h4 x hx)) e.symm
   ·rw [if_neg hk]
    by_cases he : k = k0
    ·rw [if_pos he, happ]
     have e1 : lcut k l.row = l.row := lcut_none fun x hx => by rw [he]; exact lt_ne (h3 x hx)
     have e2 : lcut k ((k0, v0) :: r.row) = r.row := by
      have : lcut k r.row = r.row := lcut_none fun x hx => by rw [he]; exact fun e => lt_ne (h4 x hx) e.symm
      simp only [lcut, List.filter_cons, he, beq_self_eq_true, Bool.not_true, Bool.false_eq_true, if_false] at this ⊢
      exact this
     rw [e1, e2]
     match l, r with
     | nil, r => simp [row]
     | node a b c d, nil => simp [row]
     | node a b c d, node e f g i =>
      obtain ⟨B, hB⟩ := min_row (node e f g i) (by simp)
      have ih := cut_row (node e f g i) (node e f g i).min.1 h2
      simp only []
      rw [join_row, ih]
      have hr2 := h2
      rw [hB] at hr2
      have hr3 := List.pairwise_cons.1 hr2
      have : lcut (node e f g i).min.1 (node e f g i).row = B := by
       rw [hB]
       have : lcut (node e f g i).min.1 B = B := lcut_none fun x hx => fun e => lt_ne (hr3.1 x hx) e.symm
       simp only [lcut, List.filter_cons, beq_self_eq_true, Bool.not_true, Bool.false_eq_true, if_false] at this ⊢
       exact this
      rw [this, hB]
    ·rw [if_neg he, join_row, cut_row r k h2, happ]
     have hk2 : lt k0 k := (lt_cases k k0).elim (fun h => absurd h hk) fun h => h.elim (fun h => absurd h he) id
     have e1 : lcut k l.row = l.row := lcut_none fun x hx => lt_ne (lt_trans (h3 x hx) hk2)
     have e2 : lcut k ((k0, v0) :: r.row) = (k0, v0) :: lcut k r.row := by
      have : (k0 == k) = false := beq_eq_false_iff_ne.2 fun e => he e.symm
      simp [lcut, this]
     rw [e1, e2]
end Tr
end Go.Proofs.YtdkegmmigongoaaGreatDoor
namespace Go.Proofs.YtdkegmmigongoaaGreatDoor
set_option maxRecDepth 20000
open Go.Awp
namespace Tr
def range (a b : List UInt8) : Tr → List KV
 | nil => []
 | node k v l r => ((if lt a k then l.range a b else []) ++ (if inR k a b = true then [(k, v)] else [])) ++ (if lt k b then r.range a b else [])
theorem range_row (a b : List UInt8) : ∀ (t : Tr), Rises t.row → t.range a b = lrange a b t.row
 | nil, _ => rfl
 | node k v l r, h => by
  obtain ⟨h1, h2, h3, h4, _⟩ := rises_app.1 h
  have e1 : (if lt a k then l.range a b else []) = lrange a b l.row := by
   split
   ·exact range_row a b l h1
   ·rename_i hk
    refine (List.filter_eq_nil_iff.2 fun x hx => ?_).symm
    have : lt x.1 a := by
     rcases lt_cases a k with h | h | h
     ·exact absurd h hk
     ·rw [h]; exact h3 x hx
     ·exact lt_trans (h3 x hx) h
    unfold lt at this
    simp [inR, this]
  have e2 : (if lt k b then r.range a b else []) = lrange a b r.row := by
   split
   ·exact range_row a b r h2
   ·rename_i hk
    refine (List.filter_eq_nil_iff.2 fun x hx => ?_).symm
    have : ¬ lt x.1 b := by
     intro hx2
     exact hk (lt_trans (h4 x hx) hx2)
    unfold lt at this
    simp [inR, this]
  have e3 : lrange a b (node k v l r).row = lrange a b l.row ++ ((if inR k a b = true then [(k, v)] else []) ++ lrange a b r.row) := by
   simp only [row, lrange, List.filter_append, List.filter_cons]
   split <;> simp
  rw [e3, ← e1, ← e2, range, List.append_assoc]
theorem range_len (a b : List UInt8) : ∀ (t : Tr), (t.range a b).length ≤ t.size
 | nil => Nat.le_refl _
 | node k v l r => by
  have h1 := range_len a b l
  have h2 := range_len a b r
  simp only [range, size, List.length_append]
  have e1 : (if lt a k then l.range a b else []).length ≤ l.size := by split <;> first | exact h1 | simp
  have e2 : (if lt k b then r.range a b else []).length ≤ r.size := by split <;> first | exact h2 | simp
  have e3 : (if inR k a b = true then [(k, v)] else [] : List KV).length ≤ 1 := by split <;> simp
  omega
def rank (k : List UInt8) : Tr → Nat
 | nil => 0
 | node k0 _ l r => if lt k0 k then l.size + 1 + r.rank k else l.rank k
end Tr
end Go.Proofs.YtdkegmmigongoaaGreatDoor
namespace Go.Proofs.YtdkegmmigongoaaGreatDoor
set_option maxRecDepth 20000
open Go.Awp Tr
def kvV (x : KV) : AV := .agg [.str x.1, .str x.2, .bool false]
abbrev kvs (l : List KV) : List AV := l.map kvV
theorem kvs_cl (l : List KV) : clR (kvs l) := by
 intro r hr x hx
 obtain ⟨y, _, rfl⟩ := List.mem_map.1 hr
 simp [kvV, cellsOf] at hx
 rcases hx with rfl | rfl | rfl <;> rfl
theorem kvs_size (l : List KV) : ∀ r ∈ kvs l, (cellsOf r).length = 3 := by
 intro r hr
 obtain ⟨y, _, rfl⟩ := List.mem_map.1 hr
 rfl
theorem leB (a k : List UInt8) : (Op.bytesLess a k || a == k) = !Op.bytesLess k a := by
 cases h1 : Op.bytesLess a k with
 | true => rw [bl_asymm h1]; rfl
 | false =>
  cases h2 : Op.bytesLess k a with
  | true =>
   have : (a == k) = false := beq_eq_false_iff_ne.2 fun e => by rw [e, bl_irrefl] at h2; cases h2
   rw [this]; rfl
  | false => rw [bl_total h1 h2]; simp
abbrev pairI : TyI := ⟨.struct [(0, 9), (1, 9), (2, 4)], 3, 40, [.str [], .str [], .bool false]⟩
set_option maxHeartbeats 8000000 in
theorem trange_spec (a b : List UInt8) : ∀ (t : Tr), t.size ≤ big40 → Con Tryz.prog 43 [W t, .p (.str a), .p (.str b)] [] (accT 0 .nils (kvs (t.range a b))) [] (accL 50 3 (kvs (t.range a b)))
 | .nil, h => by
  refine con_of Tryz.func43 rfl (by kernel_rfl) rfl fun F w0 β0 => ?_
  refine K_tell rfl ?_
  refine go ?_
  exact J_give hT rfl rfl
 | .node k v l r, h => by
  simp only [Tr.size] at h
  have c1 := trange_spec a b l (by omega)
  have c2 := (trange_spec a b r (by omega)).frzAcc
  have l1 := range_len a b l
  have l2 := range_len a b r
  have er : (node k v l r).range a b = ((if lt a k then l.range a b else []) ++ (if inR k a b = true then [(k, v)] else [])) ++ (if lt k b then r.range a b else []) := rfl
  rw [er]
  refine con_of Tryz.func43 rfl (by kernel_rfl) rfl fun F w0 β0 => ?_
  refine K_tell rfl ?_
  refine go ?_
  refine J_join [(0, W (node k v l r)), (1, .p (.str a)), (2, .p (.str b)), (7, accT 0 .nils (kvs (if lt a k then l.range a b else [])))] [] (accL 50 3 (kvs (if lt a k then l.range a b else []))) ?_ ?_
  ·refine J_cond rfl (fun hc => ?_) (fun hc => ?_)
   ·rw [if_pos (show lt a k from hc)]
    refine go ?_
    refine K_opM rfl rfl (opr_callE rfl rfl c1 rfl rfl (accT_ren _ _ _ _ _) (by rw [accL_ren])) rfl ?_
    refine K_opM rfl rfl (opr_mv (accT 0 .nils (kvs (l.range a b))) (.inr rfl) rfl) rfl ?_
    refine J_nil ?_
    exact J_at ⟨rfl, rfl, rfl, rfl, trivial⟩ rfl rfl
   ·rw [if_neg (show ¬ lt a k from by unfold lt; rw [hc]; simp)]
    refine go ?_
    exact J_at ⟨rfl, rfl, rfl, rfl, trivial⟩ rfl rfl
  have hA : (if lt a k then l.range a b else []).length ≤ l.size := by split <;> first | exact l1 | simp
  generalize hAA : (if lt a k then l.range a b else []) = A at hA
  refine go ?_
  have hin : ((Op.bytesLess a k || a == k) && Op.bytesLess k b) = inR k a b := by rw [leB]; rfl
  refine J_join [(0, W (node k v l r)), (1, .p (.str a)), (2, .p (.str b)), (7, accT 0 .nils (kvs (A ++ (if inR k a b = true then [(k, v)] else []))))] [] (accL 50 3 (kvs (A ++ (if inR k a b = true then [(k, v)] else [])))) ?_ ?_
  ·refine J_cond rfl (fun hc => ?_) (fun hc => ?_)
   ·rw [hin] at hc
    rw [if_pos hc]
    have emap : kvs (A ++ [(k, v)]) = kvs A ++ [kvV (k, v)] := by simp
    refine J_weak [(0, W (node k v l r)), (1, .p (.str a)), (2, .p (.str b)), (7, accT 0 .nils (kvs A))] ⟨rfl, rfl, rfl, rfl, trivial⟩ ?_
    refine J_draw [accL 50 3 (kvs A), accL 50 3 (kvs (A ++ [(k, v)]))] [11] (by kernel_rfl) (by kernel_rfl) rfl ?_
    refine T_op rfl rfl rfl rfl rfl (opr_mv (accT 0 .nils (kvs A)) (.inl rfl) rfl) rfl ?_
    refine gd2 ?_
    refine T_op rfl rfl rfl rfl rfl (opr_lit hT rfl rfl rfl rfl) rfl ?_
    rw [emap]
    refine T_st rfl rfl rfl rfl (opr_app_acc (te := pairI) (L0 := []) (acc := kvs A) (rows := [kvV (k, v)]) hT rfl rfl rfl (.inl rfl) rfl rfl (.rd (.ps _)) hbs_ps (kvs_cl [(k, v)]) (kvs_size [(k, v)]) (by decide) (by decide) (by unfold big40 at h; simp; omega)) rfl ?_
    refine T_op rfl rfl rfl rfl rfl (opr_mv (accT 0 .nils (kvs A ++ [kvV (k, v)])) (.inr rfl) rfl) rfl ?_
    refine T_nil ?_
    exact J_at ⟨rfl, rfl, rfl, rfl, trivial⟩ rfl rfl
   ·rw [hin] at hc
    rw [if_neg (by rw [hc]; simp), List.append_nil]
    refine go ?_
    exact J_at ⟨rfl, rfl, rfl, rfl, trivial⟩ rfl rfl
  have hB : (A ++ (if inR k a b = true then [(k, v)] else [])).length ≤ l.size + 1 := by
   rw [List.length_append]
   have : (if inR k a b = true then [(k, v)] else [] : List KV).length ≤ 1 := by split <;> simp
   omega
  generalize hBB : (A ++ (if inR k a b = true then [(k, v)] else [])) = B at hB
  clear hAA hA hin hBB
  refine go ?_
  refine J_join [(7, accT 0 .nils (kvs (B ++ (if lt k b then r.range a b else []))))] [] (accL 50 3 (kvs (B ++ (if lt k b then r.range a b else [])))) ?_ ?_
  ·refine J_cond rfl (fun hc => ?_) (fun hc => ?_)
   ·rw [if_pos (show lt k b from hc)]
    have emap : kvs (B ++ r.range a b) = kvs B ++ kvs (r.range a b) := by simp
    refine go ?_
    refine K_opM rfl rfl (opr_mv (accT 0 .nils (kvs B)) (.inl rfl) rfl) rfl ?_
    refine go ?_
    refine K_opM rfl rfl (opr_callE rfl rfl c2 rfl rfl rfl (List.append_nil _)) rfl ?_
    rw [emap]
    refine K_opM rfl rfl (opr_app_acc (te := pairI) (L0 := []) (acc := kvs B) (rows := kvs (r.range a b)) hT rfl rfl rfl (.inl rfl) rfl rfl (.rd (accV_rd (.inl rfl))) (accV_str (.inl rfl)) (kvs_cl _) (kvs_size _) (by decide) (by decide) (by unfold big40 at h; simp; omega)) rfl ?_
    refine K_opM rfl rfl (opr_mv (accT 0 .nils (kvs B ++ kvs (r.range a b))) (.inr rfl) rfl) rfl ?_
    refine J_nil ?_
    exact J_at ⟨rfl, trivial⟩ rfl rfl
   ·rw [if_neg (show ¬ lt k b from by unfold lt; rw [hc]; simp), List.append_nil]
    refine go ?_
    exact J_at ⟨rfl, trivial⟩ rfl rfl
  generalize B ++ (if lt k b then r.range a b else []) = C
  refine go ?_
  refine K_opM rfl rfl (opr_mv (accT 0 .nils (kvs C)) (.inl rfl) rfl) rfl ?_
  refine K_opM rfl rfl (opr_mv (accT 0 .nils (kvs C)) (.inr rfl) rfl) rfl ?_
  refine go ?_
  exact J_give hT rfl rfl
def atZ : Tr → Int → Option KV
 | .nil, _ => none
 | .node k v l r, i => if i < (l.size : Int) then atZ l i else if i > (l.size : Int) then atZ r (i - ((l.size : Int) + 1)) else some (k, v)
theorem atZ_row : ∀ (t : Tr) (i : Int), atZ t i = if i < 0 then none else t.row[i.toNat]?
 | .nil, i => by simp [atZ, Tr.row]
 | .node k v l r, i => by
  have hl := row_len l
  simp only [atZ, Tr.row]
  by_cases h1 : i < (l.size : Int)
  ·rw [if_pos h1, atZ_row l i]
   by_cases h0 : i < 0
   ·rw [if_pos h0, if_pos h0]
   ·rw [if_neg h0, if_neg h0, List.getElem?_append_left (by omega)]
  ·rw [if_neg h1]
   by_cases h2 : i > (l.size : Int)
   ·rw [if_pos h2, atZ_row r, if_neg (by omega), if_neg (by omega), List.getElem?_append_right (by omega), show i.toNat - l.row.length = (i - ((l.size : Int) + 1)).toNat + 1 by omega]
    simp
   ·rw [if_neg h2, if_neg (by omega), List.getElem?_append_right (by omega), show i.toNat - l.row.length = 0 by omega]
    rfl
def atT : Option KV → TV
 | some x => .tup [.agg [.p (.str x.1), .p (.str x.2), .p (.bool false)], .p (.bool true)]
 | none => .tup [.agg [.p (.str []), .p (.str []), .p (.bool false)], .p (.bool false)]
structure AtJ (g : Option KV) where
 t : Tr
 i : Int
 h : atZ t i = g
 b : t.size ≤ big40
 c : -9223372036854775808 ≤ i ∧ i ≤ 9223372036854775807
set_option maxHeartbeats 4000000 in
theorem tat_spec (t : Tr) (i : Int) (ht : t.size ≤ big40) (hi : -9223372036854775808 ≤ i ∧ i ≤ 9223372036854775807) : Con Tryz.prog 63 [W t, .p (.int .i64 i)] [] (atT (atZ t i)) [] [] := by
 generalize hg : atZ t i = g
 refine con_of Tryz.func63 rfl (by kernel_rfl) rfl fun F w0 β0 => ?_
 refine K_tell rfl ?_
 refine go ?_
 refine J_loop (fun s : AtJ g => [(0, W s.t), (1, .p (.int .i64 s.i)), (4, .ad (.l 0) 0)]) (fun _ => []) (fun _ => [.box 50 [.p (.str []), .p (.str []), .p (.bool false)]]) (fun s => s.t.size) ⟨t, i, hg, ht, hi⟩ ⟨rfl, rfl, rfl, trivial⟩ rfl rfl (fun s => ?_)
 obtain ⟨t', i', hz, hb, hc⟩ := s
 clear hg ht hi t i
 cases t' with
 | nil =>
  obtain rfl := hz
  refine go ?_
  exact J_done hT rfl rfl rfl
 | node k v l r =>
  simp only [Tr.size] at hb
  have hb' := hb
  unfold big40 at hb'
  have c1 := tlen_spec l
  refine go ?_
  refine K_op rfl rfl (opr_callP rfl rfl (c1) rfl rfl rfl rfl) rfl ?_
  refine go ?_
  simp only [atZ] at hz
  by_cases h1 : i' < (l.size : Int)
  ·rw [if_pos h1] at hz
   refine K_condT rfl (decide_eq_true h1) ?_
   refine go ?_
   refine J_again ⟨l, i', hz, by omega, hc⟩ (by show l.size < 1 + l.size + r.size; omega) ⟨rfl, rfl, rfl, trivial⟩ rfl rfl
  ·rw [if_neg h1] at hz
   refine K_condF rfl (decide_eq_false h1) ?_
   refine go ?_
   by_cases h2 : i' > (l.size : Int)
   ·rw [if_pos h2] at hz
    refine K_condT rfl (decide_eq_true h2) ?_
    refine go ?_
    refine J_again ⟨r, i' - ((l.size : Int) + 1), hz, by omega, by omega⟩ (by show r.size < 1 + l.size + r.size; omega) ⟨rfl, congrArg (fun z => TV.p (.int .i64 z)) (by dsimp only; rw [IntWalk.i64_in ((l.size : Int) + 1) (by omega), IntWalk.i64_in _ (by omega)]), rfl, trivial⟩ rfl rfl
   ·rw [if_neg h2] at hz
    obtain rfl := hz
    refine K_condF rfl (decide_eq_false h2) ?_
    refine J_seq ?_
    refine J_draw [[.box 50 [.p (.str []), .p (.str []), .p (.bool false)]], [.box 50 [.p (.str k), .p (.str v), .p (.bool false)]]] [9] (by kernel_rfl) (by kernel_rfl) rfl ?_
    refine gd ?_
    refine T_st rfl rfl rfl rfl (stepN_ok hT rfl) rfl ?_
    refine gd ?_
    refine J_then ?_
    refine K_tell rfl ?_
    refine go ?_
    exact J_done hT rfl rfl rfl
structure RankJ (k : List UInt8) (g : Nat) where
 t : Tr
 n : Nat
 h : n + t.rank k = g
theorem kvs_get {l : List KV} {i : Nat} {x : KV} (h : l[i]? = some x) : (kvs l)[i]? = some (kvV x) := by simp [kvs, h]
structure RG (k : List UInt8) (l : List KV) (g : Option (List UInt8)) where
 i : Nat
 h : i ≤ l.length
 e : lget k (l.drop i) = g
abbrev R (d : AV) (l : List KV) : TV := .p (accV d (kvs l))
structure RI (l : List KV) where
 i : Nat
 h : i ≤ l.length
end Go.Proofs.YtdkegmmigongoaaGreatDoor
namespace Go.Proofs.YtdkegmmigongoaaGreatDoor
set_option maxRecDepth 20000
open Go.Awp
end Go.Proofs.YtdkegmmigongoaaGreatDoor
namespace Go.Proofs.YtdkegmmigongoaaGreatDoor
set_option maxRecDepth 20000
open Go.Awp Tr
abbrev PW := List UInt8 × List UInt8 × Bool
structure SI (l m : List PW) where
 i : Nat
 h : i ≤ l.length
 e : l.take i = m.take i
structure LI (n : Nat) where
 k : Nat
 h : 2 ^ k ≤ (n + 1) * (n + 1)
structure TOp where
 kind : Int
 ver : Int
 key : List UInt8
 val : List UInt8
def opV (o : TOp) : AV := .agg [.int .i64 o.kind, .int .u16 o.ver, .str o.key, .str o.val]
def TOp.ok (o : TOp) : Prop := (0 ≤ o.ver ∧ o.ver ≤ 65535) ∧ o.key.length ≤ Go.Awp.reach ∧ o.val.length ≤ Go.Awp.reach
inductive Ops : AV → List TOp → Prop
 | nils : Ops .nils []
 | ps (l : List TOp) : Ops (.ps (l.map opV)) l
theorem Ops.rd {s : AV} {l : List TOp} (h : Ops s l) (H L : List AObj) : Rd H L (.p s) (l.map opV) := by
 cases h with
 | nils => exact .nils
 | ps => exact .ps _
def stopAt (i : Nat) (o : TOp) : Bool := decide (200 ≤ i) || (decide (200 < o.key.length) || decide (200 < o.val.length))
def cutN : List TOp → Nat → Nat
 | [], i => i
 | o :: r, i => if stopAt i o = true then i else cutN r (i + 1)
structure CI (l : List TOp) where
 i : Nat
 h : i ≤ l.length
 e : cutN (l.drop i) i = cutN l 0
end Go.Proofs.YtdkegmmigongoaaGreatDoor

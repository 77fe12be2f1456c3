/- The law TreeOrder: its contract. -/
import Derived.Test.YtbdijekfplpnlaaF10p
import Derived.Test.YtbdijekfplpnlaaGo3
-- @D
namespace Go.Proofs.Ytbdijekfplpnlaa
set_option maxRecDepth 20000
open Go.Awp Tr
/-- A row of texts. -/
inductive Strs : AV → List (List UInt8) → Prop
  | nils : Strs .nils []
  | ps (l : List (List UInt8)) : Strs (.ps (l.map .str)) l
theorem Strs.rd {s : AV} {l : List (List UInt8)} (h : Strs s l) (H L : List AObj) : Rd H L (.p s) (l.map .str) := by
  cases h with
  | nils => exact .nils
  | ps => exact .ps _
theorem shp_strs {a : AV} (h : Shp tab 8 41 a) : ∃ l, Strs a l ∧ (∀ s ∈ l, s.length ≤ Go.Awp.reach) ∧ l.length ≤ big40 * 100 := by
  rcases h.slice rfl with rfl | ⟨rows, te, ls, rfl, hte, hls, hlen, hrows⟩
  · exact ⟨[], .nils, by simp, by simp⟩
  · obtain rfl := Option.some.inj (hte.symm.trans (show tlk tab 9 = some ⟨.str, 1, 16, [.str []]⟩ from rfl))
    obtain rfl := Option.some.inj (hls.symm.trans (show leaves tab 7 9 = some [9] from rfl))
    have key : ∀ rows : List AV, (∀ r ∈ rows, All2 (Shp tab 7) [9] (cellsOf r) ∧ (∀ y, isAggD TyD.str = some false → cellsOf r = [y] → r = y) ∧ (isAggD TyD.str = some true → ∃ cs, r = .agg cs)) → ∃ l : List (List UInt8), rows = l.map .str ∧ ∀ o ∈ l, o.length ≤ Go.Awp.reach := by
      intro rows
      induction rows with
      | nil => intro _; exact ⟨[], rfl, by simp⟩
      | cons r rs ih =>
        intro hr
        obtain ⟨l, hl, hok⟩ := ih fun r' h' => hr r' (by simp [h'])
        obtain ⟨h1, h2, _⟩ := hr r (by simp)
        generalize hT7 : Shp tab 7 = S at h1
        have hcs : ∃ a, cellsOf r = [a] ∧ S 9 a := by
          match cellsOf r, h1 with
          | [a], h1 => exact ⟨a, rfl, h1.1⟩
        subst hT7
        clear h1
        obtain ⟨a, e, ha⟩ := hcs
        obtain rfl := h2 a rfl e
        obtain ⟨k, rfl, hk⟩ := ha.str rfl
        refine ⟨k :: l, by rw [hl]; rfl, ?_⟩
        intro o ho
        rcases List.mem_cons.1 ho with rfl | ho
        · exact hk
        · exact hok o ho
    obtain ⟨l, rfl, hok⟩ := key rows hrows
    refine ⟨l, .ps l, hok, ?_⟩
    unfold Go.Awp.reach at hlen
    unfold big40
    simp only [List.length_map] at hlen
    omega
/-! ### In plain Lean -/
theorem lset_mem_iff {k v : List UInt8} : ∀ {l : List KV}, Rises l → ∀ y : KV, y ∈ lset k v l ↔ y = (k, v) ∨ (y ∈ l ∧ y.1 ≠ k)
  | [], _, y => by simp [lset]
  | x :: r, h, y => by
    have hr := List.pairwise_cons.1 h
    unfold lset
    split
    · rename_i hlt
      simp only [List.mem_cons]
      constructor
      · rintro (h1 | h1 | h1)
        · exact .inl h1
        · exact .inr ⟨.inl h1, by rw [h1]; exact fun e => lt_ne hlt e.symm⟩
        · exact .inr ⟨.inr h1, fun e => lt_ne (lt_trans hlt (hr.1 y h1)) e.symm⟩
      · rintro (h1 | ⟨h1 | h1, _⟩)
        · exact .inl h1
        · exact .inr (.inl h1)
        · exact .inr (.inr h1)
    · split
      · rename_i he
        simp only [List.mem_cons]
        constructor
        · rintro (h1 | h1)
          · exact .inl h1
          · exact .inr ⟨.inr h1, fun e => lt_ne (hr.1 y h1) (by rw [e, he])⟩
        · rintro (h1 | ⟨h1 | h1, h2⟩)
          · exact .inl h1
          · exact absurd (by rw [h1, he]) h2
          · exact .inr h1
      · rename_i he
        simp only [List.mem_cons, lset_mem_iff hr.2 y]
        constructor
        · rintro (h1 | h1 | ⟨h1, h2⟩)
          · exact .inr ⟨.inl h1, by rw [h1]; exact fun e => he e.symm⟩
          · exact .inl h1
          · exact .inr ⟨.inr h1, h2⟩
        · rintro (h1 | ⟨h1 | h1, h2⟩)
          · exact .inr (.inl h1)
          · exact .inl h1
          · exact .inr (.inr ⟨h1, h2⟩)
theorem rises_ext : ∀ {l m : List KV}, Rises l → Rises m → (∀ x, x ∈ l ↔ x ∈ m) → l = m
  | [], [], _, _, _ => rfl
  | [], b :: m, _, _, h => by simpa using (h b).2 (by simp)
  | a :: l, [], _, _, h => by simpa using (h a).1 (by simp)
  | a :: l, b :: m, hl, hm, h => by
    have h1 := List.pairwise_cons.1 hl
    have h2 := List.pairwise_cons.1 hm
    have e : a = b := by
      rcases List.mem_cons.1 ((h a).1 (by simp)) with e | ha
      · exact e
      · rcases List.mem_cons.1 ((h b).2 (by simp)) with e | hb
        · exact e.symm
        · exact absurd (h2.1 a ha) (lt_asymm (h1.1 b hb))
    subst e
    rw [rises_ext h1.2 h2.2 fun x => ?_]
    constructor
    · intro hx
      rcases List.mem_cons.1 ((h x).1 (by simp [hx])) with e | hx2
      · subst e; exact absurd (h1.1 x hx) (lt_irrefl _)
      · exact hx2
    · intro hx
      rcases List.mem_cons.1 ((h x).2 (by simp [hx])) with e | hx2
      · subst e; exact absurd (h2.1 x hx) (lt_irrefl _)
      · exact hx2
/-- A tree with a text as key and value. -/
def put2 (t : Tr) (s : List UInt8) : Tr := t.set s s
theorem put2_size (l : List (List UInt8)) : ∀ t : Tr, (l.foldl put2 t).size ≤ t.size + l.length := by
  induction l with
  | nil => simp
  | cons s r ih =>
    intro t
    have h1 := ih (put2 t s)
    have h2 := set_size s s t
    rw [List.foldl_cons, List.length_cons]
    unfold put2 at h1 ⊢
    omega
theorem put2_row (l : List (List UInt8)) : ∀ t : Tr, Rises t.row → (∀ x ∈ t.row, x.2 = x.1) → Rises (l.foldl put2 t).row ∧ ∀ y, y ∈ (l.foldl put2 t).row ↔ y ∈ t.row ∨ ∃ s ∈ l, y = (s, s) := by
  induction l with
  | nil => intro t h _; simpa using h
  | cons s r ih =>
    intro t h hk
    have e : (put2 t s).row = lset s s t.row := set_row s s t h
    have h2 : Rises (put2 t s).row := by rw [e]; exact lset_rises h
    have hm : ∀ y, y ∈ (put2 t s).row ↔ y = (s, s) ∨ y ∈ t.row := fun y => by
      rw [e, lset_mem_iff h]
      constructor
      · rintro (h1 | ⟨h1, _⟩)
        · exact .inl h1
        · exact .inr h1
      · rintro (h1 | h1)
        · exact .inl h1
        · by_cases hs : y.1 = s
          · refine .inl ?_
            have := hk y h1
            rw [hs] at this
            exact Prod.ext hs this
          · exact .inr ⟨h1, hs⟩
    obtain ⟨i1, i2⟩ := ih (put2 t s) h2 (fun x hx => by
      rcases (hm x).1 hx with rfl | hx
      · rfl
      · exact hk x hx)
    refine ⟨i1, fun y => ?_⟩
    rw [List.foldl_cons, i2, hm]
    simp only [List.mem_cons, exists_eq_or_imp]
    constructor
    · rintro ((h1 | h1) | h1)
      · exact .inr (.inl h1)
      · exact .inl h1
      · exact .inr (.inr h1)
    · rintro (h1 | h1 | h1)
      · exact .inl (.inr h1)
      · exact .inl (.inl h1)
      · exact .inr h1
def rot (l : List (List UInt8)) (k : Nat) : List (List UInt8) := l.drop k ++ l.take k
theorem rot_get {l : List (List UInt8)} {k i : Nat} (hk : k < l.length) (hi : i < l.length) : (rot l k)[i]? = l[(i + k) % l.length]? := by
  unfold rot
  by_cases h : i + k < l.length
  · rw [List.getElem?_append_left (by simp; omega), List.getElem?_drop, Nat.mod_eq_of_lt h, Nat.add_comm]
  · rw [List.getElem?_append_right (by simp; omega), List.length_drop, List.getElem?_take, if_pos (by omega), Nat.mod_eq_sub_mod (by omega), Nat.mod_eq_of_lt (by omega)]
    congr 1; omega
theorem rot_mem {l : List (List UInt8)} {k : Nat} (s : List UInt8) : s ∈ rot l k ↔ s ∈ l := by
  unfold rot
  rw [List.mem_append]
  constructor
  · rintro (h | h)
    · exact List.mem_of_mem_drop h
    · exact List.mem_of_mem_take h
  · intro h
    rw [← List.take_append_drop k l, List.mem_append] at h
    exact h.symm
theorem rot_same (l : List (List UInt8)) (k : Nat) : (l.foldl put2 .nil).row = ((rot l k).foldl put2 .nil).row := by
  obtain ⟨a1, a2⟩ := put2_row l .nil .nil (by simp [row])
  obtain ⟨b1, b2⟩ := put2_row (rot l k) .nil .nil (by simp [row])
  refine rises_ext a1 b1 fun x => ?_
  rw [a2, b2]
  simp only [rot_mem]
structure OI (l : List (List UInt8)) where
  i : Nat
  h : i ≤ l.length
namespace treeOrder
set_option maxHeartbeats 8000000 in
theorem con {a0 a1 : AV} (s0 : Shp tab 8 41 a0) (s1 : Shp tab 8 5 a1) : Con Try.prog 5 [.p a0, .p a1] [] (.p (.bool true)) [] [] := by
  obtain ⟨l, hl, hok, hll⟩ := shp_strs s0
  obtain ⟨by', rfl, hby⟩ := s1.int rfl
  change 0 ≤ by' ∧ by' ≤ 255 at hby
  obtain ⟨byn, rfl⟩ : ∃ n : Nat, by' = (n : Int) := ⟨by'.toNat, by omega⟩
  have hrd := hl.rd []
  have hlen : (l.map AV.str).length = l.length := by simp
  have p6 := fixed10_spec
  unfold big40 at hll
  refine con_of Try.func5 rfl (by kernel_rfl) rfl fun F w0 β0 => ?_
  refine K_tell rfl ?_
  refine go ?_
  refine K_op rfl rfl (opr_len_rd hT rfl rfl (hrd _)) rfl ?_
  rw [hlen]
  refine go ?_
  refine K_opt rfl rfl rfl need1 (fun _ => opr_len_rd hT rfl rfl (hrd _)) rfl ?_
  rw [hlen]
  refine go ?_
  by_cases h200 : (decide ((l.length : Int) > 200) || decide ((l.length : Int) = 0)) = true
  · refine K_condT rfl h200 ?_
    refine go ?_
    refine K_op rfl rfl (opr_callP rfl rfl (p6) rfl rfl rfl rfl) rfl ?_
    refine go ?_
    exact J_done hT rfl rfl rfl
  have h2 : l.length ≤ 200 ∧ 0 < l.length := by
    simp only [Bool.or_eq_true, decide_eq_true_eq, not_or] at h200
    omega
  refine K_condF rfl (by simpa using h200) ?_
  refine go ?_
  refine K_op rfl rfl (opr_callP rfl rfl (tnew_spec) rfl rfl rfl rfl) rfl ?_
  refine go ?_
  refine K_op rfl rfl (opr_callP rfl rfl (tnew_spec) rfl rfl rfl rfl) rfl ?_
  refine go ?_
  refine K_op rfl rfl (opr_len_rd hT rfl rfl (hrd _)) rfl ?_
  rw [hlen]
  refine go ?_
  refine K_op rfl rfl (opr_bin hT rfl (remA (by omega))) rfl ?_
  have ek : (IntKind.i64.wrap (byn : Int)).tmod (l.length : Int) = ((byn % l.length : Nat) : Int) := by
    rw [IntWalk.i64_in _ (by omega)]; exact Int.ofNat_tmod .. ▸ rfl
  rw [ek]
  have hk : byn % l.length < l.length := Nat.mod_lt _ h2.2
  generalize byn % l.length = k at hk
  refine go ?_
  refine K_op rfl rfl (opr_len_rd hT rfl rfl (hrd _)) rfl ?_
  rw [hlen]
  refine go ?_
  refine J_loop (fun q : OI l => [(0, .p a0), (5, W ((l.take q.i).foldl put2 .nil)), (6, W (((rot l k).take q.i).foldl put2 .nil)), (7, .p (.int .i64 (k : Int))), (26, .p a0), (27, .p (.int .i64 (l.length : Int))), (28, .p (.int .i64 (q.i : Int)))]) (fun _ => []) (fun _ => []) (fun q => l.length - q.i) ⟨0, by omega⟩ ⟨rfl, rfl, rfl, rfl, rfl, rfl, rfl, trivial⟩ rfl rfl (fun q => ?_)
  have hi := q.h
  refine go ?_
  by_cases h : q.i < l.length
  · have hx : l[q.i]? = some l[q.i] := List.getElem?_eq_getElem h
    generalize l[q.i] = x at hx
    have hm : (q.i + k) % l.length < l.length := Nat.mod_lt _ h2.2
    have hy : l[(q.i + k) % l.length]? = some l[(q.i + k) % l.length] := List.getElem?_eq_getElem hm
    generalize l[(q.i + k) % l.length] = y at hy
    have hrg : (rot l k)[q.i]? = some y := by rw [rot_get hk h, hy]
    have hxk : (l.map AV.str)[((q.i : Nat) : Int).toNat]? = some (.str x) := by simp [hx]
    have hyk : (l.map AV.str)[(((q.i + k) % l.length : Nat) : Int).toNat]? = some (.str y) := by rw [Int.toNat_natCast, List.getElem?_map, hy]; rfl
    have hfa := fold_take put2 .nil hx
    have hfb := fold_take put2 .nil hrg
    have hsa := put2_size (l.take q.i) .nil
    have hsb := put2_size ((rot l k).take q.i) .nil
    simp only [List.length_take, Tr.size] at hsa hsb
    generalize (l.take q.i).foldl put2 .nil = ta at hfa hsa
    generalize ((rot l k).take q.i).foldl put2 .nil = tb at hfb hsb
    have hta : ta.size + 2 ≤ big40 := by unfold big40; omega
    have htb : tb.size + 2 ≤ big40 := by unfold big40; omega
    refine K_condT rfl (decide_eq_true (by omega)) ?_
    refine go ?_
    refine K_op rfl rfl (opr_index hT rfl rfl rfl rfl rfl (hrd _) (by omega) (by rw [hlen]; omega)) rfl ?_
    refine go ?_
    refine K_op rfl rfl (opr_load_el hT rfl rfl (hrd _) hxk rfl rfl) rfl ?_
    refine go ?_
    by_cases h3 : x.length > 200
    · refine K_condT rfl (decide_eq_true (by omega)) ?_
      refine go ?_
      refine K_op rfl rfl (opr_callP rfl rfl (p6) rfl rfl rfl rfl) rfl ?_
      refine go ?_
      exact J_done hT rfl rfl rfl
    refine K_condF rfl (decide_eq_false (by omega)) ?_
    refine go ?_
    refine K_op rfl rfl (opr_callP rfl rfl (tset_spec x x ta hta) rfl rfl rfl rfl) rfl ?_
    refine go ?_
    refine K_op rfl rfl (opr_len_rd hT rfl rfl (hrd _)) rfl ?_
    rw [hlen]
    refine go ?_
    refine K_op rfl rfl (opr_bin hT rfl (remA (by omega))) rfl ?_
    have em : (IntKind.i64.wrap ((q.i : Int) + (k : Int))).tmod (l.length : Int) = (((q.i + k) % l.length : Nat) : Int) := by
      rw [IntWalk.i64_in _ (by omega), ← Int.natCast_add]; exact Int.ofNat_tmod .. ▸ rfl
    rw [em]
    refine go ?_
    refine K_op rfl rfl (opr_index hT rfl rfl rfl rfl rfl (hrd _) (by omega) (by rw [hlen]; omega)) rfl ?_
    refine go ?_
    refine K_op rfl rfl (opr_load_el hT rfl rfl (hrd _) hyk rfl rfl) rfl ?_
    refine go ?_
    refine K_op rfl rfl (opr_callP rfl rfl (tset_spec y y tb htb) rfl rfl rfl rfl) rfl ?_
    refine go ?_
    refine J_again ⟨q.i + 1, by omega⟩ (by show l.length - (q.i + 1) < l.length - q.i; omega) ⟨rfl, by rw [hfa]; rfl, by rw [hfb]; rfl, rfl, rfl, rfl, congrArg (fun z => TV.p (.int .i64 z)) (by rw [IntWalk.i64_in _ (by omega)]; rfl), trivial⟩ rfl rfl
  have e1 : l.take q.i = l := List.take_of_length_le (by omega)
  have e2 : (rot l k).take q.i = rot l k := List.take_of_length_le (by unfold rot; simp; omega)
  rw [e1, e2]
  have hsa := put2_size l .nil
  obtain ⟨r1, _⟩ := put2_row l .nil .nil (by simp [row])
  obtain ⟨r2, _⟩ := put2_row (rot l k) .nil .nil (by simp [row])
  have hrow := rot_same l k
  generalize l.foldl put2 .nil = ta at hsa r1 hrow
  generalize (rot l k).foldl put2 .nil = tb at r2 hrow
  have hsz : tb.size = ta.size := by rw [← row_len, ← row_len, hrow]
  have hrg : tb.range [] [255, 255, 255, 255] = ta.range [] [255, 255, 255, 255] := by rw [range_row _ _ _ r1, range_row _ _ _ r2, hrow]
  simp only [Tr.size] at hsa
  have hta : ta.size ≤ big40 := by unfold big40; omega
  have hrl : (ta.range [] [255, 255, 255, 255]).length ≤ big40 := Nat.le_trans (range_len ..) hta
  have c1 := (trange_spec [] [255, 255, 255, 255] ta hta).frzAcc
  have c2 := (trange_spec [] [255, 255, 255, 255] tb (by rw [hsz]; exact hta)).frzAcc
  have c0 := tlen_spec tb
  rw [hrg] at c2
  rw [hsz] at c0
  have c3 := rsame10_spec .nils .nils (.inl rfl) (.inl rfl) (ta.range [] [255, 255, 255, 255]) (ta.range [] [255, 255, 255, 255]) hrl hrl
  rw [decide_eq_true rfl] at c3
  generalize ta.range [] [255, 255, 255, 255] = r at c1 c2 c3
  refine K_condF rfl (decide_eq_false (by omega)) ?_
  refine go ?_
  refine K_op rfl rfl (opr_callP rfl rfl (p6) rfl rfl rfl rfl) rfl ?_
  refine go ?_
  refine K_yes rfl rfl rfl (opr_callP rfl rfl (tlen_spec ta) rfl rfl rfl rfl) rfl ?_
  refine go ?_
  refine K_yes rfl rfl rfl (opr_callP rfl rfl (c0) rfl rfl rfl rfl) rfl ?_
  refine gx ?_
  rw [show ((ta.size : Int) == (ta.size : Int)) = true from beq_self_eq_true _]
  refine go ?_
  refine K_yes rfl rfl rfl (opr_callP rfl rfl (c1) rfl rfl rfl rfl) rfl ?_
  refine go ?_
  refine K_yes rfl rfl rfl (opr_callP rfl rfl (c2) rfl rfl rfl rfl) rfl ?_
  refine go ?_
  refine K_yes rfl rfl rfl (opr_callP rfl rfl (c3) rfl rfl rfl rfl) rfl ?_
  refine go ?_
  exact J_done hT rfl rfl rfl
end treeOrder
end Go.Proofs.Ytbdijekfplpnlaa

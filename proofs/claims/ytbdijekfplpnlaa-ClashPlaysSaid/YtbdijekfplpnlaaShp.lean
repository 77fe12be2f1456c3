/- Rows as they are read; how far a row is gone through. -/
import Derived.Test.YtbdijekfplpnlaaGo3
-- @D
namespace Go.Proofs.Ytbdijekfplpnlaa
set_option maxRecDepth 20000
open Go.Awp
/-- A slice that stays, of rows. -/
inductive Sl {α : Type} (mk : α → AV) : AV → List α → Prop
  | nils : Sl mk .nils []
  | ps (l : List α) : Sl mk (.ps (l.map mk)) l
theorem Sl.rd {α : Type} {mk : α → AV} {s : AV} {l : List α} (h : Sl mk s l) (H L : List AObj) : Rd H L (.p s) (l.map mk) := by
  cases h with
  | nils => exact .nils
  | ps => exact .ps _
theorem shp_agg {α : Type} (mk : α → AV) (ok : α → Prop) {t e : Nat} {te : TyI} {ls : List Nat} {a : AV} (h : Shp tab 8 t a) (ht : tyD tab t = .slice e) (hte : tlk tab e = some te) (hls : leaves tab 7 e = some ls) (hag : isAggD te.d = some true) (hb : 0 < te.bytes)
    (hrow : ∀ cs, All2 (Shp tab 7) ls cs → ∃ x, AV.agg cs = mk x ∧ ok x) : ∃ l, Sl mk a l ∧ (∀ x ∈ l, ok x) ∧ l.length ≤ 140737488355328 := by
  rcases h.slice ht with rfl | ⟨rows, te', ls', rfl, hte', hls', hlen, hrows⟩
  · exact ⟨[], .nils, by simp, by simp⟩
  · rw [hte] at hte'
    obtain rfl := Option.some.inj hte'
    rw [hls] at hls'
    obtain rfl := Option.some.inj hls'
    have key : ∀ rows : List AV, (∀ r ∈ rows, All2 (Shp tab 7) ls (cellsOf r) ∧ (∀ y, isAggD te.d = some false → cellsOf r = [y] → r = y) ∧ (isAggD te.d = some true → ∃ cs, r = .agg cs)) → ∃ l : List α, rows = l.map mk ∧ ∀ x ∈ l, ok x := by
      intro rows
      induction rows with
      | nil => intro _; exact ⟨[], rfl, by simp⟩
      | cons r rs ih =>
        intro hr
        obtain ⟨l, hl, hok⟩ := ih fun r' h' => hr r' (by simp [h'])
        obtain ⟨h1, _, h2⟩ := hr r (by simp)
        obtain ⟨cs, rfl⟩ := h2 hag
        obtain ⟨x, hx, hxo⟩ := hrow cs h1
        refine ⟨x :: l, by rw [hl, hx]; rfl, fun o ho => ?_⟩
        rcases List.mem_cons.1 ho with rfl | ho
        · exact hxo
        · exact hok o ho
    obtain ⟨l, rfl, hok⟩ := key rows hrows
    refine ⟨l, .ps l, hok, ?_⟩
    unfold Go.Awp.reach at hlen
    have := Nat.le_mul_of_pos_right (l.map mk).length hb
    simp only [List.length_map] at hlen this
    omega
theorem shp_one {α : Type} (mk : α → AV) (ok : α → Prop) {t e : Nat} {te : TyI} {a : AV} (h : Shp tab 8 t a) (ht : tyD tab t = .slice e) (hte : tlk tab e = some te) (hls : leaves tab 7 e = some [e]) (hag : isAggD te.d = some false) (hb : 0 < te.bytes)
    (hrow : ∀ y, Shp tab 7 e y → ∃ x, y = mk x ∧ ok x) : ∃ l, Sl mk a l ∧ (∀ x ∈ l, ok x) ∧ l.length ≤ 140737488355328 := by
  rcases h.slice ht with rfl | ⟨rows, te', ls', rfl, hte', hls', hlen, hrows⟩
  · exact ⟨[], .nils, by simp, by simp⟩
  · rw [hte] at hte'
    obtain rfl := Option.some.inj hte'
    rw [hls] at hls'
    obtain rfl := Option.some.inj hls'
    have key : ∀ rows : List AV, (∀ r ∈ rows, All2 (Shp tab 7) [e] (cellsOf r) ∧ (∀ y, isAggD te.d = some false → cellsOf r = [y] → r = y) ∧ (isAggD te.d = some true → ∃ cs, r = .agg cs)) → ∃ l : List α, rows = l.map mk ∧ ∀ x ∈ l, ok x := by
      intro rows
      induction rows with
      | nil => intro _; exact ⟨[], rfl, by simp⟩
      | cons r rs ih =>
        intro hr
        obtain ⟨l, hl, hok⟩ := ih fun r' h' => hr r' (by simp [h'])
        obtain ⟨h1, h2, _⟩ := hr r (by simp)
        generalize hT7 : Shp tab 7 = S at h1 hrow
        obtain ⟨y, hy, hys⟩ : ∃ y, cellsOf r = [y] ∧ S e y := by
          match cellsOf r, h1 with
          | [y], h1 => exact ⟨y, rfl, h1.1⟩
        obtain rfl := h2 y hag hy
        obtain ⟨x, hx, hxo⟩ := hrow _ hys
        refine ⟨x :: l, by rw [hl, hx]; rfl, fun o ho => ?_⟩
        rcases List.mem_cons.1 ho with rfl | ho
        · exact hxo
        · exact hok o ho
    obtain ⟨l, rfl, hok⟩ := key rows hrows
    refine ⟨l, .ps l, hok, ?_⟩
    unfold Go.Awp.reach at hlen
    have := Nat.le_mul_of_pos_right (l.map mk).length hb
    simp only [List.length_map] at hlen this
    omega
theorem all2_3 {R : Nat → AV → Prop} {a b c : Nat} {cs : List AV} (h : All2 R [a, b, c] cs) : ∃ x y z, cs = [x, y, z] ∧ R a x ∧ R b y ∧ R c z := by
  match cs, h with
  | [x, y, z], h => exact ⟨x, y, z, rfl, h.1, h.2.1, h.2.2.1⟩
theorem all2_2 {R : Nat → AV → Prop} {a b : Nat} {cs : List AV} (h : All2 R [a, b] cs) : ∃ x y, cs = [x, y] ∧ R a x ∧ R b y := by
  match cs, h with
  | [x, y], h => exact ⟨x, y, rfl, h.1, h.2.1⟩
/-! ### How far a row is gone through -/
section
variable {α : Type} (stop : Nat → α → Bool)
def cutG : List α → Nat → Nat
  | [], i => i
  | o :: r, i => if stop i o = true then i else cutG r (i + 1)
theorem cutG_step {l : List α} {i : Nat} {o : α} (h : l[i]? = some o) : cutG stop (l.drop i) i = if stop i o = true then i else cutG stop (l.drop (i + 1)) (i + 1) := by
  obtain ⟨h2, rfl⟩ := List.getElem?_eq_some_iff.1 h
  rw [List.drop_eq_getElem_cons h2]
  rfl
theorem cutG_end {l : List α} {i : Nat} (h : l.length ≤ i) : cutG stop (l.drop i) i = i := by
  rw [List.drop_eq_nil_of_le h]; rfl
theorem cutG_le : ∀ (l : List α) (i : Nat), cutG stop l i ≤ i + l.length
  | [], i => by simp [cutG]
  | o :: r, i => by
    have := cutG_le r (i + 1)
    unfold cutG
    split
    · simp
    · simp only [List.length_cons]; omega
theorem cutG_max {n : Nat} (hn : ∀ i o, n ≤ i → stop i o = true) : ∀ (l : List α) (i : Nat), i ≤ n → cutG stop l i ≤ n
  | [], _, h => h
  | o :: r, i, h => by
    unfold cutG
    split
    · exact h
    · rename_i hs
      refine cutG_max hn r (i + 1) ?_
      rcases Nat.lt_or_ge i n with h1 | h1
      · omega
      · exact absurd (hn i o h1) hs
theorem cutG_all : ∀ (l : List α) (i : Nat), ∀ x ∈ l.take (cutG stop l i - i), ∃ j, stop j x = false
  | [], i, x, h => by simp [cutG] at h
  | o :: r, i, x, h => by
    unfold cutG at h
    split at h
    · simp at h
    · rename_i hs
      have hle : i + 1 ≤ cutG stop r (i + 1) := by
        have : ∀ (l : List α) (i : Nat), i ≤ cutG stop l i := by
          intro l
          induction l with
          | nil => intro i; exact Nat.le_refl _
          | cons a l ih =>
            intro i
            unfold cutG
            split
            · exact Nat.le_refl _
            · have := ih (i + 1); omega
        exact this r (i + 1)
      rw [show cutG stop r (i + 1) - i = (cutG stop r (i + 1) - (i + 1)) + 1 by omega, List.take_succ_cons, List.mem_cons] at h
      rcases h with rfl | h
      · exact ⟨i, by simpa using hs⟩
      · exact cutG_all r (i + 1) x h
structure CG (l : List α) where
  i : Nat
  h : i ≤ l.length
  e : cutG stop (l.drop i) i = cutG stop l 0
end
end Go.Proofs.Ytbdijekfplpnlaa

/- The laws of layer 10: operations as they are read, cut. -/
import Derived.Test.YtbdijekfplpnlaaGo
import Derived.Test.YtbdijekfplpnlaaF10n
-- @D
namespace Go.Proofs.Ytbdijekfplpnlaa
set_option maxRecDepth 20000
open Go.Awp Tr
/-- An operation: what kind, of which version, key, value. -/
structure TOp where
  kind : Int
  ver : Int
  key : List UInt8
  val : List UInt8
def opV (o : TOp) : AV := .agg [.int .i64 o.kind, .int .u16 o.ver, .str o.key, .str o.val]
def TOp.ok (o : TOp) : Prop := (0 ≤ o.ver ∧ o.ver ≤ 65535) ∧ o.key.length ≤ Go.Awp.reach ∧ o.val.length ≤ Go.Awp.reach
inductive Ops : AV → List TOp → Prop
  | nils : Ops .nils []
  | ps (l : List TOp) : Ops (.ps (l.map opV)) l
theorem Ops.rd {s : AV} {l : List TOp} (h : Ops s l) (H L : List AObj) : Rd H L (.p s) (l.map opV) := by
  cases h with
  | nils => exact .nils
  | ps => exact .ps _
theorem shp_ops {a : AV} (h : Shp tab 8 22 a) : ∃ l, Ops a l ∧ (∀ o ∈ l, o.ok) ∧ l.length ≤ big40 * 100 := by
  rcases h.slice rfl with rfl | ⟨rows, te, ls, rfl, hte, hls, hlen, hrows⟩
  · exact ⟨[], .nils, by simp, by simp⟩
  · obtain rfl := Option.some.inj (hte.symm.trans (show tlk tab 31 = some ⟨.struct [(0, 3), (1, 23), (2, 9), (3, 9)], 4, 48, [.int .i64 0, .int .u16 0, .str [], .str []]⟩ from rfl))
    obtain rfl := Option.some.inj (hls.symm.trans (show leaves tab 7 31 = some [3, 23, 9, 9] from rfl))
    have key : ∀ rows : List AV, (∀ r ∈ rows, All2 (Shp tab 7) [3, 23, 9, 9] (cellsOf r) ∧ (∀ y, isAggD (TyD.struct [(0, 3), (1, 23), (2, 9), (3, 9)]) = some false → cellsOf r = [y] → r = y) ∧ (isAggD (TyD.struct [(0, 3), (1, 23), (2, 9), (3, 9)]) = some true → ∃ cs, r = .agg cs)) → ∃ l : List TOp, rows = l.map opV ∧ ∀ o ∈ l, o.ok := by
      intro rows
      induction rows with
      | nil => intro _; exact ⟨[], rfl, by simp⟩
      | cons r rs ih =>
        intro hr
        obtain ⟨l, hl, hok⟩ := ih fun r' h' => hr r' (by simp [h'])
        obtain ⟨h1, _, h2⟩ := hr r (by simp)
        obtain ⟨cs, rfl⟩ := h2 rfl
        replace h1 : All2 (Shp tab 7) [3, 23, 9, 9] cs := h1
        generalize hT7 : Shp tab 7 = S at h1
        have hcs : ∃ a b c d, cs = [a, b, c, d] ∧ S 3 a ∧ S 23 b ∧ S 9 c ∧ S 9 d := by
          match cs, h1 with
          | [a, b, c, d], h1 => exact ⟨a, b, c, d, rfl, h1.1, h1.2.1, h1.2.2.1, h1.2.2.2.1⟩
        subst hT7
        clear h1
        obtain ⟨a, b, c, d, rfl, ha, hb, hc, hd⟩ := hcs
        · obtain ⟨n, rfl, _⟩ := ha.int rfl
          obtain ⟨m, rfl, hm⟩ := hb.int rfl
          obtain ⟨k, rfl, hk⟩ := hc.str rfl
          obtain ⟨v, rfl, hv⟩ := hd.str rfl
          change 0 ≤ m ∧ m ≤ 65535 at hm
          refine ⟨⟨n, m, k, v⟩ :: l, by rw [hl]; rfl, ?_⟩
          intro o ho
          rcases List.mem_cons.1 ho with rfl | ho
          · exact ⟨hm, hk, hv⟩
          · exact hok o ho
    obtain ⟨l, rfl, hok⟩ := key rows hrows
    refine ⟨l, .ps l, hok, ?_⟩
    unfold Go.Awp.reach at hlen
    unfold big40
    simp only [List.length_map] at hlen
    omega
/-- How many operations are gone through. -/
def stopAt (i : Nat) (o : TOp) : Bool := decide (200 ≤ i) || (decide (200 < o.key.length) || decide (200 < o.val.length))
def cutN : List TOp → Nat → Nat
  | [], i => i
  | o :: r, i => if stopAt i o = true then i else cutN r (i + 1)
end Go.Proofs.Ytbdijekfplpnlaa

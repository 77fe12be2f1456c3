/- clash: shapes of its laws' arguments. -/
import Derived.Test.YtbdijekfplpnlaaGo
import Derived.Test.YtbdijekfplpnlaaF21c
-- @D
namespace Go.Proofs.Ytbdijekfplpnlaa
set_option maxRecDepth 20000
open Go.Awp Tr
theorem pws_shp {a : AV} (h : Shp tab 8 37 a) : ∃ l : List PW, Sl pwV a l ∧ (∀ x ∈ l, x.1.length ≤ Go.Awp.reach ∧ x.2.1.length ≤ Go.Awp.reach) ∧ l.length ≤ 140737488355328 :=
  shp_agg pwV _ h rfl rfl rfl rfl (by decide) fun cs hc => by
    obtain ⟨x, y, z, rfl, hx, hy, hz⟩ := all2_3 hc
    obtain ⟨k, rfl, hk⟩ := hx.str rfl
    obtain ⟨v, rfl, hv⟩ := hy.str rfl
    obtain ⟨b, rfl⟩ := hz.bool rfl
    exact ⟨(k, v, b), rfl, hk, hv⟩
theorem Sl.not {α : Type} {mk : α → AV} {s : AV} {l : List α} (h : Sl mk s l) : false = true ↔ ∃ m, TV.p s = .p (.str m) := by
  cases h with
  | nils => simp
  | ps => simp
theorem u64_in (n : Int) (h : 0 ≤ n ∧ n ≤ 18446744073709551615) : IntKind.u64.wrap n = n := by
  simp [IntKind.wrap, IntKind.bits, IntKind.signed]
  omega
theorem str_cl (l : List (List UInt8)) : clR (l.map AV.str) := by
  intro r hr x hx
  obtain ⟨y, _, rfl⟩ := List.mem_map.1 hr
  simp [cellsOf] at hx
  subst hx
  rfl
theorem str_size (l : List (List UInt8)) : ∀ r ∈ l.map AV.str, (cellsOf r).length = 1 := by
  intro r hr
  obtain ⟨y, _, rfl⟩ := List.mem_map.1 hr
  rfl
theorem pw_cl (l : List PW) : clR (l.map pwV) := by
  intro r hr x hx
  obtain ⟨y, _, rfl⟩ := List.mem_map.1 hr
  simp [cellsOf, pwV] at hx
  rcases hx with rfl | rfl | rfl <;> rfl
theorem pw_size (l : List PW) : ∀ r ∈ l.map pwV, (cellsOf r).length = 3 := by
  intro r hr
  obtain ⟨y, _, rfl⟩ := List.mem_map.1 hr
  rfl
end Go.Proofs.Ytbdijekfplpnlaa

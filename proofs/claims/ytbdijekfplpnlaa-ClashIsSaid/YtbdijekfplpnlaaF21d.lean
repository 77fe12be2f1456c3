/- clash: shapes of its laws' arguments. -/
import Derived.Test.YtbdijekfplpnlaaGo
import Derived.Test.YtbdijekfplpnlaaF21c
-- @D
namespace Go.Proofs.Ytbdijekfplpnlaa
set_option maxRecDepth 20000
open Go.Awp Tr
theorem pws_shp {a : AV} (h : Shp tab 8 37 a) : ∃ l : List PW, Sl pwV a l ∧ (∀ x ∈ l, x.1.length ≤ Go.Awp.reach ∧ x.2.1.length ≤ Go.Awp.reach) ∧ l.length ≤ 140737488355328 :=
  shp_agg pwV _ h rfl rfl rfl rfl (by decide) fun cs hc => by
    obtain ⟨x, y, z, rfl, hx, hy, hz⟩ := all2_3 hc
    obtain ⟨k, rfl, hk⟩ := hx.str rfl
    obtain ⟨v, rfl, hv⟩ := hy.str rfl
    obtain ⟨b, rfl⟩ := hz.bool rfl
    exact ⟨(k, v, b), rfl, hk, hv⟩
end Go.Proofs.Ytbdijekfplpnlaa

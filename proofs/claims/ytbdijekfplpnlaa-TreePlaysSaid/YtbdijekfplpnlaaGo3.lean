/- More rules of the walk. No program is named here. -/
import Derived.Test.YtbdijekfplpnlaaGo2
namespace Go.Awp
open Go.RowKit
/-- The remainder by what isn't 0. -/
theorem remA {L : List AObj} {k : IntKind} {a b : Int} {d : TyD} (h : b ≠ 0) : binA L .rem (.p (.int k a)) (.p (.int k b)) d = some (.p (.int k (a.tmod b))) := by
  have e : kEq k k = true := by unfold kEq; rw [decide_eq_true rfl]
  simp only [binA, isShift, e, intA]
  rw [decide_eq_false h]
theorem quoA {L : List AObj} {k : IntKind} {a b : Int} {d : TyD} (h : b ≠ 0) : binA L .quo (.p (.int k a)) (.p (.int k b)) d = some (.p (.int k (k.wrap (a.tdiv b)))) := by
  have e : kEq k k = true := by unfold kEq; rw [decide_eq_true rfl]
  simp only [binA, isShift, e, intA]
  rw [decide_eq_false h]
/-- A whole number as a byte. -/
theorem u8_byte (n : Int) : ∃ b : UInt8, IntKind.u8.wrap n = (b.toNat : Int) := by
  refine ⟨UInt8.ofNat (IntKind.u8.wrap n).toNat, ?_⟩
  have h : 0 ≤ IntKind.u8.wrap n ∧ IntKind.u8.wrap n < 256 := by
    unfold IntKind.wrap
    simp [IntKind.signed, IntKind.bits]
    omega
  simp
  omega
end Go.Awp

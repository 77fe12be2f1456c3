/- Contracts of arguments in either form. No program is named here. -/
import Derived.Test.YtfkibkfjebppdaaAwpS
namespace Go.Awp
open Go.RowKit
/-- Arguments as values that stay, where they are such. -/
def unpOr : List TV → List TV
  | [] => []
  | x :: r => (match unp x with
    | some y => .p y
    | none => x) :: unpOr r
theorem unpOr_rep {w : World} {β : Hd → Nat} {G : Hp} : ∀ {xs : List TV} {vs : List Value}, RepL w β G xs vs → RepL w β G (unpOr xs) vs
  | [], vs, h => h
  | x :: xs, [], h => by simp [RepL] at h
  | x :: xs, v :: vs, h => by
    have ih := unpOr_rep (xs := xs) (vs := vs) ⟨by simpa using h.1, fun i y u hy hu => h.2 (i + 1) y u (by simpa using hy) (by simpa using hu)⟩
    have h0 := h.2 0 x v rfl rfl
    refine ⟨by simp [unpOr, ih.1], fun i y u hy hu => ?_⟩
    cases i with
    | zero =>
      simp [unpOr] at hy hu
      subst hu
      split at hy
      · rename_i z hz
        subst hy
        exact .p (unp_ok x hz h0)
      · subst hy; exact h0
    | succ i => exact ih.2 i y u (by simpa [unpOr] using hy) (by simpa using hu)
theorem Con.agg {P : Program} {f : FuncId} {args args' : List TV} {H : List AObj} {r : TV} {H' news : List AObj} (h : Con P f args H r H' news) (he : unpOr args' = args) : Con P f args' H r H' news :=
  ⟨h.can, fun F w β vs hS hr => h.run F w β vs hS (by rw [← he]; exact unpOr_rep hr)⟩
theorem Rd.full {H L : List AObj} {h : Hd} {Ty : TypeId} {b : Bool} {e n : Nat} {rs : List AV} (hg : (⟨H, L, noF⟩ : Hp).get h = some (.arr Ty b e rs)) (hn : rs.length = n) : Rd H L (.sl h n 0 n) rs := by
  have := Rd.sl (H := H) (L := L) (h := h) (n := n) (st := 0) (len := n) hg hn
  subst hn
  simpa using this
end Go.Awp

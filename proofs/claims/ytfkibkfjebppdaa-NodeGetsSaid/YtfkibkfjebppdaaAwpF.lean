/- 'stepA' and that it is so. No program is named here. -/
import Derived.Test.YtfkibkfjebppdaaAwpE
import Derived.Laws.Tables
namespace Go.Awp
open Go.RowKit

mutual
def unp : TV → Option AV
  | .p x => some x
  | .agg l => match unpL l with
    | some xs => some (.agg xs)
    | none => none
  | _ => none
def unpL : List TV → Option (List AV)
  | [] => some []
  | x :: r => match unp x, unpL r with
    | some y, some ys => some (y :: ys)
    | _, _ => none
end
mutual
theorem unp_ok {w : World} {β : Hd → Nat} {G : Hp} : ∀ (x : TV) {y : AV} {v : Value}, unp x = some y → RepT w β G x v → RepA w (Free β G) y v
  | .p x, y, v, h, hr => by
    simp only [unp, Option.some.injEq] at h
    subst h
    cases hr with | p h => exact h
  | .agg l, y, v, h, hr => by
    simp only [unp] at h
    split at h
    · rename_i xs hxs
      obtain rfl := Option.some.inj h
      cases hr with | agg _ vs hl hr =>
      obtain ⟨h1, h2⟩ := unpL_ok l hxs
      exact .agg xs vs (by omega) fun i x v hx hv => by
        obtain ⟨z, hz, hz2⟩ := h2 i x hx
        exact hz2 v (hr i z v hz hv)
    · cases h
  | .ad .., _, _, h, _ => by simp [unp] at h
  | .sl .., _, _, h, _ => by simp [unp] at h
  | .el .., _, _, h, _ => by simp [unp] at h
  | .tup .., _, _, h, _ => by simp [unp] at h
  | .fn .., _, _, h, _ => by simp [unp] at h
theorem unpL_ok {w : World} {β : Hd → Nat} {G : Hp} : ∀ (l : List TV) {xs : List AV}, unpL l = some xs → xs.length = l.length ∧ ∀ (i : Nat) (x : AV), xs[i]? = some x → ∃ z, l[i]? = some z ∧ ∀ v, RepT w β G z v → RepA w (Free β G) x v
  | [], xs, h => by simp [unpL] at h; subst h; simp
  | z :: r, xs, h => by
    simp only [unpL] at h
    split at h
    · rename_i y ys hy hys
      obtain rfl := Option.some.inj h
      obtain ⟨h1, h2⟩ := unpL_ok (w := w) (β := β) (G := G) r hys
      refine ⟨by simp [h1], fun i x hx => ?_⟩
      cases i with
      | zero =>
        simp at hx; subst hx
        exact ⟨z, rfl, fun v hv => unp_ok z hy hv⟩
      | succ i =>
        obtain ⟨u, hu, hu2⟩ := h2 i x (by simpa using hx)
        exact ⟨u, by simpa using hu, hu2⟩
    · cases h
end

def spl (cs : List TV) (off : Nat) (ns : List TV) : List TV := cs.take off ++ (ns ++ cs.drop (off + ns.length))
theorem spl_rep {w : World} {β : Hd → Nat} {G : Hp} {cs ns : List TV} {vs us : List Value} (off : Nat) (h : RepL w β G cs vs) (k : RepL w β G ns us) : RepL w β G (spl cs off ns) (vs.take off ++ (us ++ vs.drop (off + us.length))) := by
  have ht : RepL w β G (cs.take off) (vs.take off) := ⟨by simp [h.1], fun i x v hx hv => by
    rw [List.getElem?_take] at hx hv
    split at hx
    · rename_i e; rw [if_pos e] at hv; exact h.2 i x v hx hv
    · cases hx⟩
  have hd : RepL w β G (cs.drop (off + ns.length)) (vs.drop (off + us.length)) := by
    rw [k.1]
    exact ⟨by simp [h.1], fun i x v hx hv => by
      rw [List.getElem?_drop] at hx hv
      exact h.2 _ x v hx hv⟩
  exact ht.append (k.append hd)

def fillA (place : Nat → Option (Nat × Nat)) (cells : List TV) : List (Nat × TV) → Option (List TV)
  | [] => some cells
  | (i, v) :: rest => match place i with
    | none => none
    | some (off, size) => match tcells v with
      | none => none
      | some ns => match Nat.beq ns.length size, Nat.ble (off + ns.length) cells.length with
        | true, true => fillA place (spl cells off ns) rest
        | _, _ => none

theorem foldl_set (off : Nat) : ∀ (vs : List Value) (j : Nat) (c : Array Value), off + j + vs.length ≤ c.size →
    ((vs.zipIdx j).foldl (fun cs (x : Value × Nat) => cs.setIfInBounds (off + x.2) x.1) c).toList = c.toList.take (off + j) ++ (vs ++ c.toList.drop (off + j + vs.length))
  | [], j, c, _ => by simp
  | v :: r, j, c, h => by
    simp only [List.length_cons] at h
    have ih := foldl_set off r (j + 1) (c.setIfInBounds (off + j) v) (by simp; omega)
    simp only [List.zipIdx_cons, List.foldl_cons, ih]
    simp only [Array.toList_setIfInBounds, List.length_cons]
    have hlt : off + j < c.toList.length := by simp; omega
    rw [show off + (j + 1) = off + j + 1 by omega, List.take_succ_eq_append_getElem (by simpa using hlt), List.drop_set_of_lt (by omega)]
    simp [show off + j + 1 + r.length = off + j + (r.length + 1) by omega, List.take_set_of_le]

theorem fill_ok {w : World} {β : Hd → Nat} {G : Hp} (place : Nat → Option (Nat × Nat)) : ∀ (parts : List (Nat × TV)) (cparts : List (Nat × Value)) (cells : List TV) (cs : Array Value) {res : List TV},
    cparts.length = parts.length → (∀ (i : Nat) (p : Nat × TV) (q : Nat × Value), parts[i]? = some p → cparts[i]? = some q → q.1 = p.1 ∧ RepT w β G p.2 q.2) →
    RepL w β G cells cs.toList → fillA place cells parts = some res → ∃ out, Instr.fill place cs cparts = some out ∧ RepL w β G res out.toList
  | [], [], cells, cs, res, _, _, hc, h => by
    simp only [fillA, Option.some.injEq] at h
    subst h
    exact ⟨cs, rfl, hc⟩
  | (i, x) :: parts, (j, v) :: cparts, cells, cs, res, hl, hp, hc, h => by
    obtain ⟨h1, h2⟩ := hp 0 _ _ rfl rfl
    simp only at h1 h2
    subst h1
    simp only [fillA] at h
    split at h
    · cases h
    · rename_i off size hpl
      split at h
      · cases h
      · rename_i ns hns
        split at h
        · rename_i e1 e2
          have e1 := Nat.eq_of_beq_eq_true e1
          have e2 := Nat.le_of_ble_eq_true e2
          have hv := tcells_ok h2 hns
          have hsz : v.cells.size = ns.length := by rw [← hv.1]; simp
          have hcs : cs.size = cells.length := by rw [← hc.1]; simp
          have hf := foldl_set off v.cells.toList 0 cs (by simp; omega)
          simp only [Nat.add_zero] at hf
          obtain ⟨out, ho, hr⟩ := fill_ok place parts cparts (spl cells off ns) (v.cells.zipIdx.foldl (fun cs x => cs.setIfInBounds (off + x.2) x.1) cs) (by simpa using hl)
            (fun i p q h1 h2 => hp (i + 1) p q (by simpa using h1) (by simpa using h2)) (by
              rw [← Array.foldl_toList, Array.toList_zipIdx, hf]
              exact spl_rep off hc hv) h
          refine ⟨out, ?_, hr⟩
          simp only [Instr.fill, hpl]
          rw [if_neg (by simp; omega)]
          exact ho
        · cases h
  | [], _ :: _, _, _, _, hl, _, _, _ => by simp at hl
  | _ :: _, [], _, _, _, hl, _, _, _ => by simp at hl
end Go.Awp

/- More rules of the walk: what an operation makes, as a value that stays. No program is named here. -/
import Derived.Test.YtfkibkfjebppdaaGo
namespace Go.Awp
open Go.RowKit
section
variable {w : World} {β : Hd → Nat} {H L : List AObj} {F : Nat → Prop}
/-- An own array's slice, when nobody writes it any more. -/
theorem freeze_rep {i : Nat} {Ty : TypeId} {b : Bool} {e n st len : Nat} {rows : List AV} {v : Value} (hS : Sim w β ⟨H, L, F⟩) (hi : L[i]? = some (.arr Ty b e rows)) (hn : rows.length = n) (hr : RepT w β ⟨H, L, F⟩ (.sl (.l i) n st len) v) :
    RepT w β ⟨H, L.set i .dead, F⟩ (.p (.ps ((rows.drop st).take len))) v := by
  obtain ⟨h1, h2⟩ := kill i hS
  cases hr with | sl _ _ _ _ _ _ _ hv =>
  obtain ⟨hle, ao, cap, rfl, hc1, hc2, hao, _⟩ := hv _ _ _ _ hi hn
  obtain ⟨cs, fr, g1, g2, g3, g4, g5, g6, g7⟩ := hS.objs (.l i) _ hi
  have hlen : ((rows.drop st).take len).length = len := by simp; omega
  by_cases h0 : len = 0
  · subst h0
    simpa using RepT.p (RepA.psE ao cap)
  · have hao := hao (.inr (by omega))
    subst hao
    have hlive : (⟨H, L, F⟩ : Hp).live (.l i) := ⟨_, hi, by simp⟩
    have hfree : Free β ⟨H, L.set i .dead, F⟩ (β (.l i)) := cells_live hS hi (by simp)
    have key := RepA.ps (w := w) (N := Free β ⟨H, L.set i .dead, F⟩) ((rows.drop st).take len) ⟨β (.l i), st * e, none⟩ cap e (fun p q => cs.getD ((st + p) * e + q) undef) hfree (hS.lt hlive)
      (fun r hr => g6 r (List.mem_of_mem_drop (List.mem_of_mem_take hr)))
      (fun p q hp hq => by
        rw [hlen] at hp
        have hr : (rows[st + p]?) = some rows[st + p] := List.getElem?_eq_getElem (by omega)
        have hq' : q < (cellsOf rows[st + p]).length := by rw [g6 _ (List.getElem_mem _)]; exact hq
        obtain ⟨v, hv, _⟩ := g7 (st + p) q _ _ hr (List.getElem?_eq_getElem hq')
        rw [Addr.add_lit, cell_of_row _ _ _ _ _ _ g1, show st * e + (p * e + q) = (st + p) * e + q by rw [Nat.add_mul]; omega]
        simp only [Array.getD_eq_getD_getElem?, hv, Option.getD_some])
      (fun p q r x hp hq => by
        rw [List.getElem?_take] at hp
        split at hp
        · rw [List.getElem?_drop] at hp
          obtain ⟨v, hv, hr⟩ := g7 (st + p) q r x hp hq
          simp only [Array.getD_eq_getD_getElem?, hv, Option.getD_some]
          exact hr.mono h2.size h2.frame
        · cases hp) (by rw [hlen]; exact hc1)
    rw [hlen] at key
    exact .p key
end
section
variable {P : Program} {T : Tab} {env : Env} {H L : List AObj} {o : Oper} {x : TV}
theorem set_take (L : List AObj) (x : AObj) : ((L ++ [x]).set L.length .dead).take L.length = L := by
  rw [List.set_append_right _ _ (Nat.le_refl _), List.take_append_of_le_length (Nat.le_refl _), List.take_length]
/-- What an operation makes, as a value that stays. -/
theorem opr_frz {Ty : TypeId} {b : Bool} {e n : Nat} {rows : List AV} (h : OpR P o env H L (.sl (.l L.length) n 0 n) H (L ++ [.arr Ty b e rows])) (hn : rows.length = n) (ho : okAll L.length L = true) : OpR P o env H L (.p (.ps rows)) H L := by
  intro F w β a next Q hS he hnx
  refine h F w β a next Q hS he fun w' β' u hS' hst hr => ?_
  have hi : (L ++ [AObj.arr Ty b e rows])[L.length]? = some (.arr Ty b e rows) := by simp
  obtain ⟨k1, k2⟩ := kill L.length hS'
  have hr2 := freeze_rep hS' hi hn hr
  rw [List.drop_zero, List.take_of_length_le (by omega)] at hr2
  have t1 := sim_take (n := L.length) k1 (by rw [set_take]; exact ho)
  have t2 := take_rep (n := L.length) hr2 rfl
  rw [set_take] at t1 t2
  have st2 := hst.trans k2
  refine hnx w' β' u t1 ⟨st2.os, st2.tape, st2.output, st2.size, fun b hb hf => ⟨(st2.frame b hb hf).1, ?_⟩, st2.fr, rfl, fun k ob hk => ?_⟩ t2
  · have := free_take (n := L.length) (st2.frame b hb hf).2
    rwa [set_take] at this
  · obtain ⟨o', h1, h2⟩ := st2.obj k ob hk
    have hkl : k.okL L.length = true := by
      cases k with
      | o j => rfl
      | l j => simpa [Hd.okL] using (List.getElem?_eq_some_iff.1 (show L[j]? = some ob from hk)).1
    have h3 := get_take (H := H) (L := (L ++ [AObj.arr Ty b e rows]).set L.length .dead) (F := F) hkl
    rw [set_take] at h3
    exact ⟨o', h3.trans h1, h2⟩
end
end Go.Awp

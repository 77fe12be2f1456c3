import Derived.Test.YtdkegmmigongoaaGreatDoorGo
import Derived.Test.YtdkegmmigongoaaGreatDoorM31
import Derived.Test.YtdkegmmigongoaaGreatDoorM7
import Derived.Test.YtdkegmmigongoaaGreatDoorM27
import Derived.Test.YtdkegmmigongoaaGreatDoorM6
import Derived.MapKept
namespace Go.Proofs.YtdkegmmigongoaaGreatDoor
set_option maxRecDepth 20000
open Go.Awp Tr
theorem i64_wb (n : Int) : -9223372036854775808 ≤ IntKind.i64.wrap n ∧ IntKind.i64.wrap n ≤ 9223372036854775807 := by
 rw [IntKind.wrap_i64]
 omega
theorem splitK_len (l : List UInt8) : (splitK l).2.2.1.length ≤ l.length := by
 unfold splitK
 split
 ·simp
 split
 ·simp
 split
 ·simp
 split <;> simp
def pstep (s : Int) (x : KV) : Int :=
 if (splitK x.1).1 = 69 then IntKind.i64.wrap (s + (41 + ((splitK x.1).2.2.1.length : Int)))
 else if (splitK x.1).1 = 73 then
  if (splitK x.1).2.1 = 1 then s else match getNode x.2 with
  | none => s
  | some y => if y.1 = 1 then IntKind.i64.wrap (s + IntKind.i64.wrap (50 + IntKind.i64.wrap (103 * blocks (IntKind.i64.wrap y.2.2.1)))) else IntKind.i64.wrap (s + 50)
 else s
def ptree (l : List KV) : Int := l.foldl pstep 50
set_option maxHeartbeats 8000000 in
theorem ptree_specL (t : Tr) (hz : t.size ≤ 100000) (hb : ∀ x ∈ t.row, x.1.length ≤ 1000 ∧ x.2.length ≤ 1000) : Con Tryz.prog 32 [W t] [] (.p (.int .i64 (ptree t.row))) [] [] := by
 have hrl := row_len t
 refine con_of Tryz.func32 rfl (by kernel_rfl) rfl fun F w0 β0 => ?_
 refine K_tell rfl ?_
 refine go ?_
 refine K_op rfl rfl (opr_callP rfl rfl (tlen_spec t) rfl rfl rfl rfl) rfl ?_
 refine go ?_
 refine J_loop (fun q : Ix t.size => [(0, W t), (3, .p (.int .i64 (ptree (t.row.take q.i)))), (14, .p (.int .i64 (t.size : Int))), (15, .p (.int .i64 (q.i : Int)))]) (fun _ => []) (fun _ => []) (fun q => t.size - q.i) ⟨0, by omega⟩ ⟨rfl, rfl, rfl, rfl, trivial⟩ rfl rfl (fun q => ?_)
 obtain ⟨i, hi⟩ := q
 dsimp only
 refine go ?_
 by_cases h : i < t.size
 ·have hx : t.row[i]? = some (t.row[i]'(by omega)) := List.getElem?_eq_getElem _
  obtain ⟨hx1, hx2⟩ := hb _ (List.getElem_mem (l := t.row) (n := i) (by omega))
  generalize t.row[i]'(by omega) = x at hx hx1 hx2
  have c1 := tat_spec t (i : Int) (by unfold big40; omega) (by omega)
  rw [atZ_row, if_neg (by omega), Int.toNat_natCast, hx] at c1
  have c2 := ksplit_spec x.1 (by omega)
  have c3 := nget_spec x.2 (by omega)
  have hsl := splitK_len x.1
  have hft : ptree (t.row.take (i + 1)) = pstep (ptree (t.row.take i)) x := fold_take _ _ hx
  have hft2 : pstep (ptree (t.row.take i)) x = pstep (ptree (t.row.take i)) x := rfl
  rw (occs := .pos [1]) [pstep] at hft2
  generalize splitK x.1 = r at c2 hsl hft2
  obtain ⟨a, b, c, d⟩ := r
  dsimp only at hsl hft2
  change Con Tryz.prog _ _ _ (.tup [.p (.int .u8 a), .p (.int .u32 b), .p (.str c), .p (.int .i64 d)]) _ _ at c2
  generalize pstep (ptree (t.row.take i)) x = s' at hft hft2
  refine K_condT rfl (decide_eq_true (by omega)) ?_
  refine go ?_
  refine K_op rfl rfl (opr_callP rfl rfl (c1) rfl rfl rfl rfl) rfl ?_
  refine go ?_
  refine K_op rfl rfl (opr_callP rfl rfl (c2) rfl rfl rfl rfl) rfl ?_
  refine go ?_
  refine J_joinN [(0, W t), (3, .p (.int .i64 s')), (14, .p (.int .i64 (t.size : Int))), (15, .p (.int .i64 (i : Int)))] [] [] ?_ ?_
  ·generalize ptree (t.row.take i) = s at hft2
   refine go ?_
   by_cases h69 : a = 69
   ·rw [if_pos h69] at hft2
    refine K_condT rfl (decide_eq_true h69) ?_
    refine go ?_
    refine K_op rfl rfl (opr_callP rfl rfl (pentry_spec c (by omega) []) rfl rfl rfl rfl) rfl ?_
    refine go ?_
    rw [hft2]
    refine J_take 0 [(0, W t), (3, .p (.int .i64 s')), (14, .p (.int .i64 (t.size : Int))), (15, .p (.int .i64 (i : Int)))] ⟨rfl, rfl, rfl, rfl, trivial⟩ rfl rfl ?_
    exact J_at ⟨rfl, rfl, rfl, rfl, trivial⟩ rfl rfl
   ·rw [if_neg h69] at hft2
    refine K_condF rfl (decide_eq_false h69) ?_
    refine go ?_
    by_cases h73 : a = 73
    ·rw [if_pos h73] at hft2
     refine K_condT rfl (decide_eq_true h73) ?_
     refine go ?_
     cases hg : getNode x.2 with
     | none =>
      rw [hg] at c3 hft2
      change Con Tryz.prog _ _ _ (.tup [.agg [.p (.int .u8 0), .p (.int .u32 0), .p (.int .u32 0), .p (.int .u32 0)], .p (.bool false)]) _ _ at c3
      have e : s = s' := by
       dsimp only at hft2
       split at hft2 <;> exact hft2
      subst e
      refine K_op rfl rfl (opr_callP rfl rfl (c3) rfl rfl rfl rfl) rfl ?_
      refine go ?_
      refine K_condT rfl (by simp) ?_
      refine go ?_
      refine J_take 0 [(0, W t), (3, .p (.int .i64 s)), (14, .p (.int .i64 (t.size : Int))), (15, .p (.int .i64 (i : Int)))] ⟨rfl, rfl, rfl, rfl, trivial⟩ rfl rfl ?_
      exact J_at ⟨rfl, rfl, rfl, rfl, trivial⟩ rfl rfl
     | some y =>
      obtain ⟨y1, y2, y3, y4⟩ := y
      rw [hg] at c3 hft2
      change Con Tryz.prog _ _ _ (.tup [.agg [.p (.int .u8 y1), .p (.int .u32 y2), .p (.int .u32 y3), .p (.int .u32 y4)], .p (.bool true)]) _ _ at c3
      dsimp only at hft2
      have c4 := pfile_spec (IntKind.i64.wrap y3) (i64_wb y3) []
      refine K_op rfl rfl (opr_callP rfl rfl (c3) rfl rfl rfl rfl) rfl ?_
      refine go ?_
      by_cases hb1 : b = 1
      ·rw [if_pos hb1] at hft2
       subst hft2
       refine K_condT rfl (by simp [hb1]) ?_
       refine go ?_
       refine J_take 0 [(0, W t), (3, .p (.int .i64 s)), (14, .p (.int .i64 (t.size : Int))), (15, .p (.int .i64 (i : Int)))] ⟨rfl, rfl, rfl, rfl, trivial⟩ rfl rfl ?_
       exact J_at ⟨rfl, rfl, rfl, rfl, trivial⟩ rfl rfl
      ·rw [if_neg hb1] at hft2
       refine K_condF rfl (by simp [hb1]) ?_
       refine go ?_
       by_cases hy : y1 = 1
       ·rw [if_pos hy] at hft2
        refine K_condT rfl (decide_eq_true hy) ?_
        refine go ?_
        refine K_op rfl rfl (opr_callP rfl rfl (c4) rfl rfl rfl rfl) rfl ?_
        refine go ?_
        rw [hft2]
        refine J_take 0 [(0, W t), (3, .p (.int .i64 s')), (14, .p (.int .i64 (t.size : Int))), (15, .p (.int .i64 (i : Int)))] ⟨rfl, rfl, rfl, rfl, trivial⟩ rfl rfl ?_
        exact J_at ⟨rfl, rfl, rfl, rfl, trivial⟩ rfl rfl
       ·rw [if_neg hy] at hft2
        refine K_condF rfl (decide_eq_false hy) ?_
        refine go ?_
        rw [hft2]
        refine J_take 0 [(0, W t), (3, .p (.int .i64 s')), (14, .p (.int .i64 (t.size : Int))), (15, .p (.int .i64 (i : Int)))] ⟨rfl, rfl, rfl, rfl, trivial⟩ rfl rfl ?_
        exact J_at ⟨rfl, rfl, rfl, rfl, trivial⟩ rfl rfl
    ·rw [if_neg h73] at hft2
     refine K_condF rfl (decide_eq_false h73) ?_
     refine go ?_
     rw [hft2]
     refine J_take 0 [(0, W t), (3, .p (.int .i64 s')), (14, .p (.int .i64 (t.size : Int))), (15, .p (.int .i64 (i : Int)))] ⟨rfl, rfl, rfl, rfl, trivial⟩ rfl rfl ?_
     exact J_at ⟨rfl, rfl, rfl, rfl, trivial⟩ rfl rfl
  ·rw [← hft]
   refine go ?_
   rw [IntWalk.i64_in ((i : Int) + 1) (by omega)]
   exact fun a w' β st => ⟨⟨i + 1, by omega⟩, β, by show t.size - (i + 1) < t.size - i; omega, st.sim, st.step, st.env.sub (sub_of_all ⟨rfl, rfl, rfl, rfl, trivial⟩), st.size, st.defers⟩
 refine K_condF rfl (decide_eq_false (by omega)) ?_
 rw [List.take_of_length_le (by omega)]
 refine go ?_
 exact J_done hT rfl rfl rfl
def MF.nd (m : MF) : Prop := (m.map (·.i)).Nodup
theorem MF.nd.with {m : MF} (h : m.nd) (x : MN) : (m.with x).nd := by
 unfold MF.nd MF.with
 rw [List.map_append, List.map_map]
 have e : (m.map ((·.i) ∘ fun y => if y.i = x.i then x else y)) = m.map (·.i) := by
  refine List.map_congr_left fun y _ => ?_
  show (if y.i = x.i then x else y).i = y.i
  split
  ·rename_i q; exact q.symm
  ·rfl
 rw [e]
 cases hx : m.at x.i with
 | some z =>
  show (List.map (fun x : MN => x.i) m ++ []).Nodup
  rw [List.append_nil]
  exact h
 | none =>
  refine List.nodup_append.2 ⟨h, by simp, fun a ha b hb => ?_⟩
  obtain ⟨y, hy, rfl⟩ := List.mem_map.1 ha
  have hb : b = x.i := by simpa using hb
  rw [hb]
  intro q
  have : (m.at x.i).isSome = true := by rw [at_any, List.any_eq_true]; exact ⟨y, hy, by simpa using q⟩
  rw [hx] at this
  cases this
theorem MF.nd.without {m : MF} (h : m.nd) (j : Int) : (m.without j).nd := List.Nodup.sublist (List.Sublist.map _ List.filter_sublist) h
theorem MF.nd.linked {m : MF} (h : m.nd) (j b : Int) : (m.linked j b).nd := by
 unfold MF.linked; split
 ·rename_i x hx; exact h.with _
 ·exact h
theorem MF.nd.named {m : MF} (h : m.nd) (d : Int) (nm : List UInt8) (j : Int) : (m.named d nm j).nd := by
 unfold MF.named; split
 ·rename_i x hx; exact h.with _
 ·exact h
theorem MF.nd.rmv {m : MF} (h : m.nd) (b : MS) : (m.rmv b).2.nd := by
 unfold MF.rmv
 split
 ·exact h
 ·split
  ·exact h
  ·split
   ·exact h
   ·exact ((h.without _).linked _ _).named _ _ _
theorem MF.nd.unl {m : MF} (h : m.nd) (b : MS) : (m.unl b).2.nd := by
 unfold MF.unl
 split
 ·exact h
 ·split
  ·exact h
  ·split
   ·exact (h.without _).named _ _ _
   ·exact (h.linked _ _).named _ _ _
theorem MF.nd.moved {m : MF} (h : m.nd) (s t : MS) (b : Bool) : (m.moved s t b).nd := by
 unfold MF.moved
 split
 ·exact (((h.named _ _ _).named _ _ _).linked _ _).linked _ _
 ·exact (h.named _ _ _).named _ _ _
theorem MF.nd.make {m : MF} (h : m.nd) (p : List UInt8) (k i : Int) : (m.make p k i).2.nd := by
 unfold MF.make
 split
 ·exact h
 split
 ·exact h
 dsimp only
 split
 ·exact (h.with _).named _ _ _
 ·exact ((h.with _).linked _ _).named _ _ _
theorem MF.nd.remove {m : MF} (h : m.nd) (p : List UInt8) : (m.remove p).2.nd := by
 unfold MF.remove
 repeat' split
 ·exact h
 ·exact h
 ·exact h
 ·exact h.rmv _
theorem MF.nd.unlink {m : MF} (h : m.nd) (p : List UInt8) : (m.unlink p).2.nd := by
 unfold MF.unlink
 repeat' split
 ·exact h
 ·exact h
 ·exact h.unl _
theorem MF.nd.link {m : MF} (h : m.nd) (o p : List UInt8) : (m.link o p).2.nd := by
 unfold MF.link
 split
 ·exact h
 split
 ·exact h
 split
 ·exact h
 split
 ·exact h
 split
 ·exact h
 split
 ·exact h
 split
 ·exact h
 exact (h.linked _ _).named _ _ _
theorem MF.nd.rename {m : MF} (h : m.nd) (o p : List UInt8) : (m.rename o p).2.nd := by
 unfold MF.rename
 split
 ·exact h
 split
 ·exact h
 split
 ·exact h
 split
 ·exact h
 split
 ·exact h
 split
 ·exact h
 split
 ·exact h
 split
 ·exact h.moved _ _ _
 have hq : (if m.kind (m.findP o).1.i = 2 then m.rmv (m.findP p).1 else m.unl (m.findP p).1).2.nd := by
  split
  ·exact h.rmv _
  ·exact h.unl _
 generalize (if m.kind (m.findP o).1.i = 2 then m.rmv (m.findP p).1 else m.unl (m.findP p).1) = q at hq ⊢
 dsimp only
 split
 ·exact h
 ·exact MF.nd.moved hq _ _ _
theorem MF.nd.fwrite {m : MF} (h : m.nd) (i o : Int) (b : List UInt8) : (m.fwrite i o b).2.nd := by
 unfold MF.fwrite
 split
 ·exact h
 rename_i x hx
 split
 ·exact h
 split
 ·exact h
 split
 ·exact h
 ·exact h.with _
theorem MF.nd.ftrunc {m : MF} (h : m.nd) (i z : Int) : (m.ftrunc i z).2.nd := by
 unfold MF.ftrunc
 split
 ·exact h
 rename_i x hx
 split
 ·exact h
 split
 ·exact h
 ·exact h.with _
theorem mdo_nd {m : MF} (h : m.nd) (l : List Int) (o : Op20) (i : Int) : (mdo m l o i).2.1.nd := by
 unfold mdo
 by_cases k4 : o.kind = 4
 ·rw [if_pos k4]
  exact h.make _ _ _
 rw [if_neg k4]
 by_cases k5 : o.kind = 5
 ·rw [if_pos k5]
  exact h.make _ _ _
 rw [if_neg k5]
 by_cases k6 : o.kind = 6
 ·rw [if_pos k6]
  repeat' split
  all_goals exact h
 rw [if_neg k6]
 by_cases k7 : o.kind = 7
 ·rw [if_pos k7]
  split <;> exact h
 rw [if_neg k7]
 by_cases k8 : o.kind = 8
 ·rw [if_pos k8]
  split <;> exact h
 rw [if_neg k8]
 by_cases k9 : o.kind = 9
 ·rw [if_pos k9]
  split
  ·exact h
  split
  ·exact h.fwrite _ _ _
  ·exact h.fwrite _ _ _
 rw [if_neg k9]
 by_cases k10 : o.kind = 10
 ·rw [if_pos k10]
  split
  ·exact h
  ·exact h.ftrunc _ _
 rw [if_neg k10]
 by_cases k11 : o.kind = 11
 ·rw [if_pos k11]
  exact h.rename _ _
 rw [if_neg k11]
 by_cases k12 : o.kind = 12
 ·rw [if_pos k12]
  exact h.link _ _
 rw [if_neg k12]
 by_cases k13 : o.kind = 13
 ·rw [if_pos k13]
  exact h.unlink _
 rw [if_neg k13]
 by_cases k14 : o.kind = 14
 ·rw [if_pos k14]
  exact h.remove _
 rw [if_neg k14]
 by_cases k15 : o.kind = 15
 ·rw [if_pos k15]
  exact h
 rw [if_neg k15]
 by_cases k16 : o.kind = 16
 ·rw [if_pos k16]
  exact h
 rw [if_neg k16]
 exact h
theorem newM_nd : newM.nd := by unfold MF.nd newM; simp
end Go.Proofs.YtdkegmmigongoaaGreatDoor
namespace Go.Proofs.YtdkegmmigongoaaGreatDoor
set_option maxRecDepth 20000
open Go.Awp Go.RowKit Go.MapKept
def pl1 : AV → Option Value
 | .int k n => some (.int k n)
 | .bool b => some (.bool b)
 | .str l => some (.string ⟨l.toArray⟩)
 | _ => none
def pl1L : List AV → Option (List Value)
 | [] => some []
 | x :: r => match pl1 x, pl1L r with
  | some v, some vs => some (v :: vs)
  | _, _ => none
def plV : AV → Option Value
 | .agg xs => match pl1L xs with
  | some vs => some (.agg vs.toArray)
  | none => none
 | x => pl1 x
def plD (x : AV) : Value := (plV x).getD undef
def plOk (x : AV) : Bool := (plV x).isSome
section
variable {w : World} {N : Nat → Prop}
end
structure KeyTy (P : Program) (κ : Type) (kt : TypeId) (ka : κ → AV) where
 d : TypeDesc
 und : P.underlying kt = some d
 pl : ∀ k, plOk (ka k) = true
 isK : ∀ k, IsKey d (plD (ka k))
 inj : ∀ k k', plD (ka k) = plD (ka k') → k = k'
section
variable {κ : Type} (ka : κ → AV)
variable [DecidableEq κ]
def look (k : κ) : List (κ × AV) → Nat → Option (Nat × AV)
 | [], _ => none
 | r :: rs, j => if r.1 = k then some (j, r.2) else look k rs (j + 1)
def mget (k : κ) (rows : List (κ × AV)) : Option AV := (look k rows 0).map (·.2)
def mput (k : κ) (v : AV) (rows : List (κ × AV)) : List (κ × AV) := match look k rows 0 with
 | some (i, _) => rows.set i (k, v)
 | none => rows ++ [(k, v)]
theorem look_some {k : κ} : ∀ {rows : List (κ × AV)} {j i : Nat} {v : AV}, look k rows j = some (i, v) → j ≤ i ∧ rows[i - j]? = some (k, v)
 | [], j, i, v, h => by simp [look] at h
 | r :: rs, j, i, v, h => by
  simp only [look] at h
  split at h
  ·rename_i e
   obtain ⟨rfl, rfl⟩ := Prod.mk.inj (Option.some.inj h)
   subst e
   exact ⟨Nat.le_refl _, by rw [Nat.sub_self]; rfl⟩
  ·obtain ⟨h1, h2⟩ := look_some h
   exact ⟨by omega, by rw [show i - j = (i - (j + 1)) + 1 by omega, List.getElem?_cons_succ]; exact h2⟩
theorem look_app {k : κ} {v : AV} : ∀ {rows : List (κ × AV)} {j : Nat} (k' : κ), look k' (rows ++ [(k, v)]) j = (look k' rows j).or (if k = k' then some (j + rows.length, v) else none)
 | [], j, k' => by simp [look]
 | r :: rs, j, k' => by
  simp only [List.cons_append, look]
  split
  ·simp
  ·rw [look_app k']
   congr 1
   simp only [List.length_cons]
   rw [show j + 1 + rs.length = j + (rs.length + 1) by omega]
theorem look_set {k : κ} {v : AV} : ∀ {rows : List (κ × AV)} {j i : Nat} {u : AV} (k' : κ), look k rows j = some (i, u) → look k' (rows.set (i - j) (k, v)) j = if k' = k then some (i, v) else look k' rows j
 | [], j, i, u, k', h => by simp [look] at h
 | r :: rs, j, i, u, k', h => by
  simp only [look] at h
  split at h
  ·rename_i e
   obtain ⟨rfl, rfl⟩ := Prod.mk.inj (Option.some.inj h)
   rw [Nat.sub_self, List.set_cons_zero]
   simp only [look]
   by_cases e2 : k = k'
   ·rw [if_pos e2, if_pos e2.symm]
   ·rw [if_neg e2, if_neg (Ne.symm e2), if_neg (by rw [e]; exact e2)]
  ·rename_i e
   have h1 := (look_some h).1
   rw [show i - j = (i - (j + 1)) + 1 by omega, List.set_cons_succ]
   simp only [look]
   rw [look_set k' h]
   by_cases e2 : r.1 = k'
   ·rw [if_pos e2, if_neg (by rw [← e2]; exact e), if_pos e2]
   ·rw [if_neg e2, if_neg e2]
theorem mget_mput {k k' : κ} {v : AV} {rows : List (κ × AV)} : mget k' (mput k v rows) = if k' = k then some v else mget k' rows := by
 unfold mput mget
 cases h : look k rows 0 with
 | some p =>
  obtain ⟨i, u⟩ := p
  have := look_set (v := v) k' h
  rw [Nat.sub_zero] at this
  dsimp only
  rw [this]
  split <;> rfl
 | none =>
  dsimp only
  rw [look_app]
  by_cases e : k = k'
  ·subst e
   rw [h]; simp
  ·rw [if_neg e, if_neg (Ne.symm e), Option.or_none]
theorem mput_mem {k : κ} {v : AV} {rows : List (κ × AV)} {r : κ × AV} (h : r ∈ mput k v rows) : r = (k, v) ∨ r ∈ rows := by
 unfold mput at h
 split at h
 ·exact (List.mem_or_eq_of_mem_set h).symm
 ·rcases List.mem_append.1 h with h | h
  ·exact .inr h
  ·exact .inl (by simpa using h)
end
section
variable {P : Program} {T : Tab} {env : Env} {H L : List AObj} {o : Oper} {x : TV} {κ : Type} {ka : κ → AV}
end
end Go.Proofs.YtdkegmmigongoaaGreatDoor

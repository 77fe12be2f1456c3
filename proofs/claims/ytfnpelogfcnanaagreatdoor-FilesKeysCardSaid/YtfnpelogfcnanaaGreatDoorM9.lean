/- Contracts and plain laws, several texts joined: F17, F17b. -/
import Derived.Test.YtfnpelogfcnanaaGreatDoorM5
import Derived.Test.YtfnpelogfcnanaaGreatDoorM8
import Derived.Test.YtfnpelogfcnanaaGreatDoorM6
import Derived.Test.YtfnpelogfcnanaaGreatDoorM2
import Derived.Test.YtfnpelogfcnanaaGreatDoorGo
import Derived.Test.YtfnpelogfcnanaaGreatDoorM3
/- walk: what holds of a view; Load, Save, Drop, Child, Hang, Unhang. -/
-- @D
namespace Go.Proofs.YtfnpelogfcnanaaGreatDoor
set_option maxRecDepth 20000
open Go.Awp Tr
abbrev Nd := Int × Int × Int × Int
/-- What holds of a view. -/
structure VJ (s : VS) (n : Nat) : Prop where
  rb : Rises s.base.row
  rs : Rises s.shown.row
  rw : Rises s.writes.row
  rr : Rises s.reads.row
  zb : s.base.size ≤ n
  zs : s.shown.size ≤ n
  zw : s.writes.size ≤ n
  zr : s.reads.size ≤ n
  zg : s.ranges.length ≤ n
  val : ∀ x ∈ s.shown.row, x.1.length ≤ 100000 ∧ x.2.length ≤ 100000
/-- A key is read. -/
def VS.rd (s : VS) (k : List UInt8) : VS := { s with reads := s.reads.set k [] }
def VS.rds (s : VS) (ks : List (List UInt8)) : VS := { s with reads := ks.foldl (fun t k => t.set k []) s.reads }
/-- A key is written, if there is room. -/
def VS.put (s : VS) (k v : List UInt8) : VS := if s.room k = true then s.set k v else s
def VS.del (s : VS) (k : List UInt8) : VS := if s.room k = true then s.cut k else s
theorem VJ.new {t : Tr} {n : Nat} (h : Rises t.row) (hz : t.size ≤ n) (hv : ∀ x ∈ t.row, x.1.length ≤ 100000 ∧ x.2.length ≤ 100000) : VJ (VS.new t) n :=
  ⟨h, h, by simp [VS.new, row, Rises], by simp [VS.new, row, Rises], hz, hz, Nat.zero_le _, Nat.zero_le _, Nat.zero_le _, hv⟩
theorem VJ.mono {s : VS} {n m : Nat} (h : VJ s n) (hm : n ≤ m) : VJ s m :=
  ⟨h.rb, h.rs, h.rw, h.rr, by have := h.zb; omega, by have := h.zs; omega, by have := h.zw; omega, by have := h.zr; omega, by have := h.zg; omega, h.val⟩
theorem VJ.rd {s : VS} {n : Nat} (h : VJ s n) (k : List UInt8) : VJ (s.rd k) (n + 1) :=
  ⟨h.rb, h.rs, h.rw, set_rises h.rr, by have := h.zb; unfold VS.rd; dsimp only; omega, by have := h.zs; unfold VS.rd; dsimp only; omega, by have := h.zw; unfold VS.rd; dsimp only; omega, by have := h.zr; have := set_size k [] s.reads; unfold VS.rd; dsimp only; omega, by have := h.zg; unfold VS.rd; dsimp only; omega, h.val⟩
theorem rds_cons (s : VS) (k : List UInt8) (ks : List (List UInt8)) : s.rds (k :: ks) = (s.rd k).rds ks := rfl
theorem rds_app (s : VS) (ks ls : List (List UInt8)) : s.rds (ks ++ ls) = (s.rds ks).rds ls := by unfold VS.rds; rw [List.foldl_append]
theorem VJ.rds {s : VS} {n : Nat} (h : VJ s n) (ks : List (List UInt8)) : VJ (s.rds ks) (n + ks.length) := by
  induction ks generalizing s n with
  | nil => exact h
  | cons k ks ih =>
    rw [rds_cons, List.length_cons]
    exact (ih (h.rd k)).mono (by omega)
theorem VJ.range {s : VS} {n : Nat} (h : VJ s n) (a b : List UInt8) : VJ (s.range a b) (n + 1) := by
  unfold VS.range
  split
  · refine ⟨h.rb, h.rs, h.rw, h.rr, by have := h.zb; dsimp only; omega, by have := h.zs; dsimp only; omega, by have := h.zw; dsimp only; omega, by have := h.zr; dsimp only; omega, ?_, h.val⟩
    have := h.zg
    dsimp only
    split
    · omega
    · rw [List.length_append]; simp; omega
  · exact h.mono (by omega)
theorem VJ.set {s : VS} {n : Nat} (h : VJ s n) (k v : List UInt8) (hk : k.length ≤ 100000) (hv : v.length ≤ 100000) : VJ (s.set k v) (n + 1) := by
  have z1 := set_size k v s.shown
  have z2 := set_size k (61 :: v) s.writes
  refine ⟨h.rb, set_rises h.rs, set_rises h.rw, h.rr, by have := h.zb; unfold VS.set; dsimp only; omega, by have := h.zs; unfold VS.set; dsimp only; omega, by have := h.zw; unfold VS.set; dsimp only; omega, by have := h.zr; unfold VS.set; dsimp only; omega, by have := h.zg; unfold VS.set; dsimp only; omega, fun x hx => ?_⟩
  unfold VS.set at hx
  dsimp only at hx
  rw [set_row _ _ _ h.rs] at hx
  rcases lset_mem hx with rfl | hx
  · exact ⟨hk, hv⟩
  · exact h.val x hx
theorem VJ.cut {s : VS} {n : Nat} (h : VJ s n) (k : List UInt8) : VJ (s.cut k) (n + 1) := by
  have z1 := cut_size s.shown k
  have z2 := cut_size s.writes k
  have z3 := set_size k [] s.writes
  refine ⟨h.rb, cut_rises h.rs, ?_, h.rr, by have := h.zb; unfold VS.cut; dsimp only; omega, by have := h.zs; unfold VS.cut; dsimp only; omega, ?_, by have := h.zr; unfold VS.cut; dsimp only; omega, by have := h.zg; unfold VS.cut; dsimp only; omega, fun x hx => ?_⟩
  · unfold VS.cut
    dsimp only
    split
    · exact set_rises h.rw
    · exact cut_rises h.rw
  · have := h.zw
    unfold VS.cut
    dsimp only
    split <;> omega
  · unfold VS.cut at hx
    dsimp only at hx
    rw [cut_row _ _ h.rs] at hx
    exact h.val x (List.mem_filter.1 hx).1
theorem VJ.put {s : VS} {n : Nat} (h : VJ s n) (k v : List UInt8) (hk : k.length ≤ 100000) (hv : v.length ≤ 100000) : VJ (s.put k v) (n + 1) := by
  unfold VS.put
  split
  · exact h.set k v hk hv
  · exact h.mono (by omega)
theorem VJ.del {s : VS} {n : Nat} (h : VJ s n) (k : List UInt8) : VJ (s.del k) (n + 1) := by
  unfold VS.del
  split
  · exact h.cut k
  · exact h.mono (by omega)
theorem VJ.len {s : VS} {n : Nat} (h : VJ s n) {k v : List UInt8} (hg : s.shown.get k = some v) : v.length ≤ 100000 := by
  rw [get_row _ _ h.rs] at hg
  exact (h.val _ ((lget_some h.rs).1 hg)).2
theorem VJ.len0 {s : VS} {n : Nat} (h : VJ s n) (k : List UInt8) : ((s.shown.get k).getD []).length ≤ 100000 := by
  cases hg : s.shown.get k with
  | none => exact Nat.zero_le _
  | some v => exact h.len hg
/-- What inode a key's value is. -/
def ndOf (n : Int) : Option (List UInt8) → Option Nd
  | none => if n = 1 then some (2, 2, 0, 1) else none
  | some v => getNode v
def VS.load (s : VS) (n : Int) : Option Nd := ndOf n (s.shown.get (keyH 73 n))
abbrev ndT (g : Nd) : TV := .agg [.p (.int .u8 g.1), .p (.int .u32 g.2.1), .p (.int .u32 g.2.2.1), .p (.int .u32 g.2.2.2)]
abbrev ndA (g : Nd) : TV := .p (.agg (nodeV g.1 g.2.1 g.2.2.1 g.2.2.2))
theorem nodeT_tup (g : Option Nd) : nodeT g = .tup [ndT (g.getD (0, 0, 0, 0)), .p (.bool g.isSome)] := by
  cases g with
  | none => rfl
  | some x => obtain ⟨a, b, c, d⟩ := x; rfl
/-- The numbers of an inode are within bounds. -/
def Nd.ok (g : Nd) : Prop := (0 ≤ g.1 ∧ g.1 ≤ 255) ∧ (0 ≤ g.2.1 ∧ g.2.1 ≤ 4294967295) ∧ (0 ≤ g.2.2.1 ∧ g.2.2.1 ≤ 4294967295) ∧ (0 ≤ g.2.2.2 ∧ g.2.2.2 ≤ 4294967295)
theorem b0_bd17 (l : List UInt8) : 0 ≤ b0 l ∧ b0 l ≤ 255 := by
  unfold b0
  have := (l.headD 0).toNat_lt
  omega
theorem getNode_ok {l : List UInt8} {g : Nd} (h : getNode l = some g) : Nd.ok g := by
  unfold getNode at h
  split at h
  · obtain rfl := Option.some.inj h
    exact ⟨b0_bd17 l, gF_bd l 1, gF_bd l 5, gF_bd l 9⟩
  · cases h
theorem ndOf_ok {n : Int} {o : Option (List UInt8)} {g : Nd} (h : ndOf n o = some g) : Nd.ok g := by
  cases o with
  | none =>
    unfold ndOf at h
    dsimp only at h
    split at h
    · obtain rfl := Option.some.inj h
      unfold Nd.ok; decide
    · cases h
  | some v => exact getNode_ok h
def VS.save (s : VS) (n : Int) (g : Nd) : VS := s.put (keyH 73 n) (nodeB g.1 g.2.1 g.2.2.1 g.2.2.2)
theorem nodeB_l13 (a b c d : Int) : (nodeB a b c d).length = 13 := by simp [nodeB, beB_len]
/-- What number an entry's value is. -/
def chOf (g : Option (List UInt8)) : Option Int := if (g.getD []).length = 4 then some (gF (g.getD []) 0) else none
def VS.child (s : VS) (d : Int) (m : List UInt8) : Option Int := chOf (s.shown.get (entryK d m))
abbrev chT (g : Option Int) : TV := .tup [.p (.int .u32 (g.getD 0)), .p (.bool g.isSome)]
theorem chOf_ok {o : Option (List UInt8)} {i : Int} (h : chOf o = some i) : 0 ≤ i ∧ i ≤ 4294967295 := by
  unfold chOf at h
  split at h
  · obtain rfl := Option.some.inj h
    exact gF_bd _ _
  · cases h
set_option maxHeartbeats 4000000 in
theorem wload_spec {s : VS} {m : Nat} (h : VJ s m) (hm : m ≤ 1000000) (n : Int) (hn : 0 ≤ n ∧ n ≤ 4294967295) : Con Tryz.prog 22 [vP, .p (.int .u32 n)] (vH s) (nodeT (s.load n)) (vH (s.rd (keyH 73 n))) [] := by
  have c1 := kinode_spec n hn []
  have c2 := vget_spec s (keyH 73 n) (by have := h.zr; unfold big40; omega)
  have hl := h.len0 (keyH 73 n)
  rw [getT_tup] at c2
  change Con Tryz.prog _ _ _ _ (vH (s.rd (keyH 73 n))) _ at c2
  unfold VS.load
  generalize s.shown.get (keyH 73 n) = g at c2 hl
  generalize s.rd (keyH 73 n) = s' at c2
  cases g with
  | none =>
    by_cases h1 : n = 1
    · subst h1
      have cr := root_spec []
      show Con _ _ _ _ (nodeT (some (2, 2, 0, 1))) _ _
      refine con_of Tryz.func22 rfl (by kernel_rfl) rfl fun F w0 β0 => ?_
      refine K_tell rfl ?_
      refine go ?_
      refine K_op rfl rfl (opr_callP rfl rfl (c1) rfl rfl rfl rfl) rfl ?_
      refine go ?_
      refine K_op rfl rfl (opr_callS [.o 0, .o 1] rfl rfl (c2) rfl rfl rfl ⟨⟨rfl, rfl⟩, ⟨rfl, rfl⟩, trivial⟩ rfl rfl rfl rfl) rfl ?_
      refine go ?_
      refine K_op rfl rfl (opr_callP rfl rfl (cr) rfl rfl rfl rfl) rfl ?_
      refine go ?_
      exact J_done hT rfl rfl rfl
    · have c3 := nget_spec [] (by decide)
      rw [nodeT_tup] at c3
      have e : nodeT (ndOf n none) = .tup [ndT (0, 0, 0, 0), .p (.bool false)] := by
        show nodeT (if n = 1 then _ else _) = _
        rw [if_neg h1]; rfl
      rw [e]
      refine con_of Tryz.func22 rfl (by kernel_rfl) rfl fun F w0 β0 => ?_
      refine K_tell rfl ?_
      refine go ?_
      refine K_op rfl rfl (opr_callP rfl rfl (c1) rfl rfl rfl rfl) rfl ?_
      refine go ?_
      refine K_op rfl rfl (opr_callS [.o 0, .o 1] rfl rfl (c2) rfl rfl rfl ⟨⟨rfl, rfl⟩, ⟨rfl, rfl⟩, trivial⟩ rfl rfl rfl rfl) rfl ?_
      refine go ?_
      refine K_condF rfl (by simp [h1]) ?_
      refine go ?_
      refine K_op rfl rfl (opr_callP rfl rfl (c3) rfl rfl rfl rfl) rfl ?_
      refine go ?_
      exact J_done hT rfl rfl rfl
  | some v =>
    have c3 := nget_spec v (by dsimp only [Option.getD] at hl; omega)
    rw [nodeT_tup] at c3
    show Con _ _ _ _ (nodeT (getNode v)) _ _
    rw [nodeT_tup]
    generalize getNode v = g at c3
    refine con_of Tryz.func22 rfl (by kernel_rfl) rfl fun F w0 β0 => ?_
    refine K_tell rfl ?_
    refine go ?_
    refine K_op rfl rfl (opr_callP rfl rfl (c1) rfl rfl rfl rfl) rfl ?_
    refine go ?_
    refine K_op rfl rfl (opr_callS [.o 0, .o 1] rfl rfl (c2) rfl rfl rfl ⟨⟨rfl, rfl⟩, ⟨rfl, rfl⟩, trivial⟩ rfl rfl rfl rfl) rfl ?_
    refine go ?_
    refine K_op rfl rfl (opr_callP rfl rfl (c3) rfl rfl rfl rfl) rfl ?_
    refine go ?_
    exact J_done hT rfl rfl rfl
theorem wsave_spec {s : VS} {m : Nat} (h : VJ s m) (hm : m ≤ 1000000) (n : Int) (hn : 0 ≤ n ∧ n ≤ 4294967295) (g : Nd) (hg : Nd.ok g) : Con Tryz.prog 71 [vP, .p (.int .u32 n), ndA g] (vH s) (.p (.bool (s.room (keyH 73 n)))) (vH (s.save n g)) [] := by
  have c1 := kinode_spec n hn []
  have c2 := nput_spec g.1 g.2.1 g.2.2.1 g.2.2.2 hg.1 hg.2.1 hg.2.2.1 hg.2.2.2
  have c3 := vset_spec s (keyH 73 n) (nodeB g.1 g.2.1 g.2.2.1 g.2.2.2) (by have := h.zw; unfold big40; omega) (by have := h.zs; unfold big40; omega) (by rw [nodeB_l13]; omega)
  change Con Tryz.prog _ _ _ _ (vH (s.save n g)) _ at c3
  generalize s.save n g = s' at c3
  refine con_of Tryz.func71 rfl (by kernel_rfl) rfl fun F w0 β0 => ?_
  refine K_tell rfl ?_
  refine go ?_
  refine J_drawH1 5 (vH s') (by kernel_rfl) (by kernel_rfl) ?_
  refine gdJ ?_
  refine T_opH rfl rfl rfl rfl rfl rfl (opr_call0P rfl rfl (c1) rfl rfl rfl) rfl ?_
  refine gdJ ?_
  refine T_opH rfl rfl rfl rfl rfl rfl (opr_call0P rfl rfl (c2) rfl rfl rfl) rfl ?_
  refine gdJ ?_
  refine T_stH rfl rfl rfl rfl rfl rfl (opr_callS [.o 0, .o 1] rfl rfl (c3) rfl rfl rfl ⟨⟨rfl, rfl⟩, ⟨rfl, rfl⟩, trivial⟩ rfl rfl rfl rfl) rfl ?_
  refine gdJ ?_
  refine go ?_
  exact J_done hT rfl rfl rfl
theorem whang_spec {s : VS} {m : Nat} (h : VJ s m) (hm : m ≤ 1000000) (n i : Int) (hn : 0 ≤ n ∧ n ≤ 4294967295) (hi : 0 ≤ i ∧ i ≤ 4294967295) (x : List UInt8) : Con Tryz.prog 69 [vP, .p (.int .u32 n), .p (.str x), .p (.int .u32 i)] (vH s) (.p (.bool (s.room (entryK n x)))) (vH (s.put (entryK n x) (beB 4 i))) [] := by
  have c1 := kentry_spec n x hn []
  have c2 := put4 (s := .nils) (l := []) .nils i hi (by decide)
  rw [List.nil_append] at c2
  have c3 := vset_spec s (entryK n x) (beB 4 i) (by have := h.zw; unfold big40; omega) (by have := h.zs; unfold big40; omega) (by rw [beB_len]; omega)
  change Con Tryz.prog _ _ _ _ (vH (s.put (entryK n x) (beB 4 i))) _ at c3
  generalize s.put (entryK n x) (beB 4 i) = s' at c3
  refine con_of Tryz.func69 rfl (by kernel_rfl) rfl fun F w0 β0 => ?_
  refine K_tell rfl ?_
  refine go ?_
  refine K_op rfl rfl (opr_callP rfl rfl (c1) rfl rfl rfl rfl) rfl ?_
  refine go ?_
  refine J_val 14 _ rfl (congrArg (fun z => TV.p (.int .u64 z)) (u64_in i (by omega))) ?_
  refine K_op rfl rfl (opr_callP rfl rfl (c2) rfl rfl rfl rfl) rfl ?_
  refine go ?_
  refine K_op rfl rfl (opr_callS [.o 0, .o 1] rfl rfl (c3) rfl rfl rfl ⟨⟨rfl, rfl⟩, ⟨rfl, rfl⟩, trivial⟩ rfl rfl rfl rfl) rfl ?_
  refine go ?_
  exact J_done hT rfl rfl rfl
set_option maxHeartbeats 4000000 in
theorem wchild_spec {s : VS} {m : Nat} (h : VJ s m) (hm : m ≤ 1000000) (n : Int) (hn : 0 ≤ n ∧ n ≤ 4294967295) (x : List UInt8) : Con Tryz.prog 21 [vP, .p (.int .u32 n), .p (.str x)] (vH s) (chT (s.child n x)) (vH (s.rd (entryK n x))) [] := by
  have c1 := kentry_spec n x hn []
  have c2 := vget_spec s (entryK n x) (by have := h.zr; unfold big40; omega)
  have hl := h.len0 (entryK n x)
  rw [getT_tup] at c2
  change Con Tryz.prog _ _ _ _ (vH (s.rd (entryK n x))) _ at c2
  unfold VS.child chOf
  generalize s.shown.get (entryK n x) = g at c2 hl
  generalize s.rd (entryK n x) = s' at c2
  generalize g.getD [] = v at c2 hl
  generalize g.isSome = b at c2
  have c3 := get_spec (.ps v) 0 4 (by decide) (by omega) []
  rw [show (wide 4).toNat = 4 by decide] at c3
  by_cases h4 : v.length < 4
  · have e : getR v 0 4 = (0, 0, 3) := by unfold getR; rw [if_neg (by omega), if_pos (by omega)]
    rw [e] at c3
    change Con Tryz.prog _ _ _ (.tup [.p (.int .u64 0), .p (.int .i64 0), .p (.int .i64 3)]) _ _ at c3
    rw [if_neg (by omega)]
    refine con_of Tryz.func21 rfl (by kernel_rfl) rfl fun F w0 β0 => ?_
    refine K_tell rfl ?_
    refine go ?_
    refine K_op rfl rfl (opr_callP rfl rfl (c1) rfl rfl rfl rfl) rfl ?_
    refine go ?_
    refine K_op rfl rfl (opr_callS [.o 0, .o 1] rfl rfl (c2) rfl rfl rfl ⟨⟨rfl, rfl⟩, ⟨rfl, rfl⟩, trivial⟩ rfl rfl rfl rfl) rfl ?_
    refine go ?_
    refine K_op rfl rfl (opr_callP rfl rfl (c3) rfl rfl rfl rfl) rfl ?_
    refine go ?_
    exact J_done hT rfl rfl rfl
  · have e : getR v 0 4 = (gF v 0, 4, 0) := by unfold getR gF; rw [if_neg (by omega), if_neg (by omega)]; rfl
    rw [e] at c3
    change Con Tryz.prog _ _ _ (.tup [.p (.int .u64 (gF v 0)), .p (.int .i64 4), .p (.int .i64 0)]) _ _ at c3
    by_cases h5 : v.length = 4
    · rw [if_pos h5]
      refine con_of Tryz.func21 rfl (by kernel_rfl) rfl fun F w0 β0 => ?_
      refine K_tell rfl ?_
      refine go ?_
      refine K_op rfl rfl (opr_callP rfl rfl (c1) rfl rfl rfl rfl) rfl ?_
      refine go ?_
      refine K_op rfl rfl (opr_callS [.o 0, .o 1] rfl rfl (c2) rfl rfl rfl ⟨⟨rfl, rfl⟩, ⟨rfl, rfl⟩, trivial⟩ rfl rfl rfl rfl) rfl ?_
      refine go ?_
      refine K_op rfl rfl (opr_callP rfl rfl (c3) rfl rfl rfl rfl) rfl ?_
      refine go ?_
      refine K_condF rfl (by simp [h5]) ?_
      refine go ?_
      refine J_val 6 _ rfl (congrArg (fun z => TV.p (.int .u32 z)) (u32_in _ (gF_bd v 0))) ?_
      exact J_done hT rfl rfl rfl
    · rw [if_neg h5]
      refine con_of Tryz.func21 rfl (by kernel_rfl) rfl fun F w0 β0 => ?_
      refine K_tell rfl ?_
      refine go ?_
      refine K_op rfl rfl (opr_callP rfl rfl (c1) rfl rfl rfl rfl) rfl ?_
      refine go ?_
      refine K_op rfl rfl (opr_callS [.o 0, .o 1] rfl rfl (c2) rfl rfl rfl ⟨⟨rfl, rfl⟩, ⟨rfl, rfl⟩, trivial⟩ rfl rfl rfl rfl) rfl ?_
      refine go ?_
      refine K_op rfl rfl (opr_callP rfl rfl (c3) rfl rfl rfl rfl) rfl ?_
      refine go ?_
      refine K_condT rfl (by simp; omega) ?_
      refine go ?_
      exact J_done hT rfl rfl rfl
end Go.Proofs.YtfnpelogfcnanaaGreatDoor

/- walk: List, Find, Lead. -/
-- @D
namespace Go.Proofs.YtfnpelogfcnanaaGreatDoor
set_option maxRecDepth 20000
open Go.Awp Tr
/-- The names of a directory's entries. -/
def namesL (n : Int) (l : List KV) : List (List UInt8) := (l.filter fun x => decide (keyH 69 n <+: x.1)).map fun x => x.1.drop 5
/-- A spot: the directory, the name, the inode's number and the inode. -/
structure Sp where
  d : Int
  m : List UInt8
  i : Int
  n : Nd
abbrev spT (a : Sp) : TV := .agg [.p (.int .u32 a.d), .p (.str a.m), .p (.int .u32 a.i), .p (.int .u8 a.n.1), .p (.int .u32 a.n.2.1), .p (.int .u32 a.n.2.2.1), .p (.int .u32 a.n.2.2.2)]
abbrev ndB (g : Nd) : AObj := .box 53 [.p (.int .u8 g.1), .p (.int .u32 g.2.1), .p (.int .u32 g.2.2.1), .p (.int .u32 g.2.2.2)]
abbrev spB (a : Sp) : AObj := .box 59 [.p (.int .u32 a.d), .p (.str a.m), .p (.int .u32 a.i), .p (.int .u8 a.n.1), .p (.int .u32 a.n.2.1), .p (.int .u32 a.n.2.2.1), .p (.int .u32 a.n.2.2.2)]
def sp0 : Sp := ⟨0, [], 0, (0, 0, 0, 0)⟩
def Sp.ok (a : Sp) : Prop := (0 ≤ a.d ∧ a.d ≤ 4294967295) ∧ (0 ≤ a.i ∧ a.i ≤ 4294967295) ∧ Nd.ok a.n
/-- One name further: the spot, what is read. -/
def stepF (s : VS) (a : Sp) (x : List UInt8) : Sp × List (List UInt8) :=
  match s.child a.i x with
  | none => (⟨a.i, x, 0, (0, 0, 0, 0)⟩, [entryK a.i x])
  | some j => (if (s.load j).isSome = true ∧ j ≠ 0 then ⟨a.i, x, j, (s.load j).getD (0, 0, 0, 0)⟩ else ⟨a.i, x, 0, (0, 0, 0, 0)⟩, [entryK a.i x, keyH 73 j])
/-- What names lead to: the spot, the error, what is read. -/
def goF (s : VS) : List (List UInt8) → Sp → List (List UInt8) → Sp × Int × List (List UInt8)
  | [], a, ks => (a, 0, ks)
  | x :: r, a, ks => if a.i = 0 then (sp0, 10, ks) else if a.n.1 ≠ 2 then (sp0, 12, ks) else goF s r (stepF s a x).1 (ks ++ (stepF s a x).2)
def spR (s : VS) : Sp := ⟨0, [], 1, (s.load 1).getD (0, 0, 0, 0)⟩
/-- A path's names. -/
def namesP (l : List UInt8) : List (List UInt8) := if (splitN l).2 ≠ 0 ∨ l = [47] then [] else spl 47 (l.drop 1)
def VS.find (s : VS) (l : List UInt8) : Sp × Int × List (List UInt8) := if (splitN l).2 ≠ 0 then (sp0, (splitN l).2, []) else goF s (namesP l) (spR s) [keyH 73 1]
theorem goF_cons (s : VS) (x : List UInt8) (r : List (List UInt8)) (a : Sp) (ks : List (List UInt8)) : goF s (x :: r) a ks = if a.i = 0 then (sp0, 10, ks) else if a.n.1 ≠ 2 then (sp0, 12, ks) else goF s r (stepF s a x).1 (ks ++ (stepF s a x).2) := rfl
theorem goF_nil (s : VS) (a : Sp) (ks : List (List UInt8)) : goF s [] a ks = (a, 0, ks) := rfl
theorem child_rds (s : VS) (ks : List (List UInt8)) (n : Int) (x : List UInt8) : (s.rds ks).child n x = s.child n x := rfl
theorem load_ok {s : VS} {n : Int} : Nd.ok ((s.load n).getD (0, 0, 0, 0)) := by
  cases h : s.load n with
  | none => unfold Nd.ok; decide
  | some g => exact ndOf_ok h
theorem spR_ok (s : VS) : Sp.ok (spR s) := ⟨by unfold spR; dsimp only; omega, by unfold spR; dsimp only; omega, load_ok⟩
theorem nd0_ok : Nd.ok (0, 0, 0, 0) := by unfold Nd.ok; decide
theorem sp0_ok : Sp.ok sp0 := by unfold Sp.ok Nd.ok sp0; decide
theorem stepF_ok {s : VS} {a : Sp} (h : Sp.ok a) (x : List UInt8) : Sp.ok (stepF s a x).1 ∧ (stepF s a x).2.length ≤ 2 := by
  unfold stepF
  cases hc : s.child a.i x with
  | none => exact ⟨⟨h.2.1, by dsimp only; omega, nd0_ok⟩, by simp⟩
  | some j =>
    dsimp only
    refine ⟨?_, by simp⟩
    split
    · exact ⟨h.2.1, chOf_ok hc, load_ok⟩
    · exact ⟨h.2.1, by dsimp only; omega, nd0_ok⟩
theorem goF_ok {s : VS} : ∀ (r : List (List UInt8)) (a : Sp) (ks : List (List UInt8)), Sp.ok a → Sp.ok (goF s r a ks).1 ∧ (goF s r a ks).2.2.length ≤ ks.length + 2 * r.length
  | [], a, ks, h => ⟨h, Nat.le_refl _⟩
  | x :: r, a, ks, h => by
    have h0 := sp0_ok
    unfold goF
    split
    · exact ⟨h0, by dsimp only; omega⟩
    split
    · exact ⟨h0, by dsimp only; omega⟩
    have h1 := stepF_ok (s := s) h x
    have h2 := goF_ok (s := s) r (stepF s a x).1 (ks ++ (stepF s a x).2) h1.1
    refine ⟨h2.1, ?_⟩
    have h3 := h2.2
    rw [List.length_append] at h3
    rw [List.length_cons]
    omega
/-- A path's names, as many as may be. -/
theorem splitN_eq {l : List UInt8} (h : (splitN l).2 = 0) : ((splitN l).1 = .nils ∧ namesP l = [] ∨ (splitN l).1 = .ps ((namesP l).map .str)) ∧ (namesP l).length ≤ 16 ∧ ∀ x ∈ namesP l, nameB x = true := by
  unfold splitN at h
  have hn : namesP l = if (splitN l).2 ≠ 0 ∨ l = [47] then [] else spl 47 (l.drop 1) := rfl
  by_cases h1 : l = [] ∨ 255 < l.length
  · rw [if_pos h1] at h; cases h
  rw [if_neg h1] at h
  by_cases h2 : l.headD 0 ≠ 47
  · rw [if_pos h2] at h; cases h
  rw [if_neg h2] at h
  by_cases h3 : l = [47]
  · have e : namesP l = [] := by rw [hn, if_pos (.inr h3)]
    have e2 : splitN l = (.nils, 0) := by unfold splitN; rw [if_neg h1, if_neg h2, if_pos h3]
    rw [e, e2]
    exact ⟨.inl ⟨rfl, rfl⟩, by simp, by simp⟩
  · rw [if_neg h3] at h
    by_cases hm : mayN (spl 47 (l.drop 1)) = true
    · have e2 : splitN l = (.ps ((spl 47 (l.drop 1)).map .str), 0) := by unfold splitN; rw [if_neg h1, if_neg h2, if_neg h3, if_pos hm]
      have e : namesP l = spl 47 (l.drop 1) := by rw [hn, e2, if_neg (by simp [h3])]
      rw [e, e2]
      unfold mayN at hm
      rw [Bool.and_eq_true, decide_eq_true_eq, Bool.not_eq_true', List.any_eq_false] at hm
      refine ⟨.inr rfl, by omega, fun x hx => ?_⟩
      have := hm.2 x hx
      simpa using this
    · rw [if_neg hm] at h; cases h
theorem find_ok (s : VS) (l : List UInt8) : Sp.ok (s.find l).1 ∧ (s.find l).2.2.length ≤ 33 := by
  unfold VS.find
  split
  · exact ⟨sp0_ok, by simp⟩
  · rename_i h
    have h2 := splitN_eq (l := l) (by simpa using h)
    have h1 := goF_ok (s := s) (namesP l) (spR s) [keyH 73 1] (spR_ok s)
    refine ⟨h1.1, Nat.le_trans h1.2 ?_⟩
    have := h2.2.1
    simp only [List.length_cons, List.length_nil]
    omega
def VS.rngE (s : VS) (n : Int) : VS := s.range (keyH 69 n) (beh (keyH 69 n))
/-- How far a path is gone. -/
structure FI17 (s : VS) (N : List (List UInt8)) where
  i : Nat
  a : Sp
  ks : List (List UInt8)
  h : i ≤ N.length
  e : goF s (N.drop i) a ks = goF s N (spR s) [keyH 73 1]
  ok : Sp.ok a
  hk : ks.length ≤ 1 + 2 * i
set_option maxHeartbeats 16000000 in
theorem wfind_spec {s : VS} {m : Nat} (h : VJ s m) (hm : m ≤ 900000) (p : List UInt8) : Con Tryz.prog 24 [vP, .p (.str p)] (vH s) (.tup [spT (s.find p).1, .p (.int .i64 (s.find p).2.1)]) (vH (s.rds (s.find p).2.2)) [] := by
  have c1 := nsplit_spec p
  have hsp := splitN_eq (l := p)
  unfold VS.find
  generalize (splitN p).2 = e at c1 hsp
  generalize (splitN p).1 = av at c1 hsp
  by_cases he : e ≠ 0
  · rw [if_pos he]
    refine con_of Tryz.func24 rfl (by kernel_rfl) rfl fun F w0 β0 => ?_
    refine K_tell rfl ?_
    refine go ?_
    refine K_op rfl rfl (opr_callP rfl rfl (c1) rfl rfl rfl rfl) rfl ?_
    refine go ?_
    refine K_condT rfl (by simp [he]) ?_
    refine go ?_
    exact J_done hT rfl rfl rfl
  rw [if_neg he]
  obtain rfl : e = 0 := by simpa using he
  obtain ⟨hav, hn16, _⟩ := hsp rfl
  have hle : AVLe av (.ps ((namesP p).map .str)) := by
    rcases hav with ⟨rfl, h2⟩ | rfl
    · rw [h2]; exact nils_ps
    · exact AVLe.refl _
  generalize namesP p = N at hle hn16
  have hlN : (N.map AV.str).length = N.length := by simp
  have c2 := wload_spec h (by omega) 1 (by decide)
  rw [nodeT_tup] at c2
  refine con_of Tryz.func24 rfl (by kernel_rfl) rfl fun F w0 β0 => ?_
  refine K_tell rfl ?_
  refine go ?_
  refine K_op rfl rfl (opr_callP rfl rfl (c1) rfl rfl rfl rfl) rfl ?_
  refine go ?_
  refine K_op rfl rfl (opr_callS [.o 0, .o 1] rfl rfl (c2) rfl rfl rfl ⟨⟨rfl, rfl⟩, ⟨rfl, rfl⟩, trivial⟩ rfl rfl rfl rfl) rfl ?_
  refine go ?_
  refine J_le 33 _ rfl hle ?_
  refine go ?_
  refine J_loop (fun q : FI17 s N => [(0, vP), (4, .ad (.l 0) 0), (10, .ad (.l 2) 0), (33, .p (.ps (N.map .str))), (34, .p (.int .i64 (N.length : Int))), (35, .p (.int .i64 (q.i : Int)))]) (fun q => vH (s.rds q.ks)) (fun q => [.box 59 [.p (.int .u32 0), .p (.str []), .p (.int .u32 0), .p (.int .u8 0), .p (.int .u32 0), .p (.int .u32 0), .p (.int .u32 0)], .box 53 [.p (.int .u8 ((s.load 1).getD (0, 0, 0, 0)).1), .p (.int .u32 ((s.load 1).getD (0, 0, 0, 0)).2.1), .p (.int .u32 ((s.load 1).getD (0, 0, 0, 0)).2.2.1), .p (.int .u32 ((s.load 1).getD (0, 0, 0, 0)).2.2.2)], .box 59 [.p (.int .u32 q.a.d), .p (.str q.a.m), .p (.int .u32 q.a.i), .p (.int .u8 q.a.n.1), .p (.int .u32 q.a.n.2.1), .p (.int .u32 q.a.n.2.2.1), .p (.int .u32 q.a.n.2.2.2)]]) (fun q => N.length - q.i) ⟨0, spR s, [keyH 73 1], by omega, rfl, spR_ok s, by simp⟩ ⟨rfl, rfl, rfl, rfl, (by rw [← hlN]; rfl), rfl, trivial⟩ rfl rfl (fun q => ?_)
  have hi := q.h
  have hqe := q.e
  have hok := q.ok
  have hks := q.hk
  refine go ?_
  by_cases hlt : q.i < N.length
  · have hx : N[q.i]? = some N[q.i] := List.getElem?_eq_getElem hlt
    have hdr : N.drop q.i = N[q.i] :: N.drop (q.i + 1) := List.drop_eq_getElem_cons hlt
    rw [hdr] at hqe
    generalize N[q.i] = x at hx hqe
    have hxk : (N.map AV.str)[((q.i : Nat) : Int).toNat]? = some (.str x) := by rw [Int.toNat_natCast, List.getElem?_map, hx]; rfl
    refine K_condT rfl (decide_eq_true (by omega)) ?_
    refine go ?_
    refine K_op rfl rfl (opr_index hT rfl rfl rfl rfl rfl (.ps _) (by omega) (by rw [hlN]; omega)) rfl ?_
    refine go ?_
    refine K_op rfl rfl (opr_load_el hT rfl rfl (.ps _) hxk rfl rfl) rfl ?_
    refine go ?_
    rw [goF_cons] at hqe
    by_cases h0 : q.a.i = 0
    · rw [if_pos h0] at hqe
      refine K_condT rfl (by simp [h0]) ?_
      refine go ?_
      rw [← hqe]
      exact J_done hT rfl rfl rfl
    rw [if_neg h0] at hqe
    refine K_condF rfl (by simp [h0]) ?_
    refine go ?_
    by_cases h2 : q.a.n.1 ≠ 2
    · rw [if_pos h2] at hqe
      refine K_condT rfl (by simp [h2]) ?_
      refine go ?_
      rw [← hqe]
      exact J_done hT rfl rfl rfl
    rw [if_neg h2] at hqe
    refine K_condF rfl (by simpa using h2) ?_
    have hv := h.rds q.ks
    have c3 := wchild_spec hv (by omega) q.a.i hok.2.1 x
    rw [child_rds] at c3
    have hst := stepF_ok (s := s) hok x
    unfold stepF at hqe hst
    cases hc : s.child q.a.i x with
    | none =>
      rw [hc] at c3 hqe hst
      dsimp only at hqe hst
      refine go ?_
      refine K_op rfl rfl (opr_callS [.o 0, .o 1] rfl rfl (c3) rfl rfl rfl ⟨⟨rfl, rfl⟩, ⟨rfl, rfl⟩, trivial⟩ rfl rfl rfl rfl) rfl ?_
      refine go ?_
      refine J_take 3 [(0, vP), (4, .ad (.l 0) 0), (10, .ad (.l 2) 0), (33, .p (.ps (N.map .str))), (34, .p (.int .i64 (N.length : Int))), (35, .p (.int .i64 (IntKind.i64.wrap ((q.i : Int) + 1))))] ⟨rfl, rfl, rfl, rfl, rfl, rfl, trivial⟩ rfl rfl ?_
      refine J_again ⟨q.i + 1, ⟨q.a.i, x, 0, (0, 0, 0, 0)⟩, q.ks ++ [entryK q.a.i x], by omega, hqe, hst.1, by rw [List.length_append]; simp only [List.length_cons, List.length_nil]; omega⟩ (by show N.length - (q.i + 1) < N.length - q.i; omega) ⟨rfl, rfl, rfl, rfl, rfl, congrArg (fun z => TV.p (.int .i64 z)) (by rw [IntWalk.i64_in _ (by omega)]; rfl), trivial⟩ (congrArg vH (rds_app s q.ks [entryK q.a.i x])) rfl
    | some j =>
      have hj := chOf_ok hc
      rw [hc] at c3 hqe hst
      dsimp only at hqe hst
      have c4 := wload_spec (hv.rd (entryK q.a.i x)) (by omega) j hj
      rw [nodeT_tup] at c4
      change Con Tryz.prog _ _ _ (.tup [ndT ((s.load j).getD (0, 0, 0, 0)), .p (.bool (s.load j).isSome)]) _ _ at c4
      refine go ?_
      refine K_op rfl rfl (opr_callS [.o 0, .o 1] rfl rfl (c3) rfl rfl rfl ⟨⟨rfl, rfl⟩, ⟨rfl, rfl⟩, trivial⟩ rfl rfl rfl rfl) rfl ?_
      refine go ?_
      refine K_op rfl rfl (opr_callS [.o 0, .o 1] rfl rfl (c4) rfl rfl rfl ⟨⟨rfl, rfl⟩, ⟨rfl, rfl⟩, trivial⟩ rfl rfl rfl rfl) rfl ?_
      refine go ?_
      cases hl : (s.load j).isSome with
      | false =>
        rw [hl, if_neg (by simp)] at hqe hst
        refine go ?_
        refine J_take 3 [(0, vP), (4, .ad (.l 0) 0), (10, .ad (.l 2) 0), (33, .p (.ps (N.map .str))), (34, .p (.int .i64 (N.length : Int))), (35, .p (.int .i64 (IntKind.i64.wrap ((q.i : Int) + 1))))] ⟨rfl, rfl, rfl, rfl, rfl, rfl, trivial⟩ rfl rfl ?_
        refine J_again ⟨q.i + 1, ⟨q.a.i, x, 0, (0, 0, 0, 0)⟩, q.ks ++ [entryK q.a.i x, keyH 73 j], by omega, hqe, hst.1, by rw [List.length_append]; simp only [List.length_cons, List.length_nil]; omega⟩ (by show N.length - (q.i + 1) < N.length - q.i; omega) ⟨rfl, rfl, rfl, rfl, rfl, congrArg (fun z => TV.p (.int .i64 z)) (by rw [IntWalk.i64_in _ (by omega)]; rfl), trivial⟩ (congrArg vH (rds_app s q.ks [entryK q.a.i x, keyH 73 j])) rfl
      | true =>
        by_cases hj0 : j = 0
        · rw [if_neg (by simp [hj0])] at hqe hst
          refine go ?_
          refine K_condF rfl (by simp [hj0]) ?_
          refine go ?_
          refine J_take 3 [(0, vP), (4, .ad (.l 0) 0), (10, .ad (.l 2) 0), (33, .p (.ps (N.map .str))), (34, .p (.int .i64 (N.length : Int))), (35, .p (.int .i64 (IntKind.i64.wrap ((q.i : Int) + 1))))] ⟨rfl, rfl, rfl, rfl, rfl, rfl, trivial⟩ rfl rfl ?_
          refine J_again ⟨q.i + 1, ⟨q.a.i, x, 0, (0, 0, 0, 0)⟩, q.ks ++ [entryK q.a.i x, keyH 73 j], by omega, hqe, hst.1, by rw [List.length_append]; simp only [List.length_cons, List.length_nil]; omega⟩ (by show N.length - (q.i + 1) < N.length - q.i; omega) ⟨rfl, rfl, rfl, rfl, rfl, congrArg (fun z => TV.p (.int .i64 z)) (by rw [IntWalk.i64_in _ (by omega)]; rfl), trivial⟩ (congrArg vH (rds_app s q.ks [entryK q.a.i x, keyH 73 j])) rfl
        · rw [hl, if_pos (by simp [hj0])] at hqe hst
          refine go ?_
          refine K_condT rfl (by simp [hj0]) ?_
          refine go ?_
          refine J_draw [[spB ⟨0, [], 0, (0, 0, 0, 0)⟩, ndB ((s.load 1).getD (0, 0, 0, 0)), spB ⟨q.a.i, x, 0, (0, 0, 0, 0)⟩, ndB ((s.load j).getD (0, 0, 0, 0))], [spB ⟨0, [], 0, (0, 0, 0, 0)⟩, ndB ((s.load 1).getD (0, 0, 0, 0)), spB ⟨q.a.i, x, j, (0, 0, 0, 0)⟩, ndB ((s.load j).getD (0, 0, 0, 0))], [spB ⟨0, [], 0, (0, 0, 0, 0)⟩, ndB ((s.load 1).getD (0, 0, 0, 0)), spB ⟨q.a.i, x, j, (s.load j).getD (0, 0, 0, 0)⟩, ndB ((s.load j).getD (0, 0, 0, 0))]] [3, 5] (by kernel_rfl) (by kernel_rfl) rfl ?_
          refine gdW ?_
          refine go ?_
          refine J_take 3 [(0, vP), (4, .ad (.l 0) 0), (10, .ad (.l 2) 0), (33, .p (.ps (N.map .str))), (34, .p (.int .i64 (N.length : Int))), (35, .p (.int .i64 (IntKind.i64.wrap ((q.i : Int) + 1))))] ⟨rfl, rfl, rfl, rfl, rfl, rfl, trivial⟩ rfl rfl ?_
          refine J_again ⟨q.i + 1, ⟨q.a.i, x, j, (s.load j).getD (0, 0, 0, 0)⟩, q.ks ++ [entryK q.a.i x, keyH 73 j], by omega, hqe, hst.1, by rw [List.length_append]; simp only [List.length_cons, List.length_nil]; omega⟩ (by show N.length - (q.i + 1) < N.length - q.i; omega) ⟨rfl, rfl, rfl, rfl, rfl, congrArg (fun z => TV.p (.int .i64 z)) (by rw [IntWalk.i64_in _ (by omega)]; rfl), trivial⟩ (congrArg vH (rds_app s q.ks [entryK q.a.i x, keyH 73 j])) rfl
  · have e : q.i = N.length := by omega
    rw [e, List.drop_length] at hqe
    rw [goF_nil] at hqe
    rw [← hqe]
    refine K_condF rfl (decide_eq_false (by omega)) ?_
    refine go ?_
    exact J_done hT rfl rfl rfl
end Go.Proofs.YtfnpelogfcnanaaGreatDoor

/- The laws of layer 14: do. -/
import Derived.Test.YtbdijekfplpnlaaGo
import Derived.Test.YtbdijekfplpnlaaF14j
-- @D
namespace Go.Proofs.Ytbdijekfplpnlaa
set_option maxRecDepth 20000
open Go.Awp Tr
theorem shownL_get : ∀ (w : List KV) {b : List KV}, Rises b → Rises w → ∀ kk, lget kk (shownL b w) = match lget kk w with | some raw => (if raw = [] then none else some (raw.drop 1)) | none => lget kk b
  | [], b, hb, hw, kk => rfl
  | x :: r, b, hb, hw, kk => by
    have hp := List.pairwise_cons.1 hw
    have h1 := (stepW_ok' x hb).1
    have ih := shownL_get r h1 hp.2 kk
    show lget kk (shownL (stepW b x) r) = _
    rw [ih]
    by_cases e : x.1 = kk
    · have hn : lget kk r = none := lget_none fun y hy => fun e2 => lt_ne (hp.1 y hy) (by rw [e, e2])
      rw [hn, lget, if_pos e]
      dsimp only
      unfold stepW
      by_cases hg : x.2 = []
      · rw [if_pos hg, if_pos hg, lget_lcut, if_pos e.symm]
      · rw [if_neg hg, if_neg hg, lget_lset hb, if_pos e.symm]
    · rw [lget, if_neg e]
      cases hr : lget kk r with
      | some raw => rfl
      | none =>
        dsimp only
        unfold stepW
        by_cases hg : x.2 = []
        · rw [if_pos hg, lget_lcut, if_neg fun h => e h.symm]
        · rw [if_neg hg, lget_lset hb, if_neg fun h => e h.symm]
theorem shownL_set {b w : List KV} (hb : Rises b) (hw : Rises w) (k v : List UInt8) : lset k v (shownL b w) = shownL b (lset k (61 :: v) w) := by
  have h1 := (shownL_ok w hb).1
  have h2 : Rises (lset k (61 :: v) w) := lset_rises hw
  refine lget_ext (lset_rises h1) (shownL_ok _ hb).1 fun kk => ?_
  rw [lget_lset h1, shownL_get _ hb h2, shownL_get _ hb hw, lget_lset hw]
  by_cases e : kk = k
  · rw [if_pos e, if_pos e]; rfl
  · rw [if_neg e, if_neg e]
theorem shownL_cut {b w : List KV} (hb : Rises b) (hw : Rises w) (k : List UInt8) : lcut k (shownL b w) = shownL b (putW b w k []) := by
  have h1 := (shownL_ok w hb).1
  have h2 : Rises (putW b w k []) := by unfold putW; split; exact lcut_rises hw; exact lset_rises hw
  refine lget_ext (lcut_rises h1) (shownL_ok _ hb).1 fun kk => ?_
  rw [lget_lcut, shownL_get _ hb h2, shownL_get _ hb hw]
  unfold putW
  by_cases hs : (([] : List UInt8) == [] && !(lget k b).isSome) = true
  · rw [if_pos hs, lget_lcut]
    by_cases e : kk = k
    · rw [if_pos e, if_pos e]
      dsimp only
      rw [e]
      simp only [beq_self_eq_true, Bool.true_and, Bool.not_eq_true'] at hs
      cases hq : lget k b with
      | none => rfl
      | some v => rw [hq] at hs; cases hs
    · rw [if_neg e, if_neg e]
  · rw [if_neg hs, lget_lset hw]
    by_cases e : kk = k
    · rw [if_pos e, if_pos e]; rfl
    · rw [if_neg e, if_neg e]
/-- What holds of a view. -/
structure VI (s : VS) (n : Nat) : Prop where
  rb : Rises s.base.row
  rs : Rises s.shown.row
  rw : Rises s.writes.row
  rr : Rises s.reads.row
  sh : s.shown.row = shownL s.base.row s.writes.row
  zb : s.base.size ≤ 60
  zs : s.shown.size ≤ 60 + n
  zw : s.writes.size ≤ n
  zr : s.reads.size ≤ n
  zg : s.ranges.length ≤ n
theorem VI.new {t : Tr} (h : Rises t.row) (hz : t.size ≤ 60) : VI (VS.new t) 0 :=
  ⟨h, h, by simp [VS.new, row, Rises], by simp [VS.new, row, Rises], rfl, hz, hz, Nat.le_refl _, Nat.le_refl _, Nat.le_refl _⟩
def VS.do (s : VS) (o : VOp) : VS :=
  if o.kind = 0 then { s with reads := s.reads.set o.key [] }
  else if o.kind = 2 then s.range o.key o.val
  else if o.kind = 3 then (if s.room o.key = true then s.set o.key o.val else s)
  else if o.kind = 4 then (if s.room o.key = true then s.cut o.key else s)
  else s
theorem VI.reads {s : VS} {n : Nat} (h : VI s n) (k : List UInt8) : VI { s with reads := s.reads.set k [] } (n + 1) :=
  ⟨h.rb, h.rs, h.rw, set_rises h.rr, h.sh, h.zb, by have := h.zs; dsimp only; omega, by have := h.zw; dsimp only; omega, by have := h.zr; have := set_size k [] s.reads; dsimp only; omega, by have := h.zg; dsimp only; omega⟩
theorem VI.up {s : VS} {n : Nat} (h : VI s n) : VI s (n + 1) :=
  ⟨h.rb, h.rs, h.rw, h.rr, h.sh, h.zb, by have := h.zs; omega, by have := h.zw; omega, by have := h.zr; omega, by have := h.zg; omega⟩
theorem VI.mono {s : VS} {n m : Nat} (h : VI s n) (hm : n ≤ m) : VI s m :=
  ⟨h.rb, h.rs, h.rw, h.rr, h.sh, h.zb, by have := h.zs; omega, by have := h.zw; omega, by have := h.zr; omega, by have := h.zg; omega⟩
theorem VI.range {s : VS} {n : Nat} (h : VI s n) (a b : List UInt8) : VI (s.range a b) (n + 1) := by
  unfold VS.range
  split
  · refine ⟨h.rb, h.rs, h.rw, h.rr, h.sh, h.zb, by have := h.zs; dsimp only; omega, by have := h.zw; dsimp only; omega, by have := h.zr; dsimp only; omega, ?_⟩
    have := h.zg
    dsimp only
    split
    · omega
    · rw [List.length_append]; simp; omega
  · exact h.up
theorem VI.set {s : VS} {n : Nat} (h : VI s n) (k v : List UInt8) : VI (s.set k v) (n + 1) := by
  refine ⟨h.rb, set_rises h.rs, set_rises h.rw, h.rr, ?_, h.zb, ?_, ?_, by have := h.zr; unfold VS.set; dsimp only; omega, by have := h.zg; unfold VS.set; dsimp only; omega⟩
  · show (s.shown.set k v).row = shownL s.base.row (s.writes.set k (61 :: v)).row
    rw [set_row _ _ _ h.rs, set_row _ _ _ h.rw, h.sh, shownL_set h.rb h.rw]
  · have := set_size k v s.shown
    have := h.zs
    unfold VS.set; dsimp only; omega
  · have := set_size k (61 :: v) s.writes
    have := h.zw
    unfold VS.set; dsimp only; omega
theorem cut_writes {s : VS} {n : Nat} (h : VI s n) (k : List UInt8) : (s.cut k).writes.row = putW s.base.row s.writes.row k [] := by
  unfold VS.cut putW
  dsimp only
  rw [← get_row _ _ h.rb]
  cases (s.base.get k).isSome with
  | true => simp only [if_true]; rw [set_row _ _ _ h.rw]; rfl
  | false => simp only [Bool.false_eq_true, if_false]; rw [cut_row _ _ h.rw]; rfl
theorem VI.cut {s : VS} {n : Nat} (h : VI s n) (k : List UInt8) : VI (s.cut k) (n + 1) := by
  have hw := cut_writes h k
  refine ⟨h.rb, cut_rises h.rs, ?_, h.rr, ?_, h.zb, ?_, ?_, by have := h.zr; unfold VS.cut; dsimp only; omega, by have := h.zg; unfold VS.cut; dsimp only; omega⟩
  · unfold VS.cut
    dsimp only
    split
    · exact set_rises h.rw
    · exact cut_rises h.rw
  · show (s.shown.cut k).row = shownL s.base.row (s.cut k).writes.row
    rw [hw, cut_row _ _ h.rs, h.sh, shownL_cut h.rb h.rw]
  · have := cut_size s.shown k
    have := h.zs
    unfold VS.cut; dsimp only; omega
  · have h1 := set_size k [] s.writes
    have h2 := cut_size s.writes k
    have := h.zw
    unfold VS.cut
    dsimp only
    split <;> omega
theorem VI.do {s : VS} {n : Nat} (h : VI s n) (o : VOp) : VI (s.do o) (n + 1) := by
  unfold VS.do
  repeat' split
  · exact h.reads _
  · exact h.range _ _
  · exact h.set _ _
  · exact h.up
  · exact h.cut _
  · exact h.up
  · exact h.up
theorem VI.room {s : VS} {n : Nat} (h : VI s n) (k : List UInt8) : roomW s.writes.row k = s.room k := by
  unfold roomW VS.room
  rw [← get_row _ _ h.rw, row_len]
abbrev mS (s : VS) : TV := mT s.base.row s.writes.row s.reads.row s.ranges
abbrev mSA (s : VS) : TV := mA s.base.row s.writes.row s.reads.row s.ranges
set_option maxHeartbeats 16000000 in
theorem do14_spec (s : VS) (n : Nat) (h : VI s n) (hn : n ≤ 1000) (o : VOp) (hv : o.val.length ≤ 1000) : Con Try.prog 41 [vP, mSA s, .p (vopV o)] (vH s) (.tup [.p (.bool true), mS (s.do o)]) (vH (s.do o)) [] := by
  have zb := h.zb
  have zs := h.zs
  have zw := h.zw
  have zr := h.zr
  have zg := h.zg
  have lb : s.base.row.length ≤ 1000000 := by rw [row_len]; omega
  have lw : s.writes.row.length ≤ 1000000 := by rw [row_len]; omega
  have lr : s.reads.row.length ≤ 1000000 := by rw [row_len]; omega
  unfold VS.do
  by_cases h0 : o.kind = 0
  · rw [if_pos h0]
    have c1 := vget_spec s o.key (by unfold big40; omega)
    have c2 := rvget_spec s.base.row s.writes.row s.reads.row s.ranges o.key h.rb h.rr lb lw lr
    rw [← set_row _ _ _ h.rr, ← h.sh, ← get_row _ _ h.rs] at c2
    rw [getT_tup] at c1
    generalize (s.shown.get o.key).getD [] = gv at c1 c2
    generalize (s.shown.get o.key).isSome = gb at c1 c2
    refine con_of Try.func41 rfl (by kernel_rfl) rfl fun F w0 β0 => ?_
    refine K_tell rfl ?_
    refine go ?_
    refine K_condT rfl (by simp [h0]) ?_
    refine go ?_
    refine K_op rfl rfl (opr_callS [.o 0, .o 1] rfl rfl (c1) rfl rfl rfl ⟨⟨rfl, rfl⟩, ⟨rfl, rfl⟩, trivial⟩ rfl rfl rfl rfl) rfl ?_
    refine go ?_
    refine K_op rfl rfl (opr_callP rfl rfl (c2) rfl rfl rfl rfl) rfl ?_
    refine go ?_
    refine J_drawS 10 (by kernel_rfl) (by kernel_rfl) ?_
    apply Exists.intro
    refine gdW ?_
    rw [beq_self_eq_true]
    refine gdW ?_
    refine K_only [6, 7] rfl ?_
    rw [beq_self_eq_true]
    refine go ?_
    exact J_done hT rfl rfl rfl
  rw [if_neg h0]
  by_cases h1 : o.kind = 1
  · rw [if_neg (by omega), if_neg (by omega), if_neg (by omega)]
    have c1 := vlook_spec s o.key
    have c2 := rvget_spec s.base.row s.writes.row s.reads.row s.ranges o.key h.rb h.rr lb lw lr
    rw [← h.sh, ← get_row _ _ h.rs] at c2
    rw [getT_tup] at c1
    generalize (s.shown.get o.key).getD [] = gv at c1 c2
    generalize (s.shown.get o.key).isSome = gb at c1 c2
    generalize lset o.key [] s.reads.row = nr at c2
    refine con_of Try.func41 rfl (by kernel_rfl) rfl fun F w0 β0 => ?_
    refine K_tell rfl ?_
    refine go ?_
    refine K_condF rfl (by simp [h0]) ?_
    refine go ?_
    refine K_condT rfl (by simp [h1]) ?_
    refine go ?_
    refine K_op rfl rfl (opr_callS [.o 0, .o 1] rfl rfl (c1) rfl rfl rfl ⟨⟨rfl, rfl⟩, ⟨rfl, rfl⟩, trivial⟩ rfl rfl rfl rfl) rfl ?_
    refine go ?_
    refine K_op rfl rfl (opr_callP rfl rfl (c2) rfl rfl rfl rfl) rfl ?_
    refine go ?_
    refine J_drawS 10 (by kernel_rfl) (by kernel_rfl) ?_
    apply Exists.intro
    refine gdW ?_
    rw [beq_self_eq_true]
    refine gdW ?_
    refine K_only [6, 7] rfl ?_
    rw [beq_self_eq_true]
    refine go ?_
    exact J_done hT rfl rfl rfl
  by_cases h2 : o.kind = 2
  · rw [if_pos h2]
    have c1 := rvrange_spec s.base.row s.writes.row s.reads.row s.ranges o.key o.val h.rb lb lw (by omega)
    have c2 := (vrange_spec s o.key o.val (by unfold big40; omega) (by unfold big40; omega)).toPs (.inl rfl)
    have er : (if Op.bytesLess o.key o.val = true then lrange o.key o.val (shownL s.base.row s.writes.row) else []) = s.rangeR o.key o.val := by
      unfold VS.rangeR
      split
      · rw [range_row _ _ _ h.rs, h.sh]
      · rfl
    have eg : (if Op.bytesLess o.key o.val = true then rangeG s.ranges o.key o.val else s.ranges) = (s.range o.key o.val).ranges := by
      unfold VS.range rangeG
      split <;> rfl
    rw [er, eg] at c1
    have hrl : (s.rangeR o.key o.val).length ≤ big40 := by
      unfold VS.rangeR
      split
      · exact Nat.le_trans (range_len ..) (by unfold big40; omega)
      · simp
    have c3 := rsame10_rd (.ps (kvs (s.rangeR o.key o.val))) (.ps (kvs (s.rangeR o.key o.val))) ((s.rangeR o.key o.val).map kp) ((s.rangeR o.key o.val).map kp) (fun L => by rw [← kvs_pw]; exact .ps _) (fun L => by rw [← kvs_pw]; exact .ps _) (by simpa using hrl) (by simpa using hrl)
    rw [decide_eq_true rfl] at c3
    generalize kvs (s.rangeR o.key o.val) = R at c1 c2 c3
    have eb : (s.range o.key o.val).base = s.base := by unfold VS.range; split <;> rfl
    have ew : (s.range o.key o.val).writes = s.writes := by unfold VS.range; split <;> rfl
    have err : (s.range o.key o.val).reads = s.reads := by unfold VS.range; split <;> rfl
    rw [show mS (s.range o.key o.val) = mT s.base.row s.writes.row s.reads.row (s.range o.key o.val).ranges by unfold mS; rw [eb, ew, err]]
    generalize s.range o.key o.val = s' at c1 c2
    refine con_of Try.func41 rfl (by kernel_rfl) rfl fun F w0 β0 => ?_
    refine K_tell rfl ?_
    refine go ?_
    refine K_condF rfl (by simp [h0]) ?_
    refine go ?_
    refine K_condF rfl (by simp [h1]) ?_
    refine go ?_
    refine K_condT rfl (by simp [h2]) ?_
    refine go ?_
    refine K_op rfl rfl (opr_callP rfl rfl (c1) rfl rfl rfl rfl) rfl ?_
    refine go ?_
    refine J_drawH2 5 10 (vH s') (by kernel_rfl) (by kernel_rfl) ?_
    apply Exists.intro
    refine gdH ?_
    refine T_stH rfl rfl rfl rfl rfl rfl (opr_callS [.o 0, .o 1] rfl rfl (c2) rfl rfl rfl ⟨⟨rfl, rfl⟩, ⟨rfl, rfl⟩, trivial⟩ rfl rfl rfl rfl) rfl ?_
    refine gdH ?_
    refine T_opH rfl rfl rfl rfl rfl rfl (opr_call0P rfl rfl c3 rfl rfl rfl) rfl ?_
    refine gdH ?_
    refine K_only [6, 7] rfl ?_
    refine go ?_
    exact J_done hT rfl rfl rfl
  rw [if_neg h2]
  by_cases h3 : o.kind = 3
  · rw [if_pos h3]
    have c1 := rvwrite_spec s.base.row s.writes.row s.reads.row s.ranges o.key (61 :: o.val) h.rw lb lw
    have c2 := vset_spec s o.key o.val (by unfold big40; omega) (by unfold big40; omega) (by omega)
    rw [h.room] at c1
    have ep : putW s.base.row s.writes.row o.key (61 :: o.val) = (s.set o.key o.val).writes.row := by
      unfold putW VS.set
      rw [if_neg (by simp)]
      exact (set_row _ _ _ h.rw).symm
    rw [ep] at c1
    have em : mS (if s.room o.key = true then s.set o.key o.val else s) = mT s.base.row (if s.room o.key = true then (s.set o.key o.val).writes.row else s.writes.row) s.reads.row s.ranges := by
      split <;> rfl
    rw [em]
    generalize (if s.room o.key = true then (s.set o.key o.val).writes.row else s.writes.row) = wr' at c1
    generalize (if s.room o.key = true then s.set o.key o.val else s) = s' at c2
    generalize s.room o.key = rm at c1 c2
    refine con_of Try.func41 rfl (by kernel_rfl) rfl fun F w0 β0 => ?_
    refine K_tell rfl ?_
    refine go ?_
    refine K_condF rfl (by simp [h0]) ?_
    refine go ?_
    refine K_condF rfl (by simp [h1]) ?_
    refine go ?_
    refine K_condF rfl (by simp [h2]) ?_
    refine go ?_
    refine K_condT rfl (by simp [h3]) ?_
    refine go ?_
    refine K_op rfl rfl (opr_callP rfl rfl (c1) rfl rfl rfl rfl) rfl ?_
    refine go ?_
    refine J_drawH2 5 10 (vH s') (by kernel_rfl) (by kernel_rfl) ?_
    apply Exists.intro
    refine gdH ?_
    refine T_stH rfl rfl rfl rfl rfl rfl (opr_callS [.o 0, .o 1] rfl rfl (c2) rfl rfl rfl ⟨⟨rfl, rfl⟩, ⟨rfl, rfl⟩, trivial⟩ rfl rfl rfl rfl) rfl ?_
    refine gdH ?_
    refine K_only [6, 7] rfl ?_
    rw [beq_self_eq_true]
    refine go ?_
    exact J_done hT rfl rfl rfl
  rw [if_neg h3]
  by_cases h4 : o.kind = 4
  · rw [if_pos h4]
    have c1 := rvwrite_spec s.base.row s.writes.row s.reads.row s.ranges o.key [] h.rw lb lw
    have c2 := vcut_spec s o.key (by unfold big40; omega) (by unfold big40; omega)
    rw [h.room, ← cut_writes h] at c1
    have em : mS (if s.room o.key = true then s.cut o.key else s) = mT s.base.row (if s.room o.key = true then (s.cut o.key).writes.row else s.writes.row) s.reads.row s.ranges := by
      split <;> rfl
    rw [em]
    generalize (if s.room o.key = true then (s.cut o.key).writes.row else s.writes.row) = wr' at c1
    generalize (if s.room o.key = true then s.cut o.key else s) = s' at c2
    generalize s.room o.key = rm at c1 c2
    refine con_of Try.func41 rfl (by kernel_rfl) rfl fun F w0 β0 => ?_
    refine K_tell rfl ?_
    refine go ?_
    refine K_condF rfl (by simp [h0]) ?_
    refine go ?_
    refine K_condF rfl (by simp [h1]) ?_
    refine go ?_
    refine K_condF rfl (by simp [h2]) ?_
    refine go ?_
    refine K_condF rfl (by simp [h3]) ?_
    refine go ?_
    refine K_condT rfl (by simp [h4]) ?_
    refine go ?_
    refine K_op rfl rfl (opr_callP rfl rfl (c1) rfl rfl rfl rfl) rfl ?_
    refine go ?_
    refine J_drawH2 3 8 (vH s') (by kernel_rfl) (by kernel_rfl) ?_
    apply Exists.intro
    refine gdH ?_
    refine T_stH rfl rfl rfl rfl rfl rfl (opr_callS [.o 0, .o 1] rfl rfl (c2) rfl rfl rfl ⟨⟨rfl, rfl⟩, ⟨rfl, rfl⟩, trivial⟩ rfl rfl rfl rfl) rfl ?_
    refine gdH ?_
    refine K_only [6, 7] rfl ?_
    rw [beq_self_eq_true]
    refine go ?_
    exact J_done hT rfl rfl rfl
  rw [if_neg h4]
  refine con_of Try.func41 rfl (by kernel_rfl) rfl fun F w0 β0 => ?_
  refine K_tell rfl ?_
  refine go ?_
  refine K_condF rfl (by simp [h0]) ?_
  refine go ?_
  refine K_condF rfl (by simp [h1]) ?_
  refine go ?_
  refine K_condF rfl (by simp [h2]) ?_
  refine go ?_
  refine K_condF rfl (by simp [h3]) ?_
  refine go ?_
  refine K_condF rfl (by simp [h4]) ?_
  refine go ?_
  refine J_drawS 2 (by kernel_rfl) (by kernel_rfl) ?_
  apply Exists.intro
  refine gdW ?_
  refine K_only [6, 7] rfl ?_
  refine go ?_
  exact J_done hT rfl rfl rfl
end Go.Proofs.Ytbdijekfplpnlaa

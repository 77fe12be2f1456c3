/- The law ViewFull: its contract. -/
import Derived.Test.YtbdijekfplpnlaaGo
import Derived.Test.YtbdijekfplpnlaaF14f
import Derived.Test.YtbdijekfplpnlaaTr7
-- @D
namespace Go.Proofs.Ytbdijekfplpnlaa
set_option maxRecDepth 20000
open Go.Awp Tr
theorem u8_nat {i : Nat} (_h : i < 256) : IntKind.u8.wrap (i : Int) = ((UInt8.ofNat i).toNat : Int) := by
  unfold IntKind.wrap
  simp [IntKind.signed, IntKind.bits]
def fkey (i : Nat) : List UInt8 := [107, 101, 121] ++ [UInt8.ofNat i]
theorem fkey_inj {i j : Nat} (hi : i < 256) (hj : j < 256) (h : fkey i = fkey j) : i = j := by
  unfold fkey at h
  simp at h
  have := congrArg UInt8.toNat h
  simp at this
  omega
/-- What the view has, when so many keys were tried. -/
structure FullI (b : Tr) (s : VS) (i : Nat) : Prop where
  base : s.base = b
  rises : Rises s.writes.row
  size : s.writes.size = min i 48
  get : ∀ k, (s.writes.get k).isSome = true ↔ ∃ j, j < min i 48 ∧ k = fkey j
  shown : s.shown.size ≤ 60 + min i 48
  ranges : s.ranges = []
theorem FullI.new (b : Tr) (h : b.size ≤ 60) : FullI b (VS.new b) 0 :=
  ⟨rfl, by simp [VS.new, row, Rises], rfl, fun k => by simp [VS.new, Tr.get], by simpa [VS.new] using h, rfl⟩
theorem FullI.room {b : Tr} {s : VS} {i : Nat} (h : FullI b s i) (hi : i < 256) : s.room (fkey i) = decide (i < 48) := by
  have hn : ¬ (s.writes.get (fkey i)).isSome = true := fun hs => by
    obtain ⟨j, hj, e⟩ := (h.get _).1 hs
    have := fkey_inj hi (by omega) e
    omega
  unfold VS.room
  rw [h.size]
  simp only [Bool.not_eq_true] at hn
  rw [hn, Bool.false_or]
  exact decide_eq_decide.2 (by omega)
theorem FullI.step {b : Tr} {s : VS} {i : Nat} (v : List UInt8) (h : FullI b s i) (hi : i < 256) : FullI b (if s.room (fkey i) = true then s.set (fkey i) v else s) (i + 1) := by
  rw [h.room hi]
  by_cases h48 : i < 48
  · rw [if_pos (by simpa using h48)]
    have hn : ¬ (s.writes.get (fkey i)).isSome = true := fun hs => by
      obtain ⟨j, hj, e⟩ := (h.get _).1 hs
      have := fkey_inj hi (by omega) e
      omega
    refine ⟨h.base, set_rises h.rises, ?_, fun k => ?_, ?_, h.ranges⟩
    · show (s.writes.set (fkey i) (61 :: v)).size = _
      rw [set_size_eq h.rises, if_neg hn, h.size]; omega
    · show ((s.writes.set (fkey i) (61 :: v)).get k).isSome = true ↔ _
      rw [set_get h.rises]
      by_cases e : k = fkey i
      · rw [if_pos e]
        exact ⟨fun _ => ⟨i, by omega, e⟩, fun _ => rfl⟩
      · rw [if_neg e, h.get]
        constructor
        · rintro ⟨j, hj, hk⟩; exact ⟨j, by omega, hk⟩
        · rintro ⟨j, hj, hk⟩
          exact ⟨j, by
            have : j ≠ i := fun e2 => e (by rw [hk, e2])
            omega, hk⟩
    · show (s.shown.set (fkey i) v).size ≤ _
      have := set_size (fkey i) v s.shown
      have := h.shown
      omega
  · rw [if_neg (by simpa using h48)]
    have e : min (i + 1) 48 = min i 48 := by omega
    exact ⟨h.base, h.rises, by rw [h.size, e], fun k => by rw [h.get, e], by rw [e]; exact h.shown, h.ranges⟩
def more : List UInt8 := [111, 110, 101, 32, 109, 111, 114, 101]
theorem full_end {b : Tr} {s : VS} {k : Nat} (h : FullI b s k) (hk : 48 ≤ k) : s.room (fkey 0) = true ∧ (s.set (fkey 0) [121]).room (fkey 1) = true ∧ ((s.set (fkey 0) [121]).cut (fkey 1)).room more = !(b.get (fkey 1)).isSome := by
  have hm : min k 48 = 48 := by omega
  have h0 : (s.writes.get (fkey 0)).isSome = true := (h.get _).2 ⟨0, by omega, rfl⟩
  have h1 : (s.writes.get (fkey 1)).isSome = true := (h.get _).2 ⟨1, by omega, rfl⟩
  have hmo : (s.writes.get more).isSome = false := by
    cases hq : (s.writes.get more).isSome with
    | false => rfl
    | true =>
      obtain ⟨j, _, e⟩ := (h.get _).1 hq
      have := congrArg List.length e
      simp [more, fkey] at this
  have ne1 : ¬ fkey 1 = fkey 0 := by decide
  have ne2 : ¬ more = fkey 0 := by decide
  have ne3 : ¬ more = fkey 1 := by decide
  have hw : (s.set (fkey 0) [121]).writes = s.writes.set (fkey 0) [61, 121] := rfl
  have hr : Rises (s.writes.set (fkey 0) [61, 121]).row := set_rises h.rises
  have hz : (s.writes.set (fkey 0) [61, 121]).size = 48 := by rw [set_size_eq h.rises, if_pos h0, h.size, hm]
  have g1 : ((s.writes.set (fkey 0) [61, 121]).get (fkey 1)).isSome = true := by rw [set_get h.rises, if_neg ne1]; exact h1
  have gm : ((s.writes.set (fkey 0) [61, 121]).get more).isSome = false := by rw [set_get h.rises, if_neg ne2]; exact hmo
  refine ⟨by unfold VS.room; rw [h0]; rfl, by unfold VS.room; rw [hw, g1]; rfl, ?_⟩
  unfold VS.room VS.cut
  rw [hw, show (s.set (fkey 0) [121]).base = b from h.base]
  cases hb : (b.get (fkey 1)).isSome with
  | true =>
    simp only [if_true]
    rw [set_get hr, if_neg ne3, gm, set_size_eq hr, if_pos g1, hz]
    rfl
  | false =>
    simp only [Bool.false_eq_true, if_false]
    rw [cut_get hr, if_neg ne3, gm, cut_size_eq hr, if_pos g1, hz]
    rfl
structure FI (b : Tr) (k : Nat) where
  i : Nat
  s : VS
  h : i ≤ k
  f : FullI b s i
namespace viewFull
set_option maxHeartbeats 8000000 in
theorem con {a0 a1 : AV} (s0 : Shp tab 8 54 a0) (s1 : Shp tab 8 5 a1) : Con Try.prog 7 [.p a0, .p a1] [] (.p (.bool true)) [] [] := by
  obtain ⟨l, hl, _, hll⟩ := rgs_shp s0
  obtain ⟨n, rfl, hn⟩ := s1.int rfl
  change 0 ≤ n ∧ n ≤ 255 at hn
  obtain ⟨k, rfl⟩ : ∃ m : Nat, n = (m : Int) := ⟨n.toNat, by omega⟩
  have c0 := base14_spec hl hll
  obtain ⟨hb1, hb2⟩ := baseT_ok l
  generalize baseT l = b at c0 hb1 hb2
  refine con_of Try.func7 rfl (by kernel_rfl) rfl fun F w0 β0 => ?_
  refine K_tell rfl ?_
  refine go ?_
  refine K_op rfl rfl (opr_callP rfl rfl (c0) rfl rfl rfl rfl) rfl ?_
  refine go ?_
  refine K_op rfl rfl (opr_callP rfl rfl (vnew_spec b) rfl rfl rfl rfl) rfl ?_
  refine go ?_
  rw [show IntKind.i64.wrap (k : Int) = (k : Int) from IntWalk.i64_in _ (by omega)]
  refine J_loop (fun q : FI b k => [(5, W b), (7, .ad (.l 0) 0), (8, .p (.int .i64 (k : Int))), (23, .p (.int .i64 (k : Int))), (24, .p (.int .i64 (q.i : Int)))]) (fun _ => []) (fun q => vN q.s) (fun q => k - q.i) ⟨0, VS.new b, by omega, FullI.new b hb2⟩ ⟨rfl, rfl, rfl, rfl, rfl, trivial⟩ rfl rfl (fun q => ?_)
  have hi := q.h
  have hf := q.f
  refine go ?_
  by_cases h : q.i < k
  · have hroom := hf.room (by omega)
    have hstep := hf.step [120] (by omega)
    have hsz := hf.size
    have hsh := hf.shown
    have c1 := vset_spec q.s (fkey q.i) [120] (by unfold big40; omega) (by unfold big40; omega) (by decide)
    generalize (if q.s.room (fkey q.i) = true then q.s.set (fkey q.i) [120] else q.s) = s' at c1 hstep
    rw [hroom] at c1
    refine K_condT rfl (decide_eq_true (by omega)) ?_
    refine go ?_
    refine K_op rfl rfl (opr_to_str (l := [UInt8.ofNat q.i]) hT rfl rfl rfl rfl rfl (show Rd _ _ (.p (.ps [.int .u8 (IntKind.u8.wrap (q.i : Int))])) (bv [UInt8.ofNat q.i]) from by rw [u8_nat (by omega)]; exact .ps _)) rfl ?_
    refine go ?_
    refine K_op rfl rfl (opr_cat rfl rfl rfl (by simp)) rfl ?_
    refine K_op rfl rfl (opr_callS [.l 0, .l 1] rfl rfl (c1) rfl rfl rfl ⟨⟨rfl, rfl⟩, ⟨rfl, rfl⟩, trivial⟩ rfl rfl rfl rfl) rfl ?_
    refine gx ?_
    rw [show decide ((q.i : Int) < 48) = decide (q.i < 48) from decide_eq_decide.2 (by omega), beq_self_eq_true]
    refine go ?_
    refine J_again ⟨q.i + 1, s', by omega, hstep⟩ (by show k - (q.i + 1) < k - q.i; omega) ⟨rfl, rfl, rfl, rfl, congrArg (fun z => TV.p (.int .i64 z)) (by rw [IntWalk.i64_in _ (by omega)]; rfl), trivial⟩ rfl rfl
  have hf : FullI b q.s k := by
    have := q.f
    rwa [show q.i = k by omega] at this
  have hsz := hf.size
  have hsh := hf.shown
  have c1 := Con.freeze (vwrites_spec q.s (by unfold big40; omega)) (by simp [row_len])
  have hwl : (q.s.writes.row.map fun x => pwV (wr x)).length = min k 48 := by rw [List.length_map, row_len, hsz]
  generalize (q.s.writes.row.map fun x => pwV (wr x)) = rows at c1 hwl
  refine K_condF rfl (decide_eq_false (by omega)) ?_
  refine go ?_
  refine K_op rfl rfl (opr_callS [.l 0, .l 1] rfl rfl (c1) rfl rfl rfl ⟨⟨rfl, rfl⟩, ⟨rfl, rfl⟩, trivial⟩ rfl rfl rfl rfl) rfl ?_
  refine gx ?_
  have hmin : mmA .min (k : Int) 48 = ((min k 48 : Nat) : Int) := by unfold mmA; simp only []; split <;> omega
  rw [hwl, hmin, show (((min k 48 : Nat) : Int) != ((min k 48 : Nat) : Int)) = false by simp]
  refine go ?_
  by_cases h48 : k < 48
  · refine K_condT rfl (decide_eq_true (by omega)) ?_
    refine go ?_
    refine K_op rfl rfl (opr_callP rfl rfl (fixed14_spec) rfl rfl rfl rfl) rfl ?_
    refine go ?_
    exact J_done hT rfl rfl rfl
  obtain ⟨r1, r2, r3⟩ := full_end hf (by omega)
  have c2 := vset_spec q.s (fkey 0) [121] (by unfold big40; omega) (by unfold big40; omega) (by decide)
  rw [r1, if_pos rfl] at c2
  have z1 : (q.s.set (fkey 0) [121]).writes.size ≤ 100 := by have := set_size (fkey 0) [61, 121] q.s.writes; unfold VS.set; dsimp only; omega
  have z2 : (q.s.set (fkey 0) [121]).shown.size ≤ 400 := by have := set_size (fkey 0) [121] q.s.shown; unfold VS.set; dsimp only; omega
  generalize q.s.set (fkey 0) [121] = s1 at c2 z1 z2 r2 r3
  have c3 := vcut_spec s1 (fkey 1) (by unfold big40; omega) (by unfold big40; omega)
  rw [r2, if_pos rfl] at c3
  have z3 : (s1.cut (fkey 1)).writes.size ≤ 200 := by
    unfold VS.cut
    dsimp only
    split
    · have := set_size (fkey 1) [] s1.writes; omega
    · have := cut_size s1.writes (fkey 1); omega
  have z4 : (s1.cut (fkey 1)).shown.size ≤ 400 := by have := cut_size s1.shown (fkey 1); unfold VS.cut; dsimp only; omega
  generalize s1.cut (fkey 1) = s2 at c3 z3 z4 r3
  have c4 := vset_spec s2 more [122] (by unfold big40; omega) (by unfold big40; omega) (by decide)
  have c5 := tget_spec (fkey 1) b
  rw [getT_tup] at c5
  rw [r3] at c4
  generalize (if (!(b.get (fkey 1)).isSome) = true then s2.set more [122] else s2) = s3 at c4
  generalize (b.get (fkey 1)).getD [] = gv at c5
  generalize (b.get (fkey 1)).isSome = gb at c4 c5
  refine K_condF rfl (decide_eq_false (by omega)) ?_
  refine go ?_
  refine K_op rfl rfl (opr_callS [.l 0, .l 1] rfl rfl (c2) rfl rfl rfl ⟨⟨rfl, rfl⟩, ⟨rfl, rfl⟩, trivial⟩ rfl rfl rfl rfl) rfl ?_
  refine go ?_
  refine K_op rfl rfl (opr_callP rfl rfl (c5) rfl rfl rfl rfl) rfl ?_
  refine go ?_
  refine K_op rfl rfl (opr_callS [.l 0, .l 1] rfl rfl (c3) rfl rfl rfl ⟨⟨rfl, rfl⟩, ⟨rfl, rfl⟩, trivial⟩ rfl rfl rfl rfl) rfl ?_
  refine go ?_
  refine K_op rfl rfl (opr_callP rfl rfl (fixed14_spec) rfl rfl rfl rfl) rfl ?_
  refine go ?_
  refine K_yes rfl rfl rfl (opr_callS [.l 0, .l 1] rfl rfl (c4) rfl rfl rfl ⟨⟨rfl, rfl⟩, ⟨rfl, rfl⟩, trivial⟩ rfl rfl rfl rfl) rfl ?_
  cases gb
  · refine go ?_
    exact J_done hT rfl rfl rfl
  · refine go ?_
    exact J_done hT rfl rfl rfl
end viewFull
end Go.Proofs.Ytbdijekfplpnlaa

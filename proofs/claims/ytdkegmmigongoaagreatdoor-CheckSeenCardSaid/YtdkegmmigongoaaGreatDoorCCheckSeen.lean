import Derived.Test.YtdkegmmigongoaaGreatDoorGo
import Derived.Test.YtdkegmmigongoaaGreatDoorM37
namespace Go.Proofs.YtdkegmmigongoaaGreatDoor
set_option maxRecDepth 20000
open Go.Awp Tr
namespace checkSeen
set_option maxHeartbeats 8000000 in
theorem con {u0 u1 : AV} (s0 : Shp tab 8 22 u0) (s1 : Shp tab 8 23 u1) : Con Tryz.prog 10 [.p u0, .p u1] [] (.p (.bool true)) [] [] := by
 obtain ⟨l, hs, hok, _⟩ := ops_shp20 s0
 obtain ⟨ct, rfl, hct⟩ := s1.int rfl
 change 0 ≤ ct ∧ ct ≤ 65535 at hct
 have c1 := made_spec hs hok
 cases hm : made0 l with
 | none =>
  rw [hm] at c1
  change Con Tryz.prog _ _ _ (.tup [.p .nilp, .p .nils, .p (.bool false)]) _ _ at c1
  refine con_of Tryz.func10 rfl (by kernel_rfl) rfl fun F w0 β0 => ?_
  refine K_tell rfl ?_
  refine go ?_
  refine K_op rfl rfl (opr_callP rfl rfl (c1) rfl rfl rfl rfl) rfl ?_
  refine go ?_
  refine K_op rfl rfl (opr_callP rfl rfl (fixed27_spec) rfl rfl rfl rfl) rfl ?_
  refine go ?_
  exact J_done hT rfl rfl rfl
 | some s =>
  rw [hm] at c1
  obtain ⟨m, par, R, ha, hv⟩ := made_ok hm
  have hvt := tree_vj hv
  have htr := treeL_row hv.rs
  have hrl : s.shown.row.length ≤ 10000 := by have := hv.zs; rw [row_len]; omega
  have hval := hv.val
  have hsz : (treeL s.shown.row).size ≤ 10000 := hvt.zs
  change Con Tryz.prog _ _ _ (.tup [W (treeL s.shown.row), .p (.ps (kvs s.shown.row)), .p (.bool true)]) _ _ at c1
  generalize treeL s.shown.row = t at c1 hvt htr hsz
  generalize s.shown.row = B at c1 R htr hrl hval
  have hlk : (kvs B).length = B.length := by simp
  by_cases hB : B = []
  ·subst hB
   refine con_of Tryz.func10 rfl (by kernel_rfl) rfl fun F w0 β0 => ?_
   refine K_tell rfl ?_
   refine go ?_
   refine K_op rfl rfl (opr_callP rfl rfl (c1) rfl rfl rfl rfl) rfl ?_
   refine go ?_
   refine K_op rfl rfl (opr_callP rfl rfl (fixed27_spec) rfl rfl rfl rfl) rfl ?_
   refine go ?_
   exact J_done hT rfl rfl rfl
  have hpos : 0 < B.length := List.length_pos_iff.2 hB
  obtain ⟨cn, rfl⟩ : ∃ n : Nat, ct = (n : Int) := ⟨ct.toNat, by omega⟩
  have ew : IntKind.i64.wrap (cn : Int) = (cn : Int) := IntWalk.i64_in _ (by omega)
  have ek : ((cn : Int)).tmod (B.length : Int) = ((cn % B.length : Nat) : Int) := by
   rw [Int.tmod_eq_emod_of_nonneg (by omega)]
   exact (Int.natCast_emod ..).symm
  have hki : cn % B.length < B.length := Nat.mod_lt _ hpos
  generalize cn % B.length = i at ek hki
  have hx : B[i]? = some B[i] := List.getElem?_eq_getElem hki
  have hxm : B[i] ∈ B := List.getElem_mem hki
  generalize B[i] = y at hx hxm
  have hxk : (kvs B)[((i : Nat) : Int).toNat]? = some (kvV y) := kvs_get hx
  have c2 := rsplit_spec y.1 (by have := (hval y hxm).1; omega)
  have c3 := tcut_spec t y.1 (by unfold big40; omega)
  have c4 := clean_spec (cut_vj hvt y.1) (by omega)
  have hent : (splitK y.1).1 = 69 → chkF (t.cut y.1) ≠ [] := fun h => chk_noent R htr hxm h
  have hino : (splitK y.1).1 = 73 → (splitK y.1).2.1 ≠ 1 → chkF (t.cut y.1) ≠ [] := fun h h1 => chk_noino R htr hxm h rfl h1
  have hcase : (splitK y.1).1 = 68 ∨ (splitK y.1).1 = 69 ∨ (splitK y.1).1 = 73 := by
   rcases split_row R hxm with ⟨j, x, _, _, hsp, _⟩ | ⟨j, k, nm, x, z, _, _, _, hsp, _⟩ | ⟨j, i', _, hsp⟩
   ·exact .inr (.inr (by rw [hsp]))
   ·exact .inr (.inl (by rw [hsp]))
   ·exact .inl (by rw [hsp])
  generalize splitK y.1 = r at c2 hent hino hcase
  obtain ⟨a, b, c, d⟩ := r
  dsimp only at hent hino hcase
  change Con Tryz.prog _ _ _ (.tup [.p (.int .u8 a), .p (.int .u32 b), .p (.str c), .p (.int .i64 d)]) _ _ at c2
  rcases hcase with rfl | rfl | rfl
  ·skip
   refine con_of Tryz.func10 rfl (by kernel_rfl) rfl fun F w0 β0 => ?_
   refine K_tell rfl ?_
   refine go ?_
   refine K_op rfl rfl (opr_callP rfl rfl (c1) rfl rfl rfl rfl) rfl ?_
   refine go ?_
   refine K_condF rfl (by rw [hlk]; simpa using hB) ?_
   refine go ?_
   rw [hlk, ew]
   refine K_op rfl rfl (opr_bin hT rfl (remA (by omega))) rfl ?_
   rw [ek]
   refine go ?_
   refine K_op rfl rfl (opr_index hT rfl rfl rfl rfl rfl (.ps _) (by omega) (by rw [hlk]; omega)) rfl ?_
   refine go ?_
   refine K_op rfl rfl (opr_load_el hT rfl rfl (.ps _) hxk rfl rfl) rfl ?_
   refine go ?_
   refine K_op rfl rfl (opr_callP rfl rfl (c2) rfl rfl rfl rfl) rfl ?_
   refine go ?_
   refine K_op rfl rfl (opr_callP rfl rfl (fixed27_spec) rfl rfl rfl rfl) rfl ?_
   refine go ?_
   exact J_done hT rfl rfl rfl
  ·rw [decide_eq_false (hent rfl)] at c4
   refine con_of Tryz.func10 rfl (by kernel_rfl) rfl fun F w0 β0 => ?_
   refine K_tell rfl ?_
   refine go ?_
   refine K_op rfl rfl (opr_callP rfl rfl (c1) rfl rfl rfl rfl) rfl ?_
   refine go ?_
   refine K_condF rfl (by rw [hlk]; simpa using hB) ?_
   refine go ?_
   rw [hlk, ew]
   refine K_op rfl rfl (opr_bin hT rfl (remA (by omega))) rfl ?_
   rw [ek]
   refine go ?_
   refine K_op rfl rfl (opr_index hT rfl rfl rfl rfl rfl (.ps _) (by omega) (by rw [hlk]; omega)) rfl ?_
   refine go ?_
   refine K_op rfl rfl (opr_load_el hT rfl rfl (.ps _) hxk rfl rfl) rfl ?_
   refine go ?_
   refine K_op rfl rfl (opr_callP rfl rfl (c2) rfl rfl rfl rfl) rfl ?_
   refine go ?_
   refine K_op rfl rfl (opr_callP rfl rfl (fixed27_spec) rfl rfl rfl rfl) rfl ?_
   refine go ?_
   refine K_yes rfl rfl rfl (opr_callP rfl rfl (c3) rfl rfl rfl rfl) rfl ?_
   refine go ?_
   refine K_yes rfl rfl rfl (opr_callP rfl rfl (c4) rfl rfl rfl rfl) rfl ?_
   refine go ?_
   exact J_done hT rfl rfl rfl
  ·by_cases b1 : b = 1
   ·subst b1
    refine con_of Tryz.func10 rfl (by kernel_rfl) rfl fun F w0 β0 => ?_
    refine K_tell rfl ?_
    refine go ?_
    refine K_op rfl rfl (opr_callP rfl rfl (c1) rfl rfl rfl rfl) rfl ?_
    refine go ?_
    refine K_condF rfl (by rw [hlk]; simpa using hB) ?_
    refine go ?_
    rw [hlk, ew]
    refine K_op rfl rfl (opr_bin hT rfl (remA (by omega))) rfl ?_
    rw [ek]
    refine go ?_
    refine K_op rfl rfl (opr_index hT rfl rfl rfl rfl rfl (.ps _) (by omega) (by rw [hlk]; omega)) rfl ?_
    refine go ?_
    refine K_op rfl rfl (opr_load_el hT rfl rfl (.ps _) hxk rfl rfl) rfl ?_
    refine go ?_
    refine K_op rfl rfl (opr_callP rfl rfl (c2) rfl rfl rfl rfl) rfl ?_
    refine go ?_
    refine K_op rfl rfl (opr_callP rfl rfl (fixed27_spec) rfl rfl rfl rfl) rfl ?_
    refine go ?_
    exact J_done hT rfl rfl rfl
   ·rw [decide_eq_false (hino rfl b1)] at c4
    refine con_of Tryz.func10 rfl (by kernel_rfl) rfl fun F w0 β0 => ?_
    refine K_tell rfl ?_
    refine go ?_
    refine K_op rfl rfl (opr_callP rfl rfl (c1) rfl rfl rfl rfl) rfl ?_
    refine go ?_
    refine K_condF rfl (by rw [hlk]; simpa using hB) ?_
    refine go ?_
    rw [hlk, ew]
    refine K_op rfl rfl (opr_bin hT rfl (remA (by omega))) rfl ?_
    rw [ek]
    refine go ?_
    refine K_op rfl rfl (opr_index hT rfl rfl rfl rfl rfl (.ps _) (by omega) (by rw [hlk]; omega)) rfl ?_
    refine go ?_
    refine K_op rfl rfl (opr_load_el hT rfl rfl (.ps _) hxk rfl rfl) rfl ?_
    refine go ?_
    refine K_op rfl rfl (opr_callP rfl rfl (c2) rfl rfl rfl rfl) rfl ?_
    refine go ?_
    refine K_condF rfl (by simp [b1]) ?_
    refine go ?_
    refine K_op rfl rfl (opr_callP rfl rfl (fixed27_spec) rfl rfl rfl rfl) rfl ?_
    refine go ?_
    refine K_yes rfl rfl rfl (opr_callP rfl rfl (c3) rfl rfl rfl rfl) rfl ?_
    refine go ?_
    refine K_yes rfl rfl rfl (opr_callP rfl rfl (c4) rfl rfl rfl rfl) rfl ?_
    refine go ?_
    exact J_done hT rfl rfl rfl
end checkSeen
end Go.Proofs.YtdkegmmigongoaaGreatDoor

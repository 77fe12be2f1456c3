import Derived.Test.YtdkegmmigongoaaGreatDoorM29
import Derived.Test.YtdkegmmigongoaaGreatDoorGo
import Derived.Test.YtdkegmmigongoaaGreatDoorM14
import Derived.Test.YtdkegmmigongoaaGreatDoorM15
import Derived.Test.YtdkegmmigongoaaGreatDoorM25
namespace Go.Proofs.YtdkegmmigongoaaGreatDoor
set_option maxRecDepth 20000
open Go.Awp Tr
def o20a : Op20 := ⟨4, [47, 97], [], 0, 0, 0, []⟩
def o20b : Op20 := ⟨6, [47, 97], [], 0, 0, 0, []⟩
def o20c : Op20 := ⟨9, [], [], 0, 0, 0, [120, 121]⟩
def o20d : Op20 := ⟨8, [], [], 0, 0, 9, []⟩
def t20a : RS × VS × List Int := sdo (VS.new .nil) noH o20a 2
def t20b : RS × VS × List Int := sdo t20a.2.1 t20a.2.2 o20b 0
def t20c : RS × VS × List Int := sdo t20b.2.1 t20b.2.2 o20c 0
def t20d : RS × VS × List Int := sdo t20c.2.1 t20c.2.2 o20d 0
theorem sdo_i (s : VS) (l : List Int) (o : Op20) (i j : Int) (h4 : o.kind ≠ 4) (h5 : o.kind ≠ 5) : sdo s l o i = sdo s l o j := by
 unfold sdo
 rw [if_neg h4, if_neg h5, if_neg h4, if_neg h5]
theorem D20.next {s : VS} {l : List Int} {m : MF} {i : Nat} (d : D20 s l m (fun k => k < (2 + i : Nat)) i) (hi : i ≤ 100) (o : Op20) {q : RS × VS × List Int} (hq : sdo s l o (2 + i : Nat) = q) (he : q.1.e ≠ 21) : ∃ m', D20 q.2.1 q.2.2 m' (fun k => k < (2 + (i + 1) : Nat)) (i + 1) := by
 rcases d.step (Q := fun k => k < (2 + (i + 1) : Nat)) (by omega) o (j := (2 + i : Nat)) (by unfold U32; omega) (by omega) (by omega) (fun k h => by omega) (by omega) with h | ⟨_, _, h⟩
 ·rw [hq] at h; exact absurd h he
 ·rw [hq] at h; exact ⟨_, h⟩
theorem D20.start : D20 (VS.new .nil) noH newM (fun k => k < (2 + 0 : Nat)) 0 := D20.new (by decide)
theorem fixed20_parts : ∃ x1 n1 x2 n2 x3 n3 x4 n4 : AV, Bs x4 [120, 121] ∧
  Con Tryz.prog 15 [vP, oA20 o20a .nils, .p (.int .u32 2)] (dH (VS.new .nil) noH 0) (resT (rs0 0) x1 n1) (dH t20a.2.1 t20a.2.2 2) [] ∧
  Con Tryz.prog 15 [vP, oA20 o20b .nils, .p (.int .u32 0)] (dH t20a.2.1 t20a.2.2 2) (resT (rs0 0) x2 n2) (dH t20b.2.1 t20b.2.2 0) [] ∧
  Con Tryz.prog 15 [vP, oA20 o20c (.ps (bv [120, 121])), .p (.int .u32 0)] (dH t20b.2.1 t20b.2.2 0) (resT { rs0 0 with n := 2 } x3 n3) (dH t20c.2.1 t20c.2.2 0) [] ∧
  Con Tryz.prog 15 [vP, oA20 o20d .nils, .p (.int .u32 0)] (dH t20c.2.1 t20c.2.2 0) (resT ⟨0, 2, [120, 121], [], (0, 0, 0, 0)⟩ x4 n4) (dH t20d.2.1 t20d.2.2 0) [] ∧
  t20a.2.2.length = 16 ∧ t20b.2.2.length = 16 ∧ t20c.2.2.length = 16 ∧ t20d.2.2.length = 16 := by
 have d0 := D20.start
 obtain ⟨m1, d1⟩ := d0.next (by omega) o20a (q := t20a) rfl (by rw [show t20a.1.e = 0 by kernel_rfl]; decide)
 obtain ⟨m2, d2⟩ := d1.next (by omega) o20b (q := t20b) (sdo_i _ _ _ _ 0 (by decide) (by decide)) (by rw [show t20b.1.e = 0 by kernel_rfl]; decide)
 obtain ⟨m3, d3⟩ := d2.next (by omega) o20c (q := t20c) (sdo_i _ _ _ _ 0 (by decide) (by decide)) (by rw [show t20c.1.e = 0 by kernel_rfl]; decide)
 obtain ⟨m4, d4⟩ := d3.next (by omega) o20d (q := t20d) (sdo_i _ _ _ _ 0 (by decide) (by decide)) (by rw [show t20d.1.e = 0 by kernel_rfl]; decide)
 obtain ⟨x1, n1, _, _, c1⟩ := do20_ps d0.v (by omega) d0.l.1 d0.l.2 o20a ⟨by decide, by decide, by decide⟩ (i := 2) (by decide) 0 .nils
 obtain ⟨x2, n2, _, _, c2⟩ := do20_ps d1.v (by omega) d1.l.1 d1.l.2 o20b ⟨by decide, by decide, by decide⟩ (i := 0) (by decide) 2 .nils
 obtain ⟨x3, n3, _, _, c3⟩ := do20_ps d2.v (by omega) d2.l.1 d2.l.2 o20c ⟨by decide, by decide, by decide⟩ (i := 0) (by decide) 0 (.ps _)
 obtain ⟨x4, n4, h4, _, c4⟩ := do20_ps d3.v (by omega) d3.l.1 d3.l.2 o20d ⟨by decide, by decide, by decide⟩ (i := 0) (by decide) 0 .nils
 change Con Tryz.prog _ _ _ (resT t20a.1 x1 n1) (dH t20a.2.1 t20a.2.2 2) _ at c1
 change Con Tryz.prog _ _ _ (resT t20b.1 x2 n2) (dH t20b.2.1 t20b.2.2 0) _ at c2
 change Con Tryz.prog _ _ _ (resT t20c.1 x3 n3) (dH t20c.2.1 t20c.2.2 0) _ at c3
 change Con Tryz.prog _ _ _ (resT t20d.1 x4 n4) (dH t20d.2.1 t20d.2.2 0) _ at c4
 change Bs x4 t20d.1.data at h4
 rw [show t20a.1 = rs0 0 by kernel_rfl] at c1
 rw [show t20b.1 = rs0 0 by kernel_rfl] at c2
 rw [show t20c.1 = { rs0 0 with n := 2 } by kernel_rfl] at c3
 rw [show t20d.1 = ⟨0, 2, [120, 121], [], (0, 0, 0, 0)⟩ by kernel_rfl] at c4
 rw [show t20d.1.data = [120, 121] by kernel_rfl] at h4
 exact ⟨x1, n1, x2, n2, x3, n3, x4, n4, h4, c1, c2, c3, c4, d1.l.1, d2.l.1, d3.l.1, d4.l.1⟩
set_option maxHeartbeats 8000000 in
theorem fixed20_spec : Con Tryz.prog 17 [] [] (.p (.bool true)) [] [] := by
 obtain ⟨x1, n1, x2, n2, x3, n3, x4, n4, h4, c1, c2, c3, c4, l1, l2, l3, l4⟩ := fixed20_parts
 generalize t20a.2.1 = s1 at c1 c2
 generalize t20a.2.2 = k1 at c1 c2 l1
 generalize t20b.2.1 = s2 at c2 c3
 generalize t20b.2.2 = k2 at c2 c3 l2
 generalize t20c.2.1 = s3 at c3 c4
 generalize t20c.2.2 = k3 at c3 c4 l3
 generalize t20d.2.1 = s4 at c4
 generalize t20d.2.2 = k4 at c4 l4
 obtain ⟨a0, a1, a2, a3, a4, a5, a6, a7, a8, a9, a10, a11, a12, a13, a14, a15, rfl⟩ := len16 l1
 obtain ⟨b0, b1, b2, b3, b4, b5, b6, b7, b8, b9, b10, b11, b12, b13, b14, b15, rfl⟩ := len16 l2
 obtain ⟨e0, e1, e2, e3, e4, e5, e6, e7, e8, e9, e10, e11, e12, e13, e14, e15, rfl⟩ := len16 l3
 obtain ⟨g0, g1', g2, g3, g4, g5, g6, g7, g8, g9, g10, g11, g12, g13, g14, g15, rfl⟩ := len16 l4
 clear l1 l2 l3 l4
 refine con_of Tryz.func17 rfl (by kernel_rfl) rfl fun F w0 β0 => ?_
 refine K_tell rfl ?_
 refine go ?_
 refine K_op rfl rfl (opr_callP rfl rfl (tnew_spec) rfl rfl rfl rfl) rfl ?_
 refine go ?_
 refine K_op rfl rfl (opr_callP rfl rfl (vnew_spec .nil) rfl rfl rfl rfl) rfl ?_
 refine go ?_
 refine K_op rfl rfl (opr_callS [.l 0, .l 1] rfl rfl (onew_spec (VS.new .nil)) rfl rfl rfl ⟨⟨rfl, rfl⟩, ⟨rfl, rfl⟩, trivial⟩ rfl rfl rfl rfl) rfl ?_
 refine go ?_
 refine K_yes rfl rfl rfl (opr_callS [.l 2, .l 0, .l 1] rfl rfl (c1) rfl rfl rfl ⟨⟨rfl, rfl⟩, ⟨rfl, rfl⟩, ⟨rfl, rfl⟩, trivial⟩ rfl rfl rfl rfl) rfl ?_
 refine go ?_
 refine K_yes rfl rfl rfl (opr_callS [.l 2, .l 0, .l 1] rfl rfl (c2) rfl rfl rfl ⟨⟨rfl, rfl⟩, ⟨rfl, rfl⟩, ⟨rfl, rfl⟩, trivial⟩ rfl rfl rfl rfl) rfl ?_
 iterate 5 (refine g1 ?_)
 refine J_litmarkY hT rfl rfl rfl rfl rfl rfl rfl rfl rfl rfl rfl rfl rfl ?_
 refine go ?_
 refine K_yes rfl rfl rfl (opr_callS [.l 2, .l 0, .l 1] rfl rfl (c3) rfl rfl rfl ⟨⟨rfl, rfl⟩, ⟨rfl, rfl⟩, ⟨rfl, rfl⟩, trivial⟩ rfl rfl rfl rfl) rfl ?_
 refine go ?_
 refine K_op rfl rfl (opr_callS [.l 2, .l 0, .l 1] rfl rfl (c4) rfl rfl rfl ⟨⟨rfl, rfl⟩, ⟨rfl, rfl⟩, ⟨rfl, rfl⟩, trivial⟩ rfl rfl rfl rfl) rfl ?_
 refine go ?_
 refine K_op rfl rfl (opr_to_str hT rfl rfl rfl rfl rfl h4.rd) rfl ?_
 refine go ?_
 exact J_done hT rfl rfl rfl
end Go.Proofs.YtdkegmmigongoaaGreatDoor

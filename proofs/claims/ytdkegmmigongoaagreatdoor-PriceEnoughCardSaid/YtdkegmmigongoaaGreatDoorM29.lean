import Derived.Test.YtdkegmmigongoaaGreatDoorGo
import Derived.Test.YtdkegmmigongoaaGreatDoorM28
import Derived.Test.YtdkegmmigongoaaGreatDoorM27
import Derived.Test.YtdkegmmigongoaaGreatDoorM25
import Derived.Test.YtdkegmmigongoaaGreatDoorM8
import Derived.Test.YtdkegmmigongoaaGreatDoorM7
import Derived.Test.YtdkegmmigongoaaGreatDoorM26
namespace Go.Proofs.YtdkegmmigongoaaGreatDoor
set_option maxRecDepth 20000
open Go.Awp Tr
set_option maxHeartbeats 32000000 in
theorem open_d {s : VS} {m : Nat} (h : VJ s m) (hm : m ≤ 90000) {l : List Int} (hl : l.length = 16) (o : Op20) (hk : o.kind = 6) (i : Int) : DoOk 72 o anyD s l i := by
 have c1 := wlead_spec h (by omega) o.path
 have ci := idx20_spec l (by omega)
 have hfr := freeH_lt l 0
 rw [hl] at hfr
 unfold DoOk sdo
 rw [if_neg (show ¬ o.kind = 4 by omega), if_neg (show ¬ o.kind = 5 by omega), if_pos hk]
 generalize s.lead o.path = r at c1
 generalize s.rdp o.path = s2 at c1
 generalize freeH l 0 = z at ci hfr
 obtain ⟨⟨j, x⟩, e⟩ := r
 dsimp only at c1 ⊢
 have ce := failed_spec e
 have c13 := failed_spec 13
 have c20 := failed_spec 20
 obtain ⟨a0, a1, a2, a3, a4, a5, a6, a7, a8, a9, a10, a11, a12, a13, a14, a15, rfl⟩ := len16 hl
 have start : ∀ {F : Nat → Prop} {w0 : World} {β0 : Hd → Nat} {Q : Exit → Act → World → Prop} {n : Act → World → Prop} {y : Code}, True := fun {_ _ _ _ _ _} => trivial
 clear start
 by_cases he : e ≠ 0
 ·rw [if_pos he]
  refine ⟨.nils, .nils, .nils, .nils, ?_⟩
  refine con_of Tryz.func72 rfl (by kernel_rfl) rfl fun F w0 β0 => ?_
  refine K_tell rfl ?_
  refine go ?_
  refine J_drawFl2 11 6 13 (dH s2 [a0, a1, a2, a3, a4, a5, a6, a7, a8, a9, a10, a11, a12, a13, a14, a15] i) [opB o anyD, resB0, ndB (0, 0, 0, 0)] [opB o anyD, resB0, ndB x] (by kernel_rfl) (by kernel_rfl) rfl ?_
  refine gdG ?_
  refine G_stB rfl rfl rfl rfl rfl rfl rfl rfl rfl (opr_callS [.o 1, .o 2] rfl rfl c1 rfl rfl rfl ⟨⟨rfl, rfl⟩, ⟨rfl, rfl⟩, trivial⟩ rfl rfl rfl rfl) (opr_callS [.o 1, .o 2] rfl rfl c1 rfl rfl rfl ⟨⟨rfl, rfl⟩, ⟨rfl, rfl⟩, trivial⟩ rfl rfl rfl rfl) rfl ?_
  refine gdG ?_
  refine go ?_
  refine J_boxCall (rows := [a0, a1, a2, a3, a4, a5, a6, a7, a8, a9, a10, a11, a12, a13, a14, a15].map u32V) hT rfl rfl rfl rfl rfl rfl rfl rfl rfl rfl rfl rfl rfl rfl (by decide) (fun r hr => by obtain ⟨_, _, rfl⟩ := List.mem_map.1 hr; rfl) rfl rfl ci ?_
  refine go ?_
  refine K_condT rfl (by simp [he]) ?_
  refine go ?_
  refine K_op rfl rfl (opr_callP rfl rfl (ce) rfl rfl rfl rfl) rfl ?_
  refine go ?_
  exact J_done hT rfl rfl rfl
 rw [if_neg he]
 by_cases h1 : x.1 ≠ 1
 ·rw [if_pos h1]
  refine ⟨.nils, .nils, .nils, .nils, ?_⟩
  refine con_of Tryz.func72 rfl (by kernel_rfl) rfl fun F w0 β0 => ?_
  refine K_tell rfl ?_
  refine go ?_
  refine J_drawFl2 11 6 13 (dH s2 [a0, a1, a2, a3, a4, a5, a6, a7, a8, a9, a10, a11, a12, a13, a14, a15] i) [opB o anyD, resB0, ndB (0, 0, 0, 0)] [opB o anyD, resB0, ndB x] (by kernel_rfl) (by kernel_rfl) rfl ?_
  refine gdG ?_
  refine G_stB rfl rfl rfl rfl rfl rfl rfl rfl rfl (opr_callS [.o 1, .o 2] rfl rfl c1 rfl rfl rfl ⟨⟨rfl, rfl⟩, ⟨rfl, rfl⟩, trivial⟩ rfl rfl rfl rfl) (opr_callS [.o 1, .o 2] rfl rfl c1 rfl rfl rfl ⟨⟨rfl, rfl⟩, ⟨rfl, rfl⟩, trivial⟩ rfl rfl rfl rfl) rfl ?_
  refine gdG ?_
  refine go ?_
  refine J_boxCall (rows := [a0, a1, a2, a3, a4, a5, a6, a7, a8, a9, a10, a11, a12, a13, a14, a15].map u32V) hT rfl rfl rfl rfl rfl rfl rfl rfl rfl rfl rfl rfl rfl rfl (by decide) (fun r hr => by obtain ⟨_, _, rfl⟩ := List.mem_map.1 hr; rfl) rfl rfl ci ?_
  refine go ?_
  refine K_condF rfl (by simp only [ne_eq, Decidable.not_not] at he; simp [he]) ?_
  refine go ?_
  refine K_condT rfl (by simp [h1]) ?_
  refine go ?_
  refine K_op rfl rfl (opr_callP rfl rfl (c13) rfl rfl rfl rfl) rfl ?_
  refine go ?_
  exact J_done hT rfl rfl rfl
 rw [if_neg h1]
 by_cases h2 : z < 0
 ·rw [if_pos h2]
  refine ⟨.nils, .nils, .nils, .nils, ?_⟩
  refine con_of Tryz.func72 rfl (by kernel_rfl) rfl fun F w0 β0 => ?_
  refine K_tell rfl ?_
  refine go ?_
  refine J_drawFl2 11 6 13 (dH s2 [a0, a1, a2, a3, a4, a5, a6, a7, a8, a9, a10, a11, a12, a13, a14, a15] i) [opB o anyD, resB0, ndB (0, 0, 0, 0)] [opB o anyD, resB0, ndB x] (by kernel_rfl) (by kernel_rfl) rfl ?_
  refine gdG ?_
  refine G_stB rfl rfl rfl rfl rfl rfl rfl rfl rfl (opr_callS [.o 1, .o 2] rfl rfl c1 rfl rfl rfl ⟨⟨rfl, rfl⟩, ⟨rfl, rfl⟩, trivial⟩ rfl rfl rfl rfl) (opr_callS [.o 1, .o 2] rfl rfl c1 rfl rfl rfl ⟨⟨rfl, rfl⟩, ⟨rfl, rfl⟩, trivial⟩ rfl rfl rfl rfl) rfl ?_
  refine gdG ?_
  refine go ?_
  refine J_boxCall (rows := [a0, a1, a2, a3, a4, a5, a6, a7, a8, a9, a10, a11, a12, a13, a14, a15].map u32V) hT rfl rfl rfl rfl rfl rfl rfl rfl rfl rfl rfl rfl rfl rfl (by decide) (fun r hr => by obtain ⟨_, _, rfl⟩ := List.mem_map.1 hr; rfl) rfl rfl ci ?_
  refine go ?_
  refine K_condF rfl (by simp only [ne_eq, Decidable.not_not] at he; simp [he]) ?_
  refine go ?_
  refine K_condF rfl (by simp only [ne_eq, Decidable.not_not] at h1; simp [h1]) ?_
  refine go ?_
  refine K_condT rfl (decide_eq_true h2) ?_
  refine go ?_
  refine K_op rfl rfl (opr_callP rfl rfl (c20) rfl rfl rfl rfl) rfl ?_
  refine go ?_
  exact J_done hT rfl rfl rfl
 rw [if_neg h2]
 refine ⟨.nils, .nils, .nils, .nils, ?_⟩
 refine con_of Tryz.func72 rfl (by kernel_rfl) rfl fun F w0 β0 => ?_
 refine K_tell rfl ?_
 refine go ?_
 refine J_drawFl2 11 6 13 (dH s2 [a0, a1, a2, a3, a4, a5, a6, a7, a8, a9, a10, a11, a12, a13, a14, a15] i) [opB o anyD, resB0, ndB (0, 0, 0, 0)] [opB o anyD, resB0, ndB x] (by kernel_rfl) (by kernel_rfl) rfl ?_
 refine gdG ?_
 refine G_stB rfl rfl rfl rfl rfl rfl rfl rfl rfl (opr_callS [.o 1, .o 2] rfl rfl c1 rfl rfl rfl ⟨⟨rfl, rfl⟩, ⟨rfl, rfl⟩, trivial⟩ rfl rfl rfl rfl) (opr_callS [.o 1, .o 2] rfl rfl c1 rfl rfl rfl ⟨⟨rfl, rfl⟩, ⟨rfl, rfl⟩, trivial⟩ rfl rfl rfl rfl) rfl ?_
 refine gdG ?_
 refine go ?_
 refine J_boxCall (rows := [a0, a1, a2, a3, a4, a5, a6, a7, a8, a9, a10, a11, a12, a13, a14, a15].map u32V) hT rfl rfl rfl rfl rfl rfl rfl rfl rfl rfl rfl rfl rfl rfl (by decide) (fun r hr => by obtain ⟨_, _, rfl⟩ := List.mem_map.1 hr; rfl) rfl rfl ci ?_
 refine go ?_
 refine K_condF rfl (by simp only [ne_eq, Decidable.not_not] at he; simp [he]) ?_
 refine go ?_
 refine K_condF rfl (by simp only [ne_eq, Decidable.not_not] at h1; simp [h1]) ?_
 refine go ?_
 refine K_condF rfl (decide_eq_false h2) ?_
 rcases cell16 (h := z) (by omega) (by omega) with rfl | rfl | rfl | rfl | rfl | rfl | rfl | rfl | rfl | rfl | rfl | rfl | rfl | rfl | rfl | rfl
 all_goals
  refine go ?_
  exact J_done hT rfl rfl rfl
theorem how4_spec : Con Tryz.prog 40 [.p (.int .u8 4)] [] (.fn 70 []) [] [] := by
 refine con_of Tryz.func40 rfl (by kernel_rfl) rfl fun F w0 β0 => ?_
 refine K_tell rfl ?_
 refine go ?_
 exact J_done hT rfl rfl rfl
theorem how5_spec : Con Tryz.prog 40 [.p (.int .u8 5)] [] (.fn 71 []) [] [] := by
 refine con_of Tryz.func40 rfl (by kernel_rfl) rfl fun F w0 β0 => ?_
 refine K_tell rfl ?_
 refine go ?_
 exact J_done hT rfl rfl rfl
theorem how6_spec : Con Tryz.prog 40 [.p (.int .u8 6)] [] (.fn 72 []) [] [] := by
 refine con_of Tryz.func40 rfl (by kernel_rfl) rfl fun F w0 β0 => ?_
 refine K_tell rfl ?_
 refine go ?_
 exact J_done hT rfl rfl rfl
theorem how7_spec : Con Tryz.prog 40 [.p (.int .u8 7)] [] (.fn 73 []) [] [] := by
 refine con_of Tryz.func40 rfl (by kernel_rfl) rfl fun F w0 β0 => ?_
 refine K_tell rfl ?_
 refine go ?_
 exact J_done hT rfl rfl rfl
theorem how8_spec : Con Tryz.prog 40 [.p (.int .u8 8)] [] (.fn 74 []) [] [] := by
 refine con_of Tryz.func40 rfl (by kernel_rfl) rfl fun F w0 β0 => ?_
 refine K_tell rfl ?_
 refine go ?_
 exact J_done hT rfl rfl rfl
theorem how9_spec : Con Tryz.prog 40 [.p (.int .u8 9)] [] (.fn 75 []) [] [] := by
 refine con_of Tryz.func40 rfl (by kernel_rfl) rfl fun F w0 β0 => ?_
 refine K_tell rfl ?_
 refine go ?_
 exact J_done hT rfl rfl rfl
theorem how10_spec : Con Tryz.prog 40 [.p (.int .u8 10)] [] (.fn 76 []) [] [] := by
 refine con_of Tryz.func40 rfl (by kernel_rfl) rfl fun F w0 β0 => ?_
 refine K_tell rfl ?_
 refine go ?_
 exact J_done hT rfl rfl rfl
theorem how11_spec : Con Tryz.prog 40 [.p (.int .u8 11)] [] (.fn 77 []) [] [] := by
 refine con_of Tryz.func40 rfl (by kernel_rfl) rfl fun F w0 β0 => ?_
 refine K_tell rfl ?_
 refine go ?_
 exact J_done hT rfl rfl rfl
theorem how12_spec : Con Tryz.prog 40 [.p (.int .u8 12)] [] (.fn 78 []) [] [] := by
 refine con_of Tryz.func40 rfl (by kernel_rfl) rfl fun F w0 β0 => ?_
 refine K_tell rfl ?_
 refine go ?_
 exact J_done hT rfl rfl rfl
theorem how13_spec : Con Tryz.prog 40 [.p (.int .u8 13)] [] (.fn 79 []) [] [] := by
 refine con_of Tryz.func40 rfl (by kernel_rfl) rfl fun F w0 β0 => ?_
 refine K_tell rfl ?_
 refine go ?_
 exact J_done hT rfl rfl rfl
theorem how14_spec : Con Tryz.prog 40 [.p (.int .u8 14)] [] (.fn 80 []) [] [] := by
 refine con_of Tryz.func40 rfl (by kernel_rfl) rfl fun F w0 β0 => ?_
 refine K_tell rfl ?_
 refine go ?_
 exact J_done hT rfl rfl rfl
theorem how15_spec : Con Tryz.prog 40 [.p (.int .u8 15)] [] (.fn 81 []) [] [] := by
 refine con_of Tryz.func40 rfl (by kernel_rfl) rfl fun F w0 β0 => ?_
 refine K_tell rfl ?_
 refine go ?_
 exact J_done hT rfl rfl rfl
theorem how16_spec : Con Tryz.prog 40 [.p (.int .u8 16)] [] (.fn 82 []) [] [] := by
 refine con_of Tryz.func40 rfl (by kernel_rfl) rfl fun F w0 β0 => ?_
 refine K_tell rfl ?_
 refine go ?_
 exact J_done hT rfl rfl rfl
set_option maxHeartbeats 4000000 in
theorem howX_spec (k : Int) (hk : k < 4 ∨ 16 < k) : Con Tryz.prog 40 [.p (.int .u8 k)] [] (.fn 83 []) [] [] := by
 refine con_of Tryz.func40 rfl (by kernel_rfl) rfl fun F w0 β0 => ?_
 refine K_tell rfl ?_
 refine go ?_
 refine K_condF rfl (by simp; omega) ?_
 refine go ?_
 refine K_condF rfl (by simp; omega) ?_
 refine go ?_
 refine K_condF rfl (by simp; omega) ?_
 refine go ?_
 refine K_condF rfl (by simp; omega) ?_
 refine go ?_
 refine K_condF rfl (by simp; omega) ?_
 refine go ?_
 refine K_condF rfl (by simp; omega) ?_
 refine go ?_
 refine K_condF rfl (by simp; omega) ?_
 refine go ?_
 refine K_condF rfl (by simp; omega) ?_
 refine go ?_
 refine K_condF rfl (by simp; omega) ?_
 refine go ?_
 refine K_condF rfl (by simp; omega) ?_
 refine go ?_
 refine K_condF rfl (by simp; omega) ?_
 refine go ?_
 refine K_condF rfl (by simp; omega) ?_
 refine go ?_
 refine K_condF rfl (by simp; omega) ?_
 refine go ?_
 exact J_done hT rfl rfl rfl
theorem how_ok (k : Int) : ∃ f, Con Tryz.prog 40 [.p (.int .u8 k)] [] (.fn f []) [] [] ∧ ((k = 4 ∧ f = 70) ∨ (k = 5 ∧ f = 71) ∨ (k = 6 ∧ f = 72) ∨ (k = 7 ∧ f = 73) ∨ (k = 8 ∧ f = 74) ∨ (k = 9 ∧ f = 75) ∨ (k = 10 ∧ f = 76) ∨ (k = 11 ∧ f = 77) ∨ (k = 12 ∧ f = 78) ∨ (k = 13 ∧ f = 79) ∨ (k = 14 ∧ f = 80) ∨ (k = 15 ∧ f = 81) ∨ (k = 16 ∧ f = 82) ∨ ((k < 4 ∨ 16 < k) ∧ f = 83)) := by
 by_cases h4 : k = 4
 ·subst h4; exact ⟨_, how4_spec, .inl ⟨rfl, rfl⟩⟩
 by_cases h5 : k = 5
 ·subst h5; exact ⟨_, how5_spec, .inr (.inl ⟨rfl, rfl⟩)⟩
 by_cases h6 : k = 6
 ·subst h6; exact ⟨_, how6_spec, .inr (.inr (.inl ⟨rfl, rfl⟩))⟩
 by_cases h7 : k = 7
 ·subst h7; exact ⟨_, how7_spec, .inr (.inr (.inr (.inl ⟨rfl, rfl⟩)))⟩
 by_cases h8 : k = 8
 ·subst h8; exact ⟨_, how8_spec, .inr (.inr (.inr (.inr (.inl ⟨rfl, rfl⟩))))⟩
 by_cases h9 : k = 9
 ·subst h9; exact ⟨_, how9_spec, .inr (.inr (.inr (.inr (.inr (.inl ⟨rfl, rfl⟩)))))⟩
 by_cases h10 : k = 10
 ·subst h10; exact ⟨_, how10_spec, .inr (.inr (.inr (.inr (.inr (.inr (.inl ⟨rfl, rfl⟩))))))⟩
 by_cases h11 : k = 11
 ·subst h11; exact ⟨_, how11_spec, .inr (.inr (.inr (.inr (.inr (.inr (.inr (.inl ⟨rfl, rfl⟩)))))))⟩
 by_cases h12 : k = 12
 ·subst h12; exact ⟨_, how12_spec, .inr (.inr (.inr (.inr (.inr (.inr (.inr (.inr (.inl ⟨rfl, rfl⟩))))))))⟩
 by_cases h13 : k = 13
 ·subst h13; exact ⟨_, how13_spec, .inr (.inr (.inr (.inr (.inr (.inr (.inr (.inr (.inr (.inl ⟨rfl, rfl⟩)))))))))⟩
 by_cases h14 : k = 14
 ·subst h14; exact ⟨_, how14_spec, .inr (.inr (.inr (.inr (.inr (.inr (.inr (.inr (.inr (.inr (.inl ⟨rfl, rfl⟩))))))))))⟩
 by_cases h15 : k = 15
 ·subst h15; exact ⟨_, how15_spec, .inr (.inr (.inr (.inr (.inr (.inr (.inr (.inr (.inr (.inr (.inr (.inl ⟨rfl, rfl⟩)))))))))))⟩
 by_cases h16 : k = 16
 ·subst h16; exact ⟨_, how16_spec, .inr (.inr (.inr (.inr (.inr (.inr (.inr (.inr (.inr (.inr (.inr (.inr (.inl ⟨rfl, rfl⟩))))))))))))⟩
 exact ⟨_, howX_spec k (by omega), .inr (.inr (.inr (.inr (.inr (.inr (.inr (.inr (.inr (.inr (.inr (.inr (.inr ⟨by omega, rfl⟩))))))))))))⟩
structure Op20.ok (o : Op20) : Prop where
 n : -9223372036854775808 ≤ o.n ∧ o.n ≤ 9223372036854775807
 f : -9223372036854775808 ≤ o.from_ ∧ o.from_ ≤ 9223372036854775807
 b : o.b.length ≤ 140737488355328
theorem how_do {s : VS} {m : Nat} (h : VJ s m) (hm : m ≤ 90000) {l : List Int} (hl : l.length = 16) (hlu : ∀ x ∈ l, U32 x) (o : Op20) (ho : o.ok) {i : Int} (hi : U32 i) :
  ∃ f, Con Tryz.prog 40 [.p (.int .u8 o.kind)] [] (.fn f []) [] [] ∧ ((o.kind = 9 ∧ f = 75) ∨ (o.kind ≠ 9 ∧ DoOk f o anyD s l i)) := by
 obtain ⟨f, hf, hc⟩ := how_ok o.kind
 refine ⟨f, hf, ?_⟩
 rcases hc with ⟨hk, rfl⟩ | ⟨hk, rfl⟩ | ⟨hk, rfl⟩ | ⟨hk, rfl⟩ | ⟨hk, rfl⟩ | ⟨hk, rfl⟩ | ⟨hk, rfl⟩ | ⟨hk, rfl⟩ | ⟨hk, rfl⟩ | ⟨hk, rfl⟩ | ⟨hk, rfl⟩ | ⟨hk, rfl⟩ | ⟨hk, rfl⟩ | ⟨hk, rfl⟩
 ·exact .inr ⟨by omega, create_d h hm hl o hk hi⟩
 ·exact .inr ⟨by omega, mkdir_d h hm hl o hk hi⟩
 ·exact .inr ⟨by omega, open_d h hm hl o hk i⟩
 ·exact .inr ⟨by omega, shut_d h hm hl hlu o hk i⟩
 ·exact .inr ⟨by omega, read_d h hm hl hlu o hk i ho.f ho.n⟩
 ·exact .inl ⟨hk, rfl⟩
 ·exact .inr ⟨by omega, trunc_d h hm hl hlu o hk i ho.n⟩
 ·exact .inr ⟨by omega, rename_d h hm hl o hk hi⟩
 ·exact .inr ⟨by omega, link_d h hm hl o hk hi⟩
 ·exact .inr ⟨by omega, unlink_d h hm hl o hk hi⟩
 ·exact .inr ⟨by omega, rmdir_d h hm hl o hk hi⟩
 ·exact .inr ⟨by omega, readdir_d h hm hl o hk i⟩
 ·exact .inr ⟨by omega, stat_d h hm hl o hk i⟩
 ·exact .inr ⟨by omega, strange_d s hl o hk i⟩
abbrev oA20 (o : Op20) (d : AV) : TV := .p (.agg [.int .u8 o.kind, .str o.path, .str o.other, .int .i64 o.h, .int .i64 o.from_, .int .i64 o.n, d])
theorem oA20_le (o : Op20) (d : AV) : TVLe (oA20 o d) (opT o (.p d)) := fun w β G v h => by
 cases h with | p h =>
 cases h with | agg _ vs hl hr =>
 refine .agg _ vs (by rw [hl]; rfl) fun j z u hz hu => ?_
 have hz' : (([.int .u8 o.kind, .str o.path, .str o.other, .int .i64 o.h, .int .i64 o.from_, .int .i64 o.n, d] : List AV).map TV.p)[j]? = some z := hz
 rw [List.getElem?_map] at hz'
 obtain ⟨y, hy, rfl⟩ := Option.map_eq_some_iff.1 hz'
 exact .p (hr j y u hy hu)
theorem oA20_mono (o : Op20) {x y : AV} (h : AVLe x y) : TVLe (oA20 o x) (oA20 o y) := fun w β G v q => by
 cases q with | p q =>
 cases q with | agg _ vs hl hr =>
 refine .p (.agg _ vs hl fun j z u hz hu => ?_)
 match j, hz with
 | 0, hz => exact hr 0 z u hz hu
 | 1, hz => exact hr 1 z u hz hu
 | 2, hz => exact hr 2 z u hz hu
 | 3, hz => exact hr 3 z u hz hu
 | 4, hz => exact hr 4 z u hz hu
 | 5, hz => exact hr 5 z u hz hu
 | 6, hz =>
  obtain rfl := Option.some.inj hz
  exact h _ _ _ (hr 6 x u rfl hu)
theorem Bs.or {x : AV} {l : List UInt8} (h : Bs x l) : x = .nils ∨ x = .cz ∨ x = .ps (bv l) := by
 cases h with
 | ps => exact .inr (.inr rfl)
 | nils => exact .inl rfl
 | cz => exact .inr (.inl rfl)
theorem Bs.one {x : AV} {l : List UInt8} (h : Bs x l) : AVLe x (.cell .top) := fun w N v q => .cell _ _ (by
 obtain ⟨y, hy, hq⟩ : ∃ y, (y = .nils ∨ y = .cz ∨ ∃ r, y = AV.ps r) ∧ RepA w N y v := ⟨x, by rcases h.or with e | e | e <;> simp [e], q⟩
 rcases hy with rfl | rfl | ⟨r, rfl⟩
 ·cases hq; rfl
 ·cases hq; rfl
 ·cases hq <;> rfl) (.top _)
theorem Sl.or {α : Type} {mk : α → AV} {x : AV} {l : List α} (h : Sl mk x l) : x = .nils ∨ x = .ps (l.map mk) := by
 cases h with
 | nils => exact .inl rfl
 | ps => exact .inr rfl
set_option maxHeartbeats 8000000 in
theorem do20_ps {s : VS} {m : Nat} (h : VJ s m) (hm : m ≤ 90000) {l : List Int} (hl : l.length = 16) (hlu : ∀ x ∈ l, U32 x) (o : Op20) (ho : o.ok) {i : Int} (hi : U32 i) (f0 : Int) {d : AV} (hd : Bs d o.b) :
  ∃ x n, Bs x (sdo s l o i).1.data ∧ Sl AV.str n (sdo s l o i).1.names ∧ Con Tryz.prog 15 [vP, oA20 o d, .p (.int .u32 i)] (dH s l f0) (resT (sdo s l o i).1 x n) (dH (sdo s l o i).2.1 (sdo s l o i).2.2 i) [] := by
 have hd1 : TVLe (oA20 o d) (oA20 o (.ps (bv o.b))) := oA20_mono o (bs_ps hd)
 have hd2 : TVLe (oA20 o d) (oA20 o (.cell .top)) := oA20_mono o hd.one
 have hl' := sdo_l ⟨hl, hlu⟩ s o i
 obtain ⟨f, c1, hc⟩ := how_do h hm hl hlu o ho hi
 have key : ∀ dv, TVLe (oA20 o d) (oA20 o dv) → (dv = .ps (bv o.b) ∨ dv = .cell .top) → DoOk f o (.p dv) s l i → ∃ x n, Bs x (sdo s l o i).1.data ∧ Sl AV.str n (sdo s l o i).1.names ∧ Con Tryz.prog 15 [vP, oA20 o d, .p (.int .u32 i)] (dH s l f0) (resT (sdo s l o i).1 x n) (dH (sdo s l o i).2.1 (sdo s l o i).2.2 i) [] := by
  rintro dv hle hdv ⟨x, n, hx, hn, c2⟩
  refine ⟨x, n, hx, hn, ?_⟩
  generalize (sdo s l o i).1 = r at c2 hx hn
  generalize (sdo s l o i).2.1 = s2 at c2
  generalize (sdo s l o i).2.2 = l2 at c2 hl'
  obtain ⟨a0, a1, a2, a3, a4, a5, a6, a7, a8, a9, a10, a11, a12, a13, a14, a15, rfl⟩ := len16 hl
  obtain ⟨b0, b1, b2, b3, b4, b5, b6, b7, b8, b9, b10, b11, b12, b13, b14, b15, rfl⟩ := len16 hl'.1
  have c3 : ∀ dv', dv = dv' → Con Tryz.prog 15 [vP, oA20 o dv', .p (.int .u32 i)] (dH s [a0, a1, a2, a3, a4, a5, a6, a7, a8, a9, a10, a11, a12, a13, a14, a15] f0) (resT r x n) (dH s2 [b0, b1, b2, b3, b4, b5, b6, b7, b8, b9, b10, b11, b12, b13, b14, b15] i) [] := by
   rintro dv' e
   have hx' := hx.or
   have hn' := hn.or
   rw [e] at hdv c2
   have c2 := Con.argT 1 c2 rfl (oA20_le o dv')
   clear e hx hn hle
   generalize r.data = rd at hx'
   generalize r.names.map AV.str = rn at hn'
   rcases hdv with rfl | rfl
   all_goals rcases hx' with rfl | rfl | rfl
   all_goals rcases hn' with rfl | rfl
   all_goals
    skip
    refine con_of Tryz.func15 rfl (by kernel_rfl) rfl fun F w0 β0 => ?_
    refine K_tell rfl ?_
    refine go ?_
    refine J_drawH2 5 6 (dH s2 [b0, b1, b2, b3, b4, b5, b6, b7, b8, b9, b10, b11, b12, b13, b14, b15] i) (by kernel_rfl) (by kernel_rfl) ?_
    apply Exists.intro
    refine gdH ?_
    refine T_opH rfl rfl rfl rfl rfl rfl (opr_call0P rfl rfl c1 rfl rfl rfl) rfl ?_
    refine gdH ?_
    refine T_stH rfl rfl rfl rfl rfl rfl (opr_callS [.o 0, .o 1, .o 2] rfl rfl c2 rfl rfl rfl ⟨⟨rfl, rfl⟩, ⟨rfl, rfl⟩, ⟨rfl, rfl⟩, trivial⟩ rfl rfl rfl rfl) rfl ?_
    refine gdH ?_
    refine go ?_
    exact J_done hT rfl rfl rfl
  exact Con.argT 1 (c3 dv rfl) rfl hle
 rcases hc with ⟨hk, rfl⟩ | ⟨hk, hc⟩
 ·exact key _ hd1 (.inl rfl) (write_d h hm hl hlu o hk i ho.f ho.b)
 ·exact key _ hd2 (.inr rfl) hc
structure POp where
 o : Op20
 a : AV
def popV (p : POp) : AV := .agg [.int .u8 p.o.kind, .str p.o.path, .str p.o.other, .int .i64 p.o.h, .int .i64 p.o.from_, .int .i64 p.o.n, p.a]
structure POp.ok (p : POp) : Prop where
 bs : Bs p.a p.o.b
 n : -9223372036854775808 ≤ p.o.n ∧ p.o.n ≤ 9223372036854775807
 f : -9223372036854775808 ≤ p.o.from_ ∧ p.o.from_ ≤ 9223372036854775807
 l : p.o.b.length ≤ 140737488351232
 lp : p.o.path.length ≤ Go.Awp.reach ∧ p.o.other.length ≤ Go.Awp.reach
theorem POp.ok.o {p : POp} (h : p.ok) : p.o.ok := ⟨h.n, h.f, by have := h.l; omega⟩
theorem all2_7 {R : Nat → AV → Prop} {a b c d e f g : Nat} {cs : List AV} (h : All2 R [a, b, c, d, e, f, g] cs) : ∃ x y z u v s t, cs = [x, y, z, u, v, s, t] ∧ R a x ∧ R b y ∧ R c z ∧ R d u ∧ R e v ∧ R f s ∧ R g t := by
 match cs, h with
 | [x, y, z, u, v, s, t], h => exact ⟨x, y, z, u, v, s, t, rfl, h.1, h.2.1, h.2.2.1, h.2.2.2.1, h.2.2.2.2.1, h.2.2.2.2.2.1, h.2.2.2.2.2.2.1⟩
theorem bytesN_shp {n : Nat} {a : AV} (h : Shp tab (n + 7) 31 a) : ∃ l, Bs a l ∧ l.length ≤ 140737488351232 := by
 rcases h.slice rfl with rfl | ⟨rows, te, ls, rfl, hte, hls, hlen, hrows⟩
 ·exact ⟨[], .nils, by simp⟩
 ·obtain rfl := Option.some.inj (hte.symm.trans (show tlk tab 5 = some ⟨.int .u8, 1, 1, [.int .u8 0]⟩ from rfl))
  obtain rfl := Option.some.inj (hls.symm.trans (show leaves tab (n + 6) 5 = some [5] from rfl))
  have key : ∀ rows : List AV, (∀ r ∈ rows, All2 (Shp tab (n + 6)) [5] (cellsOf r) ∧ (∀ y, isAggD (TyD.int .u8) = some false → cellsOf r = [y] → r = y) ∧ (isAggD (TyD.int .u8) = some true → ∃ cs, r = .agg cs)) → ∃ l, rows = bv l := by
   intro rows
   induction rows with
   | nil => intro _; exact ⟨[], rfl⟩
   | cons r rs ih =>
    intro hr
    obtain ⟨l, hl⟩ := ih fun r' h' => hr r' (by simp [h'])
    obtain ⟨h1, h2, _⟩ := hr r (by simp)
    match hc : cellsOf r, h1 with
    | [y], h1 =>
     obtain ⟨n, rfl, hn⟩ := h1.1.int rfl
     change 0 ≤ n ∧ n ≤ 255 at hn
     have hry := h2 _ rfl hc
     subst hry
     refine ⟨UInt8.ofNat n.toNat :: l, ?_⟩
     rw [hl]
     show _ = AV.int .u8 ((UInt8.ofNat n.toNat).toNat : Int) :: bv l
     rw [show ((UInt8.ofNat n.toNat).toNat : Int) = n by simp; omega]
  obtain ⟨l, rfl⟩ := key rows hrows
  refine ⟨l, .ps l, ?_⟩
  rw [bv_length] at hlen
  unfold Go.Awp.reach at hlen
  simpa using hlen
theorem op_shp {n : Nat} {cs : List AV} (h : All2 (Shp tab (n + 7)) [5, 9, 9, 3, 3, 3, 31] cs) : ∃ p : POp, AV.agg cs = popV p ∧ p.ok := by
 obtain ⟨x, y, z, u, v, s, t, rfl, hx, hy, hz, hu, hv, hs, ht⟩ := all2_7 h
 obtain ⟨k, rfl, _⟩ := hx.int rfl
 obtain ⟨p, rfl, hp⟩ := hy.str rfl
 obtain ⟨q, rfl, hq⟩ := hz.str rfl
 obtain ⟨hd, rfl, _⟩ := hu.int rfl
 obtain ⟨f, rfl, hf⟩ := hv.int rfl
 obtain ⟨m, rfl, hm⟩ := hs.int rfl
 obtain ⟨b, hb, hl⟩ := bytesN_shp ht
 exact ⟨⟨⟨k, p, q, hd, f, m, b⟩, t⟩, rfl, hb, hm, hf, hl, hp, hq⟩
theorem ops_shp20 {a : AV} (h : Shp tab 8 22 a) : ∃ l : List POp, Sl popV a l ∧ (∀ x ∈ l, x.ok) ∧ l.length ≤ 140737488355328 :=
 shp_agg popV _ h rfl rfl rfl rfl (by decide) fun cs hc => op_shp hc
theorem onew_spec (s : VS) : Con Tryz.prog 11 [vP] (vH s) (.ad (.l 0) 0) (vH s) [deskB (.o 0) noH 0] := by
 refine con_of Tryz.func11 rfl (by kernel_rfl) rfl fun F w0 β0 => ?_
 refine K_tell rfl ?_
 refine go ?_
 exact J_give hT rfl rfl
def great (o : Op20) : Bool := (decide ((o.path.length : Int) > 600) || decide ((o.other.length : Int) > 600)) || decide ((o.b.length : Int) > 1500)
theorem great_spec (o : Op20) {d : AV} (hd : Bs d o.b) : Con Tryz.prog 25 [oA20 o d] [] (.p (.bool (great o))) [] [] := by
 refine Con.argT (args := [oA20 o (.ps (bv o.b))]) 0 ?_ rfl (oA20_mono o (bs_ps hd))
 unfold great
 refine con_of Tryz.func25 rfl (by kernel_rfl) rfl fun F w0 β0 => ?_
 refine K_tell rfl ?_
 refine go ?_
 rw [bv_length]
 exact J_done hT rfl rfl rfl
abbrev resA (r : RS) (d n : AV) : TV := .p (.agg [.int .i64 r.e, .int .i64 r.n, d, n, .int .u8 r.st.1, .int .u32 r.st.2.1, .int .u32 r.st.2.2.1, .int .u32 r.st.2.2.2])
end Go.Proofs.YtdkegmmigongoaaGreatDoor
namespace Go.Proofs.YtdkegmmigongoaaGreatDoor
set_option maxRecDepth 20000
open Go.Awp Go.RowKit
section
variable {P : Program} {T : Tab} {Γ : Ctx} {env : Env} {H L : List AObj} {Q : Exit → Act → World → Prop} {ops : Array Oper} {rest : List Oper}
end
end Go.Proofs.YtdkegmmigongoaaGreatDoor

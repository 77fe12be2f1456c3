import Derived.Test.YtdkegmmigongoaaGreatDoorGo
import Derived.Test.YtdkegmmigongoaaGreatDoorM30
import Derived.Test.YtdkegmmigongoaaGreatDoorM29
namespace Go.Proofs.YtdkegmmigongoaaGreatDoor
set_option maxRecDepth 20000
open Go.Awp Tr
theorem own_own (o : Op20) {d : AV} (hd : Bs d o.b) (hl : o.b.length ≤ 140737488351232) : Con Tryz.prog 16 [oA20 o d] [] (opT o (.sl (.l 2) o.b.length 0 o.b.length)) [] [opB o (.sl (.l 2) o.b.length 0 o.b.length), opB o (.sl (.l 2) o.b.length 0 o.b.length), bA o.b] := by
 refine Con.argT (args := [oA20 o (.ps (bv o.b))]) 0 ?_ rfl (oA20_mono o (bs_ps hd))
 refine con_of Tryz.func16 rfl (by kernel_rfl) rfl fun F w0 β0 => ?_
 refine K_tell rfl ?_
 refine go ?_
 refine K_op rfl rfl (opr_app_lz (rows := bv o.b) hT rfl rfl (.inr rfl) rfl rfl (.rd (.ps _)) hbs_ps (bv_cl _) (bv_size _) (by decide) (by decide) (by rw [bv_length]; show _ * 1 ≤ _; omega)) rfl ?_
 rw [bv_length]
 refine go ?_
 exact J_give hT rfl rfl
set_option maxHeartbeats 16000000 in
theorem do20_own {s : VS} {m : Nat} (h : VJ s m) (hm : m ≤ 90000) {l : List Int} (hl : l.length = 16) (hlu : ∀ x ∈ l, U32 x) (o : Op20) (ho : o.ok) {i : Int} (hi : U32 i) (f0 : Int) :
  ∃ x n, Bs x (sdo s l o i).1.data ∧ Sl AV.str n (sdo s l o i).1.names ∧ Con Tryz.prog 15 [vP, opT o (ownD o.b), .p (.int .u32 i)] (dHb s l f0 o.b) (resT (sdo s l o i).1 x n) (dHb (sdo s l o i).2.1 (sdo s l o i).2.2 i o.b) [] := by
 have hl' := sdo_l ⟨hl, hlu⟩ s o i
 obtain ⟨f, c1, hc⟩ := how_do h hm hl hlu o ho hi
 rcases hc with ⟨hk, rfl⟩ | ⟨hk, hc⟩
 ·obtain ⟨x, n, hx, hn, c2⟩ := write_own h hm hl hlu o hk i ho.f ho.b
  refine ⟨x, n, hx, hn, ?_⟩
  have hx' := hx.or
  have hn' := hn.or
  clear hx hn
  generalize (sdo s l o i).1 = r at c2 hx' hn'
  generalize (sdo s l o i).2.1 = s2 at c2
  generalize (sdo s l o i).2.2 = l2 at c2 hl'
  obtain ⟨a0, a1, a2, a3, a4, a5, a6, a7, a8, a9, a10, a11, a12, a13, a14, a15, rfl⟩ := len16 hl
  obtain ⟨b0, b1, b2, b3, b4, b5, b6, b7, b8, b9, b10, b11, b12, b13, b14, b15, rfl⟩ := len16 hl'.1
  generalize r.data = rd at hx'
  generalize r.names.map AV.str = rn at hn'
  rcases hx' with rfl | rfl | rfl
  all_goals rcases hn' with rfl | rfl
  all_goals
   skip
   refine con_of Tryz.func15 rfl (by kernel_rfl) rfl fun F w0 β0 => ?_
   refine K_tell rfl ?_
   refine go ?_
   refine J_drawH2 5 6 (dHb s2 [b0, b1, b2, b3, b4, b5, b6, b7, b8, b9, b10, b11, b12, b13, b14, b15] i o.b) (by kernel_rfl) (by kernel_rfl) ?_
   apply Exists.intro
   refine gdH ?_
   refine T_opH rfl rfl rfl rfl rfl rfl (opr_call0P rfl rfl c1 rfl rfl rfl) rfl ?_
   refine gdH ?_
   refine T_stH rfl rfl rfl rfl rfl rfl (opr_callS [.o 0, .o 1, .o 2, .o 3] rfl rfl c2 rfl rfl rfl ⟨⟨rfl, rfl⟩, ⟨rfl, rfl⟩, ⟨rfl, rfl⟩, ⟨rfl, rfl⟩, trivial⟩ rfl rfl rfl rfl) rfl ?_
   refine gdH ?_
   refine go ?_
   exact J_done hT rfl rfl rfl
 ·obtain ⟨x, n, hx, hn, c2⟩ := hc
  have c2 := Con.argT 1 c2 rfl (oA20_le o (.cell .top))
  refine ⟨x, n, hx, hn, ?_⟩
  have hx' := hx.or
  have hn' := hn.or
  clear hx hn
  generalize (sdo s l o i).1 = r at c2 hx' hn'
  generalize (sdo s l o i).2.1 = s2 at c2
  generalize (sdo s l o i).2.2 = l2 at c2 hl'
  obtain ⟨a0, a1, a2, a3, a4, a5, a6, a7, a8, a9, a10, a11, a12, a13, a14, a15, rfl⟩ := len16 hl
  obtain ⟨b0, b1, b2, b3, b4, b5, b6, b7, b8, b9, b10, b11, b12, b13, b14, b15, rfl⟩ := len16 hl'.1
  generalize r.data = rd at hx'
  generalize r.names.map AV.str = rn at hn'
  rcases hx' with rfl | rfl | rfl
  all_goals rcases hn' with rfl | rfl
  all_goals
   skip
   refine con_of Tryz.func15 rfl (by kernel_rfl) rfl fun F w0 β0 => ?_
   refine K_tell rfl ?_
   refine J_rep 1 (opT o anyD) rfl (opT_any o (sl_any _ _ _ _)) ?_
   refine go ?_
   refine J_drawH2 5 6 (dHb s2 [b0, b1, b2, b3, b4, b5, b6, b7, b8, b9, b10, b11, b12, b13, b14, b15] i o.b) (by kernel_rfl) (by kernel_rfl) ?_
   apply Exists.intro
   refine gdH ?_
   refine T_opH rfl rfl rfl rfl rfl rfl (opr_call0P rfl rfl c1 rfl rfl rfl) rfl ?_
   refine gdH ?_
   refine T_stH rfl rfl rfl rfl rfl rfl (opr_callS [.o 0, .o 1, .o 2] rfl rfl c2 rfl rfl rfl ⟨⟨rfl, rfl⟩, ⟨rfl, rfl⟩, ⟨rfl, rfl⟩, trivial⟩ rfl rfl rfl rfl) rfl ?_
   refine gdH ?_
   refine go ?_
   exact J_done hT rfl rfl rfl
def openL : List Int → Nat → List Int
 | [], _ => []
 | x :: r, i => if x = 0 then openL r (i + 1) else (i : Int) :: openL r (i + 1)
abbrev i64V (x : Int) : AV := .int .i64 x
structure OpI (l : List Int) where
 i : Nat
 h : i ≤ l.length
 acc : List Int
 hl : acc.length ≤ i
 e : acc ++ openL (l.drop i) i = openL l 0
theorem openL_cons (x : Int) (r : List Int) (i : Nat) : openL (x :: r) i = if x = 0 then openL r (i + 1) else (i : Int) :: openL r (i + 1) := rfl
theorem i64_cl (l : List Int) : clR (l.map i64V) := fun r hr x hx => by
 obtain ⟨_, _, rfl⟩ := List.mem_map.1 hr
 obtain rfl : x = _ := by simpa [cellsOf] using hx
 rfl
theorem i64_size (l : List Int) : ∀ r ∈ l.map i64V, (cellsOf r).length = 1 := fun r hr => by
 obtain ⟨_, _, rfl⟩ := List.mem_map.1 hr
 rfl
theorem elA16 {l : List Int} (hl : l.length = 16) {te : TyI} (ht : isAggD te.d = some false) {i : Nat} {x : Int} (hx : l[i]? = some x) {v : TV} (hv : aggOf v = some (l.map u32V)) : elA (i : Int) 16 te v = some (.p (u32V x)) := by
 have hi := (List.getElem?_eq_some_iff.1 hx).1
 unfold elA
 rw [decide_eq_true (show (0 : Int) ≤ i by omega), decide_eq_true (show (i : Int) < ((16 : Nat) : Int) by omega), ht, hv]
 show (match (l.map u32V)[((i : Nat) : Int).toNat]? with | some y => some (TV.p y) | none => none) = _
 rw [Int.toNat_natCast, List.getElem?_map, hx]
 rfl
set_option maxHeartbeats 16000000 in
theorem open20_spec (s : VS) {l : List Int} (hl : l.length = 16) (f : Int) : Con Tryz.prog 24 [vP] (dH s l f) (.p (.ps ((openL l 0).map i64V))) (dH s l f) [] := by
 obtain ⟨L, hL⟩ : ∃ L, l = L := ⟨l, rfl⟩
 obtain ⟨a0, a1, a2, a3, a4, a5, a6, a7, a8, a9, a10, a11, a12, a13, a14, a15, rfl⟩ := len16 hl
 refine con_of Tryz.func24 rfl (by kernel_rfl) rfl fun F w0 β0 => ?_
 refine K_tell rfl ?_
 refine go ?_
 refine J_lazyE 3 3 (e := 1) rfl rfl (.inl rfl) ?_
 refine J_loop (fun q : OpI [a0, a1, a2, a3, a4, a5, a6, a7, a8, a9, a10, a11, a12, a13, a14, a15] => [(3, .sl (.l 0) q.acc.length 0 q.acc.length), (12, .agg [.p (u32V a0), .p (u32V a1), .p (u32V a2), .p (u32V a3), .p (u32V a4), .p (u32V a5), .p (u32V a6), .p (u32V a7), .p (u32V a8), .p (u32V a9), .p (u32V a10), .p (u32V a11), .p (u32V a12), .p (u32V a13), .p (u32V a14), .p (u32V a15)]), (13, .p (.int .i64 (q.i : Int)))]) (fun _ => dH s [a0, a1, a2, a3, a4, a5, a6, a7, a8, a9, a10, a11, a12, a13, a14, a15] f) (fun q => [.arr 3 true 1 (q.acc.map i64V)]) (fun q => 16 - q.i) ⟨0, Nat.zero_le _, [], Nat.zero_le _, rfl⟩ ⟨rfl, rfl, rfl, trivial⟩ rfl rfl (fun q => ?_)
 have hq := q.h
 have hqe := q.e
 have hql := q.hl
 have hlt : (q.acc.map i64V).length = q.acc.length := by simp
 rw [hl] at hq
 refine go ?_
 by_cases h : q.i < 16
 ·obtain ⟨x, hx⟩ : ∃ x, [a0, a1, a2, a3, a4, a5, a6, a7, a8, a9, a10, a11, a12, a13, a14, a15][q.i]? = some x := ⟨_, List.getElem?_eq_getElem (by rw [hl]; exact h)⟩
  have hd : [a0, a1, a2, a3, a4, a5, a6, a7, a8, a9, a10, a11, a12, a13, a14, a15].drop q.i = x :: [a0, a1, a2, a3, a4, a5, a6, a7, a8, a9, a10, a11, a12, a13, a14, a15].drop (q.i + 1) := by
   obtain ⟨h1, rfl⟩ := List.getElem?_eq_some_iff.1 hx
   rw [List.drop_eq_getElem_cons h1]
  rw [hd, openL_cons] at hqe
  have hel := elA16 hl (te := ⟨.int .u32, 1, 4, [.int .u32 0]⟩) rfl hx (v := .agg [.p (u32V a0), .p (u32V a1), .p (u32V a2), .p (u32V a3), .p (u32V a4), .p (u32V a5), .p (u32V a6), .p (u32V a7), .p (u32V a8), .p (u32V a9), .p (u32V a10), .p (u32V a11), .p (u32V a12), .p (u32V a13), .p (u32V a14), .p (u32V a15)]) rfl
  refine K_condT rfl (decide_eq_true (by omega)) ?_
  refine go ?_
  refine K_op rfl rfl (opr_indexA hT rfl rfl rfl rfl hel) rfl ?_
  refine go ?_
  by_cases hx0 : x = 0
  ·rw [if_pos hx0] at hqe
   refine K_condF rfl (by simp [hx0]) ?_
   refine go ?_
   refine J_again ⟨q.i + 1, by rw [hl]; omega, q.acc, by omega, hqe⟩ (by show 16 - (q.i + 1) < 16 - q.i; omega) ⟨rfl, rfl, congrArg (fun z => TV.p (.int .i64 z)) (by rw [IntWalk.i64_in _ (by omega)]; rfl), trivial⟩ rfl rfl
  ·rw [if_neg hx0] at hqe
   refine K_condT rfl (by simp [hx0]) ?_
   refine go ?_
   refine K_op rfl rfl (opr_app_own (rows := [i64V (q.i : Int)]) hT rfl rfl rfl rfl hlt rfl rfl (.rd (.ps _)) hbs_ps (i64_cl [(q.i : Int)]) (i64_size [(q.i : Int)]) (by decide) (by show (q.acc.length + 1) * 8 ≤ _; omega)) rfl ?_
   refine go ?_
   refine J_again ⟨q.i + 1, by rw [hl]; omega, q.acc ++ [(q.i : Int)], by simp; omega, by rw [← hqe]; simp⟩ (by show 16 - (q.i + 1) < 16 - q.i; omega) ⟨(by dsimp only; rw [List.length_append]; rfl), rfl, congrArg (fun z => TV.p (.int .i64 z)) (by rw [IntWalk.i64_in _ (by omega)]; rfl), trivial⟩ rfl (by dsimp only; rw [List.map_append]; rfl)
 ·rw [List.drop_eq_nil_of_le (by rw [hl]; omega)] at hqe
  change q.acc ++ [] = _ at hqe
  rw [List.append_nil] at hqe
  refine K_condF rfl (decide_eq_false (by omega)) ?_
  refine J_freeze_all 3 0 rfl rfl hlt ?_
  rw [← hqe]
  refine go ?_
  exact J_done hT rfl rfl rfl
set_option maxHeartbeats 4000000 in
theorem rnew20_spec : Con Tryz.prog 21 [fsA newM] [] (deT newM noH 2) [] [] := by
 refine con_of Tryz.func21 rfl (by kernel_rfl) rfl fun F w0 β0 => ?_
 refine K_tell rfl ?_
 refine go ?_
 refine J_unroll 2 ?_
 refine J_round ?_
 refine go ?_
 refine K_op rfl rfl (opr_index hT rfl rfl rfl rfl rfl (.ps _) (by decide) (by decide)) rfl ?_
 refine go ?_
 refine K_op rfl rfl (opr_load_el hT rfl rfl (.ps _) (show (nods newM)[0]? = some (nodA ⟨1, 2, 2, [], []⟩) from rfl) rfl rfl) rfl ?_
 refine go ?_
 refine J_round ?_
 refine go ?_
 refine J_drawS 5 (by kernel_rfl) (by kernel_rfl) ?_
 apply Exists.intro
 refine gdW ?_
 refine T_opD rfl rfl rfl rfl rfl (opr_frz (opr_make (n := 16) hT rfl rfl rfl rfl rfl rfl rfl rfl rfl (by decide)) List.length_replicate rfl) rfl ?_
 refine gdW ?_
 refine go ?_
 exact J_done hT rfl rfl rfl
theorem make_al {m : MF} {P : Int → Prop} (h : m.al P) (p : List UInt8) (k i : Int) (he : (m.make p k i).1 ≠ 0) : (m.make p k i).2.al P := by
 unfold MF.make at he ⊢
 split
 ·exact h
 split
 ·exact h
 rename_i h1 h2
 rw [if_neg h1, if_neg h2] at he
 exact absurd rfl he
theorem mdo_al2 {m : MF} {P : Int → Prop} (h : m.al P) (h1 : P 1) (l : List Int) (o : Op20) (i : Int) (hn : ¬ ((o.kind = 4 ∨ o.kind = 5) ∧ (mdo m l o i).1.e = 0)) : (mdo m l o i).2.1.al P := by
 by_cases k4 : o.kind = 4
 ·have he : (mdo m l o i).1.e ≠ 0 := fun e => hn ⟨.inl k4, e⟩
  unfold mdo at he ⊢
  rw [if_pos k4] at he ⊢
  exact make_al h _ _ _ he
 by_cases k5 : o.kind = 5
 ·have he : (mdo m l o i).1.e ≠ 0 := fun e => hn ⟨.inr k5, e⟩
  unfold mdo at he ⊢
  rw [if_neg k4, if_pos k5] at he ⊢
  exact make_al h _ _ _ he
 have e : mdo m l o i = mdo m l o 1 := by
  unfold mdo
  rw [if_neg k4, if_neg k5, if_neg k4, if_neg k5]
 rw [e]
 exact mdo_al h l o h1
theorem D20.stepF {s : VS} {l : List Int} {m : MF} {fr : Int} {i : Nat} (d : D20 s l m (· < fr) i) (hi : i ≤ 200) (o : Op20) (h2 : 2 ≤ fr) (hf : fr ≤ 4294967290) :
  (sdo s l o fr).1.e = 21 ∨ ((sdo s l o fr).1 = (mdo m l o fr).1 ∧ (sdo s l o fr).2.2 = (mdo m l o fr).2.2 ∧ D20 (sdo s l o fr).2.1 (sdo s l o fr).2.2 (mdo m l o fr).2.1 (· < mfr m l o fr) (i + 1)) := by
 refine (d.step (Q := (· < fr + 1)) hi o (j := fr) (by unfold U32; omega) (by omega) (by omega) (fun k h => by omega) (by omega)).imp_right fun ⟨q1, q2, q3⟩ => ⟨q1, q2, ?_⟩
 refine ⟨q3.v, q3.r, q3.w, ?_, q3.l⟩
 unfold mfr
 by_cases hc : (o.kind = 4 ∨ o.kind = 5) ∧ (mdo m l o fr).1.e = 0
 ·rw [if_pos hc]; exact q3.p
 ·rw [if_neg hc]; exact mdo_al2 d.p (by show (1 : Int) < fr; omega) l o fr hc
theorem mfr_bd (m : MF) (l : List Int) (o : Op20) (fr : Int) : fr ≤ mfr m l o fr ∧ mfr m l o fr ≤ fr + 1 := by
 unfold mfr; split <;> omega
theorem mdo_names {m : MF} {c : Nat} (h : m.wk c) (l : List Int) (o : Op20) (i : Int) : (mdo m l o i).1.names.length ≤ c := by
 by_cases k15 : o.kind = 15
 ·unfold mdo
  rw [if_neg (show ¬ o.kind = 4 by omega), if_neg (show ¬ o.kind = 5 by omega), if_neg (show ¬ o.kind = 6 by omega), if_neg (show ¬ o.kind = 7 by omega), if_neg (show ¬ o.kind = 8 by omega), if_neg (show ¬ o.kind = 9 by omega), if_neg (show ¬ o.kind = 10 by omega), if_neg (show ¬ o.kind = 11 by omega), if_neg (show ¬ o.kind = 12 by omega), if_neg (show ¬ o.kind = 13 by omega), if_neg (show ¬ o.kind = 14 by omega), if_pos k15]
  show (m.list o.path).1.length ≤ c
  unfold MF.list
  split
  ·exact Nat.zero_le _
  split
  ·exact Nat.zero_le _
  split
  ·exact Nat.zero_le _
  ·rename_i n hn
   split
   ·exact Nat.zero_le _
   ·rw [List.length_map]; exact h.e n (at_mem hn).1
 ·have : (mdo m l o i).1.names = [] := by
   unfold mdo
   by_cases k4 : o.kind = 4
   ·rw [if_pos k4]
    repeat' split
    all_goals rfl
   rw [if_neg k4]
   by_cases k5 : o.kind = 5
   ·rw [if_pos k5]
    repeat' split
    all_goals rfl
   rw [if_neg k5]
   by_cases k6 : o.kind = 6
   ·rw [if_pos k6]
    repeat' split
    all_goals rfl
   rw [if_neg k6]
   by_cases k7 : o.kind = 7
   ·rw [if_pos k7]
    repeat' split
    all_goals rfl
   rw [if_neg k7]
   by_cases k8 : o.kind = 8
   ·rw [if_pos k8]
    repeat' split
    all_goals rfl
   rw [if_neg k8]
   by_cases k9 : o.kind = 9
   ·rw [if_pos k9]
    repeat' split
    all_goals rfl
   rw [if_neg k9]
   by_cases k10 : o.kind = 10
   ·rw [if_pos k10]
    repeat' split
    all_goals rfl
   rw [if_neg k10]
   by_cases k11 : o.kind = 11
   ·rw [if_pos k11]
    repeat' split
    all_goals rfl
   rw [if_neg k11]
   by_cases k12 : o.kind = 12
   ·rw [if_pos k12]
    repeat' split
    all_goals rfl
   rw [if_neg k12]
   by_cases k13 : o.kind = 13
   ·rw [if_pos k13]
    repeat' split
    all_goals rfl
   rw [if_neg k13]
   by_cases k14 : o.kind = 14
   ·rw [if_pos k14]
    repeat' split
    all_goals rfl
   rw [if_neg k14]
   rw [if_neg k15]
   by_cases k16 : o.kind = 16
   ·rw [if_pos k16]
    repeat' split
    all_goals rfl
   rw [if_neg k16]
   rfl
  rw [this]
  exact Nat.zero_le _
theorem D20.asked {s : VS} {l : List Int} {m : MF} {P : Int → Prop} {i : Nat} (d : D20 s l m P i) (hi : i ≤ 200) (fr : Int) (hf : 0 ≤ fr ∧ fr ≤ 1000000) : R20 m l fr (6 * i + 2) := by
 obtain ⟨par, R⟩ := d.r
 refine ⟨R.spot d.w, by omega, fun x hx => (R.u _ _ (R.fst x hx)).1, ?_, fun x hx => ?_, fun p => ?_, d.l.1, hf⟩
 ·obtain ⟨x, h1, h2⟩ := R.root
  unfold MF.kind; rw [h1]; exact h2
 ·have hat := R.fst x hx
  rcases R.kin _ _ hat with q | q
  ·rw [q.2]; exact Nat.zero_le _
  ·exact Nat.le_trans (R.bl hat q.1).1 (by decide)
 ·obtain ⟨_, h2, _⟩ := lead_sim d.v R p
  obtain ⟨_, h4⟩ := lead_u s p
  rw [← h2]
  exact ⟨h4.1, h4.2.1, h4.2.2.1, by dsimp only; decide⟩
theorem TVLe.trans {x y z : TV} (h : TVLe x y) (k : TVLe y z) : TVLe x z := fun w β G v q => k _ _ _ _ (h _ _ _ _ q)
theorem sl_ps {α : Type} {mk : α → AV} {x : AV} {l : List α} (h : Sl mk x l) : AVLe x (.ps (l.map mk)) := by
 cases h with
 | nils => exact nils_ps
 | ps => exact AVLe.refl _
theorem res_le {r : RS} {x n : AV} (hx : Bs x r.data) (hn : Sl AV.str n r.names) : TVLe (resT r x n) (resT r (.ps (bv r.data)) (.ps (r.names.map .str))) :=
 TVLe.trans (agg_rep (xs := [.p (.int .i64 r.e), .p (.int .i64 r.n), .p x, .p n, .p (.int .u8 r.st.1), .p (.int .u32 r.st.2.1), .p (.int .u32 r.st.2.2.1), .p (.int .u32 r.st.2.2.2)]) 2 rfl (bs_ps hx)) (agg_rep 3 rfl (sl_ps hn))
theorem tupT_rep0 {x y z : TV} (h : TVLe x y) : TVLe (.tup [x, z]) (.tup [y, z]) := fun w β G v q => by
 cases q with | tup _ vs hl hr =>
 refine .tup _ vs hl fun j u a hu ha => ?_
 match j, hu with
 | 0, hu =>
  obtain rfl := Option.some.inj hu
  exact h _ _ _ _ (hr 0 x a rfl ha)
 | 1, hu => exact hr 1 u a hu ha
end Go.Proofs.YtdkegmmigongoaaGreatDoor

import Derived.Test.YtdkegmmigongoaaGreatDoorM29
import Derived.Test.YtdkegmmigongoaaGreatDoorGo
import Derived.Test.YtdkegmmigongoaaGreatDoorM14
import Derived.Test.YtdkegmmigongoaaGreatDoorM15
import Derived.Test.YtdkegmmigongoaaGreatDoorM25
namespace Go.Proofs.YtdkegmmigongoaaGreatDoor
set_option maxRecDepth 20000
open Go.Awp Tr
theorem D20.next {s : VS} {l : List Int} {m : MF} {i : Nat} (d : D20 s l m (fun k => k < (2 + i : Nat)) i) (hi : i ≤ 100) (o : Op20) {q : RS × VS × List Int} (hq : sdo s l o (2 + i : Nat) = q) (he : q.1.e ≠ 21) : ∃ m', D20 q.2.1 q.2.2 m' (fun k => k < (2 + (i + 1) : Nat)) (i + 1) := by
 rcases d.step (Q := fun k => k < (2 + (i + 1) : Nat)) (by omega) o (j := (2 + i : Nat)) (by unfold U32; omega) (by omega) (by omega) (fun k h => by omega) (by omega) with h | ⟨_, _, h⟩
 ·rw [hq] at h; exact absurd h he
 ·rw [hq] at h; exact ⟨_, h⟩
theorem D20.start : D20 (VS.new .nil) noH newM (fun k => k < (2 + 0 : Nat)) 0 := D20.new (by decide)
abbrev deT (f : MF) (l : List Int) (fr : Int) : TV := .agg [.p (.ps (nods f)), .p (.ps (l.map u32V)), .p (.int .u32 fr)]
abbrev deA (f : MF) (l : List Int) (fr : Int) : TV := .p (.agg [.ps (nods f), .ps (l.map u32V), .int .u32 fr])
abbrev deB (f : MF) (l : List Int) (fr : Int) : AObj := .box 57 [.p (.ps (nods f)), .p (.ps (l.map u32V)), .p (.int .u32 fr)]
abbrev deB0 : AObj := .box 57 [.p .nils, .p .nils, .p (.int .u32 0)]
abbrev resB (r : RS) (d n : AV) : AObj := .box 40 [.p (.int .i64 r.e), .p (.int .i64 r.n), .p d, .p n, .p (.int .u8 r.st.1), .p (.int .u32 r.st.2.1), .p (.int .u32 r.st.2.2.1), .p (.int .u32 r.st.2.2.2)]
theorem rfailed20 (e : Int) : Con Tryz.prog 54 [.p (.int .i64 e)] [] (resT (rs0 e) .nils .nils) [] [] := by
 refine con_of Tryz.func54 rfl (by kernel_rfl) rfl fun F w0 β0 => ?_
 refine K_tell rfl ?_
 refine go ?_
 exact J_done hT rfl rfl rfl
set_option maxHeartbeats 4000000 in
theorem rheld20 (f : MF) (l : List Int) (hl : l.length = 16) (fr h : Int) : Con Tryz.prog 91 [deA f l fr, .p (.int .i64 h)] [] (.p (.int .u32 (heldI l h))) [] [] := by
 have hlen : (l.map u32V).length = 16 := by simp [hl]
 unfold heldI
 by_cases h0 : h < 0 ∨ h ≥ 16
 ·rw [if_pos h0]
  refine con_of Tryz.func91 rfl (by kernel_rfl) rfl fun F w0 β0 => ?_
  refine K_tell rfl ?_
  refine go ?_
  refine K_condT rfl (by rcases h0 with q | q <;> simp [q]) ?_
  refine go ?_
  exact J_done hT rfl rfl rfl
 rw [if_neg h0]
 have hx : l[h.toNat]? = some (l.getD h.toNat 0) := by
  rw [List.getD_eq_getElem?_getD, List.getElem?_eq_getElem (by omega)]; rfl
 have hxm : (l.map u32V)[h.toNat]? = some (u32V (l.getD h.toNat 0)) := by rw [List.getElem?_map, hx]; rfl
 generalize l.getD h.toNat 0 = x at hxm
 refine con_of Tryz.func91 rfl (by kernel_rfl) rfl fun F w0 β0 => ?_
 refine K_tell rfl ?_
 refine go ?_
 refine K_condF rfl (by simp; omega) ?_
 refine go ?_
 refine K_op rfl rfl (opr_index hT rfl rfl rfl rfl rfl (.ps _) (by omega) (by rw [hlen]; omega)) rfl ?_
 refine go ?_
 refine K_op rfl rfl (opr_load_el hT rfl rfl (.ps _) hxm rfl rfl) rfl ?_
 refine go ?_
 exact J_done hT rfl rfl rfl
theorem u32_cl (l : List Int) : clR (l.map u32V) := fun r hr x hx => by
 obtain ⟨_, _, rfl⟩ := List.mem_map.1 hr
 obtain rfl : x = _ := by simpa [cellsOf] using hx
 rfl
theorem u32_size (l : List Int) : ∀ r ∈ l.map u32V, (cellsOf r).length = 1 := fun r hr => by
 obtain ⟨_, _, rfl⟩ := List.mem_map.1 hr
 rfl
set_option maxHeartbeats 4000000 in
theorem rset20 (f : MF) (l : List Int) (hl : l.length = 16) (fr h x : Int) (h0 : 0 ≤ h) (h1 : h < 16) : Con Tryz.prog 90 [deA f l fr, .p (.int .i64 h), .p (.int .u32 x)] [] (deT f (l.set h.toNat x) fr) [] [] := by
 have hlen : (l.map u32V).length = 16 := by simp [hl]
 have e : (l.map u32V).set (0 + h.toNat) (u32V x) = (l.set h.toNat x).map u32V := by rw [Nat.zero_add, List.map_set]
 have hlen2 : ((l.set h.toNat x).map u32V).length = 16 := by simp [hl]
 refine con_of Tryz.func90 rfl (by kernel_rfl) rfl fun F w0 β0 => ?_
 refine K_tell rfl ?_
 refine go ?_
 refine K_op rfl rfl (opr_app_lz (rows := l.map u32V) hT rfl rfl (.inr rfl) rfl rfl (.rd (.ps _)) hbs_ps (u32_cl l) (u32_size l) (by decide) (by decide) (by rw [hlen]; decide)) rfl ?_
 rw [hlen]
 refine go ?_
 refine K_op rfl rfl (opr_index hT rfl rfl rfl rfl rfl (Rd.full (h := .l 2) rfl hlen) (by omega) (by rw [hlen]; omega)) rfl ?_
 refine go ?_
 refine K_op rfl rfl (opr_storeEl1 hT rfl rfl rfl hlen rfl rfl rfl rfl) rfl ?_
 rw [e]
 refine J_freeze_all 7 2 rfl rfl hlen2 ?_
 refine go ?_
 exact J_done hT rfl rfl rfl
set_option maxHeartbeats 4000000 in
theorem rchanged20 (f : MF) (l : List Int) (fr e : Int) (g : MF) : Con Tryz.prog 45 [deA f l fr, .p (.int .i64 e), fsA g] [] (.tup [resT (rs0 e) .nils .nils, deT g l fr]) [] [] := by
 have c1 := rfailed20 e
 refine con_of Tryz.func45 rfl (by kernel_rfl) rfl fun F w0 β0 => ?_
 refine K_tell rfl ?_
 refine go ?_
 refine J_draw [[deB g l fr, fB g, resB0, deB0], [deB g l fr, fB g, resB (rs0 e) .nils .nils, deB0], [deB g l fr, fB g, resB (rs0 e) .nils .nils, deB g l fr]] [3, 4] (by kernel_rfl) (by kernel_rfl) rfl ?_
 refine gdW ?_
 refine T_opD rfl rfl rfl rfl rfl (opr_call0P rfl rfl c1 rfl rfl rfl) rfl ?_
 refine gdW ?_
 refine go ?_
 exact J_done hT rfl rfl rfl
set_option maxHeartbeats 8000000 in
theorem rstat20 {f : MF} {c : Nat} (hf : f.ok c) (hc : c ≤ 50000) (p : List UInt8) (hst : Nd.ok (f.stat p).1) : Con Tryz.prog 53 [fsA f, .p (.str p)] [] (.tup [ndT (f.stat p).1, .p (.int .i64 (f.stat p).2)]) [] [] := by
 have c1 := rfind18_spec hf (by omega) p
 have hsp := findP_spot hf (p := p)
 unfold MF.stat at hst ⊢
 generalize f.findP p = q at c1 hsp hst
 obtain ⟨a, e⟩ := q
 dsimp only at c1 hsp hst ⊢
 by_cases he : e ≠ 0
 ·rw [if_pos he]
  refine con_of Tryz.func53 rfl (by kernel_rfl) rfl fun F w0 β0 => ?_
  refine K_tell rfl ?_
  refine go ?_
  refine K_op rfl rfl (opr_callP rfl rfl (c1) rfl rfl rfl rfl) rfl ?_
  refine go ?_
  refine K_condT rfl (by simp [he]) ?_
  refine go ?_
  exact J_done hT rfl rfl rfl
 rw [if_neg he] at hst ⊢
 obtain rfl : e = 0 := by simpa using he
 by_cases h0 : a.i = 0
 ·rw [if_pos h0]
  refine con_of Tryz.func53 rfl (by kernel_rfl) rfl fun F w0 β0 => ?_
  refine K_tell rfl ?_
  refine go ?_
  refine K_op rfl rfl (opr_callP rfl rfl (c1) rfl rfl rfl rfl) rfl ?_
  refine go ?_
  refine K_condT rfl (by simp [h0]) ?_
  refine go ?_
  exact J_done hT rfl rfl rfl
 rw [if_neg h0] at hst ⊢
 obtain ⟨n, hn⟩ := (spot_has hf (hsp rfl)).resolve_left h0
 rw [hn] at hst ⊢
 dsimp only at hst ⊢
 obtain ⟨_, h2, h3, _⟩ := hst
 dsimp only at h2 h3
 have c2 := rNode_spec f a n (hf.wk.sz (by omega)).l hn
 have e30 : IntKind.u32.wrap n.n = n.n := u32_in _ h2
 have e34 : IntKind.u32.wrap (n.b.length : Int) = (n.b.length : Int) := u32_in _ h3
 refine con_of Tryz.func53 rfl (by kernel_rfl) rfl fun F w0 β0 => ?_
 refine K_tell rfl ?_
 refine go ?_
 refine K_op rfl rfl (opr_callP rfl rfl (c1) rfl rfl rfl rfl) rfl ?_
 refine go ?_
 refine K_condF rfl (by simp [h0]) ?_
 refine go ?_
 refine K_op rfl rfl (opr_callP rfl rfl (c2) rfl rfl rfl rfl) rfl ?_
 refine go ?_
 rw [e30, e34]
 exact J_done hT rfl rfl rfl
def mopen (f : MF) (l : List Int) (p : List UInt8) : RS × List Int :=
 if (f.findP p).2 ≠ 0 then (rs0 (f.findP p).2, l) else if (f.findP p).1.i = 0 then (rs0 10, l) else if f.kind (f.findP p).1.i ≠ 1 then (rs0 13, l) else if freeH l 0 < 0 then (rs0 20, l)
  else ({ rs0 0 with n := freeH l 0 }, l.set (freeH l 0).toNat (f.findP p).1.i)
set_option maxHeartbeats 16000000 in
theorem ropen20 {f : MF} {c : Nat} (hf : f.ok c) (hc : c ≤ 50000) {l : List Int} (hl : l.length = 16) (fr : Int) (p : List UInt8) : Con Tryz.prog 46 [deA f l fr, .p (.str p)] [] (.tup [resT (mopen f l p).1 .nils .nils, deT f (mopen f l p).2 fr]) [] [] := by
 have c1 := rfind18_spec hf (by omega) p
 have hsp := findP_spot hf (p := p)
 have hlen : (l.map u32V).length = 16 := by simp [hl]
 unfold mopen
 generalize f.findP p = q at c1 hsp
 obtain ⟨a, e⟩ := q
 dsimp only at c1 hsp ⊢
 have ce := rfailed20 e
 have c10 := rfailed20 10
 have c13 := rfailed20 13
 have c20 := rfailed20 20
 by_cases he : e ≠ 0
 ·rw [if_pos he]
  refine con_of Tryz.func46 rfl (by kernel_rfl) rfl fun F w0 β0 => ?_
  refine K_tell rfl ?_
  refine go ?_
  refine K_op rfl rfl (opr_callP rfl rfl (c1) rfl rfl rfl rfl) rfl ?_
  refine go ?_
  refine K_condT rfl (by simp [he]) ?_
  refine go ?_
  refine J_draw [[deB f l fr, resB0, deB0, msB a], [deB f l fr, resB (rs0 e) .nils .nils, deB0, msB a], [deB f l fr, resB (rs0 e) .nils .nils, deB f l fr, msB a]] [3, 4] (by kernel_rfl) (by kernel_rfl) rfl ?_
  refine gdW ?_
  refine T_opD rfl rfl rfl rfl rfl (opr_call0P rfl rfl ce rfl rfl rfl) rfl ?_
  refine gdW ?_
  refine go ?_
  exact J_done hT rfl rfl rfl
 rw [if_neg he]
 obtain rfl : e = 0 := by simpa using he
 by_cases h0 : a.i = 0
 ·rw [if_pos h0]
  refine con_of Tryz.func46 rfl (by kernel_rfl) rfl fun F w0 β0 => ?_
  refine K_tell rfl ?_
  refine go ?_
  refine K_op rfl rfl (opr_callP rfl rfl (c1) rfl rfl rfl rfl) rfl ?_
  refine go ?_
  refine K_condT rfl (by simp [h0]) ?_
  refine go ?_
  refine J_draw [[deB f l fr, resB0, deB0, msB a], [deB f l fr, resB (rs0 10) .nils .nils, deB0, msB a], [deB f l fr, resB (rs0 10) .nils .nils, deB f l fr, msB a]] [2, 3] (by kernel_rfl) (by kernel_rfl) rfl ?_
  refine gdW ?_
  refine T_opD rfl rfl rfl rfl rfl (opr_call0P rfl rfl c10 rfl rfl rfl) rfl ?_
  refine gdW ?_
  refine go ?_
  exact J_done hT rfl rfl rfl
 rw [if_neg h0]
 obtain ⟨n, hn⟩ := (spot_has hf (hsp rfl)).resolve_left h0
 rw [kind_at hn]
 have c2 := rNode_spec f a n (hf.wk.sz (by omega)).l hn
 by_cases hk : n.k ≠ 1
 ·rw [if_pos hk]
  refine con_of Tryz.func46 rfl (by kernel_rfl) rfl fun F w0 β0 => ?_
  refine K_tell rfl ?_
  refine go ?_
  refine K_op rfl rfl (opr_callP rfl rfl (c1) rfl rfl rfl rfl) rfl ?_
  refine go ?_
  refine K_condF rfl (by simp [h0]) ?_
  refine go ?_
  refine K_op rfl rfl (opr_callP rfl rfl (c2) rfl rfl rfl rfl) rfl ?_
  refine go ?_
  refine K_condT rfl (by simp [hk]) ?_
  refine go ?_
  refine J_draw [[deB f l fr, resB0, deB0, msB a], [deB f l fr, resB (rs0 13) .nils .nils, deB0, msB a], [deB f l fr, resB (rs0 13) .nils .nils, deB f l fr, msB a]] [2, 3] (by kernel_rfl) (by kernel_rfl) rfl ?_
  refine gdW ?_
  refine T_opD rfl rfl rfl rfl rfl (opr_call0P rfl rfl c13 rfl rfl rfl) rfl ?_
  refine gdW ?_
  refine go ?_
  exact J_done hT rfl rfl rfl
 rw [if_neg hk]
 refine con_of Tryz.func46 rfl (by kernel_rfl) rfl fun F w0 β0 => ?_
 refine K_tell rfl ?_
 refine go ?_
 refine K_op rfl rfl (opr_callP rfl rfl (c1) rfl rfl rfl rfl) rfl ?_
 refine go ?_
 refine K_condF rfl (by simp [h0]) ?_
 refine go ?_
 refine K_op rfl rfl (opr_callP rfl rfl (c2) rfl rfl rfl rfl) rfl ?_
 refine go ?_
 refine K_condF rfl (by simpa using hk) ?_
 refine go ?_
 rw [hlen]
 refine J_loop (fun q : FrI l => [(2, .ad (.l 0) 0), (4, .ad (.l 1) 0), (5, .ad (.l 2) 0), (6, .ad (.l 3) 0), (36, .p (.int .i64 16)), (37, .p (.int .i64 (q.i : Int)))]) (fun _ => []) (fun _ => [deB f l fr, resB0, deB0, msB a]) (fun q => l.length - q.i) ⟨0, by omega, rfl⟩ ⟨rfl, rfl, rfl, rfl, rfl, rfl, trivial⟩ rfl rfl (fun q => ?_)
 have hq := q.h
 have hqe := q.e
 refine go ?_
 by_cases hlt : q.i < l.length
 ·have hx : l[q.i]? = some l[q.i] := List.getElem?_eq_getElem hlt
  have hd : l.drop q.i = l[q.i] :: l.drop (q.i + 1) := by rw [List.drop_eq_getElem_cons hlt]
  rw [hd] at hqe
  generalize l[q.i] = x at hx hqe
  rw [freeH_cons] at hqe
  have hxm : (l.map u32V)[q.i]? = some (u32V x) := by rw [List.getElem?_map, hx]; rfl
  refine K_condT rfl (decide_eq_true (by omega)) ?_
  refine go ?_
  refine K_op rfl rfl (opr_index hT rfl rfl rfl rfl rfl (.ps _) (by omega) (by rw [hlen]; omega)) rfl ?_
  refine go ?_
  refine K_op rfl rfl (opr_load_el hT rfl rfl (.ps _) hxm rfl rfl) rfl ?_
  refine go ?_
  by_cases hx0 : x = 0
  ·rw [if_pos hx0] at hqe
   rw [← hqe, if_neg (by omega)]
   have c3 := rset20 f l hl fr (q.i : Int) a.i (by omega) (by omega)
   refine K_condT rfl (by simp [hx0]) ?_
   refine go ?_
   refine K_op rfl rfl (opr_callP rfl rfl (c3) rfl rfl rfl rfl) rfl ?_
   refine go ?_
   exact J_done hT rfl rfl rfl
  ·rw [if_neg hx0] at hqe
   refine K_condF rfl (by simpa using hx0) ?_
   refine go ?_
   refine J_again ⟨q.i + 1, by omega, hqe⟩ (by show l.length - (q.i + 1) < l.length - q.i; omega) ⟨rfl, rfl, rfl, rfl, rfl, congrArg (fun z => TV.p (.int .i64 z)) (by rw [IntWalk.i64_in _ (by omega)]; rfl), trivial⟩ rfl rfl
 ·rw [List.drop_eq_nil_of_le (by omega)] at hqe
  rw [← hqe, if_pos (show (freeH [] q.i) < 0 by show (-1 : Int) < 0; decide)]
  refine K_condF rfl (decide_eq_false (by omega)) ?_
  refine go ?_
  refine J_draw [[deB f l fr, resB0, deB0, msB a], [deB f l fr, resB (rs0 20) .nils .nils, deB0, msB a], [deB f l fr, resB (rs0 20) .nils .nils, deB f l fr, msB a]] [2, 3] (by kernel_rfl) (by kernel_rfl) rfl ?_
  refine gdW ?_
  refine T_opD rfl rfl rfl rfl rfl (opr_call0P rfl rfl c20 rfl rfl rfl) rfl ?_
  refine gdW ?_
  refine go ?_
  exact J_done hT rfl rfl rfl
set_option maxHeartbeats 16000000 in
theorem rhandled20 {f : MF} {c : Nat} (hf : f.ok c) (hc : c ≤ 50000) (hb : ∀ x ∈ f, x.b.length ≤ 100000) {l : List Int} (hl : l.length = 16) (fr : Int) (o : Op20) (ho : o.ok) (hk : 7 ≤ o.kind ∧ o.kind ≤ 10) {d : AV} (hd : Bs d o.b) :
  ∃ x, Bs x (mdo f l o fr).1.data ∧ Con Tryz.prog 47 [deA f l fr, oA20 o d] [] (.tup [resT (mdo f l o fr).1 x .nils, deT (mdo f l o fr).2.1 (mdo f l o fr).2.2 fr]) [] [] := by
 have hfl : f.length ≤ 100000 := by have := hf.wk.l; omega
 have c0 := rheld20 f l hl fr o.h
 have c16 := rfailed20 16
 have key0 : heldI l o.h = 0 → Con Tryz.prog 47 [deA f l fr, oA20 o d] [] (.tup [resT (rs0 16) .nils .nils, deT f l fr]) [] [] := fun h0 => by
  rw [h0] at c0
  refine con_of Tryz.func47 rfl (by kernel_rfl) rfl fun F w0 β0 => ?_
  refine K_tell rfl ?_
  refine go ?_
  refine K_op rfl rfl (opr_callP rfl rfl (c0) rfl rfl rfl rfl) rfl ?_
  refine go ?_
  refine J_draw [[deB f l fr, opB o (.p d), resB0, deB0], [deB f l fr, opB o (.p d), resB (rs0 16) .nils .nils, deB0], [deB f l fr, opB o (.p d), resB (rs0 16) .nils .nils, deB f l fr]] [2, 3] (by kernel_rfl) (by kernel_rfl) rfl ?_
  refine gdW ?_
  refine T_opD rfl rfl rfl rfl rfl (opr_call0P rfl rfl c16 rfl rfl rfl) rfl ?_
  refine gdW ?_
  refine go ?_
  exact J_done hT rfl rfl rfl
 unfold mdo
 rw [if_neg (show ¬ o.kind = 4 by omega), if_neg (show ¬ o.kind = 5 by omega), if_neg (show ¬ o.kind = 6 by omega)]
 by_cases k7 : o.kind = 7
 ·rw [if_pos k7]
  by_cases h0 : heldI l o.h = 0
  ·rw [if_pos h0]; exact ⟨.nils, .nils, key0 h0⟩
  rw [if_neg h0]
  obtain ⟨b0, b1⟩ := heldI_lt h0
  have c1 := rset20 f l hl fr o.h 0 b0 b1
  refine ⟨.nils, .nils, ?_⟩
  refine con_of Tryz.func47 rfl (by kernel_rfl) rfl fun F w0 β0 => ?_
  refine K_tell rfl ?_
  refine go ?_
  refine K_op rfl rfl (opr_callP rfl rfl (c0) rfl rfl rfl rfl) rfl ?_
  refine go ?_
  refine K_condF rfl (by simpa using h0) ?_
  refine go ?_
  refine K_condT rfl (by simp [k7]) ?_
  refine go ?_
  refine K_op rfl rfl (opr_callP rfl rfl (c1) rfl rfl rfl rfl) rfl ?_
  refine go ?_
  exact J_done hT rfl rfl rfl
 rw [if_neg k7]
 by_cases k8 : o.kind = 8
 ·rw [if_pos k8]
  by_cases h0 : heldI l o.h = 0
  ·rw [if_pos h0]; exact ⟨.nils, .nils, key0 h0⟩
  rw [if_neg h0]
  have c1 := rfread_spec f (heldI l o.h) o.from_ o.n hfl hb ho.n
  generalize heldI l o.h = z at c0 h0 c1
  generalize f.fread z o.from_ o.n = r at c1
  obtain ⟨b, e⟩ := r
  dsimp only at c1 ⊢
  refine ⟨.ps (bv b), .ps b, ?_⟩
  refine con_of Tryz.func47 rfl (by kernel_rfl) rfl fun F w0 β0 => ?_
  refine K_tell rfl ?_
  refine go ?_
  refine K_op rfl rfl (opr_callP rfl rfl (c0) rfl rfl rfl rfl) rfl ?_
  refine go ?_
  refine K_condF rfl (by simpa using h0) ?_
  refine go ?_
  refine K_condF rfl (by simpa using k7) ?_
  refine go ?_
  refine K_condT rfl (by simp [k8]) ?_
  refine go ?_
  refine K_op rfl rfl (opr_callP rfl rfl (c1) rfl rfl rfl rfl) rfl ?_
  refine go ?_
  refine J_draw [[deB f l fr, opB o (.p d), resB0, deB0], [deB f l fr, opB o (.p d), resB ⟨e, (b.length : Int), b, [], (0, 0, 0, 0)⟩ (.ps (bv b)) .nils, deB0], [deB f l fr, opB o (.p d), resB ⟨e, (b.length : Int), b, [], (0, 0, 0, 0)⟩ (.ps (bv b)) .nils, deB f l fr]] [7, 8] (by kernel_rfl) (by kernel_rfl) rfl ?_
  refine gdW ?_
  refine T_opD rfl rfl rfl rfl rfl (opr_to_bytes hT rfl rfl rfl rfl rfl) rfl ?_
  refine gdW ?_
  refine go ?_
  exact J_done hT rfl rfl rfl
 rw [if_neg k8]
 by_cases k9 : o.kind = 9
 ·rw [if_pos k9]
  by_cases h0 : heldI l o.h = 0
  ·rw [if_pos h0]; exact ⟨.nils, .nils, key0 h0⟩
  rw [if_neg h0]
  have c1 := rfwrite_spec f (heldI l o.h) o.from_ o.b hfl hb ho.f ho.b
  generalize heldI l o.h = z at c0 h0 c1
  generalize f.fwrite z o.from_ o.b = r at c1
  obtain ⟨e, g⟩ := r
  dsimp only at c1 ⊢
  have ce := rfailed20 e
  have hlb : TV.p (.int .i64 ((bv o.b).length : Int)) = .p (.int .i64 (o.b.length : Int)) := by rw [bv_length]
  refine ⟨.nils, (by split <;> exact .nils), ?_⟩
  by_cases he : e ≠ 0
  ·rw [if_pos he]
   refine con_of Tryz.func47 rfl (by kernel_rfl) rfl fun F w0 β0 => ?_
   refine K_tell rfl ?_
   refine go ?_
   refine K_op rfl rfl (opr_callP rfl rfl (c0) rfl rfl rfl rfl) rfl ?_
   refine go ?_
   refine K_condF rfl (by simpa using h0) ?_
   refine go ?_
   refine K_condF rfl (by simpa using k7) ?_
   refine go ?_
   refine K_condF rfl (by simpa using k8) ?_
   refine go ?_
   refine K_condT rfl (by simp [k9]) ?_
   refine go ?_
   refine K_op rfl rfl (opr_to_str hT rfl rfl rfl rfl rfl hd.rd) rfl ?_
   refine go ?_
   refine K_op rfl rfl (opr_callP rfl rfl (c1) rfl rfl rfl rfl) rfl ?_
   refine go ?_
   refine K_condT rfl (by simp [he]) ?_
   refine go ?_
   refine J_draw [[deB g l fr, opB o (.p d), resB0, deB0, fB g], [deB g l fr, opB o (.p d), resB (rs0 e) .nils .nils, deB0, fB g], [deB g l fr, opB o (.p d), resB (rs0 e) .nils .nils, deB g l fr, fB g]] [3, 4] (by kernel_rfl) (by kernel_rfl) rfl ?_
   refine gdW ?_
   refine T_opD rfl rfl rfl rfl rfl (opr_call0P rfl rfl ce rfl rfl rfl) rfl ?_
   refine gdW ?_
   refine go ?_
   exact J_done hT rfl rfl rfl
  ·rw [if_neg he]
   obtain rfl : e = 0 := by simpa using he
   refine con_of Tryz.func47 rfl (by kernel_rfl) rfl fun F w0 β0 => ?_
   refine K_tell rfl ?_
   refine go ?_
   refine K_op rfl rfl (opr_callP rfl rfl (c0) rfl rfl rfl rfl) rfl ?_
   refine go ?_
   refine K_condF rfl (by simpa using h0) ?_
   refine go ?_
   refine K_condF rfl (by simpa using k7) ?_
   refine go ?_
   refine K_condF rfl (by simpa using k8) ?_
   refine go ?_
   refine K_condT rfl (by simp [k9]) ?_
   refine go ?_
   refine K_op rfl rfl (opr_to_str hT rfl rfl rfl rfl rfl hd.rd) rfl ?_
   refine go ?_
   refine K_op rfl rfl (opr_callP rfl rfl (c1) rfl rfl rfl rfl) rfl ?_
   refine go ?_
   refine J_draw [[deB g l fr, opB o (.p d), resB0, deB0, fB g], [deB g l fr, opB o (.p d), resB { rs0 0 with n := (o.b.length : Int) } .nils .nils, deB0, fB g], [deB g l fr, opB o (.p d), resB { rs0 0 with n := (o.b.length : Int) } .nils .nils, deB g l fr, fB g]] [5, 6] (by kernel_rfl) (by kernel_rfl) rfl ?_
   refine gdW ?_
   refine T_opD rfl rfl rfl rfl rfl (opr_at (opr_len_rd hT rfl rfl hd.rd) hlb) rfl ?_
   refine gdW ?_
   refine go ?_
   exact J_done hT rfl rfl rfl
 rw [if_neg k9, if_pos (show o.kind = 10 by omega)]
 by_cases h0 : heldI l o.h = 0
 ·rw [if_pos h0]; exact ⟨.nils, .nils, key0 h0⟩
 rw [if_neg h0]
 have c1 := rftrunc_spec f (heldI l o.h) o.n hfl hb ho.n
 generalize heldI l o.h = z at c0 h0 c1
 generalize f.ftrunc z o.n = r at c1
 obtain ⟨e, g⟩ := r
 dsimp only at c1 ⊢
 have c2 := rchanged20 f l fr e g
 refine ⟨.nils, .nils, ?_⟩
 refine con_of Tryz.func47 rfl (by kernel_rfl) rfl fun F w0 β0 => ?_
 refine K_tell rfl ?_
 refine go ?_
 refine K_op rfl rfl (opr_callP rfl rfl (c0) rfl rfl rfl rfl) rfl ?_
 refine go ?_
 refine K_condF rfl (by simpa using h0) ?_
 refine go ?_
 refine K_condF rfl (by simpa using k7) ?_
 refine go ?_
 refine K_condF rfl (by simpa using k8) ?_
 refine go ?_
 refine K_condF rfl (by simpa using k9) ?_
 refine go ?_
 refine K_op rfl rfl (opr_callP rfl rfl (c1) rfl rfl rfl rfl) rfl ?_
 refine go ?_
 refine K_op rfl rfl (opr_callP rfl rfl (c2) rfl rfl rfl rfl) rfl ?_
 refine go ?_
 exact J_done hT rfl rfl rfl
end Go.Proofs.YtdkegmmigongoaaGreatDoor

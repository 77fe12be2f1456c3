import Derived.Test.YtdkegmmigongoaaGreatDoorGo
import Derived.Test.YtdkegmmigongoaaGreatDoorM12
import Derived.Test.YtdkegmmigongoaaGreatDoorM7
import Derived.Test.YtdkegmmigongoaaGreatDoorM2
import Derived.Test.YtdkegmmigongoaaGreatDoorM9
namespace Go.Proofs.YtdkegmmigongoaaGreatDoor
set_option maxRecDepth 20000
open Go.Awp Tr
def entA (x : KV) : AV := .agg [.str x.1, .int .u32 (beV x.2)]
abbrev ents (l : List KV) : List AV := l.map entA
def nodA (x : MN) : AV := .agg [.int .u32 x.i, .int .u8 x.k, .int .i64 x.n, .str x.b, .ps (ents x.e)]
abbrev nodT (x : MN) : TV := .agg [.p (.int .u32 x.i), .p (.int .u8 x.k), .p (.int .i64 x.n), .p (.str x.b), .p (.ps (ents x.e))]
abbrev nods (f : MF) : List AV := f.map nodA
abbrev fsA (f : MF) : TV := .p (.agg [.ps (nods f)])
abbrev fsT (f : MF) : TV := .agg [.p (.ps (nods f))]
abbrev fB (f : MF) : AObj := .box 54 [.p (.ps (nods f))]
abbrev fB0 : AObj := .box 54 [.p .nils]
abbrev nB (x : MN) : AObj := .box 93 [.p (.int .u32 x.i), .p (.int .u8 x.k), .p (.int .i64 x.n), .p (.str x.b), .p (.ps (ents x.e))]
abbrev nB0 : AObj := .box 93 [.p (.int .u32 0), .p (.int .u8 0), .p (.int .i64 0), .p (.str []), .p .nils]
theorem ents_cl (l : List KV) : clR (ents l) := by
 intro r hr x hx
 obtain ⟨y, _, rfl⟩ := List.mem_map.1 hr
 simp [cellsOf, entA] at hx
 rcases hx with rfl | rfl <;> rfl
theorem ents_size (l : List KV) : ∀ r ∈ ents l, (cellsOf r).length = 2 := by
 intro r hr
 obtain ⟨y, _, rfl⟩ := List.mem_map.1 hr
 rfl
theorem nods_cl (l : MF) : clR (nods l) := by
 intro r hr x hx
 obtain ⟨y, _, rfl⟩ := List.mem_map.1 hr
 simp [cellsOf, nodA] at hx
 rcases hx with rfl | rfl | rfl | rfl | rfl <;> rfl
theorem nods_size (l : MF) : ∀ r ∈ nods l, (cellsOf r).length = 5 := by
 intro r hr
 obtain ⟨y, _, rfl⟩ := List.mem_map.1 hr
 rfl
theorem nods_get {f : MF} {i : Nat} {x : MN} (h : f[i]? = some x) : (nods f)[((i : Nat) : Int).toNat]? = some (nodA x) := by rw [Int.toNat_natCast, List.getElem?_map, h]; rfl
theorem ents_get {l : List KV} {i : Nat} {x : KV} (h : l[i]? = some x) : (ents l)[((i : Nat) : Int).toNat]? = some (entA x) := by rw [Int.toNat_natCast, List.getElem?_map, h]; rfl
structure MF.sz (f : MF) : Prop where
 l : f.length ≤ 100000
 e : ∀ x ∈ f, x.e.length ≤ 100000
 n : ∀ x ∈ f, -1000000 ≤ x.n ∧ x.n ≤ 1000000
theorem fsT_app (l : MF) (x : MN) : fsT (l ++ [x]) = .agg [.p (.ps (nods l ++ [nodA x]))] := by
 show TV.agg [.p (.ps (nods (l ++ [x])))] = _
 rw [nods, List.map_append]; rfl
structure AtI (f : MF) (i : Int) where
 q : Nat
 h : q ≤ f.length
 e : ixF (f.drop q) i q = f.ix i
set_option maxHeartbeats 4000000 in
theorem rAt_spec (f : MF) (i : Int) (hf : f.length ≤ 100000) : Con Tryz.prog 127 [fsA f, .p (.int .u32 i)] [] (.p (.int .i64 (f.ix i))) [] [] := by
 have hlen : (nods f).length = f.length := by simp
 refine con_of Tryz.func127 rfl (by kernel_rfl) rfl fun F w0 β0 => ?_
 refine K_tell rfl ?_
 refine go ?_
 refine J_loop (fun q : AtI f i => [(1, .p (.int .u32 i)), (2, .ad (.l 0) 0), (8, .p (.int .i64 (f.length : Int))), (9, .p (.int .i64 (q.q : Int)))]) (fun _ => []) (fun _ => [fB f]) (fun q => f.length - q.q) ⟨0, by omega, rfl⟩ ⟨rfl, rfl, (by rw [← hlen]; rfl), rfl, trivial⟩ rfl rfl (fun q => ?_)
 have hi := q.h
 have he := q.e
 refine go ?_
 by_cases h : q.q < f.length
 ·have hx : f[q.q]? = some f[q.q] := List.getElem?_eq_getElem h
  have hdr : f.drop q.q = f[q.q] :: f.drop (q.q + 1) := List.drop_eq_getElem_cons h
  rw [hdr] at he
  generalize f[q.q] = x at hx he
  have hxk := nods_get hx
  unfold ixF at he
  refine K_condT rfl (decide_eq_true (by omega)) ?_
  refine go ?_
  refine K_op rfl rfl (opr_index hT rfl rfl rfl rfl rfl (.ps _) (by omega) (by rw [hlen]; omega)) rfl ?_
  refine go ?_
  refine K_op rfl rfl (opr_load_el hT rfl rfl (.ps _) hxk rfl rfl) rfl ?_
  refine go ?_
  by_cases hk : x.i = i
  ·rw [if_pos hk] at he
   rw [← he]
   refine K_condT rfl (by simp [hk]) ?_
   refine go ?_
   exact J_done hT rfl rfl rfl
  ·rw [if_neg hk] at he
   refine K_condF rfl (by simp [hk]) ?_
   refine go ?_
   refine J_again ⟨q.q + 1, by omega, he⟩ (by show f.length - (q.q + 1) < f.length - q.q; omega) ⟨rfl, rfl, rfl, congrArg (fun z => TV.p (.int .i64 z)) (by rw [IntWalk.i64_in _ (by omega)]; rfl), trivial⟩ rfl rfl
 ·rw [List.drop_eq_nil_of_le (by omega), ixF] at he
  rw [← he]
  refine K_condF rfl (decide_eq_false (by omega)) ?_
  refine go ?_
  exact J_done hT rfl rfl rfl
def repM (x y : MN) : MN := if y.i = x.i then x else y
def MF.hasI (f : MF) (i : Int) : Bool := f.any fun x => x.i == i
theorem hasI_take {f : MF} {i : Int} {q : Nat} {y : MN} (h : f[q]? = some y) : MF.hasI (f.take (q + 1)) i = (MF.hasI (f.take q) i || y.i == i) := by
 unfold MF.hasI
 rw [take_snoc h, List.any_append]
 simp
theorem repM_take {f : MF} {x : MN} {q : Nat} {y : MN} (h : f[q]? = some y) : (f.take (q + 1)).map (repM x) = (f.take q).map (repM x) ++ [repM x y] := by
 rw [take_snoc h, List.map_append]; rfl
theorem with_eq (f : MF) (x : MN) : f.with x = f.map (repM x) ++ (if f.hasI x.i = true then [] else [x]) := by
 unfold MF.with
 rw [at_any]
 rfl
set_option maxHeartbeats 8000000 in
theorem rWith_spec (f : MF) (x : MN) (hf : f.length ≤ 100000) : Con Tryz.prog 86 [fsA f, .p (nodA x)] [] (fsT (f.with x)) [] [] := by
 have hlen : (nods f).length = f.length := by simp
 rw [with_eq]
 refine con_of Tryz.func86 rfl (by kernel_rfl) rfl fun F w0 β0 => ?_
 refine K_tell rfl ?_
 refine go ?_
 refine J_lazyE 5 93 (e := 5) rfl rfl (.inr rfl) ?_
 refine J_loop (fun q : Ix f.length => [(2, .ad (.l 0) 0), (3, .ad (.l 1) 0), (4, .ad (.l 2) 0), (5, .sl (.l 3) q.i 0 q.i), (6, .p (.bool (MF.hasI (f.take q.i) x.i))), (11, .p (.int .i64 (f.length : Int))), (12, .p (.int .i64 (q.i : Int)))]) (fun _ => []) (fun q => [fB f, nB x, fB0, .arr 93 true 5 (nods ((f.take q.i).map (repM x)))]) (fun q => f.length - q.i) ⟨0, by omega⟩ ⟨rfl, rfl, rfl, rfl, rfl, (by rw [← hlen]; rfl), rfl, trivial⟩ rfl rfl (fun q => ?_)
 have hi := q.h
 have hlt : (nods ((f.take q.i).map (repM x))).length = q.i := by simp; omega
 refine go ?_
 by_cases h : q.i < f.length
 ·have hx : f[q.i]? = some f[q.i] := List.getElem?_eq_getElem h
  generalize f[q.i] = y at hx
  have hxk := nods_get hx
  have h1 := hasI_take (i := x.i) hx
  have h2 := repM_take (x := x) hx
  refine K_condT rfl (decide_eq_true (by omega)) ?_
  refine go ?_
  refine J_draw [_] [] (by kernel_rfl) (by kernel_rfl) rfl ?_
  refine gd ?_
  refine T_opD rfl rfl rfl rfl rfl (opr_index hT rfl rfl rfl rfl rfl (.ps _) (by omega) (by rw [hlen]; omega)) rfl ?_
  refine gd ?_
  refine T_opD rfl rfl rfl rfl rfl (opr_load_el hT rfl rfl (.ps _) hxk rfl rfl) rfl ?_
  refine gd ?_
  by_cases hk : y.i = x.i
  ·have e1 : repM x y = x := if_pos hk
   rw [e1] at h2
   have h1 : MF.hasI (f.take (q.i + 1)) x.i = true := by rw [h1]; simp [hk]
   refine K_condT rfl (by simp [hk]) ?_
   refine go ?_
   refine K_op rfl rfl (opr_app_own hT rfl rfl rfl rfl hlt rfl rfl (.rd (.ps _)) hbs_ps (nods_cl [x]) (nods_size [x]) (by decide) (by show (q.i + 1) * 56 ≤ _; omega)) rfl ?_
   refine go ?_
   refine J_again ⟨q.i + 1, by omega⟩ (by show f.length - (q.i + 1) < f.length - q.i; omega) ⟨rfl, rfl, rfl, rfl, by rw [h1]; rfl, rfl, congrArg (fun z => TV.p (.int .i64 z)) (by rw [IntWalk.i64_in _ (by omega)]; rfl), trivial⟩ rfl (by dsimp only; rw [h2, nods, List.map_append]; rfl)
  ·have e1 : repM x y = y := if_neg hk
   rw [e1] at h2
   have h1 : MF.hasI (f.take (q.i + 1)) x.i = MF.hasI (f.take q.i) x.i := by rw [h1]; simp [hk]
   refine K_condF rfl (by simp [hk]) ?_
   refine go ?_
   refine K_op rfl rfl (opr_index hT rfl rfl rfl rfl rfl (.ps _) (by omega) (by rw [hlen]; omega)) rfl ?_
   refine go ?_
   refine K_op rfl rfl (opr_load_el hT rfl rfl (.ps _) hxk rfl rfl) rfl ?_
   refine go ?_
   refine K_op rfl rfl (opr_app_own hT rfl rfl rfl rfl hlt rfl rfl (.rd (.ps _)) hbs_ps (nods_cl [y]) (nods_size [y]) (by decide) (by show (q.i + 1) * 56 ≤ _; omega)) rfl ?_
   refine go ?_
   refine J_again ⟨q.i + 1, by omega⟩ (by show f.length - (q.i + 1) < f.length - q.i; omega) ⟨rfl, rfl, rfl, rfl, by rw [h1]; rfl, rfl, congrArg (fun z => TV.p (.int .i64 z)) (by rw [IntWalk.i64_in _ (by omega)]; rfl), trivial⟩ rfl (by dsimp only; rw [h2, nods, List.map_append]; rfl)
 have hq : q.i = f.length := by omega
 rw [hq, List.take_length] at hlt ⊢
 refine K_condF rfl (decide_eq_false (by omega)) ?_
 refine go ?_
 cases hh : f.hasI x.i with
 | true =>
  rw [if_pos rfl, List.append_nil]
  refine K_condF rfl rfl ?_
  refine J_freeze_all 5 3 rfl rfl hlt ?_
  refine go ?_
  exact J_done hT rfl rfl rfl
 | false =>
  rw [if_neg (by simp), fsT_app]
  refine K_condT rfl rfl ?_
  refine go ?_
  refine K_op rfl rfl (opr_app_own hT rfl rfl rfl rfl hlt rfl rfl (.rd (.ps _)) hbs_ps (nods_cl [x]) (nods_size [x]) (by decide) (by show (f.length + 1) * 56 ≤ _; omega)) rfl ?_
  refine J_freeze_all 42 3 rfl rfl (by rw [List.length_append, hlt]) ?_
  refine go ?_
  exact J_done hT rfl rfl rfl
theorem without_take {f : MF} {i : Int} {q : Nat} {y : MN} (h : f[q]? = some y) : MF.without (f.take (q + 1)) i = MF.without (f.take q) i ++ (if y.i = i then [] else [y]) := by
 unfold MF.without
 rw [take_snoc h, List.filter_append]
 by_cases e : y.i = i
 ·simp [e]
 ·simp [e]
set_option maxHeartbeats 8000000 in
theorem rWithout_spec (f : MF) (i : Int) (hf : f.length ≤ 100000) : Con Tryz.prog 131 [fsA f, .p (.int .u32 i)] [] (fsT (f.without i)) [] [] := by
 have hlen : (nods f).length = f.length := by simp
 have hle : ∀ q, (MF.without (f.take q) i).length ≤ q := fun q => Nat.le_trans (List.length_filter_le _ _) (List.length_take_le _ _)
 refine con_of Tryz.func131 rfl (by kernel_rfl) rfl fun F w0 β0 => ?_
 refine K_tell rfl ?_
 refine go ?_
 refine J_lazyE 5 93 (e := 5) rfl rfl (.inr rfl) ?_
 refine J_loop (fun q : Ix f.length => [(1, .p (.int .u32 i)), (2, .ad (.l 0) 0), (4, .ad (.l 1) 0), (5, .sl (.l 2) (MF.without (f.take q.i) i).length 0 (MF.without (f.take q.i) i).length), (10, .p (.int .i64 (f.length : Int))), (11, .p (.int .i64 (q.i : Int)))]) (fun _ => []) (fun q => [fB f, fB0, .arr 93 true 5 (nods (MF.without (f.take q.i) i))]) (fun q => f.length - q.i) ⟨0, by omega⟩ ⟨rfl, rfl, rfl, rfl, (by rw [← hlen]; rfl), rfl, trivial⟩ rfl rfl (fun q => ?_)
 have hi := q.h
 have hlq := hle q.i
 refine go ?_
 by_cases h : q.i < f.length
 ·have hx : f[q.i]? = some f[q.i] := List.getElem?_eq_getElem h
  generalize f[q.i] = y at hx
  have hxk := nods_get hx
  have h2 := without_take (i := i) hx
  generalize MF.without (f.take q.i) i = A at h2 hlq
  have hlt : (nods A).length = A.length := by simp
  refine K_condT rfl (decide_eq_true (by omega)) ?_
  refine go ?_
  refine K_op rfl rfl (opr_index hT rfl rfl rfl rfl rfl (.ps _) (by omega) (by rw [hlen]; omega)) rfl ?_
  refine go ?_
  refine K_op rfl rfl (opr_load_el hT rfl rfl (.ps _) hxk rfl rfl) rfl ?_
  refine go ?_
  by_cases hk : y.i = i
  ·rw [if_pos hk, List.append_nil] at h2
   refine K_condF rfl (by simp [hk]) ?_
   refine go ?_
   refine J_again ⟨q.i + 1, by omega⟩ (by show f.length - (q.i + 1) < f.length - q.i; omega) ⟨rfl, rfl, rfl, by rw [h2]; rfl, rfl, congrArg (fun z => TV.p (.int .i64 z)) (by rw [IntWalk.i64_in _ (by omega)]; rfl), trivial⟩ rfl (by dsimp only; rw [h2])
  ·rw [if_neg hk] at h2
   refine K_condT rfl (by simp [hk]) ?_
   refine go ?_
   refine K_op rfl rfl (opr_index hT rfl rfl rfl rfl rfl (.ps _) (by omega) (by rw [hlen]; omega)) rfl ?_
   refine go ?_
   refine K_op rfl rfl (opr_load_el hT rfl rfl (.ps _) hxk rfl rfl) rfl ?_
   refine go ?_
   refine K_op rfl rfl (opr_app_own hT rfl rfl rfl rfl hlt rfl rfl (.rd (.ps _)) hbs_ps (nods_cl [y]) (nods_size [y]) (by decide) (by show (A.length + 1) * 56 ≤ _; omega)) rfl ?_
   refine go ?_
   refine J_again ⟨q.i + 1, by omega⟩ (by show f.length - (q.i + 1) < f.length - q.i; omega) ⟨rfl, rfl, rfl, by rw [h2]; simp only [List.length_append]; rfl, rfl, congrArg (fun z => TV.p (.int .i64 z)) (by rw [IntWalk.i64_in _ (by omega)]; rfl), trivial⟩ rfl (by dsimp only; rw [h2, nods, List.map_append]; rfl)
 have hq : q.i = f.length := by omega
 rw [hq, List.take_length] at hlq ⊢
 refine K_condF rfl (decide_eq_false (by omega)) ?_
 refine J_freeze_all 5 2 rfl rfl (by simp) ?_
 refine go ?_
 exact J_done hT rfl rfl rfl
theorem lget_cons (k : List UInt8) (x : KV) (r : List KV) : lget k (x :: r) = if x.1 = k then some x.2 else lget k r := rfl
structure EnI (e : List KV) (m : List UInt8) where
 q : Nat
 h : q ≤ e.length
 e : lget m (e.drop q) = lget m e
set_option maxHeartbeats 4000000 in
theorem rentry18_spec (x : MN) (m : List UInt8) (hx : x.e.length ≤ 100000) : Con Tryz.prog 128 [.p (nodA x), .p (.str m)] [] (.p (.int .u32 (x.entry m))) [] [] := by
 have hlen : (ents x.e).length = x.e.length := by simp
 refine con_of Tryz.func128 rfl (by kernel_rfl) rfl fun F w0 β0 => ?_
 refine K_tell rfl ?_
 refine go ?_
 refine J_loop (fun q : EnI x.e m => [(1, .p (.str m)), (2, .ad (.l 0) 0), (8, .p (.int .i64 (x.e.length : Int))), (9, .p (.int .i64 (q.q : Int)))]) (fun _ => []) (fun _ => [nB x]) (fun q => x.e.length - q.q) ⟨0, by omega, rfl⟩ ⟨rfl, rfl, (by rw [← hlen]; rfl), rfl, trivial⟩ rfl rfl (fun q => ?_)
 have hi := q.h
 have he := q.e
 unfold MN.entry
 refine go ?_
 by_cases h : q.q < x.e.length
 ·have hy : x.e[q.q]? = some x.e[q.q] := List.getElem?_eq_getElem h
  have hdr : x.e.drop q.q = x.e[q.q] :: x.e.drop (q.q + 1) := List.drop_eq_getElem_cons h
  rw [hdr] at he
  generalize x.e[q.q] = y at hy he
  have hxk := ents_get hy
  rw [lget_cons] at he
  refine K_condT rfl (decide_eq_true (by omega)) ?_
  refine go ?_
  refine K_op rfl rfl (opr_index hT rfl rfl rfl rfl rfl (.ps _) (by omega) (by rw [hlen]; omega)) rfl ?_
  refine go ?_
  refine K_op rfl rfl (opr_load_el hT rfl rfl (.ps _) hxk rfl rfl) rfl ?_
  refine go ?_
  by_cases hk : y.1 = m
  ·rw [if_pos hk] at he
   refine K_condT rfl (by simp [hk]) ?_
   refine go ?_
   refine K_op rfl rfl (opr_index hT rfl rfl rfl rfl rfl (.ps _) (by omega) (by rw [hlen]; omega)) rfl ?_
   refine go ?_
   refine K_op rfl rfl (opr_load_el hT rfl rfl (.ps _) hxk rfl rfl) rfl ?_
   refine go ?_
   rw [← he]
   exact J_done hT rfl rfl rfl
  ·rw [if_neg hk] at he
   refine K_condF rfl (by simp [hk]) ?_
   refine go ?_
   refine J_again ⟨q.q + 1, by omega, he⟩ (by show x.e.length - (q.q + 1) < x.e.length - q.q; omega) ⟨rfl, rfl, rfl, congrArg (fun z => TV.p (.int .i64 z)) (by rw [IntWalk.i64_in _ (by omega)]; rfl), trivial⟩ rfl rfl
 ·rw [List.drop_eq_nil_of_le (by omega)] at he
  refine K_condF rfl (decide_eq_false (by omega)) ?_
  refine go ?_
  rw [← he]
  exact J_done hT rfl rfl rfl
theorem ix_at {f : MF} {i : Int} {x : MN} (h : f.at i = some x) : ∃ n : Nat, f.ix i = (n : Int) ∧ f[n]? = some x := by
 obtain ⟨n, h1, h2⟩ := ixF_at 0 h
 exact ⟨n, by unfold MF.ix; rw [h1, Nat.zero_add], h2⟩
abbrev msA (a : MS) : TV := .p (.agg [.int .u32 a.d, .str a.m, .int .u32 a.i])
abbrev msT (a : MS) : TV := .agg [.p (.int .u32 a.d), .p (.str a.m), .p (.int .u32 a.i)]
abbrev msB (a : MS) : AObj := .box 133 [.p (.int .u32 a.d), .p (.str a.m), .p (.int .u32 a.i)]
set_option maxHeartbeats 4000000 in
theorem rNode_spec (f : MF) (a : MS) (x : MN) (hf : f.length ≤ 100000) (hx : f.at a.i = some x) : Con Tryz.prog 89 [fsA f, msA a] [] (nodT x) [] [] := by
 have c1 := rAt_spec f a.i hf
 obtain ⟨n, h1, h2⟩ := ix_at hx
 rw [h1] at c1
 have hlt := (List.getElem?_eq_some_iff.1 h2).1
 have hlen : (nods f).length = f.length := by simp
 have hxk := nods_get h2
 refine con_of Tryz.func89 rfl (by kernel_rfl) rfl fun F w0 β0 => ?_
 refine K_tell rfl ?_
 refine go ?_
 refine J_drawS 8 (by kernel_rfl) (by kernel_rfl) ?_
 apply Exists.intro
 refine gdW ?_
 refine T_opD rfl rfl rfl rfl rfl (opr_call0P rfl rfl c1 rfl rfl rfl) rfl ?_
 refine gdW ?_
 refine T_opD rfl rfl rfl rfl rfl (opr_index hT rfl rfl rfl rfl rfl (.ps _) (by omega) (by rw [hlen]; omega)) rfl ?_
 refine gdW ?_
 refine T_opD rfl rfl rfl rfl rfl (opr_load_el hT rfl rfl (.ps _) hxk rfl rfl) rfl ?_
 refine gdW ?_
 refine go ?_
 exact J_done hT rfl rfl rfl
set_option maxHeartbeats 8000000 in
theorem rlinked_spec (f : MF) (i b : Int) (x : MN) (hf : f.sz) (hx : f.at i = some x) (hb : -1 ≤ b ∧ b ≤ 1) : Con Tryz.prog 87 [fsA f, .p (.int .u32 i), .p (.int .i64 b)] [] (fsT (f.linked i b)) [] [] := by
 have c1 := rAt_spec f i hf.l
 obtain ⟨n, h1, h2⟩ := ix_at hx
 rw [h1] at c1
 have hlt := (List.getElem?_eq_some_iff.1 h2).1
 have hlen : (nods f).length = f.length := by simp
 have hxk := nods_get h2
 have hn := hf.n x (at_mem hx).1
 have c2 := rWith_spec f { x with n := x.n + b } hf.l
 have e : f.linked i b = f.with { x with n := x.n + b } := by unfold MF.linked; rw [hx]
 rw [e]
 generalize f.with { x with n := x.n + b } = f' at c2
 refine con_of Tryz.func87 rfl (by kernel_rfl) rfl fun F w0 β0 => ?_
 refine K_tell rfl ?_
 refine go ?_
 refine J_draw [[fB f, fB0], [fB f, fB0, nB0], [fB f, fB0, nB x]] [7, 8] (by kernel_rfl) (by kernel_rfl) rfl ?_
 refine gdW ?_
 refine T_op2D rfl rfl rfl rfl rfl rfl (opr_call0P rfl rfl c1 rfl rfl rfl) (opr_call0P rfl rfl c1 rfl rfl rfl) rfl ?_
 refine gdW ?_
 refine T_op2D rfl rfl rfl rfl rfl rfl (opr_index hT rfl rfl rfl rfl rfl (.ps _) (by omega) (by rw [hlen]; omega)) (opr_index hT rfl rfl rfl rfl rfl (.ps _) (by omega) (by rw [hlen]; omega)) rfl ?_
 refine gdW ?_
 refine T_op2D rfl rfl rfl rfl rfl rfl (opr_load_el hT rfl rfl (.ps _) hxk rfl rfl) (opr_load_el hT rfl rfl (.ps _) hxk rfl rfl) rfl ?_
 refine gdW ?_
 refine go ?_
 rw [IntWalk.i64_in (x.n + b) (by omega)]
 refine K_op rfl rfl (opr_callP rfl rfl (c2) rfl rfl rfl rfl) rfl ?_
 refine go ?_
 exact J_done hT rfl rfl rfl
theorem ents_len (l : List KV) : (ents l).length = l.length := by simp
theorem ents_app (l : List KV) (x : KV) : ents (l ++ [x]) = ents l ++ [entA x] := by simp
theorem entA_new (m : List UInt8) {i : Int} (h : U32 i) : entA (m, beB 4 i) = .agg [.str m, .int .u32 i] := by unfold entA; dsimp only; rw [beV_be4 i h]
theorem newE_cl (m : List UInt8) (i : Int) : clR [AV.agg [.str m, .int .u32 i]] := by
 intro r hr x hx
 simp only [List.mem_singleton] at hr
 subst hr
 simp [cellsOf] at hx
 rcases hx with rfl | rfl <;> rfl
theorem newE_size (m : List UInt8) (i : Int) : ∀ r ∈ [AV.agg [.str m, .int .u32 i]], (cellsOf r).length = 2 := by
 intro r hr
 simp only [List.mem_singleton] at hr
 subst hr
 rfl
theorem nmE_fold {e : List KV} (h : Rises e) (m : List UInt8) (i : Int) : endS m (beB 4 i) (e.foldl (stepS m (beB 4 i)) ([], i == 0)) = nmE e m i := by
 rw [putW_fold h]
 unfold nmE
 by_cases e0 : i = 0
 ·simp [e0]
 ·simp [e0]
set_option maxHeartbeats 16000000 in
theorem rnamed_spec (f : MF) (d : Int) (m : List UInt8) (i : Int) (x : MN) (hi : U32 i) (hf : f.sz) (hx : f.at d = some x) (hr : Rises x.e) : Con Tryz.prog 88 [fsA f, .p (.int .u32 d), .p (.str m), .p (.int .u32 i)] [] (fsT (f.named d m i)) [] [] := by
 have c1 := rAt_spec f d hf.l
 obtain ⟨n, h1, h2⟩ := ix_at hx
 rw [h1] at c1
 have hlt := (List.getElem?_eq_some_iff.1 h2).1
 have hlen : (nods f).length = f.length := by simp
 have hxk := nods_get h2
 have hel := hf.e x (at_mem hx).1
 have e : f.named d m i = f.with { x with e := nmE x.e m i } := by unfold MF.named; rw [hx]
 rw [e, ← nmE_fold hr]
 have hEn := entA_new m hi
 have hlw := ents_len x.e
 refine con_of Tryz.func88 rfl (by kernel_rfl) rfl fun F w0 β0 => ?_
 refine K_tell rfl ?_
 refine go ?_
 refine J_draw [[fB f, fB0], [fB f, fB0, nB0], [fB f, fB0, nB x]] [7, 8] (by kernel_rfl) (by kernel_rfl) rfl ?_
 refine gdW ?_
 refine T_op2D rfl rfl rfl rfl rfl rfl (opr_call0P rfl rfl c1 rfl rfl rfl) (opr_call0P rfl rfl c1 rfl rfl rfl) rfl ?_
 refine gdW ?_
 refine T_op2D rfl rfl rfl rfl rfl rfl (opr_index hT rfl rfl rfl rfl rfl (.ps _) (by omega) (by rw [hlen]; omega)) (opr_index hT rfl rfl rfl rfl rfl (.ps _) (by omega) (by rw [hlen]; omega)) rfl ?_
 refine gdW ?_
 refine T_op2D rfl rfl rfl rfl rfl rfl (opr_load_el hT rfl rfl (.ps _) hxk rfl rfl) (opr_load_el hT rfl rfl (.ps _) hxk rfl rfl) rfl ?_
 refine gdW ?_
 refine go ?_
 generalize hdn : (i == 0) = dn0
 refine J_lazyE 10 119 (e := 2) rfl rfl (.inr rfl) ?_
 refine J_loop (fun q : Ix x.e.length => [(2, .p (.str m)), (3, .p (.int .u32 i)), (4, .ad (.l 0) 0), (8, .ad (.l 1) 0), (9, .ad (.l 2) 0), (10, .sl (.l 3) ((x.e.take q.i).foldl (stepS m (beB 4 i)) ([], dn0)).1.length 0 ((x.e.take q.i).foldl (stepS m (beB 4 i)) ([], dn0)).1.length), (11, .p (.bool ((x.e.take q.i).foldl (stepS m (beB 4 i)) ([], dn0)).2)), (25, .p (.int .i64 (x.e.length : Int))), (26, .p (.int .i64 (q.i : Int)))]) (fun _ => []) (fun q => [fB f, fB0, nB x, .arr 119 true 2 (ents ((x.e.take q.i).foldl (stepS m (beB 4 i)) ([], dn0)).1)]) (fun q => x.e.length - q.i) ⟨0, by omega⟩ ⟨rfl, rfl, rfl, rfl, rfl, rfl, (by rw [← hdn]; rfl), (by rw [← hlw]; rfl), rfl, trivial⟩ rfl rfl (fun q => ?_)
 have hqi := q.h
 have hAl := fold_len m (beB 4 i) (x.e.take q.i) ([], dn0)
 rw [List.length_take, Nat.min_eq_left hqi] at hAl
 simp only [List.length_nil, Nat.zero_add] at hAl
 refine go ?_
 by_cases h : q.i < x.e.length
 ·have hy : x.e[q.i]? = some x.e[q.i] := List.getElem?_eq_getElem h
  generalize x.e[q.i] = y at hy
  have hyk := ents_get hy
  have hft := fold_take (stepS m (beB 4 i)) ([], dn0) hy
  generalize (x.e.take q.i).foldl (stepS m (beB 4 i)) ([], dn0) = st at hft hAl
  obtain ⟨A, dn⟩ := st
  dsimp only at hAl
  refine K_condT rfl (decide_eq_true (by omega)) ?_
  refine go ?_
  refine K_opt rfl rfl rfl need2 (fun _ => opr_index hT rfl rfl rfl rfl rfl (.ps _) (by omega) (by rw [hlw]; omega)) rfl ?_
  refine go ?_
  refine K_opt rfl rfl rfl need1 (fun _ => opr_load_el hT rfl rfl (.ps _) hyk rfl rfl) rfl ?_
  refine go ?_
  have e1 : ∃ A1 b1, A1.length ≤ 2 * q.i + 1 ∧ (if (!dn && (Op.bytesLess m y.1 || m == y.1)) = true then (A ++ [(m, beB 4 i)], true) else (A, dn)) = (A1, b1) := by
   split
   ·exact ⟨_, _, by simp; omega, rfl⟩
   ·exact ⟨_, _, by omega, rfl⟩
  obtain ⟨A1, b1, hA1, e1⟩ := e1
  have e2 : (x.e.take (q.i + 1)).foldl (stepS m (beB 4 i)) ([], dn0) = (if y.1 = m then A1 else A1 ++ [y], b1) := by
   rw [hft]; simp only [stepS]; rw [e1]
  refine J_join [(2, .p (.str m)), (3, .p (.int .u32 i)), (4, .ad (.l 0) 0), (8, .ad (.l 1) 0), (9, .ad (.l 2) 0), (10, .sl (.l 3) A1.length 0 A1.length), (11, .p (.bool b1)), (25, .p (.int .i64 (x.e.length : Int))), (26, .p (.int .i64 (q.i : Int))), (12, .p (.int .i64 (q.i : Int)))] [] [fB f, fB0, nB x, .arr 119 true 2 (ents A1)] ?_ ?_
  ·by_cases hb : (!dn && (Op.bytesLess m y.1 || m == y.1)) = true
   ·rw [if_pos hb] at e1
    obtain ⟨rfl, rfl⟩ := Prod.mk.inj e1
    refine K_condT rfl hb ?_
    refine go ?_
    refine K_op rfl rfl (opr_app_own hT rfl rfl rfl rfl (ents_len A) rfl rfl (.rd (.ps _)) hbs_ps (newE_cl m i) (newE_size m i) (by decide) (by show (A.length + 1) * 24 ≤ _; omega)) rfl ?_
    refine go ?_
    rw [ents_app, List.length_append, hEn]
    exact J_at ⟨rfl, rfl, rfl, rfl, rfl, rfl, rfl, rfl, rfl, rfl, trivial⟩ rfl rfl
   ·rw [if_neg hb] at e1
    obtain ⟨rfl, rfl⟩ := Prod.mk.inj e1
    refine K_condF rfl (by simpa using hb) ?_
    refine go ?_
    exact J_at ⟨rfl, rfl, rfl, rfl, rfl, rfl, rfl, rfl, rfl, rfl, trivial⟩ rfl rfl
  refine go ?_
  refine K_op rfl rfl (opr_index hT rfl rfl rfl rfl rfl (.ps _) (by omega) (by rw [hlw]; omega)) rfl ?_
  refine go ?_
  refine K_op rfl rfl (opr_load_el hT rfl rfl (.ps _) hyk rfl rfl) rfl ?_
  refine go ?_
  by_cases hk : y.1 = m
  ·rw [if_pos hk] at e2
   refine K_condF rfl (by simp [hk]) ?_
   refine go ?_
   refine J_again ⟨q.i + 1, by omega⟩ (by show x.e.length - (q.i + 1) < x.e.length - q.i; omega) ⟨rfl, rfl, rfl, rfl, rfl, by rw [e2]; rfl, by rw [e2]; rfl, rfl, congrArg (fun z => TV.p (.int .i64 z)) (by rw [IntWalk.i64_in _ (by omega)]; rfl), trivial⟩ rfl (by dsimp only; rw [e2])
  ·rw [if_neg hk] at e2
   refine K_condT rfl (by simp [hk]) ?_
   refine go ?_
   refine K_op rfl rfl (opr_index hT rfl rfl rfl rfl rfl (.ps _) (by omega) (by rw [hlw]; omega)) rfl ?_
   refine go ?_
   refine K_op rfl rfl (opr_load_el hT rfl rfl (.ps _) hyk rfl rfl) rfl ?_
   refine go ?_
   refine K_op rfl rfl (opr_app_own hT rfl rfl rfl rfl (ents_len A1) rfl rfl (.rd (.ps _)) hbs_ps (ents_cl [y]) (ents_size [y]) (by decide) (by show (A1.length + 1) * 24 ≤ _; omega)) rfl ?_
   refine go ?_
   refine J_again ⟨q.i + 1, by omega⟩ (by show x.e.length - (q.i + 1) < x.e.length - q.i; omega) ⟨rfl, rfl, rfl, rfl, rfl, by rw [e2]; simp only [List.length_append]; rfl, by rw [e2]; rfl, rfl, congrArg (fun z => TV.p (.int .i64 z)) (by rw [IntWalk.i64_in _ (by omega)]; rfl), trivial⟩ rfl (by dsimp only; rw [e2, ents_app]; rfl)
 rw [List.take_of_length_le (by omega)] at hAl ⊢
 generalize x.e.foldl (stepS m (beB 4 i)) ([], dn0) = st at hAl
 obtain ⟨A, dn⟩ := st
 dsimp only at hAl
 have e3 : ∃ B, endS m (beB 4 i) (A, dn) = B := ⟨_, rfl⟩
 obtain ⟨B, e3⟩ := e3
 rw [e3]
 have c2 := rWith_spec f { x with e := B } hf.l
 generalize f.with { x with e := B } = f' at c2
 refine K_condF rfl (decide_eq_false (by omega)) ?_
 refine go ?_
 refine J_join [(4, .ad (.l 0) 0), (8, .ad (.l 1) 0), (9, .ad (.l 2) 0), (10, .sl (.l 3) B.length 0 B.length)] [] [fB f, fB0, nB x, .arr 119 true 2 (ents B)] ?_ ?_
 ·cases dn with
  | false =>
   obtain rfl : A ++ [(m, beB 4 i)] = B := e3
   refine K_condT rfl rfl ?_
   refine go ?_
   refine K_op rfl rfl (opr_app_own hT rfl rfl rfl rfl (ents_len A) rfl rfl (.rd (.ps _)) hbs_ps (newE_cl m i) (newE_size m i) (by decide) (by show (A.length + 1) * 24 ≤ _; omega)) rfl ?_
   refine go ?_
   rw [ents_app, List.length_append, hEn]
   exact J_at ⟨rfl, rfl, rfl, rfl, trivial⟩ rfl rfl
  | true =>
   obtain rfl : A = B := e3
   refine K_condF rfl rfl ?_
   refine go ?_
   exact J_at ⟨rfl, rfl, rfl, rfl, trivial⟩ rfl rfl
 refine J_freeze_all 10 3 rfl rfl (ents_len B) ?_
 refine go ?_
 refine K_op rfl rfl (opr_callP rfl rfl (c2) rfl rfl rfl rfl) rfl ?_
 refine go ?_
 exact J_done hT rfl rfl rfl
def MF.has (f : MF) (i : Int) : Prop := ∃ z, f.at i = some z
theorem at_cons (y : MN) (r : MF) (i : Int) : MF.at (y :: r) i = if y.i = i then some y else MF.at r i := by
 unfold MF.at
 rw [List.find?_cons]
 by_cases e : y.i = i
 ·simp [e]
 ·have e2 : (y.i == i) = false := by simpa using e
  rw [e2, if_neg e]
theorem at_app (f g : MF) (i : Int) : MF.at (f ++ g) i = (f.at i).or (g.at i) := by
 unfold MF.at
 rw [List.find?_append]
theorem at_map {x : MN} (i : Int) : ∀ f : MF, MF.at (f.map fun y => if y.i = x.i then x else y) i = if i = x.i then (f.at i).map (fun _ => x) else f.at i
 | [] => by simp [MF.at]
 | y :: r => by
  rw [List.map_cons, at_cons, at_cons, at_map i r]
  by_cases e1 : y.i = x.i
  ·rw [if_pos e1]
   by_cases e2 : i = x.i
   ·simp [e2, e1]
   ·rw [if_neg (Ne.symm e2), if_neg e2, if_neg e2, if_neg (by rw [e1]; exact Ne.symm e2)]
  ·rw [if_neg e1]
   by_cases e2 : y.i = i
   ·rw [if_pos e2, if_pos e2, if_neg (by rw [← e2]; exact e1)]
   ·rw [if_neg e2, if_neg e2]
theorem at_with (f : MF) (x : MN) (i : Int) : (f.with x).at i = if i = x.i then some x else f.at i := by
 unfold MF.with
 rw [at_app, at_map]
 by_cases e : i = x.i
 ·subst e
  simp only [if_true]
  cases h : f.at x.i with
  | none => simp [at_cons]
  | some z => simp
 ·rw [if_neg e, if_neg e]
  split
  ·simp [MF.at]
  ·rw [at_cons, if_neg (Ne.symm e)]; simp [MF.at]
theorem at_without (j i : Int) : ∀ f : MF, (f.without j).at i = if i = j then none else f.at i
 | [] => by simp [MF.at, MF.without]
 | y :: r => by
  have ih := at_without j i r
  by_cases e : y.i = j
  ·have : MF.without (y :: r) j = MF.without r j := by unfold MF.without; rw [List.filter_cons_of_neg (by simp [e])]
   rw [this, ih, at_cons]
   by_cases e2 : i = j
   ·rw [if_pos e2, if_pos e2]
   ·rw [if_neg e2, if_neg e2, if_neg (by rw [e]; exact Ne.symm e2)]
  ·have : MF.without (y :: r) j = y :: MF.without r j := by unfold MF.without; rw [List.filter_cons_of_pos (by simp [e])]
   rw [this, at_cons, ih, at_cons]
   by_cases e2 : y.i = i
   ·rw [if_pos e2, if_pos e2, if_neg (by rw [← e2]; exact e)]
   ·rw [if_neg e2, if_neg e2]
theorem at_linked (f : MF) (j b i : Int) : (f.linked j b).at i = if i = j then (f.at j).map (fun x => { x with n := x.n + b }) else f.at i := by
  unfold MF.linked
  cases h : f.at j with
  | none => by_cases e : i = j
            · rw [if_pos e, e, h]; rfl
            · rw [if_neg e]
  | some x =>
    obtain rfl := (at_mem h).2
    dsimp only
    rw [at_with]
    rfl
theorem at_named (f : MF) (d : Int) (m : List UInt8) (j i : Int) : (f.named d m j).at i = if i = d then (f.at d).map (fun x => { x with e := nmE x.e m j }) else f.at i := by
  unfold MF.named
  cases h : f.at d with
  | none => by_cases e : i = d
            · rw [if_pos e, e, h]; rfl
            · rw [if_neg e]
  | some x =>
    obtain rfl := (at_mem h).2
    dsimp only
    rw [at_with]
    rfl
theorem has_with {f : MF} {i : Int} (x : MN) (h : f.has i) : (f.with x).has i := by
 unfold MF.has
 rw [at_with]
 split
 ·exact ⟨_, rfl⟩
 ·exact h
theorem has_linked {f : MF} {i : Int} (j b : Int) (h : f.has i) : (f.linked j b).has i := by
 obtain ⟨z, hz⟩ := h
 unfold MF.has
 rw [at_linked]
 split
 ·rename_i e; subst e; rw [hz]; exact ⟨_, rfl⟩
 ·exact ⟨z, hz⟩
theorem has_named {f : MF} {i : Int} (d : Int) (m : List UInt8) (j : Int) (h : f.has i) : (f.named d m j).has i := by
 obtain ⟨z, hz⟩ := h
 unfold MF.has
 rw [at_named]
 split
 ·rename_i e; subst e; rw [hz]; exact ⟨_, rfl⟩
 ·exact ⟨z, hz⟩
theorem has_without {f : MF} {i j : Int} (h : f.has i) (hne : i ≠ j) : (f.without j).has i := by
 unfold MF.has
 rw [at_without, if_neg hne]
 exact h
structure MF.wk (f : MF) (c : Nat) : Prop where
 l : f.length ≤ c
 e : ∀ x ∈ f, x.e.length ≤ c
 n : ∀ x ∈ f, -(c : Int) ≤ x.n ∧ x.n ≤ c
 r : ∀ x ∈ f, Rises x.e
theorem MF.wk.mono {f : MF} {c d : Nat} (h : f.wk c) (hd : c ≤ d) : f.wk d :=
 ⟨Nat.le_trans h.l hd, fun x hx => Nat.le_trans (h.e x hx) hd, fun x hx => by have := h.n x hx; omega, h.r⟩
theorem with_mem {f : MF} {x y : MN} (h : y ∈ f.with x) : y = x ∨ y ∈ f := by
 unfold MF.with at h
 rcases List.mem_append.1 h with h | h
 ·obtain ⟨z, hz, rfl⟩ := List.mem_map.1 h
  split
  ·exact .inl rfl
  ·exact .inr hz
 ·split at h
  ·simp at h
  ·exact .inl (by simpa using h)
theorem with_len (f : MF) (x : MN) : (f.with x).length ≤ f.length + 1 := by
 unfold MF.with
 rw [List.length_append, List.length_map]
 split <;> simp
theorem MF.wk.with {f : MF} {c : Nat} (h : f.wk c) (x : MN) (he : x.e.length ≤ c + 1) (hn : -(c : Int) - 1 ≤ x.n ∧ x.n ≤ c + 1) (hr : Rises x.e) : (f.with x).wk (c + 1) :=
 ⟨by have := with_len f x; have := h.l; omega, fun y hy => by
  rcases with_mem hy with rfl | hy
  ·exact he
  ·have := h.e y hy; omega, fun y hy => by
  rcases with_mem hy with rfl | hy
  ·omega
  ·have := h.n y hy; omega, fun y hy => by
  rcases with_mem hy with rfl | hy
  ·exact hr
  ·exact h.r y hy⟩
theorem MF.wk.without {f : MF} {c : Nat} (h : f.wk c) (j : Int) : (f.without j).wk c := by
 have hm : ∀ y ∈ f.without j, y ∈ f := fun y hy => (List.mem_filter.1 hy).1
 exact ⟨Nat.le_trans (List.length_filter_le _ _) h.l, fun y hy => h.e y (hm y hy), fun y hy => h.n y (hm y hy), fun y hy => h.r y (hm y hy)⟩
theorem nmE_ok {e : List KV} (h : Rises e) (m : List UInt8) (j : Int) : Rises (nmE e m j) ∧ (nmE e m j).length ≤ e.length + 1 := by
 unfold nmE
 split
 ·exact ⟨lcut_rises h, Nat.le_trans (List.length_filter_le _ _) (by omega)⟩
 ·refine ⟨lset_rises h, ?_⟩
  rw [lset_length h]; split <;> omega
theorem MF.wk.linked {f : MF} {c : Nat} (h : f.wk c) (j b : Int) (hb : -1 ≤ b ∧ b ≤ 1) : (f.linked j b).wk (c + 1) := by
 unfold MF.linked
 cases hx : f.at j with
 | none => exact h.mono (by omega)
 | some x =>
  have hm := (at_mem hx).1
  exact h.with _ (by have := h.e x hm; dsimp only; omega) (by have := h.n x hm; dsimp only; omega) (h.r x hm)
theorem MF.wk.named {f : MF} {c : Nat} (h : f.wk c) (d : Int) (m : List UInt8) (j : Int) : (f.named d m j).wk (c + 1) := by
 unfold MF.named
 cases hx : f.at d with
 | none => exact h.mono (by omega)
 | some x =>
  have hm := (at_mem hx).1
  obtain ⟨h1, h2⟩ := nmE_ok (h.r x hm) m j
  exact h.with _ (by have := h.e x hm; dsimp only; omega) (by have := h.n x hm; dsimp only; omega) h1
def MF.spot (f : MF) (a : MS) : Prop := a = ⟨0, [], 1⟩ ∨ ∃ z, f.at a.d = some z ∧ z.k = 2 ∧ a.i = z.entry a.m
structure MF.ok (f : MF) (c : Nat) : Prop where
 wk : f.wk c
 root : f.has 1
 ent : ∀ x ∈ f, ∀ y ∈ x.e, f.has (beV y.2)
theorem lget_mem {k v : List UInt8} : ∀ {l : List KV}, lget k l = some v → (k, v) ∈ l
 | [], h => by cases h
 | x :: r, h => by
  unfold lget at h
  split at h
  ·rename_i e
   obtain rfl := Option.some.inj h
   rw [← e]; exact List.mem_cons_self
  ·exact List.mem_cons_of_mem _ (lget_mem h)
theorem entry_has {f : MF} {c : Nat} (h : f.ok c) {z : MN} (hz : z ∈ f) (m : List UInt8) : z.entry m = 0 ∨ (f.has (z.entry m) ∧ z.e ≠ []) := by
 unfold MN.entry
 cases hg : lget m z.e with
 | none => exact .inl rfl
 | some v =>
  have := lget_mem hg
  exact .inr ⟨h.ent z hz _ this, fun e => by rw [e] at this; cases this⟩
theorem go_spot {f : MF} {c : Nat} (h : f.ok c) : ∀ (N : List (List UInt8)) (a : MS), f.spot a → (f.go N a).2 = 0 → f.spot (f.go N a).1
 | [], a, ha, _ => ha
 | x :: r, a, ha, he => by
  unfold MF.go at he ⊢
  split
  ·rename_i h0; rw [if_pos h0] at he; cases he
  rename_i h0
  rw [if_neg h0] at he
  have hh : f.has a.i := by
   rcases ha with rfl | ⟨z, h1, h2, h3⟩
   ·exact h.root
   ·rw [h3] at h0 ⊢
    exact ((entry_has h (at_mem h1).1 a.m).resolve_left h0).1
  obtain ⟨n, hn⟩ := hh
  rw [hn] at he ⊢
  dsimp only at he ⊢
  split
  ·rename_i hk; rw [if_pos hk] at he; cases he
  rename_i hk
  rw [if_neg hk] at he
  exact go_spot h r _ (.inr ⟨n, hn, by simpa using hk, rfl⟩) he
theorem findP_spot {f : MF} {c : Nat} (h : f.ok c) {p : List UInt8} (he : (f.findP p).2 = 0) : f.spot (f.findP p).1 := by
 unfold MF.findP at he ⊢
 split
 ·rename_i h0; rw [if_pos h0] at he; exact absurd he h0
 ·rename_i h0
  rw [if_neg h0] at he
  exact go_spot h _ _ (.inl rfl) he
theorem spot_has {f : MF} {c : Nat} (h : f.ok c) {a : MS} (ha : f.spot a) : a.i = 0 ∨ f.has a.i := by
 rcases ha with rfl | ⟨z, h1, h2, h3⟩
 ·exact .inr h.root
 ·rw [h3]; exact (entry_has h (at_mem h1).1 a.m).imp_right fun h => h.1
theorem MF.wk.sz {f : MF} {c : Nat} (h : f.wk c) (hc : c ≤ 100000) : f.sz := ⟨Nat.le_trans h.l hc, fun x hx => Nat.le_trans (h.e x hx) hc, fun x hx => by have := h.n x hx; omega⟩
theorem rsplitN_eq (l : List UInt8) : (rsplitN l).2 = (splitN l).2 ∧ ((splitN l).2 = 0 → AVLe (rsplitN l).1 (.ps ((namesP l).map .str))) := by
 have hn : namesP l = if (splitN l).2 ≠ 0 ∨ l = [47] then [] else spl 47 (l.drop 1) := rfl
 unfold rsplitN splitN at *
 by_cases h1 : l = [] ∨ 255 < l.length
 ·rw [if_pos h1, if_pos h1]; exact ⟨rfl, fun h => (by cases h)⟩
 rw [if_neg h1, if_neg h1] at *
 by_cases h2 : l.headD 0 ≠ 47
 ·rw [if_pos h2, if_pos h2]; exact ⟨rfl, fun h => (by cases h)⟩
 rw [if_neg h2, if_neg h2] at *
 by_cases h3 : l = [47]
 ·rw [if_pos h3, if_pos h3]
  refine ⟨rfl, fun _ => ?_⟩
  rw [hn, if_pos (.inr h3)]
  exact cz_ps
 rw [if_neg h3, if_neg h3] at *
 by_cases hm : mayN (spl 47 (l.drop 1)) = true
 ·rw [if_pos hm, if_pos hm] at *
  refine ⟨rfl, fun _ => ?_⟩
  rw [hn, if_neg (by simp [h3])]
  exact AVLe.refl _
 ·rw [if_neg hm, if_neg hm]; exact ⟨rfl, fun h => (by cases h)⟩
structure GoI (f : MF) (N : List (List UInt8)) where
 i : Nat
 a : MS
 h : i ≤ N.length
 e : f.go (N.drop i) a = f.go N ⟨0, [], 1⟩
 s : f.spot a
theorem goM_cons (f : MF) (x : List UInt8) (r : List (List UInt8)) (a : MS) : f.go (x :: r) a = if a.i = 0 then (ms0, 10) else match f.at a.i with
  | none => (ms0, 0)
  | some n => if n.k ≠ 2 then (ms0, 12) else MF.go f r ⟨a.i, x, n.entry x⟩ := rfl
set_option maxHeartbeats 16000000 in
theorem rfind18_spec {f : MF} {c : Nat} (hf : f.ok c) (hc : c ≤ 100000) (p : List UInt8) : Con Tryz.prog 85 [fsA f, .p (.str p)] [] (.tup [msT (f.findP p).1, .p (.int .i64 (f.findP p).2)]) [] [] := by
 have hsz := hf.wk.sz hc
 have c1 := rsplit16_spec p
 obtain ⟨hs1, hs2⟩ := rsplitN_eq p
 rw [hs1] at c1
 have hn16 := namesP_len p
 unfold MF.findP
 generalize (rsplitN p).1 = av at c1 hs2
 generalize (splitN p).2 = e at c1 hs2
 by_cases he : e ≠ 0
 ·rw [if_pos he]
  refine con_of Tryz.func85 rfl (by kernel_rfl) rfl fun F w0 β0 => ?_
  refine K_tell rfl ?_
  refine go ?_
  refine K_op rfl rfl (opr_callP rfl rfl (c1) rfl rfl rfl rfl) rfl ?_
  refine go ?_
  refine K_condT rfl (by simp [he]) ?_
  refine go ?_
  exact J_done hT rfl rfl rfl
 rw [if_neg he]
 obtain rfl : e = 0 := by simpa using he
 have hle := hs2 rfl
 generalize namesP p = N at hle hn16
 have hlN : (N.map AV.str).length = N.length := by simp
 generalize hG : f.go N ⟨0, [], 1⟩ = G
 refine con_of Tryz.func85 rfl (by kernel_rfl) rfl fun F w0 β0 => ?_
 refine K_tell rfl ?_
 refine go ?_
 refine K_op rfl rfl (opr_callP rfl rfl (c1) rfl rfl rfl rfl) rfl ?_
 refine go ?_
 refine J_le 6 _ rfl hle ?_
 refine J_le 21 _ rfl hle ?_
 refine go ?_
 refine J_loop (fun q : GoI f N => [(2, .ad (.l 0) 0), (4, .ad (.l 1) 0), (6, .p (.ps (N.map .str))), (8, .ad (.l 2) 0), (22, .p (.int .i64 (N.length : Int))), (23, .p (.int .i64 (q.i : Int)))]) (fun _ => []) (fun q => [fB f, msB ⟨0, [], 0⟩, msB q.a]) (fun q => N.length - q.i) ⟨0, ⟨0, [], 1⟩, by omega, rfl, .inl rfl⟩ ⟨rfl, rfl, rfl, rfl, (by rw [← hlN]; rfl), rfl, trivial⟩ rfl rfl (fun q => ?_)
 have hi := q.h
 have hqe := q.e
 have hsp := q.s
 rw [hG] at hqe
 refine go ?_
 by_cases hlt : q.i < N.length
 ·have hx : N[q.i]? = some N[q.i] := List.getElem?_eq_getElem hlt
  have hdr : N.drop q.i = N[q.i] :: N.drop (q.i + 1) := List.drop_eq_getElem_cons hlt
  rw [hdr] at hqe
  generalize N[q.i] = x at hx hqe
  have hxk : (N.map AV.str)[((q.i : Nat) : Int).toNat]? = some (.str x) := by rw [Int.toNat_natCast, List.getElem?_map, hx]; rfl
  rw [goM_cons] at hqe
  refine K_condT rfl (decide_eq_true (by omega)) ?_
  refine go ?_
  by_cases h0 : q.a.i = 0
  ·rw [if_pos h0] at hqe
   refine K_condT rfl (by simp [h0]) ?_
   refine go ?_
   rw [← hqe]
   exact J_done hT rfl rfl rfl
  rw [if_neg h0] at hqe
  obtain ⟨z, hz⟩ := (spot_has hf hsp).resolve_left h0
  rw [hz] at hqe
  dsimp only at hqe
  obtain ⟨n, d1, d2⟩ := ix_at hz
  have c3 := rAt_spec f q.a.i hsz.l
  rw [d1] at c3
  have hlt2 := (List.getElem?_eq_some_iff.1 d2).1
  have hlen : (nods f).length = f.length := by simp
  have hyk := nods_get d2
  have hzm := (at_mem hz).1
  have c4 := rentry18_spec z x (hsz.e z hzm)
  refine K_condF rfl (by simp [h0]) ?_
  refine go ?_
  refine J_draw [[fB f, msB ⟨0, [], 0⟩, msB q.a], [fB f, msB ⟨0, [], 0⟩, msB q.a, nB0], [fB f, msB ⟨0, [], 0⟩, msB q.a, nB z]] [8, 9] (by kernel_rfl) (by kernel_rfl) rfl ?_
  refine gdW ?_
  refine T_op2D rfl rfl rfl rfl rfl rfl (opr_call0P rfl rfl c3 rfl rfl rfl) (opr_call0P rfl rfl c3 rfl rfl rfl) rfl ?_
  refine gdW ?_
  refine T_op2D rfl rfl rfl rfl rfl rfl (opr_index hT rfl rfl rfl rfl rfl (.ps _) (by omega) (by rw [hlen]; omega)) (opr_index hT rfl rfl rfl rfl rfl (.ps _) (by omega) (by rw [hlen]; omega)) rfl ?_
  refine gdW ?_
  refine T_op2D rfl rfl rfl rfl rfl rfl (opr_load_el hT rfl rfl (.ps _) hyk rfl rfl) (opr_load_el hT rfl rfl (.ps _) hyk rfl rfl) rfl ?_
  refine gdW ?_
  refine go ?_
  by_cases hk : z.k ≠ 2
  ·rw [if_pos hk] at hqe
   refine K_condT rfl (by simp [hk]) ?_
   refine go ?_
   rw [← hqe]
   exact J_done hT rfl rfl rfl
  rw [if_neg hk] at hqe
  refine K_condF rfl (by simpa using hk) ?_
  refine go ?_
  refine J_drawS 13 (by kernel_rfl) (by kernel_rfl) ?_
  apply Exists.intro
  refine gdW ?_
  refine T_opD rfl rfl rfl rfl rfl (opr_index hT rfl rfl rfl rfl rfl (.ps _) (by omega) (by rw [hlN]; omega)) rfl ?_
  refine gdW ?_
  refine T_opD rfl rfl rfl rfl rfl (opr_load_el hT rfl rfl (.ps _) hxk rfl rfl) rfl ?_
  refine gdW ?_
  refine T_opD rfl rfl rfl rfl rfl (opr_index hT rfl rfl rfl rfl rfl (.ps _) (by omega) (by rw [hlN]; omega)) rfl ?_
  refine gdW ?_
  refine T_opD rfl rfl rfl rfl rfl (opr_load_el hT rfl rfl (.ps _) hxk rfl rfl) rfl ?_
  refine gdW ?_
  refine T_opD rfl rfl rfl rfl rfl (opr_call0P rfl rfl c4 rfl rfl rfl) rfl ?_
  refine gdW ?_
  refine go ?_
  refine J_take 3 [(2, .ad (.l 0) 0), (4, .ad (.l 1) 0), (6, .p (.ps (N.map .str))), (8, .ad (.l 2) 0), (22, .p (.int .i64 (N.length : Int))), (23, .p (.int .i64 (IntKind.i64.wrap ((q.i : Int) + 1))))] ⟨rfl, rfl, rfl, rfl, rfl, rfl, trivial⟩ rfl rfl ?_
  refine J_again ⟨q.i + 1, ⟨q.a.i, x, z.entry x⟩, by omega, hqe.trans hG.symm, .inr ⟨z, hz, by simpa using hk, rfl⟩⟩ (by show N.length - (q.i + 1) < N.length - q.i; omega) ⟨rfl, rfl, rfl, rfl, rfl, congrArg (fun z => TV.p (.int .i64 z)) (by rw [IntWalk.i64_in _ (by omega)]; rfl), trivial⟩ rfl rfl
 ·have e : q.i = N.length := by omega
  rw [e, List.drop_length] at hqe
  rw [← hqe]
  refine K_condF rfl (decide_eq_false (by omega)) ?_
  refine go ?_
  exact J_done hT rfl rfl rfl
end Go.Proofs.YtdkegmmigongoaaGreatDoor

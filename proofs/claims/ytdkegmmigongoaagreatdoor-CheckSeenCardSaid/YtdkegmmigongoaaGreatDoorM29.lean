import Derived.Test.YtdkegmmigongoaaGreatDoorGo
import Derived.Test.YtdkegmmigongoaaGreatDoorM28
import Derived.Test.YtdkegmmigongoaaGreatDoorM25
import Derived.Test.YtdkegmmigongoaaGreatDoorM20
import Derived.Test.YtdkegmmigongoaaGreatDoorM27
import Derived.Test.YtdkegmmigongoaaGreatDoorM15
namespace Go.Proofs.YtdkegmmigongoaaGreatDoor
set_option maxRecDepth 20000
open Go.Awp Tr
set_option maxHeartbeats 8000000 in
theorem entryF_spec {s : VS} {m : Nat} (h : VJ s m) (hm : m ≤ 10000000000) (d : Int) (hd : U32 d) (nm : List UInt8) (E B : Mp) : ∃ s', VJ s' (m + 3) ∧ s'.shown = s.shown ∧ Con Tryz.prog 141 [bkP, .p (.int .u32 d), .p (.str nm)] (bkH s E B) (.p (.int .u8 (entryF s.shown d nm))) (bkH s' E B) [] := by
 have c1 := bdir_spec h (by omega) d hd E B
 have c2 := kname_spec nm
 have h1 := h.rd (keyH 73 d)
 have e1 : (s.rd (keyH 73 d)).shown = s.shown := rfl
 generalize s.rd (keyH 73 d) = s1 at c1 h1 e1
 have c3 := wchildL_spec h1 (by omega) d hd nm
 have h2 := h1.rd (entryK d nm)
 have e2 : (s1.rd (entryK d nm)).shown = s.shown := e1
 have e3 : s1.child d nm = cdT s.shown d nm := by unfold VS.child cdT; rw [e1]
 rw [e3] at c3
 generalize s1.rd (entryK d nm) = s2 at c3 h2 e2
 unfold entryF
 generalize hD : isDT s.shown d = D at c1
 cases D with
 | false =>
  refine ⟨s1, h1.mono (by omega), e1, ?_⟩
  rw [if_pos rfl]
  refine con_of Tryz.func141 rfl (by kernel_rfl) rfl fun F w0 β0 => ?_
  refine K_tell rfl ?_
  refine go ?_
  refine K_op rfl rfl (opr_callS [.o 0, .o 1, .o 2, .o 3, .o 4] rfl rfl (c1) rfl rfl rfl ⟨⟨rfl, rfl⟩, ⟨rfl, rfl⟩, ⟨rfl, rfl⟩, ⟨rfl, rfl⟩, ⟨rfl, rfl⟩, trivial⟩ rfl rfl rfl rfl) rfl ?_
  refine go ?_
  exact J_done hT rfl rfl rfl
 | true =>
 rw [if_neg (by decide)]
 generalize nameB nm = b at c2
 cases b with
 | false =>
  refine ⟨s1, h1.mono (by omega), e1, ?_⟩
  rw [if_pos rfl]
  refine con_of Tryz.func141 rfl (by kernel_rfl) rfl fun F w0 β0 => ?_
  refine K_tell rfl ?_
  refine go ?_
  refine K_op rfl rfl (opr_callS [.o 0, .o 1, .o 2, .o 3, .o 4] rfl rfl (c1) rfl rfl rfl ⟨⟨rfl, rfl⟩, ⟨rfl, rfl⟩, ⟨rfl, rfl⟩, ⟨rfl, rfl⟩, ⟨rfl, rfl⟩, trivial⟩ rfl rfl rfl rfl) rfl ?_
  refine go ?_
  refine K_op rfl rfl (opr_callP rfl rfl (c2) rfl rfl rfl rfl) rfl ?_
  refine go ?_
  exact J_done hT rfl rfl rfl
 | true =>
 rw [if_neg (by decide)]
 have hu : ∀ i, cdT s.shown d nm = some i → U32 i := fun i q => chOf_ok q
 generalize cdT s.shown d nm = g at c3 hu
 cases g with
 | none =>
  change Con Tryz.prog _ _ _ (.tup [.p (.int .u32 0), .p (.bool false)]) _ _ at c3
  refine ⟨s2, h2.mono (by omega), e2, ?_⟩
  refine con_of Tryz.func141 rfl (by kernel_rfl) rfl fun F w0 β0 => ?_
  refine K_tell rfl ?_
  refine go ?_
  refine K_op rfl rfl (opr_callS [.o 0, .o 1, .o 2, .o 3, .o 4] rfl rfl (c1) rfl rfl rfl ⟨⟨rfl, rfl⟩, ⟨rfl, rfl⟩, ⟨rfl, rfl⟩, ⟨rfl, rfl⟩, ⟨rfl, rfl⟩, trivial⟩ rfl rfl rfl rfl) rfl ?_
  refine go ?_
  refine K_op rfl rfl (opr_callP rfl rfl (c2) rfl rfl rfl rfl) rfl ?_
  refine go ?_
  refine K_op rfl rfl (opr_callS [.o 1, .o 2] rfl rfl (c3) rfl rfl rfl ⟨⟨rfl, rfl⟩, ⟨rfl, rfl⟩, trivial⟩ rfl rfl rfl rfl) rfl ?_
  refine go ?_
  exact J_done hT rfl rfl rfl
 | some i =>
  change Con Tryz.prog _ _ _ (.tup [.p (.int .u32 i), .p (.bool true)]) _ _ at c3
  have c4 := wloadL_spec h2 (by omega) i (hu i rfl)
  have h3 := h2.rd (keyH 73 i)
  have e4 : s2.load i = ldT s.shown i := by unfold VS.load ldT; rw [e2]
  have e5 : (s2.rd (keyH 73 i)).shown = s.shown := e2
  rw [nodeT_tup, e4] at c4
  generalize s2.rd (keyH 73 i) = s3 at c4 h3 e5
  refine ⟨s3, h3.mono (by omega), e5, ?_⟩
  dsimp only
  generalize ldT s.shown i = x at c4
  cases x with
  | none =>
   change Con Tryz.prog _ _ _ (.tup [.agg [.p (.int .u8 0), .p (.int .u32 0), .p (.int .u32 0), .p (.int .u32 0)], .p (.bool false)]) _ _ at c4
   refine con_of Tryz.func141 rfl (by kernel_rfl) rfl fun F w0 β0 => ?_
   refine K_tell rfl ?_
   refine go ?_
   refine K_op rfl rfl (opr_callS [.o 0, .o 1, .o 2, .o 3, .o 4] rfl rfl (c1) rfl rfl rfl ⟨⟨rfl, rfl⟩, ⟨rfl, rfl⟩, ⟨rfl, rfl⟩, ⟨rfl, rfl⟩, ⟨rfl, rfl⟩, trivial⟩ rfl rfl rfl rfl) rfl ?_
   refine go ?_
   refine K_op rfl rfl (opr_callP rfl rfl (c2) rfl rfl rfl rfl) rfl ?_
   refine go ?_
   refine K_op rfl rfl (opr_callS [.o 1, .o 2] rfl rfl (c3) rfl rfl rfl ⟨⟨rfl, rfl⟩, ⟨rfl, rfl⟩, trivial⟩ rfl rfl rfl rfl) rfl ?_
   refine go ?_
   refine K_op rfl rfl (opr_callS [.o 1, .o 2] rfl rfl (c4) rfl rfl rfl ⟨⟨rfl, rfl⟩, ⟨rfl, rfl⟩, trivial⟩ rfl rfl rfl rfl) rfl ?_
   refine go ?_
   exact J_done hT rfl rfl rfl
  | some x =>
   obtain ⟨k, a, z, c⟩ := x
   change Con Tryz.prog _ _ _ (.tup [.agg [.p (.int .u8 k), .p (.int .u32 a), .p (.int .u32 z), .p (.int .u32 c)], .p (.bool true)]) _ _ at c4
   refine con_of Tryz.func141 rfl (by kernel_rfl) rfl fun F w0 β0 => ?_
   refine K_tell rfl ?_
   refine go ?_
   refine K_op rfl rfl (opr_callS [.o 0, .o 1, .o 2, .o 3, .o 4] rfl rfl (c1) rfl rfl rfl ⟨⟨rfl, rfl⟩, ⟨rfl, rfl⟩, ⟨rfl, rfl⟩, ⟨rfl, rfl⟩, ⟨rfl, rfl⟩, trivial⟩ rfl rfl rfl rfl) rfl ?_
   refine go ?_
   refine K_op rfl rfl (opr_callP rfl rfl (c2) rfl rfl rfl rfl) rfl ?_
   refine go ?_
   refine K_op rfl rfl (opr_callS [.o 1, .o 2] rfl rfl (c3) rfl rfl rfl ⟨⟨rfl, rfl⟩, ⟨rfl, rfl⟩, trivial⟩ rfl rfl rfl rfl) rfl ?_
   refine go ?_
   refine K_op rfl rfl (opr_callS [.o 1, .o 2] rfl rfl (c4) rfl rfl rfl ⟨⟨rfl, rfl⟩, ⟨rfl, rfl⟩, trivial⟩ rfl rfl rfl rfl) rfl ?_
   refine go ?_
   exact J_done hT rfl rfl rfl
def adS (t : Tr) : Nat → Int → List Int → VS → VS
 | 0, _, _, s => s
 | n + 1, j, q, s => if j = 1 then s else match ldT t j with
  | none => s.rd (keyH 73 j)
  | some x => if x.1 ≠ 2 then s.rd (keyH 73 j) else if j ∈ q then s.rd (keyH 73 j) else adS t n x.2.2.2 (j :: q) (s.rd (keyH 73 j))
theorem adF_succ (t : Tr) (n : Nat) (j : Int) (q : List Int) : adF t (n + 1) j q = if j = 1 then false else match ldT t j with
  | none => true
  | some x => if x.1 ≠ 2 then true else if j ∈ q then true else adF t n x.2.2.2 (j :: q) := rfl
theorem adS_succ (t : Tr) (n : Nat) (j : Int) (q : List Int) (s : VS) : adS t (n + 1) j q s = if j = 1 then s else match ldT t j with
  | none => s.rd (keyH 73 j)
  | some x => if x.1 ≠ 2 then s.rd (keyH 73 j) else if j ∈ q then s.rd (keyH 73 j) else adS t n x.2.2.2 (j :: q) (s.rd (keyH 73 j)) := rfl
theorem adS_ok (t : Tr) : ∀ (n : Nat) (j : Int) (q : List Int) (s : VS) (m : Nat), VJ s m → VJ (adS t n j q s) (m + n) ∧ (adS t n j q s).shown = s.shown
 | 0, _, _, s, m, h => ⟨h, rfl⟩
 | n + 1, j, q, s, m, h => by
  unfold adS
  split
  ·exact ⟨h.mono (by omega), rfl⟩
  split
  ·exact ⟨(h.rd _).mono (by omega), rfl⟩
  split
  ·exact ⟨(h.rd _).mono (by omega), rfl⟩
  split
  ·exact ⟨(h.rd _).mono (by omega), rfl⟩
  ·obtain ⟨h1, h2⟩ := adS_ok t n _ (j :: q) _ (m + 1) (h.rd (keyH 73 j))
   exact ⟨h1.mono (by omega), h2⟩
structure AdI (t : Tr) (m : Nat) (j0 : Int) (s0 : VS) where
 n : Nat
 j : Int
 q : List Int
 s : VS
 M : Mp
 hj : U32 j
 hn : n + q.length = t.size + 2
 nd : q.Nodup
 sub : ∀ i ∈ q, i ∈ allI t.row
 v : VJ s (m + q.length)
 sh : s.shown = t
 e : adF t n j q = adF t (t.size + 2) j0 []
 eS : adS t n j q s = adS t (t.size + 2) j0 [] s0
 hM : ∀ i, (mget i M).getD (.int .i64 0) = .int .i64 (if i ∈ q then 1 else 0)
 mo : ∀ r ∈ M, plOk r.2 = true
set_option maxHeartbeats 16000000 in
theorem adrift_spec {s : VS} {m : Nat} (h : VJ s m) (hm : m ≤ 10000000000) (j : Int) (hj : U32 j) (E B : Mp) : Con Tryz.prog 167 [bkP, .p (.int .u32 j)] (bkH s E B) (.p (.bool (adF s.shown (s.shown.size + 2) j []))) (bkH (adS s.shown (s.shown.size + 2) j [] s) E B) [] := by
 obtain ⟨t, ht⟩ : ∃ t, t = s.shown := ⟨_, rfl⟩
 have htr : Rises t.row := by rw [ht]; exact h.rs
 have hsz : t.size ≤ m := by rw [ht]; exact h.zs
 rw [← ht]
 refine con_of Tryz.func167 rfl (by kernel_rfl) rfl fun F w0 β0 => ?_
 refine K_tell rfl ?_
 refine go ?_
 refine K_op rfl rfl (opr_makeMap (AV.int .u32) rfl) rfl ?_
 refine go ?_
 refine J_loop (fun q : AdI t m j s => [(0, bkP), (1, .p (.int .u32 q.j)), (5, .ad (.l 0) 0)]) (fun q => bkH q.s E B) (fun q => [mpO (AV.int .u32) q.M]) (fun q => q.n) ⟨t.size + 2, j, [], s, [], hj, rfl, List.nodup_nil, by simp, h, ht.symm, rfl, rfl, fun _ => rfl, by simp⟩ ⟨rfl, rfl, rfl, trivial⟩ rfl rfl (fun q => ?_)
 have hq := q.hn
 have hql := nodup_le q.nd q.sub
 have hal := allI_le t.row
 rw [row_len] at hal
 obtain ⟨n, hn⟩ : ∃ n, q.n = n + 1 := ⟨q.n - 1, by omega⟩
 have he := q.e
 have heS := q.eS
 rw [hn] at he heS
 rw [adF_succ t n] at he
 rw [adS_succ t n] at heS
 refine go ?_
 by_cases j1 : q.j = 1
 ·rw [if_pos j1] at he heS
  refine K_condF rfl (by simp [j1]) ?_
  refine go ?_
  rw [← he, ← heS]
  exact J_done hT rfl rfl rfl
 rw [if_neg j1] at he heS
 have c1 := wloadL_spec q.v (by omega) q.j q.hj
 have e1 : q.s.load q.j = ldT t q.j := by unfold VS.load ldT; rw [q.sh]
 have hv1 := q.v.rd (keyH 73 q.j)
 have hs1 : (q.s.rd (keyH 73 q.j)).shown = t := q.sh
 have hin := fun x => @ldT_in t htr q.j q.hj x
 have hok := fun x => @ldT_ok t q.j x
 rw [nodeT_tup, e1] at c1
 generalize q.s.rd (keyH 73 q.j) = s1 at c1 heS hv1 hs1
 generalize ldT t q.j = g at c1 he heS hin hok
 refine K_condT rfl (by simp [j1]) ?_
 refine go ?_
 cases g with
 | none =>
  change Con Tryz.prog _ _ _ (.tup [.agg [.p (.int .u8 0), .p (.int .u32 0), .p (.int .u32 0), .p (.int .u32 0)], .p (.bool false)]) _ _ at c1
  dsimp only at he heS
  refine K_op rfl rfl (opr_callS [.o 1, .o 2] rfl rfl (c1) rfl rfl rfl ⟨⟨rfl, rfl⟩, ⟨rfl, rfl⟩, trivial⟩ rfl rfl rfl rfl) rfl ?_
  refine go ?_
  rw [← he, ← heS]
  exact J_done hT rfl rfl rfl
 | some x =>
  obtain ⟨k, a, z, c⟩ := x
  change Con Tryz.prog _ _ _ (.tup [.agg [.p (.int .u8 k), .p (.int .u32 a), .p (.int .u32 z), .p (.int .u32 c)], .p (.bool true)]) _ _ at c1
  dsimp only at he heS
  refine K_op rfl rfl (opr_callS [.o 1, .o 2] rfl rfl (c1) rfl rfl rfl ⟨⟨rfl, rfl⟩, ⟨rfl, rfl⟩, trivial⟩ rfl rfl rfl rfl) rfl ?_
  refine gx ?_
  by_cases k2 : k ≠ 2
  ·rw [if_pos k2] at he heS
   refine J_true 27 rfl (by simp [k2]) ?_
   refine go ?_
   rw [← he, ← heS]
   exact J_done hT rfl rfl rfl
  rw [if_neg k2] at he heS
  refine J_false 27 rfl (by simpa using k2) ?_
  refine gx ?_
  refine K_yes rfl rfl rfl (opr_at (opr_lookup (u32Key (kt := 36) (by kernel_rfl)) (e := 3) (x0 := .int .i64 0) rfl (by kernel_rfl) (by kernel_rfl) rfl rfl (fun _ => rfl) rfl q.mo) (show TV.p ((mget q.j q.M).getD (.int .i64 0)) = .p (.int .i64 (if q.j ∈ q.q then 1 else 0)) by rw [q.hM])) rfl ?_
  refine go ?_
  by_cases hm2 : q.j ∈ q.q
  ·rw [if_pos hm2] at he heS
   refine K_condT rfl (by rw [if_pos hm2]; rfl) ?_
   refine go ?_
   rw [← he, ← heS]
   exact J_done hT rfl rfl rfl
  rw [if_neg hm2] at he heS
  refine K_condF rfl (by rw [if_neg hm2]; rfl) ?_
  refine go ?_
  refine K_op rfl rfl (opr_at (opr_lookup (u32Key (kt := 36) (by kernel_rfl)) (e := 3) (x0 := .int .i64 0) rfl (by kernel_rfl) (by kernel_rfl) rfl rfl (fun _ => rfl) rfl q.mo) (show TV.p ((mget q.j q.M).getD (.int .i64 0)) = .p (.int .i64 0) by rw [q.hM, if_neg hm2])) rfl ?_
  refine go ?_
  refine K_op rfl rfl (opr_mapUpdate (u32Key (kt := 36) (by kernel_rfl)) (e := 3) rfl (by kernel_rfl) rfl rfl rfl rfl rfl) rfl ?_
  refine go ?_
  refine J_take 1 [(0, bkP), (1, .p (.int .u32 c)), (5, .ad (.l 0) 0)] ⟨rfl, rfl, rfl, trivial⟩ rfl rfl ?_
  refine J_again ⟨n, c, q.j :: q.q, s1, mput q.j (.int .i64 1) q.M, (hok _ rfl).2.2.2, by rw [List.length_cons]; omega, List.nodup_cons.2 ⟨hm2, q.nd⟩, fun i hi => ?_, hv1.mono (by rw [List.length_cons]; omega), hs1, he, heS, fun i => ?_, fun r hr => ?_⟩ (by show n < q.n; omega) ⟨rfl, rfl, rfl, trivial⟩ rfl rfl
  ·rcases List.mem_cons.1 hi with rfl | hi
   ·exact hin _ rfl j1
   ·exact q.sub i hi
  ·rw [mget_mput]
   by_cases e : i = q.j
   ·rw [if_pos e, if_pos (by rw [e]; exact List.mem_cons_self)]; rfl
   ·rw [if_neg e, q.hM]
    simp [e]
  ·rcases mput_mem hr with rfl | hr
   ·rfl
   ·exact q.mo r hr
end Go.Proofs.YtdkegmmigongoaaGreatDoor
namespace Go.Proofs.YtdkegmmigongoaaGreatDoor
set_option maxRecDepth 20000
open Go.Awp Go.RowKit
section
variable {P : Program} {T : Tab} {Γ : Ctx} {env : Env} {H L : List AObj} {Q : Exit → Act → World → Prop} {ops : Array Oper} {rest : List Oper}
end
section
variable {P : Program} {T : Tab} {env : Env} {H L : List AObj} {o : Oper} {x : TV}
end
end Go.Proofs.YtdkegmmigongoaaGreatDoor
namespace Go.Proofs.YtdkegmmigongoaaGreatDoor
set_option maxRecDepth 20000
open Go.Awp
section
variable {P : Program} {Γ : Ctx} {env : Env} {H L : List AObj} {Q : Exit → Act → World → Prop}
def AtE {α : Type} (Γ : Ctx) (env : α → Env) (H L : α → List AObj) (a : Act) (w : World) : Prop := ∃ x, At Γ (env x) (H x) (L x) a w
theorem J_midB {α : Type} (env' : α → Env) (H' L' : α → List AObj) {b : Nat} {c : Code} {n : Act → World → Prop} (h : J Γ env H L (c.wp P (Exit.inBlock b (Exit.then (AtE Γ env' H' L') Q)))) (k : ∀ x, J Γ (env' x) (H' x) (L' x) n) : J Γ env H L (c.wp P (Exit.inBlock b (Exit.then n Q))) := fun a w β s =>
 wp_mono (h a w β s) fun e a w he => by
  cases e with
  | normal =>
   obtain ⟨x, β', s'⟩ := he
   exact k x a w β' s'
  | exit i =>
   simp only [Exit.inBlock] at he ⊢
   split at he
   ·rename_i hi
    rw [if_pos hi]
    obtain ⟨x, β', s'⟩ := he
    exact k x a w β' s'
   ·rename_i hi
    rw [if_neg hi]
    exact he
  | _ => exact he
theorem J_end {α : Type} {env' : α → Env} {H' L' : α → List AObj} (x : α) (hs : AllLk env (env' x)) (hH : H = H' x) (hL : L = L' x) : J Γ env H L (AtE Γ env' H' L') := by
 subst hH hL
 exact fun a w β s => ⟨x, β, s.sim, s.step, s.env.sub (sub_of_all hs), s.size, s.defers⟩
end
end Go.Proofs.YtdkegmmigongoaaGreatDoor
namespace Go.Proofs.YtdkegmmigongoaaGreatDoor
set_option maxRecDepth 20000
open Go.Awp Go.RowKit
theorem load1_ok {P : Program} {w : World} {β : Hd → Nat} {G : Hp} {t kt e : TypeId} (ht : P.underlying t = some (.map kt e)) {cs : List TV} {c : TV} {a : Addr} (hc : Cells w β G a (c :: cs)) : ∃ u, (loadVar t a).run P w = .ok u w ∧ RepT w β G c u := by
 obtain ⟨v, hv, hr⟩ := hc 0 c rfl
 rw [Addr.add_zero'] at hv
 have ha : (isAgg t).run P w = .ok false w := by simp [isAgg, run_underlying ht]
 exact ⟨v, by simp [loadVar, ha, hv], hr⟩
section
variable {P : Program} {env : Env} {H L : List AObj} {o : Oper}
theorem oprH_loadM {t kt e : TypeId} {y : Operand} {i off b : Nat} {cs r : List TV} {c : TV} (ht : P.underlying t = some (.map kt e)) (ho : o.op = .load t y) (hy : evA env y = .ad (.o i) off) (hi : H[i]? = some (.box b cs)) (hl : cs.drop off = c :: r) : OpR P o env H L c H L :=
 opr_pure fun F w β a hS he => by
  have hp := evA_ok he y
  rw [hy] at hp
  have hv := adH_val hi hp
  have hc := cellsH off hS hi
  rw [hl] at hc
  obtain ⟨u, hu, hr⟩ := load1_ok (P := P) ht hc
  exact ⟨u, by simp [execOp, ho, Instr.loadAt, Instr.sureAddr, hv, hu], hr⟩
theorem opr_loadM {t kt e : TypeId} {y : Operand} {r : List TV} {c : TV} (ht : P.underlying t = some (.map kt e)) (ho : o.op = .load t y) (hc : cells? L (evA env y) = some (c :: r)) : OpR P o env H L c H L :=
 opr_pure fun F w β a hS he => by
  obtain ⟨ad, hv, hcs⟩ := cells?_ok hS (evA_ok he y) hc
  obtain ⟨u, hu, hr⟩ := load1_ok (P := P) ht hcs
  exact ⟨u, by simp [execOp, ho, Instr.loadAt, Instr.sureAddr, hv, hu], hr⟩
theorem opr_le {x y : TV} {H' L' : List AObj} (h : OpR P o env H L x H' L') (hl : TVLe x y) : OpR P o env H L y H' L' := fun F w β a next Q hS hE hn => h F w β a next Q hS hE fun w' β' u s1 s2 s3 => hn w' β' u s1 s2 (hl _ _ _ _ s3)
end
theorem aggP_le (xs : List AV) : TVLe (.p (.agg xs)) (.agg (xs.map .p)) := fun w β G v q => by
 cases q with | p q =>
 cases q with | agg _ vs hl hr =>
 refine .agg _ vs (by simpa using hl) fun i x u hx hu => ?_
 rw [List.getElem?_map] at hx
 cases hi : xs[i]? with
 | none => rw [hi] at hx; cases hx
 | some y =>
  rw [hi] at hx
  obtain rfl := Option.some.inj hx
  exact .p (hr i y u hi hu)
end Go.Proofs.YtdkegmmigongoaaGreatDoor
namespace Go.Proofs.YtdkegmmigongoaaGreatDoor
set_option maxRecDepth 20000
open Go.Awp Tr
def tabM : Tab := [(26, ⟨.ptr, 1, 8, [.nilp]⟩), (182, ⟨.other, 1, 8, [.top]⟩), (183, ⟨.other, 1, 8, [.top]⟩), (185, ⟨.struct [(0, 26), (1, 182), (2, 183)], 3, 24, [.nilp, .top, .top]⟩)]
theorem hTM : TabOk Tryz.prog tabM := tabOk (by kernel_rfl)
set_option maxHeartbeats 32000000 in
theorem inodeF_spec {s : VS} {m : Nat} (h : VJ s m) (hm : m ≤ 5000000000) (j : Int) (hj : U32 j) {L : EL} {E B : Mp} (g : GI s.shown L E B) (hL : L.length ≤ 10000000) (hu : ∀ p ∈ L, U32 p.1) : ∃ s', VJ s' (m + s.shown.size + 4) ∧ s'.shown = s.shown ∧ Con Tryz.prog 142 [bkP, .p (.int .u32 j)] (bkH s E B) (.p (.int .u8 (inodeF s.shown L j))) (bkH s' E B) [] := by
 have c1 := wloadL_spec h (by omega) j hj
 have h1 := h.rd (keyH 73 j)
 have e1 : (s.rd (keyH 73 j)).shown = s.shown := rfl
 have e2 : s.load j = ldT s.shown j := rfl
 rw [nodeT_tup, e2] at c1
 have hok := fun x => @ldT_ok s.shown j x
 have hlk := g.e j
 have hlb := g.b j
 have hcl := cntE_le L j
 have hsl := subE_le s.shown L j
 have hdu := dirE_u hu j
 generalize s.rd (keyH 73 j) = s1 at c1 h1 e1
 unfold inodeF
 generalize hx : ldT s.shown j = x at c1 hok
 cases x with
 | none =>
  refine ⟨s1, h1.mono (by omega), e1, ?_⟩
  change Con Tryz.prog _ _ _ (.tup [.agg [.p (.int .u8 0), .p (.int .u32 0), .p (.int .u32 0), .p (.int .u32 0)], .p (.bool false)]) _ _ at c1
  refine con_of Tryz.func142 rfl (by kernel_rfl) rfl fun F w0 β0 => ?_
  refine K_tell rfl ?_
  refine go ?_
  refine K_op rfl rfl (opr_callS [.o 1, .o 2] rfl rfl (c1) rfl rfl rfl ⟨⟨rfl, rfl⟩, ⟨rfl, rfl⟩, trivial⟩ rfl rfl rfl rfl) rfl ?_
  refine go ?_
  refine K_op rfl rfl (oprH_fieldAddr hTM rfl rfl rfl rfl) rfl ?_
  refine K_op rfl rfl (oprH_loadM (kt := 36) (e := 189) (by kernel_rfl) rfl rfl rfl rfl) rfl ?_
  refine go ?_
  refine K_op rfl rfl (opr_at (opr_lookup (u32Key (kt := 36) (by kernel_rfl)) (e := 189) (x0 := .agg [.int .i64 0, .int .u32 0]) rfl (by kernel_rfl) (by kernel_rfl) rfl rfl (fun _ => rfl) rfl g.eo) (show TV.p ((mget j E).getD (.agg [.int .i64 0, .int .u32 0])) = .p (.agg [.int .i64 (cntE L j), .int .u32 (dirE L j)]) by rw [hlk])) rfl ?_
  refine go ?_
  exact J_done hT rfl rfl rfl
 | some x =>
 obtain ⟨k, a, z, c⟩ := x
 have hau := (hok _ rfl).2.1
 dsimp only at hau ⊢
 change Con Tryz.prog _ _ _ (.tup [.agg [.p (.int .u8 k), .p (.int .u32 a), .p (.int .u32 z), .p (.int .u32 c)], .p (.bool true)]) _ _ at c1
 generalize cntE L j = cnt at hlk hcl
 generalize dirE L j = dr at hlk hdu
 generalize subE s.shown L j = sb at hlb hsl
 have ea : IntKind.i64.wrap a = a := IntWalk.i64_in _ (by omega)
 by_cases k1 : k = 1
 ·subst k1
  rw [if_pos rfl]
  refine ⟨s1, h1.mono (by omega), e1, ?_⟩
  refine con_of Tryz.func142 rfl (by kernel_rfl) rfl fun F w0 β0 => ?_
  refine K_tell rfl ?_
  refine go ?_
  refine K_op rfl rfl (opr_callS [.o 1, .o 2] rfl rfl (c1) rfl rfl rfl ⟨⟨rfl, rfl⟩, ⟨rfl, rfl⟩, trivial⟩ rfl rfl rfl rfl) rfl ?_
  refine go ?_
  refine K_op rfl rfl (oprH_fieldAddr hTM rfl rfl rfl rfl) rfl ?_
  refine K_op rfl rfl (oprH_loadM (kt := 36) (e := 189) (by kernel_rfl) rfl rfl rfl rfl) rfl ?_
  refine go ?_
  refine K_op rfl rfl (opr_at (opr_lookup (u32Key (kt := 36) (by kernel_rfl)) (e := 189) (x0 := .agg [.int .i64 0, .int .u32 0]) rfl (by kernel_rfl) (by kernel_rfl) rfl rfl (fun _ => rfl) rfl g.eo) (show TV.p ((mget j E).getD (.agg [.int .i64 0, .int .u32 0])) = .p (.agg [.int .i64 cnt, .int .u32 dr]) by rw [hlk])) rfl ?_
  refine go ?_
  by_cases hc : a ≠ (cnt : Int)
  ·rw [if_pos hc]
   refine K_condT rfl (by rw [ea]; simpa using hc) ?_
   refine go ?_
   exact J_done hT rfl rfl rfl
  ·rw [if_neg hc]
   refine K_condF rfl (by rw [ea]; simpa using hc) ?_
   refine go ?_
   exact J_done hT rfl rfl rfl
 rw [if_neg k1]
 have es : IntKind.i64.wrap (2 + (sb : Int)) = 2 + (sb : Int) := IntWalk.i64_in _ (by omega)
 by_cases j1 : j = 1
 ·subst j1
  refine ⟨s1, h1.mono (by omega), e1, ?_⟩
  by_cases hc : 0 < cnt
  ·rw [if_pos (show (if (1 : Int) = 1 then 0 < cnt else cnt ≠ 1) from hc)]
   refine con_of Tryz.func142 rfl (by kernel_rfl) rfl fun F w0 β0 => ?_
   refine K_tell rfl ?_
   refine go ?_
   refine K_op rfl rfl (opr_callS [.o 1, .o 2] rfl rfl (c1) rfl rfl rfl ⟨⟨rfl, rfl⟩, ⟨rfl, rfl⟩, trivial⟩ rfl rfl rfl rfl) rfl ?_
   refine go ?_
   refine K_op rfl rfl (oprH_fieldAddr hTM rfl rfl rfl rfl) rfl ?_
   refine K_op rfl rfl (oprH_loadM (kt := 36) (e := 189) (by kernel_rfl) rfl rfl rfl rfl) rfl ?_
   refine go ?_
   refine K_op rfl rfl (opr_at (opr_lookup (u32Key (kt := 36) (by kernel_rfl)) (e := 189) (x0 := .agg [.int .i64 0, .int .u32 0]) rfl (by kernel_rfl) (by kernel_rfl) rfl rfl (fun _ => rfl) rfl g.eo) (show TV.p ((mget 1 E).getD (.agg [.int .i64 0, .int .u32 0])) = .p (.agg [.int .i64 cnt, .int .u32 dr]) by rw [hlk])) rfl ?_
   refine gx ?_
   refine J_false 32 rfl (by simpa using k1) ?_
   refine gx ?_
   refine K_condF rfl (by simp [k1]) ?_
   refine gx ?_
   refine J_true 56 rfl (decide_eq_true (by omega)) ?_
   refine go ?_
   exact J_done hT rfl rfl rfl
  rw [if_neg (show ¬ (if (1 : Int) = 1 then 0 < cnt else cnt ≠ 1) from hc)]
  by_cases ha : a ≠ 2 + (sb : Int)
  ·rw [if_pos ha]
   refine con_of Tryz.func142 rfl (by kernel_rfl) rfl fun F w0 β0 => ?_
   refine K_tell rfl ?_
   refine go ?_
   refine K_op rfl rfl (opr_callS [.o 1, .o 2] rfl rfl (c1) rfl rfl rfl ⟨⟨rfl, rfl⟩, ⟨rfl, rfl⟩, trivial⟩ rfl rfl rfl rfl) rfl ?_
   refine go ?_
   refine K_op rfl rfl (oprH_fieldAddr hTM rfl rfl rfl rfl) rfl ?_
   refine K_op rfl rfl (oprH_loadM (kt := 36) (e := 189) (by kernel_rfl) rfl rfl rfl rfl) rfl ?_
   refine go ?_
   refine K_op rfl rfl (opr_at (opr_lookup (u32Key (kt := 36) (by kernel_rfl)) (e := 189) (x0 := .agg [.int .i64 0, .int .u32 0]) rfl (by kernel_rfl) (by kernel_rfl) rfl rfl (fun _ => rfl) rfl g.eo) (show TV.p ((mget 1 E).getD (.agg [.int .i64 0, .int .u32 0])) = .p (.agg [.int .i64 cnt, .int .u32 dr]) by rw [hlk])) rfl ?_
   refine gx ?_
   refine J_false 32 rfl (by simpa using k1) ?_
   refine gx ?_
   refine K_condF rfl (by simp [k1]) ?_
   refine gx ?_
   refine J_false 56 rfl (decide_eq_false (by omega)) ?_
   refine go ?_
   refine J_draw [_] [] (by kernel_rfl) (by kernel_rfl) rfl ?_
   refine gd ?_
   refine T_opD rfl rfl rfl rfl rfl (oprH_fieldAddr hTM rfl rfl rfl rfl) rfl ?_
   refine T_opD rfl rfl rfl rfl rfl (oprH_loadM (kt := 36) (e := 3) (by kernel_rfl) rfl rfl rfl rfl) rfl ?_
   refine gd ?_
   refine T_opD rfl rfl rfl rfl rfl (opr_at (opr_lookup (u32Key (kt := 36) (by kernel_rfl)) (e := 3) (x0 := .int .i64 0) rfl (by kernel_rfl) (by kernel_rfl) rfl rfl (fun _ => rfl) rfl g.bo) (show TV.p ((mget 1 B).getD (.int .i64 0)) = .p (.int .i64 sb) by rw [hlb])) rfl ?_
   refine gd ?_
   refine go ?_
   refine K_condT rfl (by rw [ea, es]; simpa using ha) ?_
   refine go ?_
   exact J_done hT rfl rfl rfl
  rw [if_neg ha, if_pos rfl]
  by_cases hp : c ≠ 1
  ·rw [if_pos hp]
   refine con_of Tryz.func142 rfl (by kernel_rfl) rfl fun F w0 β0 => ?_
   refine K_tell rfl ?_
   refine go ?_
   refine K_op rfl rfl (opr_callS [.o 1, .o 2] rfl rfl (c1) rfl rfl rfl ⟨⟨rfl, rfl⟩, ⟨rfl, rfl⟩, trivial⟩ rfl rfl rfl rfl) rfl ?_
   refine go ?_
   refine K_op rfl rfl (oprH_fieldAddr hTM rfl rfl rfl rfl) rfl ?_
   refine K_op rfl rfl (oprH_loadM (kt := 36) (e := 189) (by kernel_rfl) rfl rfl rfl rfl) rfl ?_
   refine go ?_
   refine K_op rfl rfl (opr_at (opr_lookup (u32Key (kt := 36) (by kernel_rfl)) (e := 189) (x0 := .agg [.int .i64 0, .int .u32 0]) rfl (by kernel_rfl) (by kernel_rfl) rfl rfl (fun _ => rfl) rfl g.eo) (show TV.p ((mget 1 E).getD (.agg [.int .i64 0, .int .u32 0])) = .p (.agg [.int .i64 cnt, .int .u32 dr]) by rw [hlk])) rfl ?_
   refine gx ?_
   refine J_false 32 rfl (by simpa using k1) ?_
   refine gx ?_
   refine K_condF rfl (by simp [k1]) ?_
   refine gx ?_
   refine J_false 56 rfl (decide_eq_false (by omega)) ?_
   refine go ?_
   refine J_draw [_] [] (by kernel_rfl) (by kernel_rfl) rfl ?_
   refine gd ?_
   refine T_opD rfl rfl rfl rfl rfl (oprH_fieldAddr hTM rfl rfl rfl rfl) rfl ?_
   refine T_opD rfl rfl rfl rfl rfl (oprH_loadM (kt := 36) (e := 3) (by kernel_rfl) rfl rfl rfl rfl) rfl ?_
   refine gd ?_
   refine T_opD rfl rfl rfl rfl rfl (opr_at (opr_lookup (u32Key (kt := 36) (by kernel_rfl)) (e := 3) (x0 := .int .i64 0) rfl (by kernel_rfl) (by kernel_rfl) rfl rfl (fun _ => rfl) rfl g.bo) (show TV.p ((mget 1 B).getD (.int .i64 0)) = .p (.int .i64 sb) by rw [hlb])) rfl ?_
   refine gd ?_
   refine go ?_
   refine K_condF rfl (by rw [ea, es]; simpa using ha) ?_
   refine go ?_
   refine K_condT rfl (by simpa using hp) ?_
   refine go ?_
   exact J_done hT rfl rfl rfl
  ·rw [if_neg hp, if_pos rfl]
   refine con_of Tryz.func142 rfl (by kernel_rfl) rfl fun F w0 β0 => ?_
   refine K_tell rfl ?_
   refine go ?_
   refine K_op rfl rfl (opr_callS [.o 1, .o 2] rfl rfl (c1) rfl rfl rfl ⟨⟨rfl, rfl⟩, ⟨rfl, rfl⟩, trivial⟩ rfl rfl rfl rfl) rfl ?_
   refine go ?_
   refine K_op rfl rfl (oprH_fieldAddr hTM rfl rfl rfl rfl) rfl ?_
   refine K_op rfl rfl (oprH_loadM (kt := 36) (e := 189) (by kernel_rfl) rfl rfl rfl rfl) rfl ?_
   refine go ?_
   refine K_op rfl rfl (opr_at (opr_lookup (u32Key (kt := 36) (by kernel_rfl)) (e := 189) (x0 := .agg [.int .i64 0, .int .u32 0]) rfl (by kernel_rfl) (by kernel_rfl) rfl rfl (fun _ => rfl) rfl g.eo) (show TV.p ((mget 1 E).getD (.agg [.int .i64 0, .int .u32 0])) = .p (.agg [.int .i64 cnt, .int .u32 dr]) by rw [hlk])) rfl ?_
   refine gx ?_
   refine J_false 32 rfl (by simpa using k1) ?_
   refine gx ?_
   refine K_condF rfl (by simp [k1]) ?_
   refine gx ?_
   refine J_false 56 rfl (decide_eq_false (by omega)) ?_
   refine go ?_
   refine J_draw [_] [] (by kernel_rfl) (by kernel_rfl) rfl ?_
   refine gd ?_
   refine T_opD rfl rfl rfl rfl rfl (oprH_fieldAddr hTM rfl rfl rfl rfl) rfl ?_
   refine T_opD rfl rfl rfl rfl rfl (oprH_loadM (kt := 36) (e := 3) (by kernel_rfl) rfl rfl rfl rfl) rfl ?_
   refine gd ?_
   refine T_opD rfl rfl rfl rfl rfl (opr_at (opr_lookup (u32Key (kt := 36) (by kernel_rfl)) (e := 3) (x0 := .int .i64 0) rfl (by kernel_rfl) (by kernel_rfl) rfl rfl (fun _ => rfl) rfl g.bo) (show TV.p ((mget 1 B).getD (.int .i64 0)) = .p (.int .i64 sb) by rw [hlb])) rfl ?_
   refine gd ?_
   refine go ?_
   refine K_condF rfl (by rw [ea, es]; simpa using ha) ?_
   refine go ?_
   refine K_condF rfl (by simpa using hp) ?_
   refine go ?_
   exact J_done hT rfl rfl rfl
 by_cases hc : cnt ≠ 1
 ·rw [if_pos (show (if j = 1 then 0 < cnt else cnt ≠ 1) by rw [if_neg j1]; exact hc)]
  refine ⟨s1, h1.mono (by omega), e1, ?_⟩
  refine con_of Tryz.func142 rfl (by kernel_rfl) rfl fun F w0 β0 => ?_
  refine K_tell rfl ?_
  refine go ?_
  refine K_op rfl rfl (opr_callS [.o 1, .o 2] rfl rfl (c1) rfl rfl rfl ⟨⟨rfl, rfl⟩, ⟨rfl, rfl⟩, trivial⟩ rfl rfl rfl rfl) rfl ?_
  refine go ?_
  refine K_op rfl rfl (oprH_fieldAddr hTM rfl rfl rfl rfl) rfl ?_
  refine K_op rfl rfl (oprH_loadM (kt := 36) (e := 189) (by kernel_rfl) rfl rfl rfl rfl) rfl ?_
  refine go ?_
  refine K_op rfl rfl (opr_at (opr_lookup (u32Key (kt := 36) (by kernel_rfl)) (e := 189) (x0 := .agg [.int .i64 0, .int .u32 0]) rfl (by kernel_rfl) (by kernel_rfl) rfl rfl (fun _ => rfl) rfl g.eo) (show TV.p ((mget j E).getD (.agg [.int .i64 0, .int .u32 0])) = .p (.agg [.int .i64 cnt, .int .u32 dr]) by rw [hlk])) rfl ?_
  refine gx ?_
  refine J_false 32 rfl (by simpa using k1) ?_
  refine gx ?_
  refine K_condF rfl (by simp [k1]) ?_
  refine gx ?_
  refine K_condF rfl (by simp [j1]) ?_
  refine gx ?_
  refine J_false 51 rfl (by simpa using j1) ?_
  refine gx ?_
  refine J_true 59 rfl (by simp [j1]) ?_
  refine gx ?_
  refine K_condT rfl (by simp; omega) ?_
  refine go ?_
  exact J_done hT rfl rfl rfl
 rw [if_neg (show ¬ (if j = 1 then 0 < cnt else cnt ≠ 1) by rw [if_neg j1]; exact hc)]
 by_cases ha : a ≠ 2 + (sb : Int)
 ·rw [if_pos ha]
  refine ⟨s1, h1.mono (by omega), e1, ?_⟩
  refine con_of Tryz.func142 rfl (by kernel_rfl) rfl fun F w0 β0 => ?_
  refine K_tell rfl ?_
  refine go ?_
  refine K_op rfl rfl (opr_callS [.o 1, .o 2] rfl rfl (c1) rfl rfl rfl ⟨⟨rfl, rfl⟩, ⟨rfl, rfl⟩, trivial⟩ rfl rfl rfl rfl) rfl ?_
  refine go ?_
  refine K_op rfl rfl (oprH_fieldAddr hTM rfl rfl rfl rfl) rfl ?_
  refine K_op rfl rfl (oprH_loadM (kt := 36) (e := 189) (by kernel_rfl) rfl rfl rfl rfl) rfl ?_
  refine go ?_
  refine K_op rfl rfl (opr_at (opr_lookup (u32Key (kt := 36) (by kernel_rfl)) (e := 189) (x0 := .agg [.int .i64 0, .int .u32 0]) rfl (by kernel_rfl) (by kernel_rfl) rfl rfl (fun _ => rfl) rfl g.eo) (show TV.p ((mget j E).getD (.agg [.int .i64 0, .int .u32 0])) = .p (.agg [.int .i64 cnt, .int .u32 dr]) by rw [hlk])) rfl ?_
  refine gx ?_
  refine J_false 32 rfl (by simpa using k1) ?_
  refine gx ?_
  refine K_condF rfl (by simp [k1]) ?_
  refine gx ?_
  refine K_condF rfl (by simp [j1]) ?_
  refine gx ?_
  refine J_false 51 rfl (by simpa using j1) ?_
  refine gx ?_
  refine J_true 59 rfl (by simp [j1]) ?_
  refine gx ?_
  refine K_condF rfl (by simp; omega) ?_
  refine go ?_
  refine J_draw [_] [] (by kernel_rfl) (by kernel_rfl) rfl ?_
  refine gd ?_
  refine T_opD rfl rfl rfl rfl rfl (oprH_fieldAddr hTM rfl rfl rfl rfl) rfl ?_
  refine T_opD rfl rfl rfl rfl rfl (oprH_loadM (kt := 36) (e := 3) (by kernel_rfl) rfl rfl rfl rfl) rfl ?_
  refine gd ?_
  refine T_opD rfl rfl rfl rfl rfl (opr_at (opr_lookup (u32Key (kt := 36) (by kernel_rfl)) (e := 3) (x0 := .int .i64 0) rfl (by kernel_rfl) (by kernel_rfl) rfl rfl (fun _ => rfl) rfl g.bo) (show TV.p ((mget j B).getD (.int .i64 0)) = .p (.int .i64 sb) by rw [hlb])) rfl ?_
  refine gd ?_
  refine go ?_
  refine K_condT rfl (by rw [ea, es]; simpa using ha) ?_
  refine go ?_
  exact J_done hT rfl rfl rfl
 rw [if_neg ha, if_neg j1]
 by_cases hp : c ≠ dr
 ·rw [if_pos hp]
  refine ⟨s1, h1.mono (by omega), e1, ?_⟩
  refine con_of Tryz.func142 rfl (by kernel_rfl) rfl fun F w0 β0 => ?_
  refine K_tell rfl ?_
  refine go ?_
  refine K_op rfl rfl (opr_callS [.o 1, .o 2] rfl rfl (c1) rfl rfl rfl ⟨⟨rfl, rfl⟩, ⟨rfl, rfl⟩, trivial⟩ rfl rfl rfl rfl) rfl ?_
  refine go ?_
  refine K_op rfl rfl (oprH_fieldAddr hTM rfl rfl rfl rfl) rfl ?_
  refine K_op rfl rfl (oprH_loadM (kt := 36) (e := 189) (by kernel_rfl) rfl rfl rfl rfl) rfl ?_
  refine go ?_
  refine K_op rfl rfl (opr_at (opr_lookup (u32Key (kt := 36) (by kernel_rfl)) (e := 189) (x0 := .agg [.int .i64 0, .int .u32 0]) rfl (by kernel_rfl) (by kernel_rfl) rfl rfl (fun _ => rfl) rfl g.eo) (show TV.p ((mget j E).getD (.agg [.int .i64 0, .int .u32 0])) = .p (.agg [.int .i64 cnt, .int .u32 dr]) by rw [hlk])) rfl ?_
  refine gx ?_
  refine J_false 32 rfl (by simpa using k1) ?_
  refine gx ?_
  refine K_condF rfl (by simp [k1]) ?_
  refine gx ?_
  refine K_condF rfl (by simp [j1]) ?_
  refine gx ?_
  refine J_false 51 rfl (by simpa using j1) ?_
  refine gx ?_
  refine J_true 59 rfl (by simp [j1]) ?_
  refine gx ?_
  refine K_condF rfl (by simp; omega) ?_
  refine go ?_
  refine J_draw [_] [] (by kernel_rfl) (by kernel_rfl) rfl ?_
  refine gd ?_
  refine T_opD rfl rfl rfl rfl rfl (oprH_fieldAddr hTM rfl rfl rfl rfl) rfl ?_
  refine T_opD rfl rfl rfl rfl rfl (oprH_loadM (kt := 36) (e := 3) (by kernel_rfl) rfl rfl rfl rfl) rfl ?_
  refine gd ?_
  refine T_opD rfl rfl rfl rfl rfl (opr_at (opr_lookup (u32Key (kt := 36) (by kernel_rfl)) (e := 3) (x0 := .int .i64 0) rfl (by kernel_rfl) (by kernel_rfl) rfl rfl (fun _ => rfl) rfl g.bo) (show TV.p ((mget j B).getD (.int .i64 0)) = .p (.int .i64 sb) by rw [hlb])) rfl ?_
  refine gd ?_
  refine go ?_
  refine K_condF rfl (by rw [ea, es]; simpa using ha) ?_
  refine go ?_
  refine K_condT rfl (by simpa using hp) ?_
  refine go ?_
  exact J_done hT rfl rfl rfl
 rw [if_neg hp, if_neg j1]
 have c2 := adrift_spec h1 (by omega) j hj E B
 obtain ⟨h2, e3⟩ := adS_ok s1.shown (s1.shown.size + 2) j [] s1 _ h1
 have e4 := e3.trans e1
 rw [e1] at c2 h2 e4
 generalize adS s.shown (s.shown.size + 2) j [] s1 = s2 at c2 h2 e4
 refine ⟨s2, h2.mono (by omega), e4, ?_⟩
 generalize adF s.shown (s.shown.size + 2) j [] = b at c2
 cases b with
 | true =>
  refine con_of Tryz.func142 rfl (by kernel_rfl) rfl fun F w0 β0 => ?_
  refine K_tell rfl ?_
  refine go ?_
  refine K_op rfl rfl (opr_callS [.o 1, .o 2] rfl rfl (c1) rfl rfl rfl ⟨⟨rfl, rfl⟩, ⟨rfl, rfl⟩, trivial⟩ rfl rfl rfl rfl) rfl ?_
  refine go ?_
  refine K_op rfl rfl (oprH_fieldAddr hTM rfl rfl rfl rfl) rfl ?_
  refine K_op rfl rfl (oprH_loadM (kt := 36) (e := 189) (by kernel_rfl) rfl rfl rfl rfl) rfl ?_
  refine go ?_
  refine K_op rfl rfl (opr_at (opr_lookup (u32Key (kt := 36) (by kernel_rfl)) (e := 189) (x0 := .agg [.int .i64 0, .int .u32 0]) rfl (by kernel_rfl) (by kernel_rfl) rfl rfl (fun _ => rfl) rfl g.eo) (show TV.p ((mget j E).getD (.agg [.int .i64 0, .int .u32 0])) = .p (.agg [.int .i64 cnt, .int .u32 dr]) by rw [hlk])) rfl ?_
  refine gx ?_
  refine J_false 32 rfl (by simpa using k1) ?_
  refine gx ?_
  refine K_condF rfl (by simp [k1]) ?_
  refine gx ?_
  refine K_condF rfl (by simp [j1]) ?_
  refine gx ?_
  refine J_false 51 rfl (by simpa using j1) ?_
  refine gx ?_
  refine J_true 59 rfl (by simp [j1]) ?_
  refine gx ?_
  refine K_condF rfl (by simp; omega) ?_
  refine go ?_
  refine J_draw [_] [] (by kernel_rfl) (by kernel_rfl) rfl ?_
  refine gd ?_
  refine T_opD rfl rfl rfl rfl rfl (oprH_fieldAddr hTM rfl rfl rfl rfl) rfl ?_
  refine T_opD rfl rfl rfl rfl rfl (oprH_loadM (kt := 36) (e := 3) (by kernel_rfl) rfl rfl rfl rfl) rfl ?_
  refine gd ?_
  refine T_opD rfl rfl rfl rfl rfl (opr_at (opr_lookup (u32Key (kt := 36) (by kernel_rfl)) (e := 3) (x0 := .int .i64 0) rfl (by kernel_rfl) (by kernel_rfl) rfl rfl (fun _ => rfl) rfl g.bo) (show TV.p ((mget j B).getD (.int .i64 0)) = .p (.int .i64 sb) by rw [hlb])) rfl ?_
  refine gd ?_
  refine go ?_
  refine K_condF rfl (by rw [ea, es]; simpa using ha) ?_
  refine go ?_
  refine K_condF rfl (by simpa using hp) ?_
  refine gx ?_
  refine J_true 85 rfl (by simp [j1]) ?_
  refine gx ?_
  refine K_yes rfl rfl rfl (opr_callS [.o 0, .o 1, .o 2, .o 3, .o 4] rfl rfl (c2) rfl rfl rfl ⟨⟨rfl, rfl⟩, ⟨rfl, rfl⟩, ⟨rfl, rfl⟩, ⟨rfl, rfl⟩, ⟨rfl, rfl⟩, trivial⟩ rfl rfl rfl rfl) rfl ?_
  refine go ?_
  exact J_done hT rfl rfl rfl
 | false =>
  refine con_of Tryz.func142 rfl (by kernel_rfl) rfl fun F w0 β0 => ?_
  refine K_tell rfl ?_
  refine go ?_
  refine K_op rfl rfl (opr_callS [.o 1, .o 2] rfl rfl (c1) rfl rfl rfl ⟨⟨rfl, rfl⟩, ⟨rfl, rfl⟩, trivial⟩ rfl rfl rfl rfl) rfl ?_
  refine go ?_
  refine K_op rfl rfl (oprH_fieldAddr hTM rfl rfl rfl rfl) rfl ?_
  refine K_op rfl rfl (oprH_loadM (kt := 36) (e := 189) (by kernel_rfl) rfl rfl rfl rfl) rfl ?_
  refine go ?_
  refine K_op rfl rfl (opr_at (opr_lookup (u32Key (kt := 36) (by kernel_rfl)) (e := 189) (x0 := .agg [.int .i64 0, .int .u32 0]) rfl (by kernel_rfl) (by kernel_rfl) rfl rfl (fun _ => rfl) rfl g.eo) (show TV.p ((mget j E).getD (.agg [.int .i64 0, .int .u32 0])) = .p (.agg [.int .i64 cnt, .int .u32 dr]) by rw [hlk])) rfl ?_
  refine gx ?_
  refine J_false 32 rfl (by simpa using k1) ?_
  refine gx ?_
  refine K_condF rfl (by simp [k1]) ?_
  refine gx ?_
  refine K_condF rfl (by simp [j1]) ?_
  refine gx ?_
  refine J_false 51 rfl (by simpa using j1) ?_
  refine gx ?_
  refine J_true 59 rfl (by simp [j1]) ?_
  refine gx ?_
  refine K_condF rfl (by simp; omega) ?_
  refine go ?_
  refine J_draw [_] [] (by kernel_rfl) (by kernel_rfl) rfl ?_
  refine gd ?_
  refine T_opD rfl rfl rfl rfl rfl (oprH_fieldAddr hTM rfl rfl rfl rfl) rfl ?_
  refine T_opD rfl rfl rfl rfl rfl (oprH_loadM (kt := 36) (e := 3) (by kernel_rfl) rfl rfl rfl rfl) rfl ?_
  refine gd ?_
  refine T_opD rfl rfl rfl rfl rfl (opr_at (opr_lookup (u32Key (kt := 36) (by kernel_rfl)) (e := 3) (x0 := .int .i64 0) rfl (by kernel_rfl) (by kernel_rfl) rfl rfl (fun _ => rfl) rfl g.bo) (show TV.p ((mget j B).getD (.int .i64 0)) = .p (.int .i64 sb) by rw [hlb])) rfl ?_
  refine gd ?_
  refine go ?_
  refine K_condF rfl (by rw [ea, es]; simpa using ha) ?_
  refine go ?_
  refine K_condF rfl (by simpa using hp) ?_
  refine gx ?_
  refine J_true 85 rfl (by simp [j1]) ?_
  refine gx ?_
  refine K_yes rfl rfl rfl (opr_callS [.o 0, .o 1, .o 2, .o 3, .o 4] rfl rfl (c2) rfl rfl rfl ⟨⟨rfl, rfl⟩, ⟨rfl, rfl⟩, ⟨rfl, rfl⟩, ⟨rfl, rfl⟩, ⟨rfl, rfl⟩, trivial⟩ rfl rfl rfl rfl) rfl ?_
  refine go ?_
  exact J_done hT rfl rfl rfl
end Go.Proofs.YtdkegmmigongoaaGreatDoor

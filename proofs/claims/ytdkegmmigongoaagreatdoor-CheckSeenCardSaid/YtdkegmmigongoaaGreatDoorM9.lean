import Derived.Test.YtdkegmmigongoaaGreatDoorGo
import Derived.Test.YtdkegmmigongoaaGreatDoorM8
import Derived.Test.YtdkegmmigongoaaGreatDoorM6
import Derived.Test.YtdkegmmigongoaaGreatDoorM7
import Derived.Test.YtdkegmmigongoaaGreatDoorM2
import Derived.Test.YtdkegmmigongoaaGreatDoorM3
namespace Go.Proofs.YtdkegmmigongoaaGreatDoor
set_option maxRecDepth 20000
open Go.Awp Tr
def rsR (l : List UInt8) (i f : Nat) : List (List UInt8) := if i ≤ l.length then spl 47 (l.drop f) else []
structure RSp (l : List UInt8) where
 i : Nat
 f : Nat
 dn : List (List UInt8)
 h1 : 1 ≤ f
 h : f ≤ i
 h2 : i ≤ l.length + 1
 n : ((l.drop f).take (i - f)).count 47 = 0
 e : dn ++ rsR l i f = spl 47 (l.drop 1)
 ok : ∀ x ∈ dn, nameB x = true
end Go.Proofs.YtdkegmmigongoaaGreatDoor
namespace Go.Proofs.YtdkegmmigongoaaGreatDoor
set_option maxRecDepth 20000
open Go.Awp Go.RowKit
section
variable {P : Program} {Γ : Ctx} {env0 : Env} {H L : List AObj} {Q : Exit → Act → World → Prop} {id : Nat} {ops : List Oper}
theorem J_drawH1 (n : Nat) (H2 : List AObj) (hm : P.follows .mixedOrders = true) (hreg : regOk Γ.N ops [n] = true)
  (h : Tele P ops env0 (fun k => [H, H2].getD k []) [L, L] [n] (fun xs => J Γ (finE ops xs env0) H2 L (Q .normal)) ops 0 []) : J Γ env0 H L ((Code.region id ops.toArray true).wp P Q) :=
 J_drawH [H, H2] [L, L] [n] hm hreg rfl rfl h
theorem J_drawHH (n m : Nat) (H2 H3 : List AObj) (hm : P.follows .mixedOrders = true) (hreg : regOk Γ.N ops [n, m] = true)
  (h : Tele P ops env0 (fun k => [H, H2, H3].getD k []) [L, L, L] [n, m] (fun xs => J Γ (finE ops xs env0) H3 L (Q .normal)) ops 0 []) : J Γ env0 H L ((Code.region id ops.toArray true).wp P Q) :=
 J_drawH [H, H2, H3] [L, L, L] [n, m] hm hreg rfl rfl h
theorem J_drawH4 (n m q r : Nat) (H2 H3 H4 H5 : List AObj) (hm : P.follows .mixedOrders = true) (hreg : regOk Γ.N ops [n, m, q, r] = true)
  (h : Tele P ops env0 (fun k => [H, H2, H3, H4, H5].getD k []) [L, L, L, L, L] [n, m, q, r] (fun xs => J Γ (finE ops xs env0) H5 L (Q .normal)) ops 0 []) : J Γ env0 H L ((Code.region id ops.toArray true).wp P Q) :=
 J_drawH [H, H2, H3, H4, H5] [L, L, L, L, L] [n, m, q, r] hm hreg rfl rfl h
end
section
variable {P : Program} {ops : List Oper} {env0 : Env} {Hs Ls : List (List AObj)} {ss : List Nat} {xs : List TV}
theorem T_op3H {K : List TV → Prop} {o : Oper} {rest : List Oper} {i k : Nat} {x : TV} {H L H2 L2 H3 L3 : List AObj} (hg : o.guard = none) (hp : posn ss 0 i = none) (hk : loK o ss 0 0 = k) (hk2 : Nat.beq (hiK ops i ss 0 - k) 2 = true) (hH : Hs.getD k [] = H) (hL : Ls.getD k [] = L) (hH2 : Hs.getD (k + 1) [] = H2) (hL2 : Ls.getD (k + 1) [] = L2) (hH3 : Hs.getD (k + 2) [] = H3) (hL3 : Ls.getD (k + 2) [] = L3)
  (h : OpR P o (RdE ops env0 xs o) H L x H L) (h2 : OpR P o (RdE ops env0 xs o) H2 L2 x H2 L2) (h3 : OpR P o (RdE ops env0 xs o) H3 L3 x H3 L3) {xs' : List TV} (hxs : snocD xs x = some xs') (kk : Tele P ops env0 (fun k => Hs.getD k []) Ls ss K rest (i + 1) xs') : Tele P ops env0 (fun k => Hs.getD k []) Ls ss K (o :: rest) i xs :=
 ⟨x, .inl ⟨fun g b hgb => (by rw [hg] at hgb; cases hgb), by
  subst hH hL hH2 hL2 hH3 hL3
  unfold Obl
  rw [hp]
  simp only
  rw [hk, Nat.eq_of_beq_eq_true hk2]
  exact ⟨h, h2, h3⟩⟩, by rw [snocN_eq (snocD_eq hxs)]; exact kk⟩
theorem T_op4H {K : List TV → Prop} {o : Oper} {rest : List Oper} {i k : Nat} {x : TV} {H L H2 L2 H3 L3 H4 L4 : List AObj} (hg : o.guard = none) (hp : posn ss 0 i = none) (hk : loK o ss 0 0 = k) (hk2 : Nat.beq (hiK ops i ss 0 - k) 3 = true) (hH : Hs.getD k [] = H) (hL : Ls.getD k [] = L) (hH2 : Hs.getD (k + 1) [] = H2) (hL2 : Ls.getD (k + 1) [] = L2) (hH3 : Hs.getD (k + 2) [] = H3) (hL3 : Ls.getD (k + 2) [] = L3) (hH4 : Hs.getD (k + 3) [] = H4) (hL4 : Ls.getD (k + 3) [] = L4)
  (h : OpR P o (RdE ops env0 xs o) H L x H L) (h2 : OpR P o (RdE ops env0 xs o) H2 L2 x H2 L2) (h3 : OpR P o (RdE ops env0 xs o) H3 L3 x H3 L3) (h4 : OpR P o (RdE ops env0 xs o) H4 L4 x H4 L4) {xs' : List TV} (hxs : snocD xs x = some xs') (kk : Tele P ops env0 (fun k => Hs.getD k []) Ls ss K rest (i + 1) xs') : Tele P ops env0 (fun k => Hs.getD k []) Ls ss K (o :: rest) i xs :=
 ⟨x, .inl ⟨fun g b hgb => (by rw [hg] at hgb; cases hgb), by
  subst hH hL hH2 hL2 hH3 hL3 hH4 hL4
  unfold Obl
  rw [hp]
  simp only
  rw [hk, Nat.eq_of_beq_eq_true hk2]
  exact ⟨h, h2, h3, h4⟩⟩, by rw [snocN_eq (snocD_eq hxs)]; exact kk⟩
theorem T_op5H {K : List TV → Prop} {o : Oper} {rest : List Oper} {i k : Nat} {x : TV} {H L H2 L2 H3 L3 H4 L4 H5 L5 : List AObj} (hg : o.guard = none) (hp : posn ss 0 i = none) (hk : loK o ss 0 0 = k) (hk2 : Nat.beq (hiK ops i ss 0 - k) 4 = true) (hH : Hs.getD k [] = H) (hL : Ls.getD k [] = L) (hH2 : Hs.getD (k + 1) [] = H2) (hL2 : Ls.getD (k + 1) [] = L2) (hH3 : Hs.getD (k + 2) [] = H3) (hL3 : Ls.getD (k + 2) [] = L3) (hH4 : Hs.getD (k + 3) [] = H4) (hL4 : Ls.getD (k + 3) [] = L4) (hH5 : Hs.getD (k + 4) [] = H5) (hL5 : Ls.getD (k + 4) [] = L5)
  (h : OpR P o (RdE ops env0 xs o) H L x H L) (h2 : OpR P o (RdE ops env0 xs o) H2 L2 x H2 L2) (h3 : OpR P o (RdE ops env0 xs o) H3 L3 x H3 L3) (h4 : OpR P o (RdE ops env0 xs o) H4 L4 x H4 L4) (h5 : OpR P o (RdE ops env0 xs o) H5 L5 x H5 L5) {xs' : List TV} (hxs : snocD xs x = some xs') (kk : Tele P ops env0 (fun k => Hs.getD k []) Ls ss K rest (i + 1) xs') : Tele P ops env0 (fun k => Hs.getD k []) Ls ss K (o :: rest) i xs :=
 ⟨x, .inl ⟨fun g b hgb => (by rw [hg] at hgb; cases hgb), by
  subst hH hL hH2 hL2 hH3 hL3 hH4 hL4 hH5 hL5
  unfold Obl
  rw [hp]
  simp only
  rw [hk, Nat.eq_of_beq_eq_true hk2]
  exact ⟨h, h2, h3, h4, h5⟩⟩, by rw [snocN_eq (snocD_eq hxs)]; exact kk⟩
end
theorem gdJ {φ ψ : Prop} (k : ψ) (h : ψ → φ := by
 intro k
 repeat (first
  | with_reducible refine T_nil ?_
  | ((with_reducible refine T_gateF ?_); first | refine T_opH rfl rfl rfl rfl rfl rfl (stepN_ok hT rfl) rfl ?_ | refine T_opH rfl rfl rfl rfl rfl rfl (stepG_ok hT rfl) rfl ?_ | refine T_opH rfl rfl rfl rfl rfl rfl (stepA_ok hT rfl) rfl ?_ | refine T_opH rfl rfl rfl rfl rfl rfl (opr_lit hT rfl rfl rfl rfl) rfl ?_ | refine T_op2H rfl rfl rfl rfl rfl rfl rfl rfl (stepN_ok hT rfl) (stepN_ok hT rfl) rfl ?_ | refine T_op2H rfl rfl rfl rfl rfl rfl rfl rfl (stepG_ok hT rfl) (stepG_ok hT rfl) rfl ?_ | refine T_op2H rfl rfl rfl rfl rfl rfl rfl rfl (stepA_ok hT rfl) (stepA_ok hT rfl) rfl ?_ | refine T_op2H rfl rfl rfl rfl rfl rfl rfl rfl (opr_lit hT rfl rfl rfl rfl) (opr_lit hT rfl rfl rfl rfl) rfl ?_ | refine T_op3H rfl rfl rfl rfl rfl rfl rfl rfl rfl rfl (opr_lit hT rfl rfl rfl rfl) (opr_lit hT rfl rfl rfl rfl) (opr_lit hT rfl rfl rfl rfl) rfl ?_ | refine T_op3H rfl rfl rfl rfl rfl rfl rfl rfl rfl rfl (stepN_ok hT rfl) (stepN_ok hT rfl) (stepN_ok hT rfl) rfl ?_ | refine T_op3H rfl rfl rfl rfl rfl rfl rfl rfl rfl rfl (stepG_ok hT rfl) (stepG_ok hT rfl) (stepG_ok hT rfl) rfl ?_ | refine T_op3H rfl rfl rfl rfl rfl rfl rfl rfl rfl rfl (stepA_ok hT rfl) (stepA_ok hT rfl) (stepA_ok hT rfl) rfl ?_ | refine T_op4H rfl rfl rfl rfl rfl rfl rfl rfl rfl rfl rfl rfl (stepN_ok hT rfl) (stepN_ok hT rfl) (stepN_ok hT rfl) (stepN_ok hT rfl) rfl ?_ | refine T_op4H rfl rfl rfl rfl rfl rfl rfl rfl rfl rfl rfl rfl (stepG_ok hT rfl) (stepG_ok hT rfl) (stepG_ok hT rfl) (stepG_ok hT rfl) rfl ?_ | refine T_op4H rfl rfl rfl rfl rfl rfl rfl rfl rfl rfl rfl rfl (stepA_ok hT rfl) (stepA_ok hT rfl) (stepA_ok hT rfl) (stepA_ok hT rfl) rfl ?_ | refine T_op5H rfl rfl rfl rfl rfl rfl rfl rfl rfl rfl rfl rfl rfl rfl (stepN_ok hT rfl) (stepN_ok hT rfl) (stepN_ok hT rfl) (stepN_ok hT rfl) (stepN_ok hT rfl) rfl ?_ | refine T_op5H rfl rfl rfl rfl rfl rfl rfl rfl rfl rfl rfl rfl rfl rfl (stepG_ok hT rfl) (stepG_ok hT rfl) (stepG_ok hT rfl) (stepG_ok hT rfl) (stepG_ok hT rfl) rfl ?_ | refine T_op5H rfl rfl rfl rfl rfl rfl rfl rfl rfl rfl rfl rfl rfl rfl (stepA_ok hT rfl) (stepA_ok hT rfl) (stepA_ok hT rfl) (stepA_ok hT rfl) (stepA_ok hT rfl) rfl ?_ | refine T_stH rfl rfl rfl rfl rfl rfl (stepG_ok hT rfl) rfl ?_ | refine T_stH rfl rfl rfl rfl rfl rfl (stepN_ok hT rfl) rfl ?_))
 exact k) : φ := h k
end Go.Proofs.YtdkegmmigongoaaGreatDoor
namespace Go.Proofs.YtdkegmmigongoaaGreatDoor
set_option maxRecDepth 20000
open Go.Awp Tr
abbrev Nd := Int × Int × Int × Int
structure VJ (s : VS) (n : Nat) : Prop where
 rb : Rises s.base.row
 rs : Rises s.shown.row
 rw : Rises s.writes.row
 rr : Rises s.reads.row
 zb : s.base.size ≤ n
 zs : s.shown.size ≤ n
 zw : s.writes.size ≤ n
 zr : s.reads.size ≤ n
 zg : s.ranges.length ≤ n
 val : ∀ x ∈ s.shown.row, x.1.length ≤ 100000 ∧ x.2.length ≤ 100000
def VS.rd (s : VS) (k : List UInt8) : VS := { s with reads := s.reads.set k [] }
def VS.rds (s : VS) (ks : List (List UInt8)) : VS := { s with reads := ks.foldl (fun t k => t.set k []) s.reads }
def VS.put (s : VS) (k v : List UInt8) : VS := if s.room k = true then s.set k v else s
def VS.del (s : VS) (k : List UInt8) : VS := if s.room k = true then s.cut k else s
theorem VJ.new {t : Tr} {n : Nat} (h : Rises t.row) (hz : t.size ≤ n) (hv : ∀ x ∈ t.row, x.1.length ≤ 100000 ∧ x.2.length ≤ 100000) : VJ (VS.new t) n :=
 ⟨h, h, by simp [VS.new, row, Rises], by simp [VS.new, row, Rises], hz, hz, Nat.zero_le _, Nat.zero_le _, Nat.zero_le _, hv⟩
theorem VJ.mono {s : VS} {n m : Nat} (h : VJ s n) (hm : n ≤ m) : VJ s m :=
 ⟨h.rb, h.rs, h.rw, h.rr, by have := h.zb; omega, by have := h.zs; omega, by have := h.zw; omega, by have := h.zr; omega, by have := h.zg; omega, h.val⟩
theorem VJ.rd {s : VS} {n : Nat} (h : VJ s n) (k : List UInt8) : VJ (s.rd k) (n + 1) :=
 ⟨h.rb, h.rs, h.rw, set_rises h.rr, by have := h.zb; unfold VS.rd; dsimp only; omega, by have := h.zs; unfold VS.rd; dsimp only; omega, by have := h.zw; unfold VS.rd; dsimp only; omega, by have := h.zr; have := set_size k [] s.reads; unfold VS.rd; dsimp only; omega, by have := h.zg; unfold VS.rd; dsimp only; omega, h.val⟩
theorem rds_cons (s : VS) (k : List UInt8) (ks : List (List UInt8)) : s.rds (k :: ks) = (s.rd k).rds ks := rfl
theorem rds_app (s : VS) (ks ls : List (List UInt8)) : s.rds (ks ++ ls) = (s.rds ks).rds ls := by unfold VS.rds; rw [List.foldl_append]
theorem VJ.rds {s : VS} {n : Nat} (h : VJ s n) (ks : List (List UInt8)) : VJ (s.rds ks) (n + ks.length) := by
 induction ks generalizing s n with
 | nil => exact h
 | cons k ks ih =>
  rw [rds_cons, List.length_cons]
  exact (ih (h.rd k)).mono (by omega)
theorem VJ.range {s : VS} {n : Nat} (h : VJ s n) (a b : List UInt8) : VJ (s.range a b) (n + 1) := by
 unfold VS.range
 split
 ·refine ⟨h.rb, h.rs, h.rw, h.rr, by have := h.zb; dsimp only; omega, by have := h.zs; dsimp only; omega, by have := h.zw; dsimp only; omega, by have := h.zr; dsimp only; omega, ?_, h.val⟩
  have := h.zg
  dsimp only
  split
  ·omega
  ·rw [List.length_append]; simp; omega
 ·exact h.mono (by omega)
theorem VJ.set {s : VS} {n : Nat} (h : VJ s n) (k v : List UInt8) (hk : k.length ≤ 100000) (hv : v.length ≤ 100000) : VJ (s.set k v) (n + 1) := by
 have z1 := set_size k v s.shown
 have z2 := set_size k (61 :: v) s.writes
 refine ⟨h.rb, set_rises h.rs, set_rises h.rw, h.rr, by have := h.zb; unfold VS.set; dsimp only; omega, by have := h.zs; unfold VS.set; dsimp only; omega, by have := h.zw; unfold VS.set; dsimp only; omega, by have := h.zr; unfold VS.set; dsimp only; omega, by have := h.zg; unfold VS.set; dsimp only; omega, fun x hx => ?_⟩
 unfold VS.set at hx
 dsimp only at hx
 rw [set_row _ _ _ h.rs] at hx
 rcases lset_mem hx with rfl | hx
 ·exact ⟨hk, hv⟩
 ·exact h.val x hx
theorem VJ.cut {s : VS} {n : Nat} (h : VJ s n) (k : List UInt8) : VJ (s.cut k) (n + 1) := by
 have z1 := cut_size s.shown k
 have z2 := cut_size s.writes k
 have z3 := set_size k [] s.writes
 refine ⟨h.rb, cut_rises h.rs, ?_, h.rr, by have := h.zb; unfold VS.cut; dsimp only; omega, by have := h.zs; unfold VS.cut; dsimp only; omega, ?_, by have := h.zr; unfold VS.cut; dsimp only; omega, by have := h.zg; unfold VS.cut; dsimp only; omega, fun x hx => ?_⟩
 ·unfold VS.cut
  dsimp only
  split
  ·exact set_rises h.rw
  ·exact cut_rises h.rw
 ·have := h.zw
  unfold VS.cut
  dsimp only
  split <;> omega
 ·unfold VS.cut at hx
  dsimp only at hx
  rw [cut_row _ _ h.rs] at hx
  exact h.val x (List.mem_filter.1 hx).1
theorem VJ.put {s : VS} {n : Nat} (h : VJ s n) (k v : List UInt8) (hk : k.length ≤ 100000) (hv : v.length ≤ 100000) : VJ (s.put k v) (n + 1) := by
 unfold VS.put
 split
 ·exact h.set k v hk hv
 ·exact h.mono (by omega)
theorem VJ.del {s : VS} {n : Nat} (h : VJ s n) (k : List UInt8) : VJ (s.del k) (n + 1) := by
 unfold VS.del
 split
 ·exact h.cut k
 ·exact h.mono (by omega)
theorem VJ.len {s : VS} {n : Nat} (h : VJ s n) {k v : List UInt8} (hg : s.shown.get k = some v) : v.length ≤ 100000 := by
 rw [get_row _ _ h.rs] at hg
 exact (h.val _ ((lget_some h.rs).1 hg)).2
theorem VJ.len0 {s : VS} {n : Nat} (h : VJ s n) (k : List UInt8) : ((s.shown.get k).getD []).length ≤ 100000 := by
 cases hg : s.shown.get k with
 | none => exact Nat.zero_le _
 | some v => exact h.len hg
def ndOf (n : Int) : Option (List UInt8) → Option Nd
 | none => if n = 1 then some (2, 2, 0, 1) else none
 | some v => getNode v
def VS.load (s : VS) (n : Int) : Option Nd := ndOf n (s.shown.get (keyH 73 n))
abbrev ndT (g : Nd) : TV := .agg [.p (.int .u8 g.1), .p (.int .u32 g.2.1), .p (.int .u32 g.2.2.1), .p (.int .u32 g.2.2.2)]
abbrev ndA (g : Nd) : TV := .p (.agg (nodeV g.1 g.2.1 g.2.2.1 g.2.2.2))
theorem nodeT_tup (g : Option Nd) : nodeT g = .tup [ndT (g.getD (0, 0, 0, 0)), .p (.bool g.isSome)] := by
 cases g with
 | none => rfl
 | some x => obtain ⟨a, b, c, d⟩ := x; rfl
def Nd.ok (g : Nd) : Prop := (0 ≤ g.1 ∧ g.1 ≤ 255) ∧ (0 ≤ g.2.1 ∧ g.2.1 ≤ 4294967295) ∧ (0 ≤ g.2.2.1 ∧ g.2.2.1 ≤ 4294967295) ∧ (0 ≤ g.2.2.2 ∧ g.2.2.2 ≤ 4294967295)
theorem b0_bd17 (l : List UInt8) : 0 ≤ b0 l ∧ b0 l ≤ 255 := by
 unfold b0
 have := (l.headD 0).toNat_lt
 omega
theorem getNode_ok {l : List UInt8} {g : Nd} (h : getNode l = some g) : Nd.ok g := by
 unfold getNode at h
 split at h
 ·obtain rfl := Option.some.inj h
  exact ⟨b0_bd17 l, gF_bd l 1, gF_bd l 5, gF_bd l 9⟩
 ·cases h
theorem ndOf_ok {n : Int} {o : Option (List UInt8)} {g : Nd} (h : ndOf n o = some g) : Nd.ok g := by
 cases o with
 | none =>
  unfold ndOf at h
  dsimp only at h
  split at h
  ·obtain rfl := Option.some.inj h
   unfold Nd.ok; decide
  ·cases h
 | some v => exact getNode_ok h
def VS.save (s : VS) (n : Int) (g : Nd) : VS := s.put (keyH 73 n) (nodeB g.1 g.2.1 g.2.2.1 g.2.2.2)
theorem nodeB_l13 (a b c d : Int) : (nodeB a b c d).length = 13 := by simp [nodeB, beB_len]
def chOf (g : Option (List UInt8)) : Option Int := if (g.getD []).length = 4 then some (gF (g.getD []) 0) else none
def VS.child (s : VS) (d : Int) (m : List UInt8) : Option Int := chOf (s.shown.get (entryK d m))
abbrev chT (g : Option Int) : TV := .tup [.p (.int .u32 (g.getD 0)), .p (.bool g.isSome)]
theorem chOf_ok {o : Option (List UInt8)} {i : Int} (h : chOf o = some i) : 0 ≤ i ∧ i ≤ 4294967295 := by
 unfold chOf at h
 split at h
 ·obtain rfl := Option.some.inj h
  exact gF_bd _ _
 ·cases h
set_option maxHeartbeats 4000000 in
theorem wload_spec {s : VS} {m : Nat} (h : VJ s m) (hm : m ≤ 1000000) (n : Int) (hn : 0 ≤ n ∧ n ≤ 4294967295) : Con Tryz.prog 164 [vP, .p (.int .u32 n)] (vH s) (nodeT (s.load n)) (vH (s.rd (keyH 73 n))) [] := by
 have c1 := kinode_spec n hn []
 have c2 := vget_spec s (keyH 73 n) (by have := h.zr; unfold big40; omega)
 have hl := h.len0 (keyH 73 n)
 rw [getT_tup] at c2
 change Con Tryz.prog _ _ _ _ (vH (s.rd (keyH 73 n))) _ at c2
 unfold VS.load
 generalize s.shown.get (keyH 73 n) = g at c2 hl
 generalize s.rd (keyH 73 n) = s' at c2
 cases g with
 | none =>
  by_cases h1 : n = 1
  ·subst h1
   have cr := root_spec []
   show Con _ _ _ _ (nodeT (some (2, 2, 0, 1))) _ _
   refine con_of Tryz.func164 rfl (by kernel_rfl) rfl fun F w0 β0 => ?_
   refine K_tell rfl ?_
   refine go ?_
   refine K_op rfl rfl (opr_callP rfl rfl (c1) rfl rfl rfl rfl) rfl ?_
   refine go ?_
   refine K_op rfl rfl (opr_callS [.o 0, .o 1] rfl rfl (c2) rfl rfl rfl ⟨⟨rfl, rfl⟩, ⟨rfl, rfl⟩, trivial⟩ rfl rfl rfl rfl) rfl ?_
   refine go ?_
   refine K_op rfl rfl (opr_callP rfl rfl (cr) rfl rfl rfl rfl) rfl ?_
   refine go ?_
   exact J_done hT rfl rfl rfl
  ·have c3 := nget_spec [] (by decide)
   rw [nodeT_tup] at c3
   have e : nodeT (ndOf n none) = .tup [ndT (0, 0, 0, 0), .p (.bool false)] := by
    show nodeT (if n = 1 then _ else _) = _
    rw [if_neg h1]; rfl
   rw [e]
   refine con_of Tryz.func164 rfl (by kernel_rfl) rfl fun F w0 β0 => ?_
   refine K_tell rfl ?_
   refine go ?_
   refine K_op rfl rfl (opr_callP rfl rfl (c1) rfl rfl rfl rfl) rfl ?_
   refine go ?_
   refine K_op rfl rfl (opr_callS [.o 0, .o 1] rfl rfl (c2) rfl rfl rfl ⟨⟨rfl, rfl⟩, ⟨rfl, rfl⟩, trivial⟩ rfl rfl rfl rfl) rfl ?_
   refine go ?_
   refine K_condF rfl (by simp [h1]) ?_
   refine go ?_
   refine K_op rfl rfl (opr_callP rfl rfl (c3) rfl rfl rfl rfl) rfl ?_
   refine go ?_
   exact J_done hT rfl rfl rfl
 | some v =>
  have c3 := nget_spec v (by dsimp only [Option.getD] at hl; omega)
  rw [nodeT_tup] at c3
  show Con _ _ _ _ (nodeT (getNode v)) _ _
  rw [nodeT_tup]
  generalize getNode v = g at c3
  refine con_of Tryz.func164 rfl (by kernel_rfl) rfl fun F w0 β0 => ?_
  refine K_tell rfl ?_
  refine go ?_
  refine K_op rfl rfl (opr_callP rfl rfl (c1) rfl rfl rfl rfl) rfl ?_
  refine go ?_
  refine K_op rfl rfl (opr_callS [.o 0, .o 1] rfl rfl (c2) rfl rfl rfl ⟨⟨rfl, rfl⟩, ⟨rfl, rfl⟩, trivial⟩ rfl rfl rfl rfl) rfl ?_
  refine go ?_
  refine K_op rfl rfl (opr_callP rfl rfl (c3) rfl rfl rfl rfl) rfl ?_
  refine go ?_
  exact J_done hT rfl rfl rfl
theorem wsave_spec {s : VS} {m : Nat} (h : VJ s m) (hm : m ≤ 1000000) (n : Int) (hn : 0 ≤ n ∧ n ≤ 4294967295) (g : Nd) (hg : Nd.ok g) : Con Tryz.prog 146 [vP, .p (.int .u32 n), ndA g] (vH s) (.p (.bool (s.room (keyH 73 n)))) (vH (s.save n g)) [] := by
 have c1 := kinode_spec n hn []
 have c2 := nput_spec g.1 g.2.1 g.2.2.1 g.2.2.2 hg.1 hg.2.1 hg.2.2.1 hg.2.2.2
 have c3 := vset_spec s (keyH 73 n) (nodeB g.1 g.2.1 g.2.2.1 g.2.2.2) (by have := h.zw; unfold big40; omega) (by have := h.zs; unfold big40; omega) (by rw [nodeB_l13]; omega)
 change Con Tryz.prog _ _ _ _ (vH (s.save n g)) _ at c3
 generalize s.save n g = s' at c3
 refine con_of Tryz.func146 rfl (by kernel_rfl) rfl fun F w0 β0 => ?_
 refine K_tell rfl ?_
 refine go ?_
 refine J_drawH1 5 (vH s') (by kernel_rfl) (by kernel_rfl) ?_
 refine gdJ ?_
 refine T_opH rfl rfl rfl rfl rfl rfl (opr_call0P rfl rfl (c1) rfl rfl rfl) rfl ?_
 refine gdJ ?_
 refine T_opH rfl rfl rfl rfl rfl rfl (opr_call0P rfl rfl (c2) rfl rfl rfl) rfl ?_
 refine gdJ ?_
 refine T_stH rfl rfl rfl rfl rfl rfl (opr_callS [.o 0, .o 1] rfl rfl (c3) rfl rfl rfl ⟨⟨rfl, rfl⟩, ⟨rfl, rfl⟩, trivial⟩ rfl rfl rfl rfl) rfl ?_
 refine gdJ ?_
 refine go ?_
 exact J_done hT rfl rfl rfl
theorem wdrop_spec {s : VS} {m : Nat} (h : VJ s m) (hm : m ≤ 1000000) (n : Int) (hn : 0 ≤ n ∧ n ≤ 4294967295) : Con Tryz.prog 175 [vP, .p (.int .u32 n)] (vH s) (.p (.bool (s.room (keyH 73 n)))) (vH (s.del (keyH 73 n))) [] := by
 have c1 := kinode_spec n hn []
 have c3 := vcut_spec s (keyH 73 n) (by have := h.zw; unfold big40; omega) (by have := h.zs; unfold big40; omega)
 change Con Tryz.prog _ _ _ _ (vH (s.del (keyH 73 n))) _ at c3
 generalize s.del (keyH 73 n) = s' at c3
 refine con_of Tryz.func175 rfl (by kernel_rfl) rfl fun F w0 β0 => ?_
 refine K_tell rfl ?_
 refine go ?_
 refine K_op rfl rfl (opr_callP rfl rfl (c1) rfl rfl rfl rfl) rfl ?_
 refine go ?_
 refine K_op rfl rfl (opr_callS [.o 0, .o 1] rfl rfl (c3) rfl rfl rfl ⟨⟨rfl, rfl⟩, ⟨rfl, rfl⟩, trivial⟩ rfl rfl rfl rfl) rfl ?_
 refine go ?_
 exact J_done hT rfl rfl rfl
theorem wunhang_spec {s : VS} {m : Nat} (h : VJ s m) (hm : m ≤ 1000000) (n : Int) (hn : 0 ≤ n ∧ n ≤ 4294967295) (x : List UInt8) : Con Tryz.prog 157 [vP, .p (.int .u32 n), .p (.str x)] (vH s) (.p (.bool (s.room (entryK n x)))) (vH (s.del (entryK n x))) [] := by
 have c1 := kentry_spec n x hn []
 have c3 := vcut_spec s (entryK n x) (by have := h.zw; unfold big40; omega) (by have := h.zs; unfold big40; omega)
 change Con Tryz.prog _ _ _ _ (vH (s.del (entryK n x))) _ at c3
 generalize s.del (entryK n x) = s' at c3
 refine con_of Tryz.func157 rfl (by kernel_rfl) rfl fun F w0 β0 => ?_
 refine K_tell rfl ?_
 refine go ?_
 refine K_op rfl rfl (opr_callP rfl rfl (c1) rfl rfl rfl rfl) rfl ?_
 refine go ?_
 refine K_op rfl rfl (opr_callS [.o 0, .o 1] rfl rfl (c3) rfl rfl rfl ⟨⟨rfl, rfl⟩, ⟨rfl, rfl⟩, trivial⟩ rfl rfl rfl rfl) rfl ?_
 refine go ?_
 exact J_done hT rfl rfl rfl
theorem whang_spec {s : VS} {m : Nat} (h : VJ s m) (hm : m ≤ 1000000) (n i : Int) (hn : 0 ≤ n ∧ n ≤ 4294967295) (hi : 0 ≤ i ∧ i ≤ 4294967295) (x : List UInt8) : Con Tryz.prog 147 [vP, .p (.int .u32 n), .p (.str x), .p (.int .u32 i)] (vH s) (.p (.bool (s.room (entryK n x)))) (vH (s.put (entryK n x) (beB 4 i))) [] := by
 have c1 := kentry_spec n x hn []
 have c2 := put4 (s := .nils) (l := []) .nils i hi (by decide)
 rw [List.nil_append] at c2
 have c3 := vset_spec s (entryK n x) (beB 4 i) (by have := h.zw; unfold big40; omega) (by have := h.zs; unfold big40; omega) (by rw [beB_len]; omega)
 change Con Tryz.prog _ _ _ _ (vH (s.put (entryK n x) (beB 4 i))) _ at c3
 generalize s.put (entryK n x) (beB 4 i) = s' at c3
 refine con_of Tryz.func147 rfl (by kernel_rfl) rfl fun F w0 β0 => ?_
 refine K_tell rfl ?_
 refine go ?_
 refine K_op rfl rfl (opr_callP rfl rfl (c1) rfl rfl rfl rfl) rfl ?_
 refine go ?_
 refine J_val 14 _ rfl (congrArg (fun z => TV.p (.int .u64 z)) (u64_in i (by omega))) ?_
 refine K_op rfl rfl (opr_callP rfl rfl (c2) rfl rfl rfl rfl) rfl ?_
 refine go ?_
 refine K_op rfl rfl (opr_callS [.o 0, .o 1] rfl rfl (c3) rfl rfl rfl ⟨⟨rfl, rfl⟩, ⟨rfl, rfl⟩, trivial⟩ rfl rfl rfl rfl) rfl ?_
 refine go ?_
 exact J_done hT rfl rfl rfl
set_option maxHeartbeats 4000000 in
theorem wchild_spec {s : VS} {m : Nat} (h : VJ s m) (hm : m ≤ 1000000) (n : Int) (hn : 0 ≤ n ∧ n ≤ 4294967295) (x : List UInt8) : Con Tryz.prog 134 [vP, .p (.int .u32 n), .p (.str x)] (vH s) (chT (s.child n x)) (vH (s.rd (entryK n x))) [] := by
 have c1 := kentry_spec n x hn []
 have c2 := vget_spec s (entryK n x) (by have := h.zr; unfold big40; omega)
 have hl := h.len0 (entryK n x)
 rw [getT_tup] at c2
 change Con Tryz.prog _ _ _ _ (vH (s.rd (entryK n x))) _ at c2
 unfold VS.child chOf
 generalize s.shown.get (entryK n x) = g at c2 hl
 generalize s.rd (entryK n x) = s' at c2
 generalize g.getD [] = v at c2 hl
 generalize g.isSome = b at c2
 have c3 := get_spec (.ps v) 0 4 (by decide) (by omega) []
 rw [show (wide 4).toNat = 4 by decide] at c3
 by_cases h4 : v.length < 4
 ·have e : getR v 0 4 = (0, 0, 3) := by unfold getR; rw [if_neg (by omega), if_pos (by omega)]
  rw [e] at c3
  change Con Tryz.prog _ _ _ (.tup [.p (.int .u64 0), .p (.int .i64 0), .p (.int .i64 3)]) _ _ at c3
  rw [if_neg (by omega)]
  refine con_of Tryz.func134 rfl (by kernel_rfl) rfl fun F w0 β0 => ?_
  refine K_tell rfl ?_
  refine go ?_
  refine K_op rfl rfl (opr_callP rfl rfl (c1) rfl rfl rfl rfl) rfl ?_
  refine go ?_
  refine K_op rfl rfl (opr_callS [.o 0, .o 1] rfl rfl (c2) rfl rfl rfl ⟨⟨rfl, rfl⟩, ⟨rfl, rfl⟩, trivial⟩ rfl rfl rfl rfl) rfl ?_
  refine go ?_
  refine K_op rfl rfl (opr_callP rfl rfl (c3) rfl rfl rfl rfl) rfl ?_
  refine go ?_
  exact J_done hT rfl rfl rfl
 ·have e : getR v 0 4 = (gF v 0, 4, 0) := by unfold getR gF; rw [if_neg (by omega), if_neg (by omega)]; rfl
  rw [e] at c3
  change Con Tryz.prog _ _ _ (.tup [.p (.int .u64 (gF v 0)), .p (.int .i64 4), .p (.int .i64 0)]) _ _ at c3
  by_cases h5 : v.length = 4
  ·rw [if_pos h5]
   refine con_of Tryz.func134 rfl (by kernel_rfl) rfl fun F w0 β0 => ?_
   refine K_tell rfl ?_
   refine go ?_
   refine K_op rfl rfl (opr_callP rfl rfl (c1) rfl rfl rfl rfl) rfl ?_
   refine go ?_
   refine K_op rfl rfl (opr_callS [.o 0, .o 1] rfl rfl (c2) rfl rfl rfl ⟨⟨rfl, rfl⟩, ⟨rfl, rfl⟩, trivial⟩ rfl rfl rfl rfl) rfl ?_
   refine go ?_
   refine K_op rfl rfl (opr_callP rfl rfl (c3) rfl rfl rfl rfl) rfl ?_
   refine go ?_
   refine K_condF rfl (by simp [h5]) ?_
   refine go ?_
   refine J_val 6 _ rfl (congrArg (fun z => TV.p (.int .u32 z)) (u32_in _ (gF_bd v 0))) ?_
   exact J_done hT rfl rfl rfl
  ·rw [if_neg h5]
   refine con_of Tryz.func134 rfl (by kernel_rfl) rfl fun F w0 β0 => ?_
   refine K_tell rfl ?_
   refine go ?_
   refine K_op rfl rfl (opr_callP rfl rfl (c1) rfl rfl rfl rfl) rfl ?_
   refine go ?_
   refine K_op rfl rfl (opr_callS [.o 0, .o 1] rfl rfl (c2) rfl rfl rfl ⟨⟨rfl, rfl⟩, ⟨rfl, rfl⟩, trivial⟩ rfl rfl rfl rfl) rfl ?_
   refine go ?_
   refine K_op rfl rfl (opr_callP rfl rfl (c3) rfl rfl rfl rfl) rfl ?_
   refine go ?_
   refine K_condT rfl (by simp; omega) ?_
   refine go ?_
   exact J_done hT rfl rfl rfl
end Go.Proofs.YtdkegmmigongoaaGreatDoor

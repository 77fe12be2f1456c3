import Derived.Test.YtdnpkgakpiopgaaGreatDoorM35
import Derived.RangeFuncNested
import Derived.RangeFuncCalls
import Derived.RangeFuncLeaves
import Derived.Test.YtdnpkgakpiopgaaGreatDoorM8
import Derived.Test.YtdnpkgakpiopgaaGreatDoorM41
namespace Go.Proofs.YtdnpkgakpiopgaaGreatDoor
set_option maxRecDepth 20000
open Go.Awp Go.RowKit
section
variable {w : World} {β : Hd → Nat} {H L : List AObj} {F : Nat → Prop} {i j : Nat} {Ty : TypeId} {e : Nat} {rows0 rows : List AV}
end
section
variable {Γ : Ctx} {env : Env} {H L : List AObj} {Φ : Act → World → Prop}
end
section
variable {P : Program} {env : Env} {H L : List AObj} {o : Oper} {κ : Type} {ka : κ → AV}
end
end Go.Proofs.YtdnpkgakpiopgaaGreatDoor
namespace Go.Awp
open Go.RowKit
section
variable {P : Program} {Γ : Ctx} {env : Env} {H L : List AObj} {Q : Exit → Act → World → Prop} {l n : Nat}
end
def wa (ds : List Deferred) (a : Act) : Act := { a with defers := a.defers ++ ds }
section
variable {P : Program} {Γ : Ctx} {env : Env} {H L : List AObj} {Q : Exit → Act → World → Prop} {ds : List Deferred}
end
structure Turn (w w' : World) (R : Nat → Prop) : Prop where
 os : w'.os = w.os
 tape : w'.tape = w.tape
 output : w'.output = w.output
 size : w.heap.size ≤ w'.heap.size
 blk : ∀ b, b < w.heap.size → ¬ R b → w'.heap[b]? = w.heap[b]?
 nc : ∀ b, R b → ∀ cs T fr, w.heap[b]? ≠ some (.cells cs T fr)
section
variable {w w' : World} {R : Nat → Prop}
theorem Turn.cells (h : Turn w w' R) {b : Nat} {cs : Array Value} {T : TypeId} {fr : Nat × Nat} (hb : w.heap[b]? = some (.cells cs T fr)) : w'.heap[b]? = some (.cells cs T fr) := by
 rw [h.blk b (Array.getElem?_eq_some_iff.1 hb).1 fun hr => h.nc b hr _ _ _ hb]
 exact hb
theorem Turn.cell (h : Turn w w' R) {a : Addr} {v : Value} (hc : w.cell? a = some v) : w'.cell? a = some v := by
 unfold World.cell? at hc ⊢
 cases hb : w.heap[a.block]? with
 | none => rw [hb] at hc; cases hc
 | some o =>
  rw [hb] at hc
  cases o with
  | cells cs T fr => rw [h.cells hb]; exact hc
  | _ => cases hc
theorem Turn.csize (h : Turn w w' R) {β : Hd → Nat} {G : Hp} (hS : Sim w β G) {k : Hd} {T e : Nat} {b : Bool} {rows : List AV} (hk : G.get k = some (.arr T b e rows)) (hoff : (AObj.arr T b e rows).off = false) : Go.Awp.csize w' (β k) = Go.Awp.csize w (β k) := by
 obtain ⟨cs, fr, h1, _⟩ := (hS.objs k _ hk).2 hoff
 unfold Go.Awp.csize
 rw [h1, h.cells h1]
end
section
variable {P : Program} {T : Tab} {env : Env} {H L : List AObj} {o : Oper}
theorem zMe {t : TypeId} {y z : Operand} {e i n st len idx off : Nat} {ti : TyI} {Ty : TypeId} {rows : List AV} {r : AV} {zs : List TV} {ns : List AV} (hT : TabOk P T) (ho : o.op = .store t y z) (hy : evA env y = .el (.sl (.o i) n st len) e idx off) (hi : H[i]? = some (.arr Ty true e rows)) (hn : rows.length = n)
  (ht : tlk T t = some ti) (hz : tcells (evA env z) = some zs) (hu : unpL zs = some ns) (hr : rows[st + idx]? = some r) (hl : ns.length = ti.size) (hoff : off + ns.length ≤ e) (hcl : ∀ y ∈ ns, cl y = true) (hag : (∀ cs, r ≠ .agg cs) → ns.length = 1) :
  OpR P o env H L (.p .top) (H.set i (.arr Ty true e (rows.set (st + idx) (rowSet r off ns)))) L :=
 have hr0 : rows.length ≠ 0 := by have := (List.getElem?_eq_some_iff.1 hr).1; omega
 zIl hi (AObj.off_arr.2 fun _ => hr0) rfl fun F w β a hS hen => by
  obtain ⟨inf, u, ok⟩ := hT.get ht
  have hv := zAd (zL hen z) hz
  obtain ⟨u1, u2⟩ := zB9 (w := w) (β := β) (G := ⟨H, L, F⟩) zs hu
  have hp := zL hen y
  rw [hy] at hp
  obtain ⟨cs, c1, c2, hpos, c3⟩ := zGz hS hi hr0
  generalize hvy : a.eval y = vy at hp
  cases hp with | el _ _ _ ad len' c hs hlt =>
  cases hs with | sl _ _ _ _ _ _ _ hvv =>
  have hle := (hvv _ _ _ _ hi hn).le
  obtain ⟨ao, cap, hq, q2, q3, q4⟩ := (hvv _ _ _ _ hi hn).val
  simp only [Value.slice.injEq] at hq
  obtain ⟨hao, rfl, rfl⟩ := hq
  have hao2 := q4 (by omega)
  rw [← hao] at hao2
  obtain rfl := Option.some.inj hao2
  have hkl : st + idx < rows.length := (List.getElem?_eq_some_iff.1 hr).1
  have hre : (cellsOf r).length = e := c3.size r (List.mem_of_getElem? hr)
  have hbound : (st + idx) * e + e ≤ rows.length * e := by
   have : (st + idx + 1) * e ≤ rows.length * e := Nat.mul_le_mul_right _ (by omega)
   rw [Nat.add_mul, Nat.one_mul] at this; omega
  have hvl : (a.eval z).cells.toList.length = ns.length := by rw [hv.1, u1]
  have hadd : (⟨β (.o i), st * e, none⟩ : Addr).add (idx * e + off) = ⟨β (.o i), (st + idx) * e + off, none⟩ := by rw [Addr.add_lit, Nat.add_mul, Nat.add_assoc]
  rw [hadd] at hvy
  have hvs : (a.eval z).cells.size = ti.size := by rw [← hl, ← hvl]; simp
  have hrep : ∀ (j : Nat) (x : AV) (v : Value), ns[j]? = some x → (a.eval z).cells.toList[j]? = some v → RepA w (Free β ⟨H, L, F⟩) x v := fun j x v hx hv' => by
   obtain ⟨q, hq1, hq2⟩ := u2 j x hx
   exact hq2 v (hv.2 j q v hq1 hv')
  have hrun := zAn (w := w) (off := (st + idx) * e + off) ok c1 (v := a.eval z) hvs (by omega) (fun c hc => by
   obtain ⟨j, hj⟩ := List.getElem?_of_mem hc
   have hlt : j < ns.length := by rw [← hvl]; exact (List.getElem?_eq_some_iff.1 hj).1
   exact zQp (hrep j _ c (List.getElem?_eq_getElem hlt) hj) (hcl _ (List.getElem_mem hlt)))
  have hblk := setRow_heap w (β (.o i)) cs (cs.toList.take ((st + idx) * e + off) ++ (a.eval z).cells.toList ++ cs.toList.drop ((st + idx) * e + off + (a.eval z).cells.toList.length)).toArray Ty (0, 0) c1
  have hlen : (cs.toList.take ((st + idx) * e + off) ++ (a.eval z).cells.toList ++ cs.toList.drop ((st + idx) * e + off + (a.eval z).cells.toList.length)).length = cs.size := by
   simp only [List.length_append, List.length_take, List.length_drop, Array.length_toList, hvl]; omega
  refine ⟨undef, w.setRow (β (.o i)) (cs.toList.take ((st + idx) * e + off) ++ (a.eval z).cells.toList ++ cs.toList.drop ((st + idx) * e + off + (a.eval z).cells.toList.length)).toArray, .inr ⟨by simp only [execOp, ho, Instr.storeAt, Instr.sureAddr, hvy, Sem.run_bind, Sem.run_pure, Result.andThen_ok]; rw [hrun]; rfl, rfl⟩, rfl, rfl, rfl, by simp, fun b hb => setRow_other w _ b _ hb, ?_, fun hst => ⟨?_, .p (.top _)⟩⟩
  ·refine ⟨rfl, rfl, rfl, by simp, fun _ _ => ⟨rfl, ?_⟩⟩
   unfold csize
   rw [hblk, c1]
   simpa using hlen
  ·refine yX (w := w) (N := Free β ⟨H, L, F⟩) hblk hpos ?_ (fun x v h => h.mono hst.size hst.frame)
   have hrc : cellsOf (rowSet r off ns) = (cellsOf r).take off ++ (ns ++ (cellsOf r).drop (off + ns.length)) := zFd (by omega) fun hne => ⟨hag hne, fun y hy cs e => by have := hcl y hy; rw [e] at this; simp [cl] at this⟩
   have hrl : (cellsOf (rowSet r off ns)).length = e := by rw [hrc]; simp; omega
   refine ⟨fun q hq => ?_, by rw [List.length_set, List.toList_toArray, List.length_take, hlen]; omega, fun p q rr x hp hq => ?_⟩
   ·rcases List.mem_or_eq_of_mem_set hq with h | h
    ·exact c3.size q h
    ·rw [h]; exact hrl
   ·rw [List.length_set, List.toList_toArray]
    have hpl : p < rows.length := by simpa using (List.getElem?_eq_some_iff.1 hp).1
    have hql : q < e := by
     rcases List.mem_or_eq_of_mem_set (List.mem_of_getElem? hp) with h | h
     ·rw [← c3.size rr h]; exact (List.getElem?_eq_some_iff.1 hq).1
     ·rw [h, ] at hq; rw [← hrl]; exact (List.getElem?_eq_some_iff.1 hq).1
    have hlt : p * e + q < rows.length * e := by
     have : (p + 1) * e ≤ rows.length * e := Nat.mul_le_mul_right _ (by omega)
     rw [Nat.add_mul, Nat.one_mul] at this; omega
    rw [List.getElem?_take, if_pos hlt, zCq _ _ _ (by rw [hvl]; simp; omega), hvl]
    by_cases hpe : p = st + idx
    ·subst hpe
     rw [List.getElem?_set_self (by omega)] at hp
     obtain rfl := Option.some.inj hp
     rw [hrc] at hq
     by_cases h1 : q < off
     ·rw [if_pos (by omega)]
      rw [List.getElem?_append_left (by simp; omega), List.getElem?_take, if_pos h1] at hq
      obtain ⟨u, hu, hr'⟩ := c3.cell (st + idx) q r x hr hq
      rw [List.getElem?_take, if_pos hlt] at hu
      exact ⟨u, hu, hr'⟩
     ·rw [if_neg (by omega)]
      rw [List.getElem?_append_right (by simp; omega)] at hq
      simp only [List.length_take, Nat.min_eq_left (show off ≤ (cellsOf r).length by omega)] at hq
      by_cases h2 : q < off + ns.length
      ·rw [if_pos (by omega)]
       rw [List.getElem?_append_left (by omega)] at hq
       have hj : (st + idx) * e + q - ((st + idx) * e + off) = q - off := by omega
       rw [hj]
       have hvlt : q - off < (a.eval z).cells.toList.length := by omega
       exact ⟨_, List.getElem?_eq_getElem hvlt, hrep _ _ _ hq (List.getElem?_eq_getElem hvlt)⟩
      ·rw [if_neg (by omega)]
       rw [List.getElem?_append_right (by omega), List.getElem?_drop, show off + ns.length + (q - off - ns.length) = q by omega] at hq
       obtain ⟨u, hu, hr'⟩ := c3.cell (st + idx) q r x hr hq
       rw [List.getElem?_take, if_pos hlt] at hu
       exact ⟨u, hu, hr'⟩
    ·rw [List.getElem?_set_ne (fun e => hpe e.symm)] at hp
     obtain ⟨u, hu, hr'⟩ := c3.cell p q rr x hp hq
     rw [List.getElem?_take, if_pos hlt] at hu
     refine ⟨u, ?_, hr'⟩
     rcases Nat.lt_or_gt_of_ne hpe with h | h
     ·have : (p + 1) * e ≤ (st + idx) * e := Nat.mul_le_mul_right _ (by omega)
      rw [Nat.add_mul, Nat.one_mul] at this
      rw [if_pos (by omega)]; exact hu
     ·have : (st + idx + 1) * e ≤ p * e := Nat.mul_le_mul_right _ (by omega)
      rw [Nat.add_mul, Nat.one_mul] at this
      rw [if_neg (by omega), if_neg (by omega)]; exact hu
end
end Go.Awp
namespace Go.Proofs.YtdnpkgakpiopgaaGreatDoor
set_option maxRecDepth 20000
open Go.Awp Tr
theorem cb_lt : ∀ a b : List UInt8, decide (Lib.compareBytes a b < 0) = Op.bytesLess a b
 | [], [] => rfl
 | [], _ :: _ => rfl
 | _ :: _, [] => rfl
 | x :: a, y :: b => by
  unfold Lib.compareBytes Op.bytesLess
  by_cases h : x < y
  ·simp [h]
  ·rw [if_neg h]
   by_cases g : y < x
   ·rw [if_pos g]
    have hne : (x == y) = false := by
     rw [beq_eq_false_iff_ne]
     intro e; subst e; exact h g
    simp [h, hne]
   ·rw [if_neg g, cb_lt a b]
    have e : x = y := by
     rcases Nat.lt_trichotomy x.toNat y.toNat with k | k | k
     ·exact absurd (UInt8.lt_iff_toNat_lt.2 k) h
     ·exact UInt8.toNat_inj.1 k
     ·exact absurd (UInt8.lt_iff_toNat_lt.2 k) g
    subst e
    simp [h]
theorem cmp_run {P : Program} {a b : List UInt8} (w : World) (β : Hd → Nat) (G : Hp) (vs : List Value) (h : RepL w β G [.p (.str a), .p (.str b)] vs) : ∃ v, (Extern.BytealgCompare.compare vs.toArray).run P w = .ok v w ∧ RepT w β G (.p (.int .i64 (Lib.compareBytes a b))) v := by
 obtain ⟨hl, hr⟩ := h
 match vs, hl with
 | [v1, v2], _ =>
  have h1 := hr 0 _ v1 rfl rfl
  have h2 := hr 1 _ v2 rfl rfl
  cases h1 with | p h1 => cases h1; cases h2 with | p h2 => cases h2; exact ⟨_, Lib.run_compareString _ _ w, .p (.int ..)⟩
theorem zU8 (a b : List UInt8) : Con Tryz.prog 139 [.p (.str a), .p (.str b)] [] (.p (.int .i64 (Lib.compareBytes a b))) [] [] := by
 have hr := fun (w : World) (β : Hd → Nat) (G : Hp) (vs : List Value) => @cmp_run Tryz.prog a b w β G vs
 generalize Lib.compareBytes a b = z at hr
 refine zD Tryz.func139 rfl (by kernel_rfl) rfl fun F w0 β0 => ?_
 refine zE rfl ?_
 iterate 9 (refine g1 ?_)
 refine zH rfl rfl (zIt (e := Extern.BytealgCompare.compare) rfl rfl rfl Tryz.func176 (by kernel_rfl) (by kernel_rfl) (by kernel_rfl) (by kernel_rfl) hr) rfl ?_
 refine go ?_
 exact zC hT rfl rfl rfl
theorem zVp (a b : List UInt8) : Con Tryz.prog 93 [.p (.str a), .p (.str b)] [] (.p (.int .i64 (Lib.compareBytes a b))) [] [] := by
 have c1 := zU8 a b
 generalize Lib.compareBytes a b = z at c1
 refine zD Tryz.func93 rfl (by kernel_rfl) rfl fun F w0 β0 => ?_
 refine zE rfl ?_
 refine go ?_
 refine zH rfl rfl (zB rfl rfl (c1) rfl rfl rfl rfl) rfl ?_
 refine go ?_
 exact zC hT rfl rfl rfl
abbrev thgA (x : Thg) : AV := .agg [.str x.1, .bool x.2.1, .str x.2.2]
abbrev thgP (x : Thg) : TV := .p (thgA x)
def sH (l : List Thg) : List AObj := [.arr 113 true 3 (l.map thgA)]
abbrev sP (n : Nat) : TV := .sl (.o 0) n 0 n
abbrev cmpP : TV := .fn 92 []
abbrev nP (n : Nat) : TV := .p (.int .i64 (n : Int))
theorem zEb (x y : Thg) : Con Tryz.prog 92 [thgP x, thgP y] [] (.p (.int .i64 (Lib.compareBytes x.1 y.1))) [] [] := by
 have c1 := zVp x.1 y.1
 generalize Lib.compareBytes x.1 y.1 = z at c1
 refine zD Tryz.func92 rfl (by kernel_rfl) rfl fun F w0 β0 => ?_
 refine zE rfl ?_
 refine go ?_
 refine zH rfl rfl (zB rfl rfl (c1) rfl rfl rfl rfl) rfl ?_
 refine go ?_
 exact zC hT rfl rfl rfl
theorem zAi {L : List AObj} {l : List Thg} {n : Nat} (h : l.length = n) : Rd (sH l) L (sP n) (l.map thgA) := by
 have e : l.map thgA = ((l.map thgA).drop 0).take n := by rw [List.drop_zero, List.take_of_length_le (by rw [List.length_map]; omega)]
 rw [e]
 exact .sl rfl (by rw [List.length_map]; exact h)
theorem zK2 {l : List Thg} {j : Int} {i : Nat} {x : Thg} (hj : j = (i : Int)) (hx : l[i]? = some x) : (l.map thgA)[j.toNat]? = some (thgA x) := by
 rw [hj, Int.toNat_natCast, List.getElem?_map, hx]; rfl
theorem zEj {j : Int} {i : Nat} (hj : j = (i : Int)) : 0 ≤ j := by omega
theorem zEk {l : List Thg} {j : Int} {i : Nat} (hj : j = (i : Int)) (h : i < l.length) : j < ((l.map thgA).length : Int) := by rw [List.length_map]; omega
theorem qP {P : Program} {T : Tab} {env : Env} {L : List AObj} {o : Oper} {t : TypeId} {y z : Operand} {n i : Nat} {l : List Thg} {j : Int} {v : Thg} {zs : List TV} {ti : TyI} (hT : TabOk P T) (ho : o.op = .store t y z) (hy : evA env y = .el (sP n) 3 j.toNat 0) (ht : tlk T t = some ti) (hsz : Nat.beq ti.size 3 = true) (hz : tcells (evA env z) = some zs) (hu : unpL zs = some [.str v.1, .bool v.2.1, .str v.2.2])
  (hj : j = (i : Int)) (hn : l.length = n) (hi : i < l.length) : OpR P o env (sH l) L (.p .top) (sH (l.set i v)) L := by
 have e : sH (l.set i v) = (sH l).set 0 (.arr 113 true 3 ((l.map thgA).set (0 + j.toNat) (rowSet (thgA l[i]) 0 [.str v.1, .bool v.2.1, .str v.2.2]))) := by
  unfold sH
  rw [hj, Int.toNat_natCast, Nat.zero_add, List.map_set]
  rfl
 rw [e]
 refine zMe hT ho hy (i := 0) rfl (by rw [List.length_map]; exact hn) ht hz hu ?_ (by rw [Nat.eq_of_beq_eq_true hsz]; rfl) (by simp) (by simp [cl]) (fun h => absurd rfl (h _))
 rw [Nat.zero_add]
 exact zK2 hj (List.getElem?_eq_getElem hi)
theorem zI7 {l : List Thg} {i j : Nat} {x y : Thg} (hx : l[i]? = some x) (hy : l[j]? = some y) : swpS l i j = (l.set i y).set j x := by
 unfold swpS
 rw [hx, hy]
theorem zQl {l : List Thg} {i j : Nat} {x y : Thg} (hx : l[i]? = some x) (hy : l[j]? = some y) : ltS ltT l i j = decide (Lib.compareBytes x.1 y.1 < 0) := by
 unfold ltS
 rw [hx, hy]
 have e := cb_lt x.1 y.1
 show decide (lt x.1 y.1) = _
 rw [Bool.eq_iff_iff, decide_eq_true_eq, e]
 rfl
end Go.Proofs.YtdnpkgakpiopgaaGreatDoor

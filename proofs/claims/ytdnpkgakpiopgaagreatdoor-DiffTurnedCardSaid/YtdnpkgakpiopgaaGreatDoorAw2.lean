import Derived.Test.YtdnpkgakpiopgaaGreatDoorAw1
import Derived.Laws.IdiomStrings
import Derived.Laws.BytesArg
import Derived.WalkKit
import Derived.ProofKit
import Derived.OpenShut
import Derived.ShutString
import Derived.ChangeOld
import Derived.Below
import Derived.SizedLaws
import Derived.Deep.AppendSrc
import Derived.Room.Entries
import Derived.Laws.StructEq
import Derived.Laws.OwnMore
import Derived.Laws.Concat
import Derived.Orders
import Derived.Lib.SmallJoins
namespace Go.Awp
open Go.RowKit
def noF : Nat → Prop := fun _ => False
inductive Rd (H L : List AObj) : TV → List AV → Prop
 | ps (rows) : Rd H L (.p (.ps rows)) rows
 | nils : Rd H L (.p .nils) []
 | cz : Rd H L (.p .cz) []
 | sl {h n st len Ty b e rs} (hg : (⟨H, L, noF⟩ : Hp).get h = some (.arr Ty b e rs)) (hn : rs.length = n) : Rd H L (.sl h n st len) ((rs.drop st).take len)
section
variable {w : World} {β : Hd → Nat} {H L : List AObj} {F : Nat → Prop}
structure Rows (w : World) (N : Nat → Prop) (a : Addr) (e : Nat) (rows : List AV) : Prop where
 size : ∀ r ∈ rows, (cellsOf r).length = e
 cell : ∀ (i j : Nat) (r x : AV), rows[i]? = some r → (cellsOf r)[j]? = some x → ∃ u, w.cell? (a.add (i * e + j)) = some u ∧ RepA w N x u
theorem Rd.val (hS : Sim w β ⟨H, L, F⟩) {s : TV} {v : Value} {rows : List AV} (h : RepT w β ⟨H, L, F⟩ s v) (hr : Rd H L s rows) :
  ∃ ao c, v = .slice ao rows.length c ∧ rows.length ≤ c ∧ (rows = [] ∨ ∃ a e, ao = some a ∧ Rows w (Free β ⟨H, L, F⟩) a e rows) := by
 cases hr with
 | ps =>
  cases h with | p h =>
  cases h with
  | psE ao c => exact ⟨ao, c, rfl, Nat.zero_le _, .inl rfl⟩
  | ps _ a c e vs hN hb he hc hr hlc => exact ⟨_, c, rfl, hlc, .inr ⟨a, e, rfl, he, fun i j r x h1 h2 => ⟨vs i j, hc i j (List.getElem?_eq_some_iff.1 h1).1 (by
    have hm := he r (List.mem_of_getElem? h1)
    rw [← hm]; exact (List.getElem?_eq_some_iff.1 h2).1), hr i j r x h1 h2⟩⟩⟩
 | nils => cases h with | p h => cases h; exact ⟨none, 0, rfl, Nat.zero_le _, .inl rfl⟩
 | cz => cases h with | p h => cases h with | cz ao => exact ⟨ao, 0, rfl, Nat.zero_le _, .inl rfl⟩
 | @sl hd n st len Ty b e rs hg hn =>
  have hg' : (⟨H, L, F⟩ : Hp).get hd = some (.arr Ty b e rs) := by cases hd <;> exact hg
  cases h with | sl _ _ _ _ _ _ _ hv =>
  have hsl := hv _ _ _ _ hg' hn
  have h1 := hsl.le
  obtain ⟨ao, cap, rfl, h2, h3, h4⟩ := hsl.val
  have hlen : ((rs.drop st).take len).length = len := by simp; omega
  refine ⟨ao, cap, by rw [hlen], by rw [hlen]; exact h2, ?_⟩
  by_cases h0 : len = 0
  ·subst h0; exact .inl (by simp)
  ·obtain ⟨cs, fr, g1, g2, g3, g4, g5, g6, g7⟩ := (hS.objs hd _ hg').2 (AObj.off_arr.2 fun _ => by omega)
   refine .inr ⟨_, e, h4 (by omega), fun r hr => g6 r (List.mem_of_mem_drop (List.mem_of_mem_take hr)), fun i j r x hi hj => ?_⟩
   rw [List.getElem?_take] at hi
   split at hi
   ·rw [List.getElem?_drop] at hi
    obtain ⟨u, hu, hr⟩ := g7 (st + i) j r x hi hj
    refine ⟨u, ?_, hr⟩
    rw [Addr.add_lit, cell_of_row _ _ _ _ _ _ g1, show st * e + (i * e + j) = (st + i) * e + j by rw [Nat.add_mul]; omega]
    exact hu
   ·cases hi
end
section
variable {P : Program} {T : Tab} {env : Env} {H L : List AObj} {o : Oper} {x : TV}
theorem zP {t : TypeId} {y : Operand} {rows : List AV} {e : Nat} (hT : TabOk P T) (ho : o.op = .call { callee := .builtin .len, args := #[y], argTypes := #[t] }) (hd : tyD T t = .slice e) (hr : Rd H L (evA env y) rows) : OpR P o env H L (.p (.int .i64 rows.length)) H L :=
 zQ fun F w β a hS he => by
  obtain ⟨ao, c, hv, _, _⟩ := hr.val hS (zL he y)
  obtain ⟨u, h1, h2⟩ := zV hT (t := t) (by rw [hd]; simp)
  rw [hd] at h2
  obtain rfl := yB h2
  refine ⟨.int .i64 rows.length, ?_, .p (.int ..)⟩
  simp only [execOp, ho, resolve, invoke, builtin, Sem.run_bind, Sem.run_pure, Result.andThen_ok, List.map_toArray, List.map_cons, List.map_nil, hv]
  simp [Builtin.len_, run_underlying h1, goInt]
theorem zJ {t : TypeId} {y z : Operand} {rows : List AV} {e : Nat} {te : TyI} {s : TV} {k : IntKind} {j : Int} (hT : TabOk P T) (ho : o.op = .indexAddr t y z) (hs : evA env y = s) (hz : evA env z = .p (.int k j)) (hd : tyD T t = .slice e) (he : tlk T e = some te)
  (hr : Rd H L s rows) (h0 : 0 ≤ j) (hj : j < rows.length) : OpR P o env H L (.el s te.size j.toNat 0) H L :=
 zQ fun F w β a hS hen => by
  have hy := zL hen y
  have hzz := zL hen z
  rw [hz] at hzz
  rw [hs] at hy
  obtain ⟨ao, c, hv, _, hor⟩ := hr.val hS hy
  obtain ⟨u, h1, h2⟩ := zV hT (t := t) (by rw [hd]; simp)
  rw [hd] at h2
  obtain rfl := yB h2
  obtain ⟨inf, ue, ok⟩ := hT.get he
  rcases hor with rfl | ⟨ad, e', rfl, _⟩
  ·simp at hj; omega
  ·refine ⟨.pointer (some (ad.add (j.toNat * te.size))), ?_, ?_⟩
   ·have hc : 0 ≤ j ∧ j < rows.length := ⟨h0, hj⟩
    simp only [execOp, ho, hzz.int_inv, hv, Instr.indexAt, asIntOf, Sem.run_bind, Sem.run_pure, run_underlying h1, Result.andThen_ok]
    simp [hc, ok.run_size]
   ·rw [hv] at hy
    exact .el _ _ _ _ _ _ hy (by omega)
theorem zI {t : TypeId} {y : Operand} {s : TV} {e i off : Nat} {rows : List AV} {r : AV} (hT : TabOk P T) (ho : o.op = .load t y) (hy : evA env y = .el s e i off) (hr : Rd H L s rows) (hi : rows[i]? = some r) (he : (cellsOf r).length = e)
  (hl : loadC T t (((cellsOf r).drop off).map .p) = some x) : OpR P o env H L x H L :=
 zQ fun F w β a hS hen => by
  have h := zL hen y
  rw [hy] at h
  generalize hv : a.eval y = v at h
  cases h with | el _ _ _ ad len c hs hlt =>
  obtain ⟨ao, c', h1, _, hor⟩ := hr.val hS hs
  simp only [Value.slice.injEq] at h1
  obtain ⟨rfl, rfl, rfl⟩ := h1
  rcases hor with rfl | ⟨a', e', h2, hrow⟩
  ·simp at hlt
  ·obtain rfl := Option.some.inj h2
   have hee : e' = e := by rw [← he]; exact (hrow.size r (List.mem_of_getElem? hi)).symm
   subst hee
   have hc : Cells w β ⟨H, L, F⟩ (ad.add (i * e' + off)) (((cellsOf r).drop off).map .p) := by
    intro j z hz
    simp only [List.getElem?_map, Option.map_eq_some_iff, List.getElem?_drop] at hz
    obtain ⟨q, hq, rfl⟩ := hz
    obtain ⟨u, hu, hru⟩ := hrow.cell i (off + j) r q hi hq
    exact ⟨u, by rw [zBw, Nat.add_assoc]; exact hu, .p hru⟩
   obtain ⟨u, hu, hru⟩ := zFs (P := P) hT hc hl
   exact ⟨u, by simp [execOp, ho, Instr.loadAt, Instr.sureAddr, hv, hu], hru⟩
theorem j2 {t : TypeId} {y z : Operand} {l : List UInt8} {k : IntKind} {j : Int} {b : UInt8} (hT : TabOk P T) (ho : o.op = .index t y z) (hy : evA env y = .p (.str l)) (hz : evA env z = .p (.int k j)) (hd : tyD T t = .str) (h0 : 0 ≤ j) (hj : l[j.toNat]? = some b) : OpR P o env H L (.p (.int .u8 b.toNat)) H L :=
 zQ fun F w β a hS hen => by
  have h1 := zL hen y
  have h2 := zL hen z
  rw [hy] at h1
  rw [hz] at h2
  obtain ⟨u, h3, h4⟩ := zV hT (t := t) (by rw [hd]; simp)
  rw [hd] at h4
  obtain rfl := qZ h4
  refine ⟨.int .u8 b.toNat, ?_, .p (.int ..)⟩
  have hlt : j.toNat < l.length := (List.getElem?_eq_some_iff.1 hj).1
  have hb : (⟨l.toArray⟩ : ByteArray)[j.toNat]? = some b := by
   rw [ByteArray.getElem?_lt' _ _ (by simpa [ByteArray.size] using hlt)]
   congr 1
   obtain ⟨_, hg⟩ := List.getElem?_eq_some_iff.1 hj
   exact hg
  simp [execOp, ho, h1.str_inv, h2.int_inv, Instr.index, asIntOf, run_underlying h3, h0, hb]
def loA (env : Env) : Option Operand → Option Int
 | none => some 0
 | some y => match evA env y with
  | .p (.int _ n) => some n
  | _ => none
def hiA (env : Env) (len : Int) : Option Operand → Option Int
 | none => some len
 | some y => match evA env y with
  | .p (.int _ n) => some n
  | _ => none
theorem zHq {w : World} {β : Hd → Nat} {G : Hp} {a : Act} (he : EnvR w β G env a) {lo hi : Option Operand} {l h : Int} {b : Bool} {len cap : Nat} (hl : loA env lo = some l) (hh : hiA env len hi = some h) (h0 : 0 ≤ l) (h1 : l ≤ h) (h2 : h ≤ cap) :
  (Instr.sliceBounds b len cap (lo.map a.eval) (hi.map a.eval) none).run P w = .ok (l.toNat, h.toNat, cap) w := by
 have hhn : (h.toNat : Int) = h := Int.toNat_of_nonneg (by omega)
 cases hi with
 | none =>
  simp only [hiA, Option.some.injEq] at hh
  subst hh
  cases lo with
  | none =>
   simp only [loA, Option.some.injEq] at hl
   subst hl
   simp [Instr.sliceBounds]
  | some y =>
   simp only [loA] at hl
   split at hl
   ·rename_i k n hy
    obtain rfl := Option.some.inj hl
    have hv := zL he y
    rw [hy] at hv
    simp [Instr.sliceBounds, hv.int_inv, run_sliceBound, h0, h1]
   ·cases hl
 | some z =>
  simp only [hiA] at hh
  split at hh
  ·rename_i k' m hz
   obtain rfl := Option.some.inj hh
   have hvz := zL he z
   rw [hz] at hvz
   have hm : 0 ≤ m := by omega
   cases lo with
   | none =>
    simp only [loA, Option.some.injEq] at hl
    subst hl
    simp [Instr.sliceBounds, hvz.int_inv, run_sliceBound, hm, h2]
   | some y =>
    simp only [loA] at hl
    split at hl
    ·rename_i k n hy
     obtain rfl := Option.some.inj hl
     have hv := zL he y
     rw [hy] at hv
     simp [Instr.sliceBounds, hv.int_inv, hvz.int_inv, run_sliceBound, hm, h0, h1, h2, hhn]
    ·cases hl
  ·cases hh
theorem zBi {t : TypeId} {y : Operand} {lo hi : Option Operand} {l : List UInt8} {i j : Int} (hT : TabOk P T) (ho : o.op = .slice t y lo hi none) (hy : evA env y = .p (.str l)) (hd : tyD T t = .str) (hl : loA env lo = some i) (hh : hiA env l.length hi = some j)
  (h0 : 0 ≤ i) (h1 : i ≤ j) (h2 : j ≤ l.length) : OpR P o env H L (.p (.str ((l.drop i.toNat).take (j.toNat - i.toNat)))) H L :=
 zQ fun F w β a hS hen => by
  have hv := zL hen y
  rw [hy] at hv
  obtain ⟨u, h3, h4⟩ := zV hT (t := t) (by rw [hd]; simp)
  rw [hd] at h4
  obtain rfl := qZ h4
  have hsz : (⟨l.toArray⟩ : ByteArray).size = l.length := by simp [ByteArray.size]
  have hb := zHq (P := P) (w := w) hen (b := false) (len := l.length) (cap := l.length) hl hh h0 h1 h2
  refine ⟨.string ((⟨l.toArray⟩ : ByteArray).extract i.toNat j.toNat), ?_, by rw [ByteArray.extract_mk]; exact .p (.str _)⟩
  simp only [execOp, ho, hv.str_inv, Instr.sliceAt, Sem.run_bind, run_underlying h3, Result.andThen_ok, Instr.slice, Option.map_none, Option.isSome_none, Bool.false_eq_true, if_false, hsz, hb, Sem.run_pure]
def cutA (i j : Nat) : TV → TV
 | .p (.ps rows) => .p (.ps ((rows.drop i).take (j - i)))
 | .sl h n st _ => .sl h n (st + i) (j - i)
 | _ => .p (.ps [])
theorem y9 {t : TypeId} {y : Operand} {lo hi : Option Operand} {rows : List AV} {e : Nat} {te : TyI} {s : TV} {i j : Int} (hT : TabOk P T) (ho : o.op = .slice t y lo hi none) (hy : evA env y = s) (hd : tyD T t = .slice e) (hte : tlk T e = some te) (hr : Rd H L s rows) (hl : loA env lo = some i) (hh : hiA env rows.length hi = some j)
  (h0 : 0 ≤ i) (h1 : i ≤ j) (h2 : j ≤ rows.length) (hE : ∀ r ∈ rows, (cellsOf r).length = te.size) : OpR P o env H L (cutA i.toNat j.toNat s) H L :=
 zQ fun F w β a hS hen => by
  have hv := zL hen y
  rw [hy] at hv
  obtain ⟨u, h3, h4⟩ := zV hT (t := t) (by rw [hd]; simp)
  rw [hd] at h4
  obtain rfl := yB h4
  obtain ⟨inf, ue, ok⟩ := hT.get hte
  obtain ⟨ao, c, hval, hlc, _⟩ := hr.val hS hv
  have hb := zHq (P := P) (w := w) hen (b := true) (len := rows.length) (cap := c) hl hh h0 h1 (by omega)
  have hrun : (execOp a.eval o).run P w = .ok (.value (.slice (if c = i.toNat then ao else ao.map (·.add (i.toNat * te.size))) (j.toNat - i.toNat) (c - i.toNat))) w := by
   simp only [execOp, ho, hval, Instr.sliceAt, Sem.run_bind, run_underlying h3, Result.andThen_ok, Instr.slice, Option.map_none, hb, ok.run_size, Sem.run_pure]
  refine ⟨_, hrun, ?_⟩
  have hlen : ((rows.drop i.toNat).take (j.toNat - i.toNat)).length = j.toNat - i.toNat := by simp; omega
  cases hr with
  | ps =>
   simp only [cutA]
   rw [hval] at hv
   by_cases h0' : j.toNat - i.toNat = 0
   ·rw [h0']; simpa using RepT.p (RepA.psE ..)
   ·have hne : c ≠ i.toNat := by omega
    rw [if_neg hne]
    cases hv with | p hv =>
    generalize hq : rows.length = q at hv
    cases hv with
    | psE => simp at h2 hq; omega
    | ps _ ad _ e' vs hN hbk he hc hrr hlcc =>
     have he' : e' = te.size := by
      have hm : rows[0]'(by omega) ∈ rows := List.getElem_mem _
      rw [← he _ hm, hE _ hm]
     subst he'
     have key := RepA.ps (w := w) (N := Free β ⟨H, L, F⟩) ((rows.drop i.toNat).take (j.toNat - i.toNat)) (ad.add (i.toNat * te.size)) (c - i.toNat) te.size (fun p q => vs (i.toNat + p) q) (by rw [jU]; exact hN) (by rw [jU]; exact hbk)
      (fun r hr => he r (List.mem_of_mem_drop (List.mem_of_mem_take hr)))
      (fun p q hp hq => by
       rw [hlen] at hp
       rw [zBw, show i.toNat * te.size + (p * te.size + q) = (i.toNat + p) * te.size + q by rw [Nat.add_mul]; omega]
       exact hc _ _ (by omega) hq)
      (fun p q r x hp hq => by
       rw [List.getElem?_take] at hp
       split at hp
       ·rw [List.getElem?_drop] at hp; exact hrr _ q r x hp hq
       ·cases hp) (by rw [hlen]; omega)
     rw [hlen] at key
     exact .p key
  | nils =>
   have h2' : j ≤ 0 := by simpa using h2
   have hz : j.toNat - i.toNat = 0 := by omega
   rw [hz]; exact .p (.psE ..)
  | cz =>
   have h2' : j ≤ 0 := by simpa using h2
   have hz : j.toNat - i.toNat = 0 := by omega
   rw [hz]; exact .p (.psE ..)
  | @sl hd n st len Ty b e' rs hg hn =>
   have hg' : (⟨H, L, F⟩ : Hp).get hd = some (.arr Ty b e' rs) := by cases hd <;> exact hg
   simp only [cutA]
   rw [hval] at hv
   cases hv with | sl _ _ _ _ _ g1 gl gv =>
   refine .sl _ _ _ _ _ rfl gl fun T' b' e'' rows' hr' hl' => ?_
   have hsl := gv T' b' e'' rows' hr' hl'
   have q1 := hsl.le
   rw [hg'] at hr'
   simp only [Option.some.injEq, AObj.arr.injEq] at hr'
   obtain ⟨rfl, rfl, rfl, rfl⟩ := hr'
   have hlt := List.length_take_le len (rs.drop st)
   refine ⟨by omega, fun hb0 hn0 => ?_, fun hon => ?_⟩
   ·obtain ⟨ao', hq⟩ := hsl.off hb0 hn0
    simp only [Value.slice.injEq] at hq
    obtain ⟨rfl, hq2, rfl⟩ := hq
    rw [hq2] at h2
    exact ⟨_, by rw [show j.toNat - i.toNat = 0 by omega, show 0 - i.toNat = 0 by omega]⟩
   obtain ⟨ao', cap, hq, q2, q3, q4, q5⟩ := hsl.on hon
   simp only [Value.slice.injEq] at hq
   obtain ⟨rfl, hq2, rfl⟩ := hq
   rw [hq2] at h2 hlc
   obtain ⟨cs, fr, o1, o2, o3, o4, o5, o6, o7⟩ := (hS.objs hd _ hg').2 (AObj.off_arr.2 fun hb => by rw [hn]; exact hon hb)
   refine ⟨_, _, rfl, by omega, by omega, fun hor => ?_, fun hb0 hs0 hl0 => ?_⟩
   ·by_cases hst : st + i.toNat = 0
    ·have e1 : st = 0 := by omega
     have e2 : i.toNat = 0 := by omega
     rw [q4 (.inl e1), e1, e2]
     simp
     intro _
     rfl
    ·have hpos : 0 < j.toNat - i.toNat := by rcases hor with h | h <;> omega
     rw [if_neg (by omega), q4 (.inr (by omega))]
     have hee : e' = te.size := by
      have hm : rs[st]'(by omega) ∈ rs := List.getElem_mem _
      have hm2 : rs[st]'(by omega) ∈ (rs.drop st).take len := by
       rw [List.mem_iff_getElem?]
       exact ⟨0, by rw [List.getElem?_take, if_pos (by omega), List.getElem?_drop, Nat.add_zero, List.getElem?_eq_getElem]⟩
      rw [← o6 _ hm, hE _ hm2]
     subst hee
     rw [Option.map_some, Nat.add_mul, Addr.add_lit]
   ·have e1 : st = 0 := by omega
    have e2 : i.toNat = 0 := by omega
    rw [e2, Nat.sub_zero]
    exact q5 hb0 e1 (by omega)
end
end Go.Awp
namespace Go.Awp
open Go.RowKit Go.ChangeShapes Go.WideShapes Go.ChangeAt
open Go.ChangeMaps (open_string shut_string)
def reach : Nat := 140737488351232
def fieldsG (g : Nat → Option (List Nat)) : Nat → List (Nat × Nat) → Option (List Nat)
 | _, [] => some []
 | off, (o, t) :: r => match Nat.beq off o with
  | true => match g t with
   | some l => (fieldsG g (off + l.length) r).map (l ++ ·)
   | none => none
  | false => none
def arrF (e sz : Nat) : Nat → Nat → List (Nat × Nat)
 | 0, _ => []
 | n + 1, off => (off, e) :: arrF e sz n (off + sz)
def szD (T : Tab) (t : Nat) : Nat := match tlk T t with
 | some i => i.size
 | none => 0
def okLen (n : Nat) : Option (List Nat) → Option (List Nat)
 | some l => match Nat.beq l.length n with
  | true => some l
  | false => none
 | none => none
def leaves (T : Tab) : Nat → Nat → Option (List Nat)
 | 0, _ => none
 | f + 1, t => match tlk T t with
  | none => none
  | some i => match i.d with
   | .bool => some [t]
   | .int _ => some [t]
   | .str => some [t]
   | .slice _ => some [t]
   | .array n e => okLen i.size (fieldsG (leaves T f) 0 (arrF e (szD T e) n 0))
   | .struct fs => okLen i.size (fieldsG (leaves T f) 0 fs)
   | _ => none
def All2 (R : Nat → AV → Prop) : List Nat → List AV → Prop
 | [], [] => True
 | u :: us, x :: xs => R u x ∧ All2 R us xs
 | _, _ => False
def Shp (T : Tab) : Nat → Nat → AV → Prop
 | 0, _, _ => False
 | f + 1, t, x => match tyD T t with
  | .bool => ∃ b, x = .bool b
  | .int k => ∃ n, x = .int k n ∧ k.min ≤ n ∧ n ≤ k.max
  | .str => ∃ l : List UInt8, x = .str l ∧ l.length ≤ reach
  | .slice e => x = .nils ∨ ∃ rows te ls, x = .ps rows ∧ tlk T e = some te ∧ leaves T f e = some ls ∧ rows.length * te.bytes ≤ reach ∧
    ∀ r ∈ rows, All2 (Shp T f) ls (cellsOf r) ∧ (∀ y, isAggD te.d = some false → cellsOf r = [y] → r = y) ∧ (isAggD te.d = some true → ∃ cs, r = .agg cs)
  | _ => False
theorem build2 {R : Nat → AV → Prop} {Q : AV → Value → Prop} : ∀ {ls : List Nat} {cs : List Value}, cs.length = ls.length → (∀ (i : Nat) u v, ls[i]? = some u → cs[i]? = some v → ∃ x, R u x ∧ Q x v) →
  ∃ xs : List AV, All2 R ls xs ∧ xs.length = cs.length ∧ ∀ (i : Nat) x v, xs[i]? = some x → cs[i]? = some v → Q x v
 | [], [], _, _ => ⟨[], trivial, rfl, fun i x v h => by simp at h⟩
 | u :: ls, v :: cs, hl, h => by
  obtain ⟨x, hx1, hx2⟩ := h 0 u v rfl rfl
  obtain ⟨xs, h1, h2, h3⟩ := build2 (R := R) (Q := Q) (ls := ls) (cs := cs) (by simpa using hl) fun i u v hu hv => h (i + 1) u v (by simpa using hu) (by simpa using hv)
  refine ⟨x :: xs, ⟨hx1, h1⟩, by simp [h2], fun i y w hy hw => ?_⟩
  cases i with
  | zero => simp at hy hw; subst hy hw; exact hx2
  | succ i => exact h3 i y w (by simpa using hy) (by simpa using hw)
 | [], _ :: _, hl, _ => by simp at hl
 | _ :: _, [], hl, _ => by simp at hl
theorem zF0 {α : Type} : ∀ {n : Nat} {Q : Nat → α → Prop}, (∀ i, i < n → ∃ r, Q i r) → ∃ rows : List α, rows.length = n ∧ ∀ (i : Nat) r, rows[i]? = some r → Q i r
 | 0, _, _ => ⟨[], rfl, fun i r h => by simp at h⟩
 | n + 1, Q, h => by
  obtain ⟨rows, h1, h2⟩ := zF0 (n := n) (Q := Q) fun i hi => h i (by omega)
  obtain ⟨r, hr⟩ := h n (by omega)
  refine ⟨rows ++ [r], by simp [h1], fun i y hy => ?_⟩
  rcases Nat.lt_trichotomy i n with hlt | heq | hgt
  ·rw [List.getElem?_append_left (by omega)] at hy; exact h2 i y hy
  ·subst heq
   rw [List.getElem?_append_right (by omega), h1, Nat.sub_self] at hy
   simp at hy; subst hy; exact hr
  ·rw [List.getElem?_eq_none (by simp; omega)] at hy; cases hy
section
variable {H : Type} {enc : TypeId × Value → H} {P : Program} {w : World} {sp : Nat → Bool} {held : Bool} {T : Tab} {N : Nat → Prop}
theorem zC8 (hT : TabOk P T) {t : Nat} {i : TyI} (h : tlk T t = some i) : P.cellsOf t = i.size := by
 obtain ⟨inf, u, ok⟩ := hT.get h
 simp [Program.cellsOf, ok.info, ok.size]
theorem zCp {n : Nat} {o : Option (List Nat)} {l : List Nat} (h : okLen n o = some l) : o = some l ∧ l.length = n := by
 unfold okLen at h
 split at h
 ·split at h
  ·rename_i e
   obtain rfl := Option.some.inj h
   exact ⟨rfl, Nat.eq_of_beq_eq_true e⟩
  ·cases h
 ·cases h
theorem zOx {e sz : Nat} : ∀ {n off o t : Nat}, (o, t) ∈ arrF e sz n off → t = e ∧ ∃ i, i < n ∧ o = off + i * sz
 | 0, _, _, _, h => by simp [arrF] at h
 | n + 1, off, o, t, h => by
  simp only [arrF, List.mem_cons, Prod.mk.injEq] at h
  rcases h with ⟨rfl, rfl⟩ | h
  ·exact ⟨rfl, 0, by omega, by simp⟩
  ·obtain ⟨h1, i, h2, rfl⟩ := zOx h
   exact ⟨h1, i + 1, by omega, by rw [Nat.add_mul]; omega⟩
def LeafOk (enc : TypeId × Value → H) (P : Program) (w : World) (sp : Nat → Bool) (held : Bool) (W : List Nat) (u : Nat) (v : Value) : Prop :=
 ∃ y n, DataW.trod enc P w 0 sp held n u [v] = some y ∧ ∀ k ∈ y.1.weights P u, k ∈ W
theorem zF4 {f : Nat} {cs : List Value} {W : List Nat} (hT : TabOk P T)
  (ih : ∀ {t : Nat} {ls : List Nat}, leaves T f t = some ls → ∀ (fuel : Nat) (cs : List Value) (x : DataW H × List MemPlace), DataW.trod enc P w 0 sp held fuel t cs = some x → cs.length = ls.length ∧ ∀ (i : Nat) u v, ls[i]? = some u → cs[i]? = some v → LeafOk enc P w sp held (x.1.weights P t) u v) :
  ∀ {fs : List (Nat × Nat)} {off : Nat} {ls : List Nat}, fieldsG (leaves T f) off fs = some ls →
   (∀ o t, (o, t) ∈ fs → ∃ n y, DataW.trod enc P w 0 sp held n t ((cs.drop o).take (P.cellsOf t)) = some y ∧ ∀ k ∈ y.1.weights P t, k ∈ W) →
   ∀ (i : Nat) u v, ls[i]? = some u → cs[off + i]? = some v → LeafOk enc P w sp held W u v
 | [], off, ls, h, _ => by
  simp only [fieldsG, Option.some.injEq] at h
  subst h
  intro i u v hu
  simp at hu
 | (o, t) :: r, off, ls, h, hp => by
  simp only [fieldsG] at h
  split at h
  ·rename_i e
   obtain rfl := Nat.eq_of_beq_eq_true e
   split at h
   ·rename_i l hl
    simp only [Option.map_eq_some_iff] at h
    obtain ⟨l', hl', rfl⟩ := h
    intro i u v hu hv
    by_cases hi : i < l.length
    ·rw [List.getElem?_append_left hi] at hu
     obtain ⟨n, y, hy, hw⟩ := hp off t (by simp)
     obtain ⟨h1, h2⟩ := ih hl _ _ _ hy
     obtain ⟨y', n', h3, h4⟩ := h2 i u v hu (by
      have hs : i < P.cellsOf t := by
       have : ((cs.drop off).take (P.cellsOf t)).length ≤ P.cellsOf t := by simp; omega
       omega
      rw [List.getElem?_take, if_pos hs, List.getElem?_drop]; exact hv)
     exact ⟨y', n', h3, fun k hk => hw k (h4 k hk)⟩
    ·rw [List.getElem?_append_right (by omega)] at hu
     exact zF4 hT ih hl' (fun o t hm => hp o t (by simp [hm])) (i - l.length) u v hu (by rw [← hv]; congr 1; omega)
   ·cases h
  ·cases h
theorem zAt {e : TypeId} : ∀ {l : List (DataW H)} {d : DataW H}, d ∈ l → ∀ k ∈ d.weights P e, k ∈ DataW.weightsAll P e l
 | d0 :: l, d, hd, k, hk => by
  simp only [DataW.weightsAll, List.mem_append]
  rcases List.mem_cons.1 hd with rfl | h
  ·exact .inl hk
  ·exact .inr (zAt h k hk)
theorem zDc (hT : TabOk P T) : ∀ (f : Nat) {t : Nat} {ls : List Nat}, leaves T f t = some ls → ∀ (fuel : Nat) (cs : List Value) (x : DataW H × List MemPlace), DataW.trod enc P w 0 sp held fuel t cs = some x →
  cs.length = ls.length ∧ ∀ (i : Nat) u v, ls[i]? = some u → cs[i]? = some v → LeafOk enc P w sp held (x.1.weights P t) u v
 | 0, t, ls, h => by simp [leaves] at h
 | f + 1, t, ls, h => by
  intro fuel cs x hx
  have one : ∀ {v : Value}, cs = [v] → ls = [t] → cs.length = ls.length ∧ ∀ (i : Nat) u v, ls[i]? = some u → cs[i]? = some v → LeafOk enc P w sp held (x.1.weights P t) u v := by
   rintro v rfl rfl
   refine ⟨rfl, fun i u v' hu hv => ?_⟩
   cases i with
   | zero => simp at hu hv; subst hu hv; exact ⟨x, fuel, hx, fun k hk => hk⟩
   | succ i => simp at hu
  simp only [leaves] at h
  split at h
  ·cases h
  rename_i ti hti
  obtain ⟨inf, u, ok⟩ := hT.get hti
  have h2 := ok.d
  have h1 := ok.und
  have hsz := zC8 hT hti
  split at h
  all_goals rename_i hd
  all_goals try rw [hd] at h2
  ·cases u <;> simp only [chkD, Bool.false_eq_true] at h2
   obtain ⟨b, hcs, _⟩ := DataW.trod_bool h1 hx
   exact one hcs (by simpa using h.symm)
  ·rename_i k
   obtain rfl := zBo h2
   obtain ⟨b, hcs, _⟩ := DataW.trod_int h1 hx
   exact one hcs (by simpa using h.symm)
  ·obtain rfl := qZ h2
   obtain ⟨b, hcs, _⟩ := DataW.trod_string h1 hx
   exact one hcs (by simpa using h.symm)
  ·obtain rfl := yB h2
   rcases DataW.trod_slice h1 hx with ⟨hcs, _⟩ | ⟨a, l, c, _, _, _, _, hcs, _⟩
   ·exact one hcs (by simpa using h.symm)
   ·exact one hcs (by simpa using h.symm)
  ·rename_i n e
   obtain rfl := jC h2
   obtain ⟨h3, h4⟩ := zCp h
   obtain ⟨ys, m, rfl, rfl, hlen, hyl, hy⟩ := DataW.trod_array h1 hx
   refine ⟨by omega, fun i u v hu hv => ?_⟩
   refine zF4 (cs := cs) hT (zDc hT f) h3 (fun o t' hm => ?_) i u v hu (by simpa using hv)
   obtain ⟨rfl, j, hj, rfl⟩ := zOx hm
   have hs : szD T t' = P.cellsOf t' := by
    unfold szD
    cases hq : tlk T t' with
    | none =>
     exfalso
     have : fieldsG (leaves T f) 0 (arrF t' (szD T t') n 0) = none := by
      cases n with
      | zero => omega
      | succ n =>
       have hl : leaves T f t' = none := by cases f <;> simp [leaves, hq]
       simp [arrF, fieldsG, hl]
     rw [this] at h3; cases h3
    | some i' => simp [zC8 hT hq]
   refine ⟨m, ys[j]'(by omega), ?_, fun k hk => ?_⟩
   ·rw [Nat.zero_add, hs, hy j hj, List.getElem?_eq_getElem]
   ·simp only [DataW.weights, h1]
    exact zAt (List.mem_map_of_mem (List.getElem_mem _)) k hk
  ·rename_i fs
   obtain ⟨gs, rfl, hfs⟩ := zBf h2
   obtain ⟨h3, h4⟩ := zCp h
   obtain ⟨ys, m, rfl, rfl, hlen, hyl, hy⟩ := DataW.trod_struct h1 hx
   refine ⟨by omega, fun i u v hu hv => ?_⟩
   refine zF4 (cs := cs) hT (zDc hT f) h3 (fun o t' hm => ?_) i u v hu (by simpa using hv)
   rw [hfs] at hm
   obtain ⟨fl, hfl, he⟩ := List.mem_map.1 hm
   simp only [Prod.mk.injEq] at he
   obtain ⟨rfl, rfl⟩ := he
   obtain ⟨j, hj⟩ := List.getElem?_of_mem hfl
   have hj' : gs[j]? = some fl := by simpa using hj
   have hjl : j < ys.length := by
    have := (List.getElem?_eq_some_iff.1 hj).1
    simp at this; omega
   refine ⟨m, ys[j]'hjl, ?_, fun k hk => ?_⟩
   ·rw [hy j fl hj', List.getElem?_eq_getElem]
   ·simp only [DataW.weights, h1]
    exact DataW.weights_mem_each (j := j) (t := fl.type) (d := ys[j].1) (by simp [hj]) (by simp [List.getElem?_eq_getElem hjl]) k hk
  ·cases h
def suppL (T : Tab) : Nat → Nat → Bool
 | 0, _ => false
 | f + 1, t => match tyD T t with
  | .bool => true
  | .int _ => true
  | .str => true
  | .slice e => match tlk T e, leaves T f e with
   | some te, some ls => Nat.blt 0 te.size && ls.all (suppL T f) && (isAggD te.d).isSome
   | _, _ => false
  | _ => false
theorem zRs (hT : TabOk P T) {f t : Nat} {ls : List Nat} {i : TyI} (h : leaves T f t = some ls) (hi : tlk T t = some i) : ls.length = i.size := by
 obtain ⟨inf, u, ok⟩ := hT.get hi
 cases f with
 | zero => simp [leaves] at h
 | succ f =>
  simp only [leaves, hi] at h
  split at h
  all_goals rename_i hd
  ·rw [ok.one (by rw [hd]; rfl), ← Option.some.inj h]; rfl
  ·rw [ok.one (by rw [hd]; rfl), ← Option.some.inj h]; rfl
  ·rw [ok.one (by rw [hd]; rfl), ← Option.some.inj h]; rfl
  ·rw [ok.one (by rw [hd]; rfl), ← Option.some.inj h]; rfl
  ·exact (zCp h).2
  ·exact (zCp h).2
  ·cases h
theorem cell_lt {w : World} {a : Addr} {v : Value} (h : w.cell? a = some v) : a.block < w.heap.size := by
 unfold World.cell? at h
 rcases Nat.lt_or_ge a.block w.heap.size with hl | hl
 ·exact hl
 ·rw [Array.getElem?_eq_none hl] at h; simp at h
theorem zQa (hT : TabOk P T) (hN : ∀ b, b < w.heap.size → N b) : ∀ (f : Nat) (u : Nat) (v : Value) (fuel : Nat) (x : DataW H × List MemPlace), suppL T f u = true → DataW.trod enc P w 0 sp held fuel u [v] = some x →
  (∀ k ∈ x.1.weights P u, k ≤ reach) → ∃ a, Shp T f u a ∧ RepA w N a v
 | 0, _, _, _, _, h, _, _ => by simp [suppL] at h
 | f + 1, t, v, fuel, x, h, hx, hw => by
  simp only [suppL] at h
  simp only [Shp]
  split at h
  all_goals rename_i hd
  ·obtain ⟨u, h1, h2⟩ := zV hT (t := t) (by rw [hd]; simp)
   rw [hd] at h2
   cases u <;> simp only [chkD, Bool.false_eq_true] at h2
   obtain ⟨b, hcs, _⟩ := DataW.trod_bool h1 hx
   simp at hcs; subst hcs
   exact ⟨.bool b, ⟨b, rfl⟩, .bool b⟩
  ·rename_i k
   obtain ⟨u, h1, h2⟩ := zV hT (t := t) (by rw [hd]; simp)
   rw [hd] at h2
   obtain rfl := zBo h2
   obtain ⟨n, hcs, _, hwf⟩ := DataW.trod_int h1 hx
   simp at hcs; subst hcs
   simp only [Lit.wf, Bool.and_eq_true, decide_eq_true_eq] at hwf
   exact ⟨.int k n, ⟨n, rfl, hwf⟩, .int k n⟩
  ·obtain ⟨u, h1, h2⟩ := zV hT (t := t) (by rw [hd]; simp)
   rw [hd] at h2
   obtain rfl := qZ h2
   obtain ⟨s, hcs, rfl, _⟩ := DataW.trod_string h1 hx
   simp at hcs; subst hcs
   have hz := hw s.data.toList.length (by simp [DataW.weights])
   exact ⟨.str s.data.toList, ⟨_, rfl, hz⟩, .str s.data.toList⟩
  ·rename_i e
   obtain ⟨u, h1, h2⟩ := zV hT (t := t) (by rw [hd]; simp)
   rw [hd] at h2
   obtain rfl := yB h2
   split at h
   ·rename_i te ls hte hls
    simp only [Bool.and_eq_true, Nat.blt_eq, List.all_eq_true] at h
    obtain ⟨⟨hpos, hall⟩, hagg⟩ := h
    have hce := zC8 hT hte
    have hll := zRs hT hls hte
    obtain ⟨inf, ue, ok⟩ := hT.get hte
    have hby : P.bytesOf e = te.bytes := by simp [Program.bytesOf, ok.info, ok.bytes]
    rcases DataW.trod_slice h1 hx with ⟨hcs, rfl⟩ | ⟨a, l, c, elems, rest, n, rfl, hcs, rfl, _, hlc, hcm, hel, hea, _⟩
    ·simp at hcs; subst hcs
     exact ⟨.nils, .inl rfl, .nils⟩
    ·simp at hcs; subst hcs
     simp only [DataW.weights, h1, List.length_map, List.mem_cons, List.mem_append, hby] at hw
     have key : ∀ i, i < l → ∃ r : AV, (All2 (Shp T f) ls (cellsOf r) ∧ (∀ y, isAggD te.d = some false → cellsOf r = [y] → r = y) ∧ (isAggD te.d = some true → ∃ cs, r = .agg cs)) ∧
       ((cellsOf r).length = te.size ∧ ∀ (j : Nat) (x : AV), (cellsOf r)[j]? = some x → ∃ u, w.cell? (a.add (i * te.size + j)) = some u ∧ RepA w N x u) := by
      intro i hi
      have h3 := hea i hi
      rw [List.getElem?_eq_getElem (by omega), Option.bind_eq_some_iff] at h3
      obtain ⟨cs, h4, h5⟩ := h3
      obtain ⟨_, g2, g3⟩ := World.cells?_some h4
      obtain ⟨g4, g5⟩ := zDc hT f hls _ _ _ h5
      obtain ⟨xs, k1, k2, k3⟩ := build2 (R := Shp T f) (Q := fun x v => RepA w N x v) (ls := ls) (cs := cs) g4 fun j u v hu hv => by
       obtain ⟨y, m, q1, q2⟩ := g5 j u v hu hv
       exact zQa hT hN f u v m y (hall u (List.mem_of_getElem? hu)) q1 fun k hk => hw k (.inr (.inl (zAt (List.mem_map_of_mem (List.getElem_mem _)) k (q2 k hk))))
      have hcell : ∀ (j : Nat) (x : AV), xs[j]? = some x → ∃ u, w.cell? (a.add (i * te.size + j)) = some u ∧ RepA w N x u := by
       intro j x hj
       have hjl : j < cs.length := by
        have := (List.getElem?_eq_some_iff.1 hj).1
        omega
       refine ⟨cs[j], ?_, k3 j x _ hj (List.getElem?_eq_getElem hjl)⟩
       have := g3 j (by omega)
       rw [zBw, hce, List.getElem?_eq_getElem hjl] at this
       exact this
      cases hag : isAggD te.d with
      | none => simp [hag] at hagg
      | some b =>
       cases b with
       | true => exact ⟨.agg xs, ⟨k1, by simp, fun _ => ⟨xs, rfl⟩⟩, by simp [cellsOf]; omega, hcell⟩
       | false =>
        have h1' := ok.one hag
        match xs, k1, k2, hcell with
        | [y], k1, k2, hcell =>
         have hy : cellsOf y = [y] := by
          match ls, k1, hll with
          | [u'], k1, _ =>
           have hs := k1.1
           cases f with
           | zero => exact hs.elim
           | succ f =>
            simp only [Shp] at hs
            split at hs
            ·obtain ⟨b, rfl⟩ := hs; rfl
            ·obtain ⟨b, rfl, _⟩ := hs; rfl
            ·obtain ⟨b, rfl, _⟩ := hs; rfl
            ·rcases hs with rfl | ⟨_, _, _, rfl, _⟩ <;> rfl
            ·exact hs.elim
         refine ⟨y, ⟨by rw [hy]; exact k1, fun z _ hz => by rw [hy] at hz; simpa using hz, by simp⟩, by rw [hy, h1']; rfl, by rw [hy]; exact hcell⟩
        | [], k1, k2, _ => simp at k2; omega
        | _ :: _ :: _, k1, k2, _ => simp at k2; omega
     obtain ⟨rows, r1, r2⟩ := zF0 key
     have hmem : ∀ r ∈ rows, ∃ i : Nat, rows[i]? = some r := fun r hr => List.getElem?_of_mem hr
     refine ⟨.ps rows, .inr ⟨rows, te, ls, rfl, hte, hls, ?_, fun r hr => ?_⟩, ?_⟩
     ·have := hw _ (.inl rfl)
      have hm : l * te.bytes ≤ (elems.length + rest.length) * te.bytes := Nat.mul_le_mul_right _ (by omega)
      rw [r1]
      omega
     ·obtain ⟨i, hi⟩ := hmem r hr
      exact (r2 i r hi).1
     ·cases hl0 : l with
      | zero =>
       obtain rfl : rows = [] := List.length_eq_zero_iff.1 (by omega)
       exact .psE ..
      | succ l' =>
       have h0 : rows[0]? = some (rows[0]'(by omega)) := List.getElem?_eq_getElem _
       obtain ⟨z1, z2⟩ := (r2 0 _ h0).2
       obtain ⟨u, z3, _⟩ := z2 0 ((cellsOf (rows[0]'(by omega)))[0]'(by omega)) (List.getElem?_eq_getElem _)
       have hlt := cell_lt z3
       rw [jU] at hlt
       rw [← hl0, ← r1]
       refine .ps rows a c te.size (fun i j => (w.cell? (a.add (i * te.size + j))).getD undef) (hN _ hlt) hlt (fun r hr => ?_) (fun i j hi hj => ?_) (fun i j r x hi hj => ?_) (by omega)
       ·obtain ⟨i, hi⟩ := hmem r hr
        exact (r2 i r hi).2.1
       ·have hg : rows[i]? = some rows[i] := List.getElem?_eq_getElem hi
        obtain ⟨q1, q2⟩ := (r2 i _ hg).2
        obtain ⟨u, hu, _⟩ := q2 j ((cellsOf rows[i])[j]'(by omega)) (List.getElem?_eq_getElem _)
        simp [hu]
       ·obtain ⟨u, hu, hr⟩ := (r2 i r hi).2.2 j x hj
        simpa [hu] using hr
   ·cases h
  ·cases h
theorem zGe (hT : TabOk P T) (hN : ∀ b, b < w.heap.size → N b) (f : Nat) {t : Nat} {v : Value} {d : DataW H} {p : List MemPlace} {r : Reach} {b0 : Nat} (hs : suppL T f t = true) (hval : Value.okWide P w r b0 t v) (hd : DataW.Trod enc P w 0 sp held t v d p)
  (hw : ∀ k ∈ d.weights P t, k ≤ reach) : ∃ a, Shp T f t a ∧ RepA w N a v := by
 obtain ⟨fuel, hx⟩ := hd
 have hc : v.cells.toList = [v] := by
  cases v <;> try rfl
  rename_i cs
  exfalso
  cases f with
  | zero => simp [suppL] at hs
  | succ f =>
   simp only [suppL] at hs
   have h3 : tyD T t ≠ .other := by intro h; rw [h] at hs; simp at hs
   obtain ⟨u, h1, h2⟩ := zV hT h3
   split at hs
   all_goals rename_i hd
   all_goals try (rw [hd] at h2)
   all_goals try (cases hs; done)
   all_goals cases u <;> simp only [chkD, Bool.false_eq_true] at h2
   all_goals simp [Value.okWide, h1, Cell.okWide, Cell.ok] at hval
 rw [hc] at hx
 exact zQa hT hN f t v fuel (d, p) hs hx hw
theorem zPj (hT : TabOk P T) {t : Nat} (h : tyD T t = .bool) : P.underlying t = some .bool := by
 obtain ⟨u, h1, h2⟩ := zV hT (t := t) (by rw [h]; simp)
 rw [h] at h2
 cases u <;> simp only [chkD, Bool.false_eq_true] at h2
 exact h1
theorem Shp.int {f t : Nat} {k : IntKind} {x : AV} (h : Shp T (f + 1) t x) (hd : tyD T t = .int k) : ∃ n, x = .int k n ∧ k.min ≤ n ∧ n ≤ k.max := by
 simp only [Shp, hd] at h; exact h
theorem Shp.bool {f t : Nat} {x : AV} (h : Shp T (f + 1) t x) (hd : tyD T t = .bool) : ∃ b, x = .bool b := by
 simp only [Shp, hd] at h; exact h
theorem Shp.str {f t : Nat} {x : AV} (h : Shp T (f + 1) t x) (hd : tyD T t = .str) : ∃ l : List UInt8, x = .str l ∧ l.length ≤ reach := by
 simp only [Shp, hd] at h; exact h
theorem Shp.slice {f t e : Nat} {x : AV} (h : Shp T (f + 1) t x) (hd : tyD T t = .slice e) : x = .nils ∨ ∃ rows te ls, x = .ps rows ∧ tlk T e = some te ∧ leaves T f e = some ls ∧ rows.length * te.bytes ≤ reach ∧
        ∀ r ∈ rows, All2 (Shp T f) ls (cellsOf r) ∧ (∀ y, isAggD te.d = some false → cellsOf r = [y] → r = y) ∧ (isAggD te.d = some true → ∃ cs, r = .agg cs) := by
  simp only [Shp, hd] at h; exact h
def nF : Nat → Prop := fun _ => False
def β0 : Hd → Nat := fun _ => 0
def freeAll : Nat → Prop := Free β0 ⟨[], [], nF⟩
theorem zCt (b : Nat) : freeAll b := ⟨fun h => h, fun h hl => by
 obtain ⟨o, ho, _⟩ := hl
 cases h <;> simp [Hp.get] at ho⟩
theorem zKi {f : FuncId} {as : List AV} {vs : List Value} {W : World} (h : Con P f (as.map .p) [] (.p (.bool true)) [] []) (hl : vs.length = as.length) (hr : ∀ (i : Nat) x v, as[i]? = some x → vs[i]? = some v → RepA W freeAll x v) :
  Calls P f vs.toArray W fun e w' => e = .returned (.bool true) ∧ Below W.heap.size W w' := by
 refine (h.run nF W β0 vs ⟨fun h o ho => by cases h <;> simp [Hp.get] at ho, fun h k hl _ _ => by
  obtain ⟨o, ho, _⟩ := hl
  cases h <;> simp [Hp.get] at ho, fun o ho => by simp at ho, fun h hl => by
  obtain ⟨o, ho, _⟩ := hl
  cases h <;> simp [Hp.get] at ho, fun b hb => hb.elim⟩ ⟨by simpa using hl, fun i x v hx hv => ?_⟩).mono fun e w' ⟨β', v, he, hS, hst, hrep⟩ => ?_
 ·simp only [List.getElem?_map, Option.map_eq_some_iff] at hx
  obtain ⟨a, ha, rfl⟩ := hx
  exact .p (hr i a v ha hv)
 ·cases hrep with | p hb =>
  cases hb
  exact ⟨he, hst.os, hst.tape, hst.output, hst.size, fun k hk => (hst.frame k hk (zCt k)).1⟩
theorem zOv {w : World} {N : Nat → Prop} : ∀ (i : Nat) x v, ([] : List AV)[i]? = some x → ([] : List Value)[i]? = some v → RepA w N x v := fun i x v h => by simp at h
theorem zGc {w : World} {N : Nat → Prop} {a : AV} {v : Value} {as : List AV} {vs : List Value} (h : RepA w N a v) (hr : ∀ (i : Nat) x v, as[i]? = some x → vs[i]? = some v → RepA w N x v) : ∀ (i : Nat) x u, (a :: as)[i]? = some x → (v :: vs)[i]? = some u → RepA w N x u
 | 0, x, u, hx, hu => by simp at hx hu; subst hx hu; exact h
 | i + 1, x, u, hx, hu => hr i x u (by simpa using hx) (by simpa using hu)
end
end Go.Awp
namespace Go.Awp
open Go.RowKit
def cl : AV → Bool
 | .agg _ => false
 | .top => false
 | _ => true
theorem zQp {w : World} {N : Nat → Prop} {x : AV} {v : Value} (h : RepA w N x v) (hx : cl x = true) : v.oneCell' = true := by
 cases h <;> simp_all [cl, Value.oneCell']
def clR : List AV → Prop := fun rows => ∀ r ∈ rows, ∀ x ∈ cellsOf r, cl x = true
inductive SrcA (H L : List AObj) : TV → List AV → Prop
 | rd {s rows} (h : Rd H L s rows) : SrcA H L s rows
 | str (l : List UInt8) : SrcA H L (.p (.str l)) (l.map fun b => .int .u8 b.toNat)
section
variable {P : Program} {T : Tab} {env : Env} {H L : List AObj} {o : Oper} {x : TV} {w : World} {β : Hd → Nat} {F : Nat → Prop}
structure News (w : World) (N : Nat → Prop) (e : Nat) (rows : List AV) (news : List Value) : Prop where
 size : ∀ r ∈ rows, (cellsOf r).length = e
 len : news.length = rows.length * e
 cell : ∀ (i j : Nat) (r x : AV), rows[i]? = some r → (cellsOf r)[j]? = some x → ∃ u, news[i * e + j]? = some u ∧ RepA w N x u
theorem zKj {e k n : Nat} (h : k < n * e) : k / e < n ∧ k % e < e ∧ k = k / e * e + k % e := by
 have he : 0 < e := by
  rcases Nat.eq_zero_or_pos e with h0 | h0
  ·subst h0; simp at h
  ·exact h0
 refine ⟨(Nat.div_lt_iff_lt_mul he).2 h, Nat.mod_lt _ he, ?_⟩
 rw [Nat.mul_comm]
 exact (Nat.div_add_mod k e).symm
theorem Rows.news {a : Addr} {N : Nat → Prop} {e : Nat} {rows : List AV} (h : Rows w N a e rows) : ∃ news, News w N e rows news ∧ ∀ (j : Nat) u, news[j]? = some u → w.cell? (a.add j) = some u := by
 have key : ∀ k, k < rows.length * e → ∃ u, w.cell? (a.add k) = some u := by
  intro k hk
  obtain ⟨h1, h2, h3⟩ := zKj hk
  have hr := List.getElem?_eq_getElem h1
  have hs := h.size _ (List.getElem_mem h1)
  obtain ⟨u, hu, _⟩ := h.cell (k / e) (k % e) _ _ hr (List.getElem?_eq_getElem (by rw [hs]; exact h2))
  exact ⟨u, by rw [← h3] at hu; exact hu⟩
 refine ⟨(List.range (rows.length * e)).map fun k => (w.cell? (a.add k)).getD undef, ⟨h.size, by simp, fun i j r x hi hj => ?_⟩, fun j u hu => ?_⟩
 ·obtain ⟨u, hu, hr⟩ := h.cell i j r x hi hj
  have hil := (List.getElem?_eq_some_iff.1 hi).1
  have hjl : j < e := by rw [← h.size r (List.mem_of_getElem? hi)]; exact (List.getElem?_eq_some_iff.1 hj).1
  have hlt : i * e + j < rows.length * e := by
   have : (i + 1) * e ≤ rows.length * e := Nat.mul_le_mul_right _ (by omega)
   rw [Nat.add_mul] at this; omega
  exact ⟨u, by simp [hlt, hu], hr⟩
 ·simp only [List.getElem?_map, Option.map_eq_some_iff] at hu
  obtain ⟨k, hk, rfl⟩ := hu
  have hlt : j < rows.length * e := by
   rcases Nat.lt_or_ge j (rows.length * e) with h | h
   ·exact h
   ·rw [List.getElem?_eq_none (by simpa using h)] at hk; cases hk
  obtain rfl : k = j := by
   rw [List.getElem?_range hlt] at hk
   exact (Option.some.inj hk).symm
  obtain ⟨u, hu⟩ := key k hlt
  simp [hu]
theorem News.one {N : Nat → Prop} {e : Nat} {rows : List AV} {news : List Value} (h : News w N e rows news) (hc : clR rows) : ∀ u ∈ news, u.oneCell' = true := by
 intro u hu
 obtain ⟨k, hk⟩ := List.getElem?_of_mem hu
 have hlt : k < rows.length * e := by rw [← h.len]; exact (List.getElem?_eq_some_iff.1 hk).1
 obtain ⟨h1, h2, h3⟩ := zKj hlt
 have hs := h.size _ (List.getElem_mem h1)
 have hj := List.getElem?_eq_getElem (l := cellsOf rows[k / e]) (i := k % e) (by rw [hs]; exact h2)
 obtain ⟨v, hv, hr⟩ := h.cell (k / e) (k % e) _ _ (List.getElem?_eq_getElem h1) hj
 rw [← h3, hk] at hv
 obtain rfl := Option.some.inj hv
 exact zQp hr (hc _ (List.getElem_mem h1) _ (List.mem_of_getElem? hj))
theorem zH8 (l : List UInt8) (N : Nat → Prop) : News w N 1 (l.map fun b => .int .u8 b.toNat) (byteCells ⟨l.toArray⟩) := by
 refine ⟨fun r hr => ?_, by simp [byteCells], fun i j r x hi hj => ?_⟩
 ·obtain ⟨b, _, rfl⟩ := List.mem_map.1 hr; rfl
 ·simp only [List.getElem?_map, Option.map_eq_some_iff] at hi
  obtain ⟨b, hb, rfl⟩ := hi
  match j with
  | 0 =>
   simp [cellsOf] at hj
   subst hj
   exact ⟨.int .u8 b.toNat, by simp [byteCells, hb], .int ..⟩
  | j + 1 => simp [cellsOf] at hj
theorem SrcA.src (hS : Sim w β ⟨H, L, F⟩) {s : TV} {v : Value} {rows : List AV} {e : Nat} {tx : TypeId} (h : RepT w β ⟨H, L, F⟩ s v) (hs : SrcA H L s rows) (hc : clR rows) (he : ∀ r ∈ rows, (cellsOf r).length = e)
  (hks : (∃ l, s = .p (.str l)) → P.underlying tx = some .string ∧ e = 1) (hkr : (∀ l, s ≠ .p (.str l)) → ∃ e', P.underlying tx = some (.slice e')) :
  ∃ news, Src P e tx v rows.length news w ∧ News w (Free β ⟨H, L, F⟩) e rows news := by
 cases hs with
 | rd hr =>
  obtain ⟨ao, c, rfl, hlc, hor⟩ := hr.val hS h
  have hnk : ∀ l, s ≠ .p (.str l) := by
   rintro l rfl
   cases h with | p h => cases h
  obtain ⟨e', hu⟩ := hkr hnk
  rcases hor with rfl | ⟨a, e1, rfl, hrow⟩
  ·refine ⟨[], ?_, ⟨by simp, by simp, fun i j r x hi => by simp at hi⟩⟩
   cases ao with
   | none => exact Src.ofNil w hu c
   | some a => exact Src.ofSlice w hu a 0 c [] (by simp) (by simp) (by simp)
  ·by_cases hz : rows = []
   ·subst hz
    exact ⟨[], Src.ofSlice w hu a 0 c [] (by simp) (by simp) (by simp), ⟨by simp, by simp, fun i j r x hi => by simp at hi⟩⟩
   ·have hee : e1 = e := by
     obtain ⟨r, hm⟩ := List.exists_mem_of_ne_nil rows hz
     rw [← hrow.size r hm, he r hm]
    subst hee
    obtain ⟨news, n1, n2⟩ := hrow.news
    exact ⟨news, Src.ofSlice w hu a rows.length c news n1.len n2 (n1.one hc), n1⟩
 | str l =>
  obtain ⟨hu, rfl⟩ := hks ⟨l, rfl⟩
  obtain rfl := h.str_inv
  refine ⟨byteCells ⟨l.toArray⟩, ?_, zH8 l _⟩
  have := Src.ofString (P := P) w hu ⟨l.toArray⟩
  have hsz : (⟨l.toArray⟩ : ByteArray).size = (l.map fun b => AV.int .u8 b.toNat).length := by simp [ByteArray.size]
  rw [hsz] at this
  exact this
theorem zBu (w : World) (t tx ty e : TypeId) (i : TypeInfo) (ht : P.underlying t = some (.slice e)) (hi : P.info? e = some i) (g sLen sCap : Nat) (cur : Array Value) (bt : TypeId) (hg : w.heap[g]? = some (.cells cur bt (0, 0))) (x : Value) (n : Nat) (news : List Value) (hs : Src P i.size tx x n news w)
  (hroom : sLen + n ≤ sCap) (hfit : sLen * i.size + news.length ≤ cur.size) :
  (Builtin.append_ #[t, tx] ty #[.slice (some ⟨g, 0, none⟩) sLen sCap, x]).run P w =
   .ok (.slice (some ⟨g, 0, none⟩) (sLen + n) sCap) (w.setRow g (cur.toList.take (sLen * i.size) ++ news ++ cur.toList.drop (sLen * i.size + news.length)).toArray) := by
 have hst := run_storeCells_at P g (sLen * i.size) bt news 0 cur w hg (by simpa using hfit) hs.one
 simp only [Nat.add_zero] at hst
 rcases hs.kind with ⟨e', hk⟩ | hk <;> simp [Builtin.append_, run_underlying ht, run_underlying hk, sizeOf, typeInfo, hi, hs.len, hroom, hs.cells, Addr.add_lit, hst]
theorem fits {sLen n cap by_ : Nat} (hg : cap < sLen + n) (hb : (sLen + n) * by_ ≤ 140737488355328) : Builtin.nextslicecap (sLen + n) cap * by_ ≤ 281474976710656 := by
 have h1 : Builtin.nextslicecap (sLen + n) cap * by_ ≤ 2 * (sLen + n) * by_ := Nat.mul_le_mul_right _ (Go.Room.nextslicecap_le' hg)
 rw [Nat.mul_assoc] at h1
 omega
theorem zEu {n b : Nat} (hb : 0 < b) (h : n * b ≤ 140737488355328) : n ≤ 140737488355328 := Nat.le_trans (Nat.le_mul_of_pos_right _ hb) h
theorem opr_upd {i : Nat} {ob ob' : AObj} (hi : L[i]? = some ob) (hne : ob.off = false) (h : ∀ F w β a, Sim w β ⟨H, L, F⟩ → EnvR w β ⟨H, L, F⟩ env a → ∃ u w' b', (execOp a.eval o).run P w = .ok (.value u) w' ∧
  w'.os = w.os ∧ w'.tape = w.tape ∧ w'.output = w.output ∧ w.heap.size ≤ w'.heap.size ∧ (∀ b, b < w.heap.size → b ≠ β (.l i) → w'.heap[b]? = w.heap[b]?) ∧ (b' = β (.l i) ∨ w.heap.size ≤ b') ∧ ObjGo w w' (β (.l i)) b' ob ob' ∧
   ∀ β', (∀ k, β' k = if k = .l i then b' else β k) → Step w β ⟨H, L, F⟩ w' β' ⟨H, L.set i ob', F⟩ → ObjOk w' β' ⟨H, L.set i ob', F⟩ b' ob' ∧ RepT w' β' ⟨H, L.set i ob', F⟩ x u) : OpR P o env H L x H (L.set i ob') := by
 intro F w β a next Q hS he hn
 obtain ⟨u, w', b', h1, h2, h3, h4, h5, h6, h6', h7, h8⟩ := h F w β a hS he
 have hlt : i < L.length := (List.getElem?_eq_some_iff.1 hi).1
 obtain ⟨s1, s2⟩ := upd (w' := w') (G' := ⟨H, L.set i ob', F⟩) (h := .l i) (o' := ob') (b' := b') hS hi h2 h3 h4 h5 h6 hne h6' h7
  (fun k => by
   cases k with
   | o k => simp [Hp.get]
   | l j =>
    simp only [Hp.get, List.getElem?_set, Hd.l.injEq]
    by_cases e : i = j
    ·subst e; simp [hlt]
    ·rw [if_neg e, if_neg (fun q => e q.symm)]) rfl hS.ext
 obtain ⟨h9, h10⟩ := h8 _ (fun _ => rfl) s1
 unfold Oper.wp
 rw [h1]
 exact hn _ _ u (s2 h9) s1 h10
theorem zJd {ob' : AObj} (h : ∀ F w β a, Sim w β ⟨H, L, F⟩ → EnvR w β ⟨H, L, F⟩ env a → ∃ (u : Value) (ob : Obj) (w0 : World), (execOp a.eval o).run P w = .ok (.value u) (w0.alloc ob) ∧ w0.heap = w.heap ∧ w0.os = w.os ∧ w0.tape = w.tape ∧ w0.output = w.output ∧
  ∀ β', (∀ k, β' k = if k = .l L.length then w.heap.size else β k) → Step w β ⟨H, L, F⟩ (w0.alloc ob) β' ⟨H, L ++ [ob'], F⟩ →
   ObjOk (w0.alloc ob) β' ⟨H, L ++ [ob'], F⟩ w.heap.size ob' ∧ RepT (w0.alloc ob) β' ⟨H, L ++ [ob'], F⟩ x u) : OpR P o env H L x H (L ++ [ob']) := by
 intro F w β a next Q hS he hn
 obtain ⟨u, ob, w0, h1, g1, g2, g3, g4, h2⟩ := h F w β a hS he
 obtain ⟨s1, s2⟩ := new (o' := ob') (w' := w0.alloc ob) (b' := w.heap.size) hS (show (w0.alloc ob).os = w.os from g2) (show (w0.alloc ob).tape = w.tape from g3) (show (w0.alloc ob).output = w.output from g4) (by rw [← g1]; simp) (fun b hb => by rw [← g1] at hb ⊢; exact zAe w0 ob b hb) (Nat.le_refl _)
 obtain ⟨h3, h4⟩ := h2 _ (fun _ => rfl) s1
 unfold Oper.wp
 rw [h1]
 exact hn _ _ u (s2 h3) s1 h4
theorem zAs {t tx : TypeId} {y z : Operand} {a : Act} (ho : o.op = .call { callee := .builtin .append, args := #[y, z], argTypes := #[t, tx] }) {v : Value} {w w' : World} {ty : TypeId} (hty : o.type = ty)
  (h : (Builtin.append_ #[t, tx] ty #[a.eval y, a.eval z]).run P w = .ok v w') : (execOp a.eval o).run P w = .ok (.value v) w' := by
 subst hty
 simp only [execOp, ho, resolve, invoke, builtin, Sem.run_bind, Sem.run_pure, Result.andThen_ok, List.map_toArray, List.map_cons, List.map_nil]
 simp [h]
structure AppT (P : Program) (T : Tab) (t tx : TypeId) (e : Nat) (te : TyI) (isStr : Bool) : Prop where
 ut : P.underlying t = some (.slice e)
 info : ∃ inf z, P.info? e = some inf ∧ inf.zero = some z ∧ inf.size = te.size ∧ inf.bytes = te.bytes ∧ z.cells.size = te.size
 ux : if isStr then P.underlying tx = some .string else ∃ e', P.underlying tx = some (.slice e')
def appT (T : Tab) (t tx : TypeId) : Option (Nat × TyI × Bool) := match tyD T t with
 | .slice e => match tlk T e with
  | some te => match tyD T tx with
   | .slice _ => some (e, te, false)
   | .str => match Nat.beq te.size 1 with
    | true => some (e, te, true)
    | false => none
   | _ => none
  | none => none
 | _ => none
theorem zAb (hT : TabOk P T) {t tx : TypeId} {e : Nat} {te : TyI} {b : Bool} (h : appT T t tx = some (e, te, b)) : AppT P T t tx e te b ∧ (b = true → te.size = 1) ∧ tlk T e = some te := by
 unfold appT at h
 split at h
 ·rename_i e' hd
  obtain ⟨u, h1, h2⟩ := zV hT (t := t) (by rw [hd]; simp)
  rw [hd] at h2
  obtain rfl := yB h2
  split at h
  ·rename_i te' hte
   obtain ⟨inf, ue, ok⟩ := hT.get hte
   obtain ⟨z, hz, hzz⟩ := ok.zero
   have hzl : z.cells.size = te'.size := by
    have := (zF9 hzz).1
    simp at this
    rw [this, ok.zlen]
   split at h
   ·rename_i e2 hx
    simp only [Option.some.injEq, Prod.mk.injEq] at h
    obtain ⟨rfl, rfl, rfl⟩ := h
    obtain ⟨ux, g1, g2⟩ := zV hT (t := tx) (by rw [hx]; simp)
    rw [hx] at g2
    obtain rfl := yB g2
    exact ⟨⟨h1, ⟨inf, z, ok.info, hz, ok.size, ok.bytes, hzl⟩, ⟨_, g1⟩⟩, by simp, hte⟩
   ·rename_i hx
    split at h
    ·rename_i hb
     simp only [Option.some.injEq, Prod.mk.injEq] at h
     obtain ⟨rfl, rfl, rfl⟩ := h
     obtain ⟨ux, g1, g2⟩ := zV hT (t := tx) (by rw [hx]; simp)
     rw [hx] at g2
     obtain rfl := qZ g2
     exact ⟨⟨h1, ⟨inf, z, ok.info, hz, ok.size, ok.bytes, hzl⟩, g1⟩, fun _ => Nat.eq_of_beq_eq_true hb, hte⟩
    ·cases h
   ·cases h
  ·cases h
 ·cases h
theorem SrcA.src' (hS : Sim w β ⟨H, L, F⟩) {s : TV} {v : Value} {rows : List AV} {e : Nat} {te : TyI} {t tx : TypeId} {b : Bool} (ht : AppT P T t tx e te b) (hb : b = true → te.size = 1) (h : RepT w β ⟨H, L, F⟩ s v) (hs : SrcA H L s rows) (hc : clR rows) (he : ∀ r ∈ rows, (cellsOf r).length = te.size) (hbs : b = true ↔ ∃ l, s = .p (.str l)) :
  ∃ news, Src P te.size tx v rows.length news w ∧ News w (Free β ⟨H, L, F⟩) te.size rows news :=
 hs.src hS h hc he (fun hl => by
  have h1 := hbs.2 hl
  have := ht.ux
  rw [h1] at this
  exact ⟨this, hb h1⟩) (fun hn => by
  have h1 : b = false := by
   cases b with
   | false => rfl
   | true => obtain ⟨l, hl⟩ := hbs.1 rfl; exact absurd hl (hn l)
  have := ht.ux
  rw [h1] at this
  exact this)
theorem yX {w' : World} {β' : Hd → Nat} {G' : Hp} {e : Nat} {Ty : TypeId} {rows : List AV} {cs : Array Value} {N : Nat → Prop} {b : Nat} (hb : w'.heap[b]? = some (.cells cs Ty (0, 0))) (he : 0 < e) (hn : News w N e rows (cs.toList.take (rows.length * e)))
  (hm : ∀ x v, RepA w N x v → RepA w' (Free β' G') x v) : ObjOk w' β' G' b (.arr Ty true e rows) := by
 have hl := hn.len
 simp only [List.length_take, Array.length_toList] at hl
 refine ⟨he, fun _ => ⟨cs, (0, 0), hb, by omega, unfrozen0 _, fun _ => rfl, he, hn.size, fun i j r x hi hj => ?_⟩⟩
 obtain ⟨u, hu, hr⟩ := hn.cell i j r x hi hj
 rw [List.getElem?_take] at hu
 split at hu
 ·exact ⟨u, by simpa using hu, hm _ _ hr⟩
 ·cases hu
theorem News.append {N : Nat → Prop} {e : Nat} {r1 r2 : List AV} {n1 n2 : List Value} (h1 : News w N e r1 n1) (h2 : News w N e r2 n2) : News w N e (r1 ++ r2) (n1 ++ n2) := by
 refine ⟨fun r hr => ?_, by simp [h1.len, h2.len, Nat.add_mul], fun i j r x hi hj => ?_⟩
 ·rcases List.mem_append.1 hr with h | h
  ·exact h1.size r h
  ·exact h2.size r h
 ·by_cases hlt : i < r1.length
  ·rw [List.getElem?_append_left hlt] at hi
   obtain ⟨u, hu, hr⟩ := h1.cell i j r x hi hj
   exact ⟨u, by rw [List.getElem?_append_left (List.getElem?_eq_some_iff.1 hu).1]; exact hu, hr⟩
  ·rw [List.getElem?_append_right (by omega)] at hi
   obtain ⟨u, hu, hr⟩ := h2.cell _ j r x hi hj
   have hle : r1.length * e ≤ i * e := Nat.mul_le_mul_right _ (by omega)
   refine ⟨u, ?_, hr⟩
   rw [List.getElem?_append_right (by rw [h1.len]; omega), h1.len, show i * e + j - r1.length * e = (i - r1.length) * e + j by rw [Nat.sub_mul]; omega]
   exact hu
theorem zDg (H L : List AObj) (ob : AObj) (F : Nat → Prop) : (⟨H, L ++ [ob], F⟩ : Hp).get (.l L.length) = some ob := by simp [Hp.get]
theorem zC5 {t tx : TypeId} {y z : Operand} {e : Nat} {te : TyI} {b : Bool} {rows : List AV} {s : TV} (hT : TabOk P T) (ho : o.op = .call { callee := .builtin .append, args := #[y, z], argTypes := #[t, tx] })
  (ht : appT T t tx = some (e, te, b)) (hy : evA env y = .p .nils ∨ evA env y = .p .cz) (hz : evA env z = s) (hs : SrcA H L s rows) (hbs : b = true ↔ ∃ l, s = .p (.str l)) (hc : clR rows) (he : ∀ r ∈ rows, (cellsOf r).length = te.size) (hpos : 0 < te.size) (hb0 : 0 < te.bytes)
  (h0 : 0 < rows.length) (hfit : rows.length * te.bytes ≤ 140737488355328) : OpR P o env H L (.sl (.l L.length) rows.length 0 rows.length) H (L ++ [.arr e true te.size rows]) :=
 zJd fun F w β a hS hen => by
  obtain ⟨at', hb1, _⟩ := zAb hT ht
  obtain ⟨inf, zv, i1, i2, i3, i4, i5⟩ := at'.info
  have hvz := zL hen z
  rw [hz] at hvz
  obtain ⟨news, n1, n2⟩ := hs.src' hS at' hb1 hvz hc he hbs
  obtain ⟨ao, hvy⟩ : ∃ ao, a.eval y = .slice ao 0 0 := by
   have h := zL hen y
   generalize a.eval y = u at h
   rcases hy with hy | hy <;> rw [hy] at h <;> cases h with | p h => cases h; exact ⟨_, rfl⟩
  have hold : (Builtin.firstCells inf.size 0 (.slice ao 0 0)).run P w.drew = .ok ([] : List Value).toArray w.drew := by
   cases ao with
   | none => exact run_firstCells_none w.drew inf.size 0 0 0
   | some a' => exact run_firstCells_some w.drew inf.size 0 a' 0 0 [] (by simp) (by intro _ _ h'; simp at h')
  have hmax := zEu hb0 hfit
  have hrun := run_append_grow_src (P := P) w t tx o.type e inf zv at'.ut i1 i2 ao 0 0 [] hold (a.eval z) rows.length news (by rw [i3]; exact n1) (by omega) (by omega) (by rw [i4]; exact fits (by omega) (by simpa using hfit))
  rw [Nat.zero_add] at hrun
  refine ⟨_, _, w.drew, zAs (P := P) ho rfl (by rw [hvy]; exact hrun), rfl, rfl, rfl, rfl, fun β' hβ hst => ?_⟩
  have hblk := yP w.drew (.cells (([] ++ news).toArray ++ Builtin.zeroCells zv.cells (grownCap w rows.length 0 e - rows.length)) e)
  have hge := grownCap_ge w rows.length 0 e
  have hle := grownCap_le_maxLen w rows.length 0 e (by unfold maxLen; omega)
  have hsz : (([] ++ news).toArray ++ Builtin.zeroCells zv.cells (grownCap w rows.length 0 e - rows.length)).size = grownCap w rows.length 0 e * te.size := by
   rw [Array.size_append, size_zeroCells, i5]
   simp only [List.nil_append, List.size_toArray, n2.len]
   rw [← Nat.add_mul]; congr 1; omega
  constructor
  ·refine yX (w := w) (N := Free β ⟨H, L, F⟩) hblk hpos ?_ (fun x v h => h.mono hst.size hst.frame)
   rw [Array.toList_append, List.nil_append, ← n2.len, List.take_left]; exact n2
  ·refine .sl _ _ _ _ _ rfl ⟨_, zDg H L _ F, fun T' b' e' rows' h => by cases h; exact Nat.le_refl _⟩ fun T' b' e' rows' h _ => ?_
   rw [zDg H L _ F] at h
   cases h
   refine ⟨by omega, fun _ h => by omega, fun _ => ⟨_, _, rfl, hge, hle, fun _ => ?_, fun _ _ _ => ?_⟩⟩
   ·rw [hβ, if_pos rfl]; simp
   ·rw [hβ, if_pos rfl]
    unfold csize
    have hb2 : (w.drew.alloc (.cells (([] ++ news).toArray ++ Builtin.zeroCells zv.cells (grownCap w rows.length 0 e - rows.length)) e)).heap[w.heap.size]? = _ := hblk
    rw [hb2]; exact hsz.symm
theorem zCz {i : Nat} {Ty : TypeId} {e : Nat} {rows : List AV} (hS : Sim w β ⟨H, L, F⟩) (hi : L[i]? = some (.arr Ty true e rows)) (hr : rows.length ≠ 0) : ∃ cs : Array Value, w.heap[β (.l i)]? = some (.cells cs Ty (0, 0)) ∧ rows.length * e ≤ cs.size ∧ 0 < e ∧ News w (Free β ⟨H, L, F⟩) e rows (cs.toList.take (rows.length * e)) := by
 obtain ⟨cs, fr, h1, h2, _, h4, h5, h6, h7⟩ := (hS.objs (.l i) _ hi).2 (AObj.off_arr.2 fun _ => hr)
 obtain rfl := h4 rfl
 refine ⟨cs, h1, h2, h5, h6, by simp; omega, fun p q r x hp hq => ?_⟩
 obtain ⟨v, hv, hr⟩ := h7 p q r x hp hq
 have hpl := (List.getElem?_eq_some_iff.1 hp).1
 have hql : q < e := by rw [← h6 r (List.mem_of_getElem? hp)]; exact (List.getElem?_eq_some_iff.1 hq).1
 have hlt : p * e + q < rows.length * e := by
  have : (p + 1) * e ≤ rows.length * e := Nat.mul_le_mul_right _ (by omega)
  rw [Nat.add_mul] at this; omega
 exact ⟨v, by rw [List.getElem?_take, if_pos hlt]; simpa using hv, hr⟩
theorem set_get {i : Nat} {ob ob' : AObj} (hi : L[i]? = some ob) : (⟨H, L.set i ob', F⟩ : Hp).get (.l i) = some ob' := by
 have hlt : i < L.length := (List.getElem?_eq_some_iff.1 hi).1
 simp [Hp.get, hlt]
theorem opr_upd0 {i : Nat} {T : TypeId} {e : Nat} {ob' : AObj} (hi : L[i]? = some (.arr T true e [])) (hx : ∃ rows, ob' = .arr T true e rows) (h : ∀ F w β a, Sim w β ⟨H, L, F⟩ → EnvR w β ⟨H, L, F⟩ env a → ∃ (u : Value) (ob : Obj) (w0 : World), (execOp a.eval o).run P w = .ok (.value u) (w0.alloc ob) ∧ w0.heap = w.heap ∧ w0.os = w.os ∧ w0.tape = w.tape ∧ w0.output = w.output ∧
  ∀ β', (∀ k, β' k = if k = .l i then w.heap.size else β k) → Step w β ⟨H, L, F⟩ (w0.alloc ob) β' ⟨H, L.set i ob', F⟩ →
   ObjOk (w0.alloc ob) β' ⟨H, L.set i ob', F⟩ w.heap.size ob' ∧ RepT (w0.alloc ob) β' ⟨H, L.set i ob', F⟩ x u) : OpR P o env H L x H (L.set i ob') := by
 intro F w β a next Q hS he hn
 obtain ⟨u, ob, w0, h1, g1, g2, g3, g4, h2⟩ := h F w β a hS he
 have hlt : i < L.length := (List.getElem?_eq_some_iff.1 hi).1
 have hblk : ∀ b, b < w.heap.size → (w0.alloc ob).heap[b]? = w.heap[b]? := fun b hb => by rw [← g1] at hb ⊢; exact zAe w0 ob b hb
 have hsz : w.heap.size ≤ (w0.alloc ob).heap.size := by rw [← g1]; simp
 have hget : ∀ k, (⟨H, L.set i ob', F⟩ : Hp).get k = if k = .l i then some ob' else (⟨H, L, F⟩ : Hp).get k := fun k => by
  cases k with
  | o k => simp [Hp.get]
  | l j =>
   simp only [Hp.get, List.getElem?_set, Hd.l.injEq]
   by_cases e : i = j
   ·subst e; simp [hlt]
   ·rw [if_neg e, if_neg (fun q => e q.symm)]
 obtain ⟨β', hβ⟩ : ∃ β' : Hd → Nat, ∀ k, β' k = if k = .l i then w.heap.size else β k := ⟨_, fun _ => rfl⟩
 have hlv : ∀ k, k ≠ .l i → (⟨H, L.set i ob', F⟩ : Hp).live k → (⟨H, L, F⟩ : Hp).live k := by
  rintro k hk ⟨x, hx, hn⟩
  rw [hget, if_neg hk] at hx
  exact ⟨x, hx, hn⟩
 have hstep : Step w β ⟨H, L, F⟩ (w0.alloc ob) β' ⟨H, L.set i ob', F⟩ := by
  refine ⟨g2, g3, g4, hsz, fun b hb hf => ⟨hblk b hb, hf.1, fun k hk => ?_⟩, fun b hb => hblk b (hS.flt b hb), rfl, fun k x hxk => ?_⟩
  ·rw [hβ]
   by_cases e : k = .l i
   ·rw [if_pos e]; omega
   ·rw [if_neg e]; exact hf.2 k (hlv k e hk)
  ·by_cases e : k = .l i
   ·subst e
    obtain ⟨rows, rfl⟩ := hx
    rw [show (⟨H, L, F⟩ : Hp).get (.l i) = L[i]? from rfl, hi] at hxk
    obtain rfl := Option.some.inj hxk
    exact ⟨.arr T true e rows, by rw [hget, if_pos rfl], rfl, rfl, rfl, Nat.zero_le _, fun h => by cases h⟩
   ·refine ⟨x, by rw [hget, if_neg e]; exact hxk, ?_⟩
    rw [hβ, if_neg e]
    exact ObjGo.same fun hne => hblk _ (hS.lt ⟨x, hxk, hne⟩)
 obtain ⟨h3, h4⟩ := h2 _ hβ hstep
 have hsim : Sim (w0.alloc ob) β' ⟨H, L.set i ob', F⟩ := by
  refine ⟨fun k x hxk => ?_, fun k1 k2 l1 l2 he => ?_, hS.ext, fun k hk => ?_, fun b hb => Nat.lt_of_lt_of_le (hS.flt b hb) hsz⟩
  ·by_cases e : k = .l i
   ·subst e
    rw [hget, if_pos rfl] at hxk
    obtain rfl := Option.some.inj hxk
    rw [hβ, if_pos rfl]
    exact h3
   ·rw [hget, if_neg e] at hxk
    rw [hβ, if_neg e]
    rcases qS x with hd | hd
    ·exact (hS.objs k x hxk).of_off hd
    ·exact (hS.objs k x hxk).mono hstep (hblk _ (hS.lt ⟨x, hxk, hd⟩))
  ·rw [hβ, hβ] at he
   by_cases e1 : k1 = .l i <;> by_cases e2 : k2 = .l i
   ·rw [e1, e2]
   ·rw [if_pos e1, if_neg e2] at he
    have := hS.lt (hlv k2 e2 l2); omega
   ·rw [if_neg e1, if_pos e2] at he
    have := hS.lt (hlv k1 e1 l1); omega
   ·rw [if_neg e1, if_neg e2] at he
    exact hS.inj _ _ (hlv _ e1 l1) (hlv _ e2 l2) he
  ·rw [hβ]
   by_cases e : k = .l i
   ·rw [if_pos e]
    intro hb; have := hS.flt _ hb; omega
   ·rw [if_neg e]; exact hS.disj k (hlv k e hk)
 unfold Oper.wp
 rw [h1]
 exact hn _ _ u hsim hstep h4
theorem zMt {t tx : TypeId} {y z : Operand} {e i : Nat} {te : TyI} {b : Bool} {rows : List AV} {s : TV} (hT : TabOk P T) (ho : o.op = .call { callee := .builtin .append, args := #[y, z], argTypes := #[t, tx] })
  (ht : appT T t tx = some (e, te, b)) (hy : evA env y = .sl (.l i) 0 0 0) (hi : L[i]? = some (.arr e true te.size [])) (hz : evA env z = s) (hs : SrcA H L s rows) (hbs : b = true ↔ ∃ l, s = .p (.str l)) (hc : clR rows) (he : ∀ r ∈ rows, (cellsOf r).length = te.size) (hb0 : 0 < te.bytes)
  (h0 : 0 < rows.length) (hfit : rows.length * te.bytes ≤ 140737488355328) : OpR P o env H L (.sl (.l i) rows.length 0 rows.length) H (L.set i (.arr e true te.size rows)) :=
 opr_upd0 hi ⟨_, rfl⟩ fun F w β a hS hen => by
  have hpos := (hS.objs (.l i) _ hi).1
  obtain ⟨at', hb1, _⟩ := zAb hT ht
  obtain ⟨inf, zv, i1, i2, i3, i4, i5⟩ := at'.info
  have hvz := zL hen z
  rw [hz] at hvz
  obtain ⟨news, n1, n2⟩ := hs.src' hS at' hb1 hvz hc he hbs
  obtain ⟨ao, hvy⟩ : ∃ ao, a.eval y = .slice ao 0 0 := by
   have h := zL hen y
   rw [hy] at h
   generalize a.eval y = u at h
   cases h with | sl _ _ _ _ _ _ _ hv => exact (hv _ _ _ _ hi rfl).off rfl rfl
  have hold : (Builtin.firstCells inf.size 0 (.slice ao 0 0)).run P w.drew = .ok ([] : List Value).toArray w.drew := by
   cases ao with
   | none => exact run_firstCells_none w.drew inf.size 0 0 0
   | some a' => exact run_firstCells_some w.drew inf.size 0 a' 0 0 [] (by simp) (by intro _ _ h'; simp at h')
  have hmax := zEu hb0 hfit
  have hrun := run_append_grow_src (P := P) w t tx o.type e inf zv at'.ut i1 i2 ao 0 0 [] hold (a.eval z) rows.length news (by rw [i3]; exact n1) (by omega) (by omega) (by rw [i4]; exact fits (by omega) (by simpa using hfit))
  rw [Nat.zero_add] at hrun
  refine ⟨_, _, w.drew, zAs (P := P) ho rfl (by rw [hvy]; exact hrun), rfl, rfl, rfl, rfl, fun β' hβ hst => ?_⟩
  have hblk := yP w.drew (.cells (([] ++ news).toArray ++ Builtin.zeroCells zv.cells (grownCap w rows.length 0 e - rows.length)) e)
  have hge := grownCap_ge w rows.length 0 e
  have hle := grownCap_le_maxLen w rows.length 0 e (by unfold maxLen; omega)
  have hsz : (([] ++ news).toArray ++ Builtin.zeroCells zv.cells (grownCap w rows.length 0 e - rows.length)).size = grownCap w rows.length 0 e * te.size := by
   rw [Array.size_append, size_zeroCells, i5]
   simp only [List.nil_append, List.size_toArray, n2.len]
   rw [← Nat.add_mul]; congr 1; omega
  constructor
  ·refine yX (w := w) (N := Free β ⟨H, L, F⟩) hblk hpos ?_ (fun x v h => h.mono hst.size hst.frame)
   rw [Array.toList_append, List.nil_append, ← n2.len, List.take_left]; exact n2
  ·refine .sl _ _ _ _ _ rfl ⟨_, set_get hi, fun T' b' e' rows' h => by cases h; exact Nat.le_refl _⟩ fun T' b' e' rows' h _ => ?_
   rw [set_get hi] at h
   cases h
   refine ⟨by omega, fun _ h => by omega, fun _ => ⟨_, _, rfl, hge, hle, fun _ => ?_, fun _ _ _ => ?_⟩⟩
   ·rw [hβ, if_pos rfl]; simp
   ·rw [hβ, if_pos rfl]
    unfold csize
    have hb2 : (w.drew.alloc (.cells (([] ++ news).toArray ++ Builtin.zeroCells zv.cells (grownCap w rows.length 0 e - rows.length)) e)).heap[w.heap.size]? = _ := hblk
    rw [hb2]; exact hsz.symm
theorem zL4 {t tx : TypeId} {y z : Operand} {e i : Nat} {te : TyI} {b : Bool} {s : TV} (hT : TabOk P T) (ho : o.op = .call { callee := .builtin .append, args := #[y, z], argTypes := #[t, tx] })
  (ht : appT T t tx = some (e, te, b)) (hy : evA env y = .sl (.l i) 0 0 0) (hi : L[i]? = some (.arr e true te.size [])) (hz : evA env z = s) (hs : SrcA H L s []) (hbs : b = true ↔ ∃ l, s = .p (.str l)) : OpR P o env H L (.sl (.l i) 0 0 0) H L :=
 zQ fun F w β a hS hen => by
  obtain ⟨at', hb1, _⟩ := zAb hT ht
  obtain ⟨inf, zv, i1, i2, i3, i4, i5⟩ := at'.info
  have hvz := zL hen z
  rw [hz] at hvz
  obtain ⟨news, n1, n2⟩ := hs.src' hS at' hb1 hvz (by intro r hr; simp at hr) (by intro r hr; simp at hr) hbs
  have hn0 : news = [] := List.eq_nil_of_length_eq_zero (by rw [n2.len]; simp)
  subst hn0
  have hvy := zL hen y
  rw [hy] at hvy
  obtain ⟨ao, hv⟩ : ∃ ao, a.eval y = .slice ao 0 0 := by
   generalize a.eval y = u at hvy
   cases hvy with | sl _ _ _ _ _ _ _ hv => exact (hv _ _ _ _ hi rfl).off rfl rfl
  refine ⟨_, zAs (P := P) (w' := w) (v := a.eval y) ho rfl ?_, hvy⟩
  have hu := at'.ut
  have hsl := n1.len w
  have hsc := n1.cells
  rw [← i3] at hsc
  simp only [List.length_nil] at hsl hsc
  rw [hv]
  rcases n1.kind with ⟨e', hk⟩ | hk <;> cases ao <;> simp [Builtin.append_, run_underlying hu, run_underlying hk, sizeOf, typeInfo, i1, hsl, hsc, storeCells]
theorem zIx {α : Type} {l : List α} {i : Nat} {x : α} (h : l[i]? = some x) : l.set i x = l := by
 obtain ⟨h1, rfl⟩ := List.getElem?_eq_some_iff.1 h
 exact List.set_getElem_self ..
theorem zRp {t tx : TypeId} {y z : Operand} {e n i : Nat} {te : TyI} {b : Bool} {rows0 rows : List AV} {s : TV} {Ty : TypeId} (hT : TabOk P T) (ho : o.op = .call { callee := .builtin .append, args := #[y, z], argTypes := #[t, tx] })
  (ht : appT T t tx = some (e, te, b)) (hy : evA env y = .sl (.l i) n 0 n) (hi : L[i]? = some (.arr Ty true te.size rows0)) (hn : rows0.length = n) (hTy : Ty = e) (hz : evA env z = s) (hs : SrcA H L s rows) (hbs : b = true ↔ ∃ l, s = .p (.str l)) (hc : clR rows) (he : ∀ r ∈ rows, (cellsOf r).length = te.size) (hb0 : 0 < te.bytes)
  (hfit : (n + rows.length) * te.bytes ≤ 140737488355328) (hne : rows0.length ≠ 0) : OpR P o env H L (.sl (.l i) (n + rows.length) 0 (n + rows.length)) H (L.set i (.arr Ty true te.size (rows0 ++ rows))) :=
 opr_upd hi (AObj.off_arr.2 fun _ => hne) fun F w β a hS hen => by
  subst hTy
  obtain ⟨at', hb1, _⟩ := zAb hT ht
  obtain ⟨inf, zv, i1, i2, i3, i4, i5⟩ := at'.info
  have hvz := zL hen z
  rw [hz] at hvz
  obtain ⟨news, n1, n2⟩ := hs.src' hS at' hb1 hvz hc he hbs
  obtain ⟨cs, c1, c2, hpos, c3⟩ := zCz hS hi hne
  have hvy := zL hen y
  rw [hy] at hvy
  generalize hvv : a.eval y = vy at hvy
  cases hvy with | sl _ _ _ _ _ _ _ hv =>
  obtain ⟨ao, cap, rfl, hlc, hcm, hadd, hcap⟩ := (hv _ _ _ _ hi hn).on fun _ => by omega
  obtain rfl := hadd (.inl rfl)
  rw [Nat.zero_mul] at hvv
  have hcap2 := hcap rfl rfl rfl
  have hcs : csize w (β (.l i)) = cs.size := by unfold csize; rw [c1]
  have hmax := zEu hb0 hfit
  have hnl := n2.len
  subst hn
  by_cases hroom : rows0.length + rows.length ≤ cap
  ·have hle : (rows0.length + rows.length) * te.size ≤ cs.size := by rw [← hcs, ← hcap2]; exact Nat.mul_le_mul_right _ hroom
   rw [Nat.add_mul] at hle
   have hrun := zBu (P := P) w t tx o.type Ty inf at'.ut i1 (β (.l i)) rows0.length cap cs Ty c1 (a.eval z) rows.length news (by rw [i3]; exact n1) hroom (by rw [i3]; omega)
   rw [i3, ← hvv] at hrun
   have hblk := setRow_heap w (β (.l i)) cs (cs.toList.take (rows0.length * te.size) ++ news ++ cs.toList.drop (rows0.length * te.size + news.length)).toArray Ty (0, 0) c1
   have hlen : (cs.toList.take (rows0.length * te.size) ++ news ++ cs.toList.drop (rows0.length * te.size + news.length)).length = cs.size := by simp; omega
   have hcs2 : csize (w.setRow (β (.l i)) (cs.toList.take (rows0.length * te.size) ++ news ++ cs.toList.drop (rows0.length * te.size + news.length)).toArray) (β (.l i)) = csize w (β (.l i)) := by
    rw [hcs]; unfold csize; rw [hblk]; simpa using hlen
   refine ⟨_, _, β (.l i), zAs (P := P) ho rfl hrun, rfl, rfl, rfl, by simp, fun b _ hb => setRow_other w _ b _ hb, .inl rfl, ⟨rfl, rfl, rfl, by simp, fun _ _ => ⟨rfl, hcs2⟩⟩, fun β' hβ hst => ⟨?_, ?_⟩⟩
   ·refine yX (w := w) (N := Free β ⟨H, L, F⟩) hblk hpos ?_ (fun x v h => h.mono hst.size hst.frame)
    have hap := c3.append n2
    have hl2 : (cs.toList.take (rows0.length * te.size) ++ news).length = (rows0 ++ rows).length * te.size := hap.len
    rw [← hl2, List.take_left]; exact hap
   ·refine .sl _ _ _ _ _ rfl ⟨_, set_get hi, fun T' b' e' rows' h => by cases h; simp⟩ fun T' b' e' rows' h _ => ?_
    rw [set_get hi] at h
    cases h
    refine ⟨by omega, fun _ h => by omega, fun _ => ⟨_, _, rfl, hroom, hcm, fun _ => ?_, fun _ _ _ => ?_⟩⟩
    ·rw [hβ, if_pos rfl]; simp
    ·rw [hβ, if_pos rfl, hcs2]; exact hcap2
  ·have hold : (Builtin.firstCells inf.size rows0.length (.slice (some ⟨β (.l i), 0, none⟩) rows0.length cap)).run P w.drew = .ok (cs.toList.take (rows0.length * te.size)).toArray w.drew := by
    rw [i3]
    refine run_firstCells_some w.drew te.size rows0.length ⟨β (.l i), 0, none⟩ rows0.length cap _ c3.len (fun j u hu => ?_)
    rw [List.getElem?_take] at hu
    split at hu
    ·rw [Addr.add_lit, Nat.zero_add]
     have hc := cell_of_row w (β (.l i)) j cs Ty (0, 0) c1
     rw [show (w.drew.cell? ⟨β (.l i), j, none⟩) = w.cell? ⟨β (.l i), j, none⟩ from rfl, hc]
     simpa using hu
    ·cases hu
   have hrun := run_append_grow_src (P := P) w t tx o.type Ty inf zv at'.ut i1 i2 (some ⟨β (.l i), 0, none⟩) rows0.length cap _ hold (a.eval z) rows.length news (by rw [i3]; exact n1) (by omega) (by omega) (by rw [i4]; exact fits (by omega) hfit)
   have hge := grownCap_ge w (rows0.length + rows.length) cap Ty
   have hle := grownCap_le_maxLen w (rows0.length + rows.length) cap Ty (by unfold maxLen; omega)
   rw [← hvv] at hrun
   generalize hgc : grownCap w (rows0.length + rows.length) cap Ty = gc at hrun hge hle
   have hap := c3.append n2
   have hblk := yP w.drew (.cells ((cs.toList.take (rows0.length * te.size) ++ news).toArray ++ Builtin.zeroCells zv.cells (gc - (rows0.length + rows.length))) Ty)
   have hsz : ((cs.toList.take (rows0.length * te.size) ++ news).toArray ++ Builtin.zeroCells zv.cells (gc - (rows0.length + rows.length))).size = gc * te.size := by
    rw [Array.size_append, size_zeroCells, i5, List.size_toArray, hap.len, List.length_append, ← Nat.add_mul]; congr 1; omega
   have hcs2 : csize (w.drew.alloc (.cells ((cs.toList.take (rows0.length * te.size) ++ news).toArray ++ Builtin.zeroCells zv.cells (gc - (rows0.length + rows.length))) Ty)) w.heap.size = gc * te.size := by
    unfold csize
    have hb2 : (w.drew.alloc (.cells ((cs.toList.take (rows0.length * te.size) ++ news).toArray ++ Builtin.zeroCells zv.cells (gc - (rows0.length + rows.length))) Ty)).heap[w.heap.size]? = _ := hblk
    rw [hb2]; exact hsz
   refine ⟨_, _, w.heap.size, zAs (P := P) ho rfl hrun, rfl, rfl, rfl, ?_, fun b hb _ => zAe w.drew _ b hb, .inr (Nat.le_refl _), ⟨rfl, rfl, rfl, by simp, fun _ hl => ?_⟩, fun β' hβ hst => ⟨?_, ?_⟩⟩
   ·show w.drew.heap.size ≤ _
    simp
   ·exfalso
    simp at hl
    subst hl
    simp at hroom
    omega
   ·refine yX (w := w) (N := Free β ⟨H, L, F⟩) hblk hpos ?_ (fun x v h => h.mono hst.size hst.frame)
    rw [Array.toList_append, ← hap.len, List.toList_toArray, List.take_left]; exact hap
   ·refine .sl _ _ _ _ _ rfl ⟨_, set_get hi, fun T' b' e' rows' h => by cases h; simp⟩ fun T' b' e' rows' h _ => ?_
    rw [set_get hi] at h
    cases h
    refine ⟨by omega, fun _ h => by omega, fun _ => ⟨_, _, rfl, hge, hle, fun _ => ?_, fun _ _ _ => ?_⟩⟩
    ·rw [hβ, if_pos rfl]; simp
    ·rw [hβ, if_pos rfl, hcs2]
theorem yW {t tx : TypeId} {y z : Operand} {e n i : Nat} {te : TyI} {b : Bool} {rows0 rows : List AV} {s : TV} {Ty : TypeId} (hT : TabOk P T) (ho : o.op = .call { callee := .builtin .append, args := #[y, z], argTypes := #[t, tx] })
  (ht : appT T t tx = some (e, te, b)) (hy : evA env y = .sl (.l i) n 0 n) (hi : L[i]? = some (.arr Ty true te.size rows0)) (hn : rows0.length = n) (hTy : Ty = e) (hz : evA env z = s) (hs : SrcA H L s rows) (hbs : b = true ↔ ∃ l, s = .p (.str l)) (hc : clR rows) (he : ∀ r ∈ rows, (cellsOf r).length = te.size) (hb0 : 0 < te.bytes)
  (hfit : (n + rows.length) * te.bytes ≤ 140737488355328) : OpR P o env H L (.sl (.l i) (n + rows.length) 0 (n + rows.length)) H (L.set i (.arr Ty true te.size (rows0 ++ rows))) := by
 cases rows0 with
 | nil =>
  subst hn hTy
  cases rows with
  | nil =>
   rw [List.append_nil, zIx hi]
   exact zL4 hT ho ht hy hi hz hs hbs
  | cons r rs =>
   have := zMt hT ho ht hy hi hz hs hbs hc he hb0 (by simp) (by simpa using hfit)
   simpa using this
 | cons r0 rs0 => exact zRp hT ho ht hy hi hn hTy hz hs hbs hc he hb0 hfit (by simp)
end
def eqChk (P : Program) (t : Nat) : Bool := !(P.eqGuardType P.depth t) && (match P.underlying t with
 | some (.struct gs) => gs.toList.all (fun f => f.name != "_") && !(P.stoodInHeld t)
 | some (.array _ _) => true
 | _ => false)
def eqFs (T : Tab) (t : Nat) : Option (List (Nat × Nat)) := match tyD T t with
 | .struct fs => some fs
 | .array n e => match tlk T e with
  | some te => some (arrF e te.size n 0)
  | none => none
 | _ => none
def eq1 (T : Tab) (t : Nat) (a b : AV) : Option Bool := match tyD T t with
 | .int k => match a, b with
  | .int k1 n, .int k2 m => match kEq k k1 && kEq k k2 with
   | true => some (decide (n = m))
   | false => none
  | _, _ => none
 | .bool => match a, b with
  | .bool x, .bool y => some (decide (x = y))
  | _, _ => none
 | .str => match a, b with
  | .str x, .str y => some (decide (x = y))
  | _, _ => none
 | _ => none
def eqF (T : Tab) : List (Nat × Nat) → List AV → List AV → Option Bool
 | [], _, _ => some true
 | (o, t) :: r, xs, ys => match xs[o]?, ys[o]? with
  | some a, some b => match eq1 T t a b, eqF T r xs ys with
   | some c, some d => some (c && d)
   | _, _ => none
  | _, _ => none
section
variable {P : Program} {T : Tab} {env : Env} {H L : List AObj} {o : Oper} {x : TV} {w : World}
theorem listBeq (x y : List UInt8) : (x == y) = decide (x = y) := by
 by_cases e : x = y <;> simp [e]
theorem zT2 (hT : TabOk P T) {N : Nat → Prop} {t : Nat} {a b : AV} {u v : Value} {c : Bool} (h : eq1 T t a b = some c) (ha : RepA w N a u) (hb : RepA w N b v) (d : Nat) :
  (Op.equalIn (d + 1) t u v).run P w = .ok c w ∧ ∀ (xs : Array Value) (off : Nat) (z : Value), xs[off]? = some z → (part t xs off).run P w = .ok z w := by
 unfold eq1 at h
 have part_ok : ∀ {u : TypeDesc}, P.underlying t = some u → (match u with | .struct _ => False | .array _ _ => False | _ => True) → ∀ (xs : Array Value) (off : Nat) (z : Value), xs[off]? = some z → (part t xs off).run P w = .ok z w := by
  intro u hu hn xs off z hz
  cases u <;> simp only at hn <;> simp [part, isAgg, run_underlying hu, hz]
 split at h
 all_goals try (rename_i hd; obtain ⟨ud, h1, h2⟩ := zV hT (t := t) (by rw [hd]; simp); rw [hd] at h2)
 ·obtain rfl := zBo h2
  split at h
  ·split at h
   ·rename_i hk
    simp only [Bool.and_eq_true] at hk
    have e1 := zTi hk.1
    have e2 := zTi hk.2
    obtain rfl := Option.some.inj h
    cases ha; cases hb
    subst e1 e2
    exact ⟨by rw [run_equalIn_int w d t _ _ _ _ h1]; congr 1, part_ok h1 trivial⟩
   ·cases h
  ·cases h
 ·cases ud <;> simp only [chkD, Bool.false_eq_true] at h2
  split at h
  ·obtain rfl := Option.some.inj h
   cases ha; cases hb
   refine ⟨?_, part_ok h1 trivial⟩
   rw [run_equalIn_bool w d t _ _ h1]
   congr 1
  ·cases h
 ·obtain rfl := qZ h2
  split at h
  ·obtain rfl := Option.some.inj h
   cases ha; cases hb
   refine ⟨?_, part_ok h1 trivial⟩
   rw [run_equalIn_string w d t _ _ h1]
   congr 1
   simp only [ByteArray.toList_eq]
   exact listBeq _ _
  ·cases h
 ·cases h
theorem zE9 (hT : TabOk P T) {N : Nat → Prop} {xs ys : List AV} {us vs : List Value} (hx : us.length = xs.length) (hxr : ∀ (i : Nat) x v, xs[i]? = some x → us[i]? = some v → RepA w N x v) (hy : vs.length = ys.length) (hyr : ∀ (i : Nat) x v, ys[i]? = some x → vs[i]? = some v → RepA w N x v) (d : Nat) :
  ∀ (fs : List Field) {c : Bool}, (∀ f ∈ fs, f.name ≠ "_") → eqF T (fs.map fun f => (f.offset, f.type)) xs ys = some c → (Op.eqFields (d + 1) us.toArray vs.toArray fs).run P w = .ok c w
 | [], c, _, h => by
  simp only [List.map_nil, eqF, Option.some.injEq] at h
  subst h
  simp [Op.eqFields]
 | f :: fs, c, hn, h => by
  simp only [List.map_cons, eqF] at h
  split at h
  ·rename_i a b ha hb
   split at h
   ·rename_i c1 c2 h1 h2
    obtain rfl := Option.some.inj h
    have hau : f.offset < us.length := by rw [hx]; exact (List.getElem?_eq_some_iff.1 ha).1
    have hbu : f.offset < vs.length := by rw [hy]; exact (List.getElem?_eq_some_iff.1 hb).1
    have hua := List.getElem?_eq_getElem hau
    have hvb := List.getElem?_eq_getElem hbu
    obtain ⟨e1, e2⟩ := zT2 hT h1 (hxr _ a _ ha hua) (hyr _ b _ hb hvb) d
    have ih := zE9 hT hx hxr hy hyr d fs (fun f hf => hn f (by simp [hf])) h2
    have p1 := e2 us.toArray f.offset us[f.offset] (by rw [List.getElem?_toArray]; exact hua)
    have p2 := e2 vs.toArray f.offset vs[f.offset] (by rw [List.getElem?_toArray]; exact hvb)
    simp only [Op.eqFields, if_pos (hn f (by simp)), Sem.run_bind, p1, p2, Result.andThen_ok, e1]
    cases c1
    ·simp
    ·simpa using ih
   ·cases h
  ·cases h
theorem zHc (hT : TabOk P T) {N : Nat → Prop} {xs ys : List AV} {us vs : List Value} (hx : us.length = xs.length) (hxr : ∀ (i : Nat) x v, xs[i]? = some x → us[i]? = some v → RepA w N x v) (hy : vs.length = ys.length) (hyr : ∀ (i : Nat) x v, ys[i]? = some x → vs[i]? = some v → RepA w N x v) (d e n : Nat) :
  ∀ (k off : Nat) {c : Bool}, eqF T (arrF e n k (off * n)) xs ys = some c →
   (do
    let r ← forIn (List.range' off k) ((none : Option Bool), ()) fun i _ => do
     let a ← part e us.toArray (i * n)
     let b ← part e vs.toArray (i * n)
     let q ← Op.equalIn (d + 1) e a b
     if (!q) = true then pure (ForInStep.done (some false, ())) else pure (ForInStep.yield (none, ()))
    Break.runK r.1 (fun _ => pure true) (fun b => pure b) : Sem Bool).run P w = .ok c w
 | 0, off, c, h => by
  simp only [arrF, eqF, Option.some.injEq] at h
  subst h
  simp
 | k + 1, off, c, h => by
  simp only [arrF, eqF] at h
  split at h
  ·rename_i a b ha hb
   split at h
   ·rename_i c1 c2 h1 h2
    obtain rfl := Option.some.inj h
    have hau : off * n < us.length := by rw [hx]; exact (List.getElem?_eq_some_iff.1 ha).1
    have hbu : off * n < vs.length := by rw [hy]; exact (List.getElem?_eq_some_iff.1 hb).1
    have hua := List.getElem?_eq_getElem hau
    have hvb := List.getElem?_eq_getElem hbu
    obtain ⟨e1, e2⟩ := zT2 hT h1 (hxr _ a _ ha hua) (hyr _ b _ hb hvb) d
    rw [show off * n + n = (off + 1) * n by rw [Nat.add_mul]; omega] at h2
    have ih := zHc hT hx hxr hy hyr d e n k (off + 1) h2
    have p1 := e2 us.toArray (off * n) us[off * n] (by rw [List.getElem?_toArray]; exact hua)
    have p2 := e2 vs.toArray (off * n) vs[off * n] (by rw [List.getElem?_toArray]; exact hvb)
    simp only [Sem.run_bind] at ih
    simp only [List.range'_succ, List.forIn_cons, Sem.run_bind, p1, p2, Result.andThen_ok, e1]
    cases c1
    ·simp
    ·simpa using ih
   ·cases h
  ·cases h
theorem zTw (hT : TabOk P T) {N : Nat → Prop} {t : Nat} {fs : List (Nat × Nat)} {xs ys : List AV} {us vs : List Value} {c : Bool} (hq : eqChk P t = true) (hf : eqFs T t = some fs) (h : eqF T fs xs ys = some c)
  (hx : us.length = xs.length) (hxr : ∀ (i : Nat) x v, xs[i]? = some x → us[i]? = some v → RepA w N x v) (hy : vs.length = ys.length) (hyr : ∀ (i : Nat) x v, ys[i]? = some x → vs[i]? = some v → RepA w N x v) :
  (Op.equalIn 10000 t (.agg us.toArray) (.agg vs.toArray)).run P w = .ok c w := by
 unfold eqChk at hq
 simp only [Bool.and_eq_true, Bool.not_eq_true'] at hq
 obtain ⟨_, hq⟩ := hq
 unfold eqFs at hf
 split at hf
 ·rename_i fs' hd
  obtain ⟨u, h1, h2⟩ := zV hT (t := t) (by rw [hd]; simp)
  rw [hd] at h2
  obtain ⟨gs, rfl, hfs⟩ := zBf h2
  rw [h1] at hq
  simp only [Bool.and_eq_true, List.all_eq_true, bne_iff_ne, Bool.not_eq_true'] at hq
  obtain rfl := Option.some.inj hf
  rw [hfs] at h
  have hfo : P.fieldsOf t = gs := by simp [Program.fieldsOf, h1]
  rw [run_equalIn_struct w 9999 t _ _ (by rw [hfo]; exact h1) hq.2, hfo]
  exact zE9 hT hx hxr hy hyr 9998 gs.toList hq.1 h
 ·rename_i n e hd
  obtain ⟨u, h1, h2⟩ := zV hT (t := t) (by rw [hd]; simp)
  rw [hd] at h2
  obtain rfl := jC h2
  split at hf
  ·rename_i te hte
   obtain rfl := Option.some.inj hf
   obtain ⟨inf, ue, ok⟩ := hT.get hte
   have key : ∀ d D, D = d + 1 → (Op.equalIn (D + 1) t (.agg us.toArray) (.agg vs.toArray)).run P w = .ok c w := fun d D hD => by
    have hb := zHc hT hx hxr hy hyr d e te.size n 0 (by simpa using h)
    rw [← hD] at hb
    simp only [Op.equalIn, Sem.run_bind, run_underlying h1, Result.andThen_ok, ok.run_size]
    simp only [Sem.run_bind] at hb
    simp at hb ⊢
    exact hb
   exact key 9998 9999 rfl
  ·cases hf
 ·cases hf
def aggOf (x : TV) : Option (List AV) := match x with
 | .p (.agg l) => some l
 | .agg l => unpL l
 | _ => none
theorem zJ4 {β : Hd → Nat} {G : Hp} {x : TV} {l : List AV} {v : Value} (h : aggOf x = some l) (hr : RepT w β G x v) : ∃ vs : List Value, v = .agg vs.toArray ∧ vs.length = l.length ∧ ∀ (i : Nat) a u, l[i]? = some a → vs[i]? = some u → RepA w (Free β G) a u := by
 unfold aggOf at h
 split at h
 ·obtain rfl := Option.some.inj h
  cases hr with | p hr =>
  cases hr with | agg _ vs hl hr => exact ⟨vs, rfl, hl, hr⟩
 ·cases hr with | agg _ vs hl hr =>
  obtain ⟨h1, h2⟩ := zB9 (w := w) (β := β) (G := G) _ h
  refine ⟨vs, rfl, by omega, fun i a u ha hu => ?_⟩
  obtain ⟨z, hz, hz2⟩ := h2 i a ha
  exact hz2 u (hr i z u hz hu)
 ·cases h
def eqR (op : BinOp) (b : Bool) : Option TV := match op with
 | .eql => some (.p (.bool b))
 | .neq => some (.p (.bool !b))
 | _ => none
theorem yF (hT : TabOk P T) {op : BinOp} {t t2 : TypeId} {y z : Operand} {xs ys : List AV} {fs : List (Nat × Nat)} {c : Bool} (ho : o.op = .binOp op t y z t2) (hq : eqChk P t = true) (hy : aggOf (evA env y) = some xs) (hz : aggOf (evA env z) = some ys) (hf : eqFs T t = some fs) (h : eqF T fs xs ys = some c) (hr : eqR op c = some x) : OpR P o env H L x H L :=
 zQ fun F w β a hS he => by
  obtain ⟨us, e1, hx, hxr⟩ := zJ4 hy (zL he y)
  obtain ⟨vs, e2, hy', hyr⟩ := zJ4 hz (zL he z)
  have hrun := zTw (w := w) hT hq hf h hx hxr hy' hyr
  have hg : P.eqGuardType P.depth t = false := by
   unfold eqChk at hq
   simp only [Bool.and_eq_true, Bool.not_eq_true'] at hq
   exact hq.1
  unfold eqR at hr
  split at hr
  ·obtain rfl := Option.some.inj hr
   refine ⟨.bool c, ?_, .p (.bool _)⟩
   simp only [execOp, ho, e1, e2, Sem.run_bind, run_eqGuard_agg w _ t y z _ _ hg, Result.andThen_ok, run_eql_struct, hrun, Sem.run_pure]
  ·obtain rfl := Option.some.inj hr
   refine ⟨.bool (!c), ?_, .p (.bool _)⟩
   simp only [execOp, ho, e1, e2, Sem.run_bind, run_eqGuard_agg w _ t y z _ _ hg, Result.andThen_ok, run_neq_struct, hrun, Sem.run_pure]
  ·cases hr
def idxA (n e : Nat) (L : List AObj) (j : Int) : TV → Option TV
 | .ad (.l i) off => match L[i]? with
  | some (.box _ _) => match decide (0 ≤ j) && decide (j < n) with
   | true => some (.ad (.l i) (off + j.toNat * e))
   | false => none
  | _ => none
 | .el s e0 i off => match decide (0 ≤ j) && decide (j < n) with
   | true => some (.el s e0 i (off + j.toNat * e))
   | false => none
 | .p (.pp cells) => match decide (0 ≤ j) && decide (j < n) with
   | true => match Nat.ble (j.toNat * e) cells.length with
    | true => some (.p (.pp (cells.drop (j.toNat * e))))
    | false => none
   | false => none
 | _ => none
theorem idxA_ok {β : Hd → Nat} {F : Nat → Prop} {n e : Nat} {j : Int} {y : TV} {v : Value} (h : idxA n e L j y = some x) (hr : RepT w β ⟨H, L, F⟩ y v) : (0 ≤ j ∧ j < n) ∧ ∃ ad, v = .pointer (some ad) ∧ RepT w β ⟨H, L, F⟩ x (.pointer (some (ad.add (j.toNat * e)))) := by
 unfold idxA at h
 split at h
 ·rename_i i off
  split at h
  ·rename_i Ty cs hi
   split at h
   ·rename_i hj
    simp only [Bool.and_eq_true, decide_eq_true_eq] at hj
    obtain rfl := Option.some.inj h
    cases hr with | ad _ _ _ h1 hl hv =>
    have e1 := hv _ hi rfl
    refine ⟨hj, _, e1, ?_⟩
    rw [Addr.add_lit]
    exact .ad _ _ _ rfl ⟨_, hi⟩ fun o ho hb => by
     obtain rfl := Option.some.inj (hi.symm.trans ho)
     rfl
   ·cases h
  ·cases h
 ·split at h
  ·rename_i hj
   simp only [Bool.and_eq_true, decide_eq_true_eq] at hj
   obtain rfl := Option.some.inj h
   cases hr with | el _ _ _ a len c hs hi =>
   refine ⟨hj, _, rfl, ?_⟩
   rw [zBw, Nat.add_assoc]
   exact .el _ _ _ _ _ _ hs hi
  ·cases h
 ·split at h
  ·rename_i hj
   simp only [Bool.and_eq_true, decide_eq_true_eq] at hj
   split at h
   ·rename_i hle
    obtain rfl := Option.some.inj h
    cases hr with | p hr =>
    cases hr with | pp cells a vs hN hb hc hrr =>
    have hle := Nat.le_of_ble_eq_true hle
    refine ⟨hj, _, rfl, .p (.pp _ _ (fun i => vs (j.toNat * e + i)) (by rw [jU]; exact hN) (by rw [jU]; exact hb) (fun i hi => ?_) fun i x hx => ?_)⟩
    ·rw [zBw]
     simp at hi
     exact hc _ (by omega)
    ·rw [List.getElem?_drop] at hx
     exact hrr _ x hx
   ·cases h
  ·cases h
 ·cases h
theorem zT (hT : TabOk P T) {t : TypeId} {y z : Operand} {n e : Nat} {te : TyI} {k : IntKind} {j : Int} (ho : o.op = .indexAddr t y z) (hd : tyD T t = .array n e) (he : tlk T e = some te) (hz : evA env z = .p (.int k j)) (hx : idxA n te.size L j (evA env y) = some x) : OpR P o env H L x H L :=
 zQ fun F w β a hS hen => by
  have hzz := zL hen z
  rw [hz] at hzz
  obtain ⟨hj, ad, hv, hr⟩ := idxA_ok hx (zL hen y)
  obtain ⟨u, h1, h2⟩ := zV hT (t := t) (by rw [hd]; simp)
  rw [hd] at h2
  obtain rfl := jC h2
  obtain ⟨inf, ue, ok⟩ := hT.get he
  refine ⟨_, ?_, hr⟩
  simp only [execOp, ho, hzz.int_inv, hv, Instr.indexAt, asIntOf, Instr.sureAddr, Sem.run_bind, Sem.run_pure, run_underlying h1, Result.andThen_ok]
  simp [hj, ok.run_size]
end
theorem jQ {rows : List AV} : false = true ↔ ∃ l, TV.p (.ps rows) = .p (.str l) := by simp
theorem hbs_sl {h : Hd} {a b c : Nat} : false = true ↔ ∃ l, TV.sl h a b c = .p (.str l) := by simp
theorem hbs_str {l : List UInt8} : true = true ↔ ∃ l', TV.p (.str l) = .p (.str l') := by simp
section
variable {P : Program} {T : Tab} {Γ : Ctx} {env : Env} {H L : List AObj} {Φ : Act → World → Prop} {Q : Exit → Act → World → Prop}
theorem zAj (t i : Nat) {Ty : TypeId} {b : Bool} {e n : Nat} {rows : List AV} (ht : lk env t = .sl (.l i) n 0 n) (hi : L[i]? = some (.arr Ty b e rows)) (hn : rows.length = n)
  (k : J Γ ((t, .p (.ps rows)) :: env) H (L.set i .dead) Φ) : J Γ env H L Φ :=
 J_freeze t i ht hi hn (by subst hn; simpa using k)
theorem yH (d : Nat) {x : TV} (y : TV) (hx : lk env d = x) (he : x = y) (k : J Γ ((d, y) :: env) H L Φ) : J Γ env H L Φ := fun a w β s => by
 subst he
 refine k a w β ⟨s.sim, s.step, fun t => ?_, s.size, s.defers⟩
 rw [y4]
 split
 ·rename_i e; subst e; rw [← hx]; exact s.env t
 ·exact s.env t
theorem zSw (d : Nat) {b : Bool} (hx : lk env d = .p (.bool b)) (he : b = true) (k : J Γ ((d, .p (.bool true)) :: env) H L Φ) : J Γ env H L Φ :=
 yH d (.p (.bool true)) hx (by rw [he]) k
theorem zN1 (d : Nat) {b : Bool} (hx : lk env d = .p (.bool b)) (he : b = false) (k : J Γ ((d, .p (.bool false)) :: env) H L Φ) : J Γ env H L Φ :=
 yH d (.p (.bool false)) hx (by rw [he]) k
theorem zR {ι : Type} {ei : ι → Env} {Hi Li : ι → List AObj} {m : ι → Nat} {i : ι} (j : ι) (hm : m j < m i) (hs : AllLk env (ei j)) (hH : Hi j = H) (hL : Li j = L) :
  J Γ env H L (fun a w => ∃ j β, m j < m i ∧ St Γ (ei j) (Hi j) (Li j) a w β) := by
 subst hH hL
 exact fun a w β s => ⟨j, β, hm, s.sim, s.step, s.env.sub (jE hs), s.size, s.defers⟩
def At (Γ : Ctx) (env : Env) (H L : List AObj) (a : Act) (w : World) : Prop := ∃ β, St Γ env H L a w β
def Only (e0 : Exit) (φ : Act → World → Prop) (e : Exit) (a : Act) (w : World) : Prop := e = e0 ∧ φ a w
theorem zMh {env' : Env} {H' L' : List AObj} (hs : AllLk env env') (hH : H = H') (hL : L = L') : J Γ env H L (Only .normal (At Γ env' H' L') .normal) := by
 subst hH hL
 exact fun a w β s => ⟨rfl, β, s.sim, s.step, s.env.sub (jE hs), s.size, s.defers⟩
theorem zFg (env' : Env) (H' L' : List AObj) {c : Code} {n : Act → World → Prop} (h : J Γ env H L (c.wp P (Only .normal (At Γ env' H' L')))) (k : J Γ env' H' L' n) : J Γ env H L (c.wp P (Exit.then n Q)) := fun a w β s =>
 wp_mono (h a w β s) fun e a w ⟨he, β', s'⟩ => by subst he; exact k a w β' s'
end
def Hd.okL (n : Nat) : Hd → Bool
 | .l i => Nat.blt i n
 | _ => true
def TV.okL (n : Nat) : TV → Bool
 | .p _ => true
 | .ad h _ => h.okL n
 | .sl h _ _ _ => h.okL n
 | .el s _ _ _ => s.okL n
 | .agg l => okLL n l
 | .tup l => okLL n l
 | .fn _ l => okLL n l
 | .opt _ x => x.okL n
where okLL (n : Nat) : List TV → Bool
 | [] => true
 | x :: r => x.okL n && okLL n r
def AObj.okL (n : Nat) : AObj → Bool
 | .box _ cells => TV.okL.okLL n cells
 | _ => true
def okAll (n : Nat) : List AObj → Bool
 | [] => true
 | x :: r => x.okL n && okAll n r
def okEnv (n : Nat) : Env → Bool
 | [] => true
 | (_, x) :: r => x.okL n && okEnv n r
theorem zDt {n : Nat} : ∀ {l : List TV} {i : Nat} {x : TV}, TV.okL.okLL n l = true → l[i]? = some x → x.okL n = true
 | [], _, _, _, h => by simp at h
 | y :: r, 0, x, h, hx => by
  simp only [TV.okL.okLL, Bool.and_eq_true] at h
  simp at hx; subst hx; exact h.1
 | y :: r, i + 1, x, h, hx => by
  simp only [TV.okL.okLL, Bool.and_eq_true] at h
  exact zDt h.2 (by simpa using hx)
theorem zK7 {n : Nat} : ∀ {l : List AObj} {i : Nat} {x : AObj}, okAll n l = true → l[i]? = some x → x.okL n = true
 | [], _, _, _, h => by simp at h
 | y :: r, 0, x, h, hx => by
  simp only [okAll, Bool.and_eq_true] at h
  simp at hx; subst hx; exact h.1
 | y :: r, i + 1, x, h, hx => by
  simp only [okAll, Bool.and_eq_true] at h
  exact zK7 h.2 (by simpa using hx)
theorem zOu {n : Nat} : ∀ {env : Env} (t : Nat), okEnv n env = true → (lk env t).okL n = true
 | [], _, _ => rfl
 | (s, x) :: r, t, h => by
  simp only [okEnv, Bool.and_eq_true] at h
  rw [y4]
  split
  ·exact h.1
  ·exact zOu t h.2
section
variable {w : World} {β : Hd → Nat} {H L : List AObj} {F : Nat → Prop} {n : Nat}
theorem zFt {h : Hd} (hh : h.okL n = true) : (⟨H, L.take n, F⟩ : Hp).get h = (⟨H, L, F⟩ : Hp).get h := by
 cases h with
 | o k => rfl
 | l i =>
  simp only [Hd.okL, Nat.blt_eq] at hh
  simp only [Hp.get, List.getElem?_take, if_pos hh]
theorem zEf {h : Hd} (hh : (⟨H, L.take n, F⟩ : Hp).live h) : (⟨H, L, F⟩ : Hp).live h := by
 obtain ⟨o, ho, hne⟩ := hh
 cases h with
 | o k => exact ⟨o, ho, hne⟩
 | l i =>
  simp only [Hp.get, List.getElem?_take] at ho
  split at ho
  ·exact ⟨o, ho, hne⟩
  ·cases ho
theorem zGi {b : Nat} (hb : Free β ⟨H, L, F⟩ b) : Free β ⟨H, L.take n, F⟩ b := ⟨hb.1, fun k hk => hb.2 k (zEf hk)⟩
theorem zPu {x : TV} {v : Value} (h : RepT w β ⟨H, L, F⟩ x v) (hx : x.okL n = true) : RepT w β ⟨H, L.take n, F⟩ x v := by
 induction h with
 | p h => exact .p (h.mono (Nat.le_refl _) fun b _ hb => ⟨rfl, zGi hb⟩)
 | ad h off v h1 hl hv => exact .ad _ off v h1 (by rw [zFt hx]; exact hl) (by rw [zFt hx]; exact hv)
 | sl h n' st len v h1 hl hv => exact .sl _ n' st len v h1 (by rw [zFt hx]; exact hl) (by rw [zFt hx]; exact hv)
 | el e i off a len c hs hi ih => exact .el e i off a len c (ih hx) hi
 | agg xs vs hl hr ih => exact .agg xs vs hl fun i x v h1 h2 => ih i x v h1 h2 (zDt (by simpa [TV.okL] using hx) h1)
 | tup xs vs hl hr ih => exact .tup xs vs hl fun i x v h1 h2 => ih i x v h1 h2 (zDt (by simpa [TV.okL] using hx) h1)
 | fn f xs vs hl hr ih => exact .fn f xs vs hl fun i x v h1 h2 => ih i x v h1 h2 (zDt (by simpa [TV.okL] using hx) h1)
 | opt g x v h1 h2 ih => exact .opt g x v (fun hg => ih hg (by simpa [TV.okL] using hx)) h2
theorem zNn (n : Nat) : ∀ (x : TV), x.ext = true → x.okL n = true
 | .p _, _ => rfl
 | .ad (.o _) _, _ => rfl
 | .ad (.l _) _, h => by simp [TV.ext] at h
 | .sl (.o _) _ _ _, _ => rfl
 | .sl (.l _) _ _ _, h => by simp [TV.ext] at h
 | .el .., h => by simp [TV.ext] at h
 | .agg l, h => by simp only [TV.ext] at h; simp only [TV.okL]; exact extL_okL n l h
 | .tup l, h => by simp only [TV.ext] at h; simp only [TV.okL]; exact extL_okL n l h
 | .fn _ l, h => by simp only [TV.ext] at h; simp only [TV.okL]; exact extL_okL n l h
 | .opt _ x, h => by simp only [TV.ext] at h; simp only [TV.okL]; exact zNn n x h
where extL_okL (n : Nat) : ∀ (l : List TV), TV.ext.extL l = true → TV.okL.okLL n l = true
 | [], _ => rfl
 | x :: r, h => by
  simp only [TV.ext.extL, Bool.and_eq_true] at h
  simp only [TV.okL.okLL, Bool.and_eq_true]
  exact ⟨zNn n x h.1, extL_okL n r h.2⟩
theorem zP5 {b : Nat} {o : AObj} (h : ObjOk w β ⟨H, L, F⟩ b o) (ho : o.okL n = true) : ObjOk w β ⟨H, L.take n, F⟩ b o := by
 cases o with
 | dead => trivial
 | box T cells =>
  obtain ⟨cs, h1, h2, h4⟩ := h
  exact ⟨cs, h1, h2, fun i x hi => let ⟨v, hv, hr⟩ := h4 i x hi; ⟨v, hv, zPu hr (zDt (by simpa [AObj.okL] using ho) hi)⟩⟩
 | arr T app e rows =>
  refine ⟨h.1, fun hoff => ?_⟩
  obtain ⟨cs, fr, h1, h2, h3, h4, h5, h6, h7⟩ := h.2 hoff
  exact ⟨cs, fr, h1, h2, h3, h4, h5, h6, fun i j r x hr hx => let ⟨v, hv, hr'⟩ := h7 i j r x hr hx; ⟨v, hv, hr'.mono (Nat.le_refl _) fun b _ hb => ⟨rfl, zGi hb⟩⟩⟩
 | raw x => exact h
theorem sim_take (h : Sim w β ⟨H, L, F⟩) (hL : okAll n (L.take n) = true) : Sim w β ⟨H, L.take n, F⟩ := by
 refine ⟨fun k o ho => ?_, fun k j hk hj => h.inj k j (zEf hk) (zEf hj), h.ext, fun k hk => h.disj k (zEf hk), h.flt⟩
 cases k with
 | o k =>
  refine zP5 (h.objs (.o k) o ho) ?_
  have hx := h.ext o (List.mem_of_getElem? ho)
  cases o with
  | box T cells => exact zNn.extL_okL n cells hx
  | _ => rfl
 | l i =>
  have hok := zK7 hL (show (L.take n)[i]? = some o from ho)
  simp only [Hp.get, List.getElem?_take] at ho
  split at ho
  ·exact zP5 (h.objs (.l i) o ho) hok
  ·cases ho
end
theorem zY {Γ : Ctx} {env : Env} {H L : List AObj} {Φ : Act → World → Prop} (n : Nat) (env' : Env) (hs : AllLk env env') (hx : okEnv n env' = true) (hL : okAll n (L.take n) = true) (k : J Γ env' H (L.take n) Φ) : J Γ env H L Φ := fun a w β s => by
 refine k a w β ⟨sim_take s.sim hL, ?_, fun t => zPu (s.env.sub (jE hs) t) (zOu t hx), s.size, s.defers⟩
 exact ⟨s.step.os, s.step.tape, s.step.output, s.step.size, fun b hb hf => ⟨(s.step.frame b hb hf).1, zGi (s.step.frame b hb hf).2⟩, s.step.fr, rfl, fun k o ho => by
  cases k with
  | o k => exact s.step.obj (.o k) o ho
  | l i => simp [Hp.get] at ho⟩
section
variable {P : Program} {T : Tab} {env : Env} {H L : List AObj} {o : Oper} {x : TV} {w : World} {β : Hd → Nat} {F : Nat → Prop}
def zrow (te : TyI) : AV := match isAggD te.d with
 | some true => .agg te.zero
 | _ => te.zero.headD .top
theorem zId {te : TyI} (hn : noAgg te.zero = true) (h1 : isAggD te.d = some false → te.size = 1) (hl : te.zero.length = te.size) (hd : (isAggD te.d).isSome = true) : cellsOf (zrow te) = te.zero := by
 unfold zrow
 cases hq : isAggD te.d with
 | none => simp [hq] at hd
 | some b =>
  cases b with
  | true => rfl
  | false =>
   have h1 := h1 hq
   rw [h1] at hl
   match hz : te.zero, hl with
   | [y], _ =>
    rw [hz] at hn
    have hy := zIj hn y (by simp)
    cases y <;> simp_all [cellsOf]
theorem zIs {t : TypeId} {y z : Operand} {e : Nat} {te : TyI} {k k' : IntKind} {n : Nat} (hT : TabOk P T) (ho : o.op = .makeSlice t y z) (hd : tyD T t = .slice e) (he : tlk T e = some te) (hy : evA env y = .p (.int k n)) (hz : evA env z = .p (.int k' n)) (hna : noAgg te.zero = true) (hag : (isAggD te.d).isSome = true)
  (hpos : Nat.blt 0 te.size = true) (hb0 : Nat.blt 0 te.bytes = true) (hfit : n * te.bytes ≤ 140737488355328) : OpR P o env H L (.sl (.l L.length) n 0 n) H (L ++ [.arr e true te.size (List.replicate n (zrow te))]) :=
 zJd fun F w β a hS hen => by
  simp only [Nat.blt_eq] at hpos hb0
  have hvy := zL hen y
  have hvz := zL hen z
  rw [hy] at hvy
  rw [hz] at hvz
  obtain ⟨u, h1, h2⟩ := zV hT (t := t) (by rw [hd]; simp)
  rw [hd] at h2
  obtain rfl := yB h2
  obtain ⟨inf, ue, ok⟩ := hT.get he
  obtain ⟨zv, hzv, hzz⟩ := ok.zero
  have hmax := zEu hb0 hfit
  have hb' : (inf.bytes : Int) * (n : Int) ≤ 281474976710656 := by
   have h : ((inf.bytes * n : Nat) : Int) ≤ 281474976710656 := by rw [ok.bytes, Nat.mul_comm]; omega
   rwa [Int.natCast_mul] at h
  have hr := run_make (P := P) w t e inf zv h1 ok.info hzv k k' n n (by omega) (Int.le_refl _) hb' (by omega)
  simp only [Int.toNat_natCast] at hr
  have hzl : zv.cells.size = te.size := by
   have := (zF9 hzz).1
   simp at this
   rw [this, ok.zlen]
  have hzr := zD7 (w := w) (β := β) (G := ⟨H, L, F⟩) hzz
  have hcells := zId hna (ok.one) ok.zlen hag
  have hsz : inf.size = te.size := ok.size
  rw [hsz] at hr
  refine ⟨.slice (some ⟨w.heap.size, 0, none⟩) n n, .cells (madeCells zv.cells (n * te.size)) e, w, by simp only [execOp, ho, hvy.int_inv, hvz.int_inv, Sem.run_bind, hr, Result.andThen_ok, Sem.run_pure], rfl, rfl, rfl, rfl, fun β' hβ hst => ⟨?_, ?_⟩⟩
  ·refine yX (w := w) (N := Free β ⟨H, L, F⟩) (yP w _) hpos ?_ (fun x v h => h.mono hst.size hst.frame)
   have hlen : (madeCells zv.cells (n * te.size)).toList.length = n * te.size := by simp [size_madeCells]
   rw [List.length_replicate, List.take_of_length_le (by rw [hlen]; exact Nat.le_refl _)]
   refine ⟨fun r hr => by rw [List.eq_of_mem_replicate hr, hcells, ok.zlen], by simp [size_madeCells], fun i j r x hi hj => ?_⟩
   have hil : i < n := by simpa using (List.getElem?_eq_some_iff.1 hi).1
   have hrr : r = zrow te := List.eq_of_mem_replicate (List.mem_of_getElem? hi)
   subst hrr
   rw [hcells] at hj
   have hjl : j < te.size := by rw [← ok.zlen]; exact (List.getElem?_eq_some_iff.1 hj).1
   have hlt : i * te.size + j < n * te.size := by
    have : (i + 1) * te.size ≤ n * te.size := Nat.mul_le_mul_right _ (by omega)
    rw [Nat.add_mul] at this; omega
   have hmod : (i * te.size + j) % te.size = j := by rw [Nat.mul_comm, Nat.mul_add_mod, Nat.mod_eq_of_lt hjl]
   have hjz : j < zv.cells.size := by omega
   refine ⟨zv.cells[j], ?_, ?_⟩
   ·simp [madeCells, hlt, hzl, hmod]
    rw [getElem!_pos zv.cells j hjz]
   ·have := hzr.2 j (.p x) zv.cells[j] (by simp [hj]) (by simp [hjz])
    cases this with | p h => exact h
  ·refine .sl _ _ _ _ _ rfl ⟨_, zDg H L _ F, fun T' b' e' rows' h => by cases h; simp⟩ fun T' b' e' rows' h _ => ?_
   rw [zDg H L _ F] at h
   cases h
   refine ⟨by omega, fun _ h => ⟨_, by rw [h]⟩, fun _ => ⟨_, _, rfl, Nat.le_refl _, by unfold maxLen; omega, fun _ => ?_, fun _ _ _ => ?_⟩⟩
   ·rw [hβ, if_pos rfl]; simp
   ·rw [hβ, if_pos rfl]
    unfold csize
    rw [yP w _]
    exact (size_madeCells _ _).symm
def rowSet (r : AV) (off : Nat) (ns : List AV) : AV := match r with
 | .agg cs => .agg (cs.take off ++ (ns ++ cs.drop (off + ns.length)))
 | r => ns.headD r
theorem zFd {r : AV} {off : Nat} {ns : List AV} (h : off + ns.length ≤ (cellsOf r).length) (h1 : (∀ cs, r ≠ .agg cs) → ns.length = 1 ∧ ∀ y ∈ ns, ∀ cs, y ≠ .agg cs) : cellsOf (rowSet r off ns) = (cellsOf r).take off ++ (ns ++ (cellsOf r).drop (off + ns.length)) := by
 by_cases ha : ∃ cs, r = .agg cs
 ·obtain ⟨cs, rfl⟩ := ha
  rfl
 ·have hne : ∀ cs, r ≠ .agg cs := fun cs e => ha ⟨cs, e⟩
  obtain ⟨h2, h3⟩ := h1 hne
  match ns, h2 with
  | [y], _ =>
   have hy := h3 y (by simp)
   have hr : cellsOf r = [r] := by cases r <;> first | rfl | exact absurd rfl (hne _)
   rw [hr] at h ⊢
   simp at h
   have : off = 0 := by omega
   subst this
   have e1 : rowSet r 0 [y] = y := by cases r <;> first | rfl | exact absurd rfl (hne _)
   rw [e1]
   cases y <;> first | rfl | exact absurd rfl (hy _)
theorem zCq (cs : List Value) (p : Nat) (vs : List Value) (h : p + vs.length ≤ cs.length) (k : Nat) : (cs.take p ++ vs ++ cs.drop (p + vs.length))[k]? = if k < p then cs[k]? else if k < p + vs.length then vs[k - p]? else cs[k]? := by
 by_cases h1 : k < p
 ·rw [if_pos h1, List.append_assoc, List.getElem?_append_left (by simp; omega), List.getElem?_take, if_pos h1]
 ·rw [if_neg h1]
  by_cases h2 : k < p + vs.length
  ·rw [if_pos h2, List.append_assoc, List.getElem?_append_right (by simp; omega)]
   simp only [List.length_take, Nat.min_eq_left (show p ≤ cs.length by omega)]
   rw [List.getElem?_append_left (by omega)]
  ·rw [if_neg h2, List.getElem?_append_right (by simp; omega)]
   simp only [List.length_append, List.length_take, Nat.min_eq_left (show p ≤ cs.length by omega), List.getElem?_drop]
   congr 1; omega
theorem zN2 {t : TypeId} {y z : Operand} {e i n st len idx off : Nat} {ti : TyI} {Ty : TypeId} {rows : List AV} {r : AV} {zs : List TV} {ns : List AV} (hT : TabOk P T) (ho : o.op = .store t y z) (hy : evA env y = .el (.sl (.l i) n st len) e idx off) (hi : L[i]? = some (.arr Ty true e rows)) (hn : rows.length = n)
  (ht : tlk T t = some ti) (hz : tcells (evA env z) = some zs) (hu : unpL zs = some ns) (hr : rows[st + idx]? = some r) (hl : ns.length = ti.size) (hoff : off + ns.length ≤ e) (hcl : ∀ y ∈ ns, cl y = true) (hag : (∀ cs, r ≠ .agg cs) → ns.length = 1) :
  OpR P o env H L (.p .top) H (L.set i (.arr Ty true e (rows.set (st + idx) (rowSet r off ns)))) :=
 have hr0 : rows.length ≠ 0 := by have := (List.getElem?_eq_some_iff.1 hr).1; omega
 zEx hi (AObj.off_arr.2 fun _ => hr0) fun F w β a hS hen => by
  obtain ⟨inf, u, ok⟩ := hT.get ht
  have hv := zAd (zL hen z) hz
  obtain ⟨u1, u2⟩ := zB9 (w := w) (β := β) (G := ⟨H, L, F⟩) zs hu
  have hp := zL hen y
  rw [hy] at hp
  obtain ⟨cs, c1, c2, hpos, c3⟩ := zCz hS hi hr0
  generalize hvy : a.eval y = vy at hp
  cases hp with | el _ _ _ ad len' c hs hlt =>
  cases hs with | sl _ _ _ _ _ _ _ hvv =>
  have hle := (hvv _ _ _ _ hi hn).le
  obtain ⟨ao, cap, hq, q2, q3, q4⟩ := (hvv _ _ _ _ hi hn).val
  simp only [Value.slice.injEq] at hq
  obtain ⟨hao, rfl, rfl⟩ := hq
  have hao2 := q4 (by omega)
  rw [← hao] at hao2
  obtain rfl := Option.some.inj hao2
  have hkl : st + idx < rows.length := (List.getElem?_eq_some_iff.1 hr).1
  have hre : (cellsOf r).length = e := c3.size r (List.mem_of_getElem? hr)
  have hbound : (st + idx) * e + e ≤ rows.length * e := by
   have : (st + idx + 1) * e ≤ rows.length * e := Nat.mul_le_mul_right _ (by omega)
   rw [Nat.add_mul, Nat.one_mul] at this; omega
  have hvl : (a.eval z).cells.toList.length = ns.length := by rw [hv.1, u1]
  have hadd : (⟨β (.l i), st * e, none⟩ : Addr).add (idx * e + off) = ⟨β (.l i), (st + idx) * e + off, none⟩ := by rw [Addr.add_lit, Nat.add_mul, Nat.add_assoc]
  rw [hadd] at hvy
  have hvs : (a.eval z).cells.size = ti.size := by rw [← hl, ← hvl]; simp
  have hrep : ∀ (j : Nat) (x : AV) (v : Value), ns[j]? = some x → (a.eval z).cells.toList[j]? = some v → RepA w (Free β ⟨H, L, F⟩) x v := fun j x v hx hv' => by
   obtain ⟨q, hq1, hq2⟩ := u2 j x hx
   exact hq2 v (hv.2 j q v hq1 hv')
  have hrun := zAn (w := w) (off := (st + idx) * e + off) ok c1 (v := a.eval z) hvs (by omega) (fun c hc => by
   obtain ⟨j, hj⟩ := List.getElem?_of_mem hc
   have hlt : j < ns.length := by rw [← hvl]; exact (List.getElem?_eq_some_iff.1 hj).1
   exact zQp (hrep j _ c (List.getElem?_eq_getElem hlt) hj) (hcl _ (List.getElem_mem hlt)))
  have hblk := setRow_heap w (β (.l i)) cs (cs.toList.take ((st + idx) * e + off) ++ (a.eval z).cells.toList ++ cs.toList.drop ((st + idx) * e + off + (a.eval z).cells.toList.length)).toArray Ty (0, 0) c1
  have hlen : (cs.toList.take ((st + idx) * e + off) ++ (a.eval z).cells.toList ++ cs.toList.drop ((st + idx) * e + off + (a.eval z).cells.toList.length)).length = cs.size := by
   simp only [List.length_append, List.length_take, List.length_drop, Array.length_toList, hvl]; omega
  refine ⟨undef, w.setRow (β (.l i)) (cs.toList.take ((st + idx) * e + off) ++ (a.eval z).cells.toList ++ cs.toList.drop ((st + idx) * e + off + (a.eval z).cells.toList.length)).toArray, .inr ⟨by simp only [execOp, ho, Instr.storeAt, Instr.sureAddr, hvy, Sem.run_bind, Sem.run_pure, Result.andThen_ok]; rw [hrun]; rfl, rfl⟩, rfl, rfl, rfl, by simp, fun b hb => setRow_other w _ b _ hb, ?_, fun hst => ⟨?_, .p (.top _)⟩⟩
  ·refine ⟨rfl, rfl, rfl, by simp, fun _ _ => ⟨rfl, ?_⟩⟩
   unfold csize
   rw [hblk, c1]
   simpa using hlen
  ·refine yX (w := w) (N := Free β ⟨H, L, F⟩) hblk hpos ?_ (fun x v h => h.mono hst.size hst.frame)
   have hrc : cellsOf (rowSet r off ns) = (cellsOf r).take off ++ (ns ++ (cellsOf r).drop (off + ns.length)) := zFd (by omega) fun hne => ⟨hag hne, fun y hy cs e => by have := hcl y hy; rw [e] at this; simp [cl] at this⟩
   have hrl : (cellsOf (rowSet r off ns)).length = e := by rw [hrc]; simp; omega
   refine ⟨fun q hq => ?_, by rw [List.length_set, List.toList_toArray, List.length_take, hlen]; omega, fun p q rr x hp hq => ?_⟩
   ·rcases List.mem_or_eq_of_mem_set hq with h | h
    ·exact c3.size q h
    ·rw [h]; exact hrl
   ·rw [List.length_set, List.toList_toArray]
    have hpl : p < rows.length := by simpa using (List.getElem?_eq_some_iff.1 hp).1
    have hql : q < e := by
     rcases List.mem_or_eq_of_mem_set (List.mem_of_getElem? hp) with h | h
     ·rw [← c3.size rr h]; exact (List.getElem?_eq_some_iff.1 hq).1
     ·rw [h, ] at hq; rw [← hrl]; exact (List.getElem?_eq_some_iff.1 hq).1
    have hlt : p * e + q < rows.length * e := by
     have : (p + 1) * e ≤ rows.length * e := Nat.mul_le_mul_right _ (by omega)
     rw [Nat.add_mul, Nat.one_mul] at this; omega
    rw [List.getElem?_take, if_pos hlt, zCq _ _ _ (by rw [hvl]; simp; omega), hvl]
    by_cases hpe : p = st + idx
    ·subst hpe
     rw [List.getElem?_set_self (by omega)] at hp
     obtain rfl := Option.some.inj hp
     rw [hrc] at hq
     by_cases h1 : q < off
     ·rw [if_pos (by omega)]
      rw [List.getElem?_append_left (by simp; omega), List.getElem?_take, if_pos h1] at hq
      obtain ⟨u, hu, hr'⟩ := c3.cell (st + idx) q r x hr hq
      rw [List.getElem?_take, if_pos hlt] at hu
      exact ⟨u, hu, hr'⟩
     ·rw [if_neg (by omega)]
      rw [List.getElem?_append_right (by simp; omega)] at hq
      simp only [List.length_take, Nat.min_eq_left (show off ≤ (cellsOf r).length by omega)] at hq
      by_cases h2 : q < off + ns.length
      ·rw [if_pos (by omega)]
       rw [List.getElem?_append_left (by omega)] at hq
       have hj : (st + idx) * e + q - ((st + idx) * e + off) = q - off := by omega
       rw [hj]
       have hvlt : q - off < (a.eval z).cells.toList.length := by omega
       exact ⟨_, List.getElem?_eq_getElem hvlt, hrep _ _ _ hq (List.getElem?_eq_getElem hvlt)⟩
      ·rw [if_neg (by omega)]
       rw [List.getElem?_append_right (by omega), List.getElem?_drop, show off + ns.length + (q - off - ns.length) = q by omega] at hq
       obtain ⟨u, hu, hr'⟩ := c3.cell (st + idx) q r x hr hq
       rw [List.getElem?_take, if_pos hlt] at hu
       exact ⟨u, hu, hr'⟩
    ·rw [List.getElem?_set_ne (fun e => hpe e.symm)] at hp
     obtain ⟨u, hu, hr'⟩ := c3.cell p q rr x hp hq
     rw [List.getElem?_take, if_pos hlt] at hu
     refine ⟨u, ?_, hr'⟩
     rcases Nat.lt_or_gt_of_ne hpe with h | h
     ·have : (p + 1) * e ≤ (st + idx) * e := Nat.mul_le_mul_right _ (by omega)
      rw [Nat.add_mul, Nat.one_mul] at this
      rw [if_pos (by omega)]; exact hu
     ·have : (st + idx + 1) * e ≤ p * e := Nat.mul_le_mul_right _ (by omega)
      rw [Nat.add_mul, Nat.one_mul] at this
      rw [if_neg (by omega), if_neg (by omega)]; exact hu
theorem zMa (w : World) (dT tx ty elem : TypeId) (g o dLen dCap : Nat) (cur : Array Value) (t : TypeId) (i : TypeInfo) (x : Value) (n : Nat) (news : List Value) (hu : P.underlying dT = some (.slice elem)) (hi : P.info? elem = some i) (hs : Src P i.size tx x n news w)
  (hg : w.heap[g]? = some (.cells cur t (0, 0))) (hn : n ≤ dLen) (hfit : o + news.length ≤ cur.size) :
  (Builtin.copy_ #[dT, tx] ty #[.slice (some ⟨g, o, none⟩) dLen dCap, x]).run P w = .ok (goInt n) (w.setRow g (cur.toList.take o ++ news ++ cur.toList.drop (o + news.length)).toArray) := by
 have hst := run_storeCells_at P g o t news 0 cur w hg (by simpa using hfit) hs.one
 simp only [Nat.add_zero] at hst
 simp [Builtin.copy_, run_underlying hu, sizeOf, typeInfo, hi, hs.len, Nat.min_eq_left hn, hs.cells, hst]
theorem zLm {t tx : TypeId} {y z : Operand} {a : Act} (ho : o.op = .call { callee := .builtin .copy, args := #[y, z], argTypes := #[t, tx] }) {v : Value} {w w' : World}
  (h : (Builtin.copy_ #[t, tx] o.type #[a.eval y, a.eval z]).run P w = .ok v w') : (execOp a.eval o).run P w = .ok (.value v) w' := by
 simp only [execOp, ho, resolve, invoke, builtin, Sem.run_bind, Sem.run_pure, Result.andThen_ok, List.map_toArray, List.map_cons, List.map_nil]
 simp [h]
theorem zTz {H' L' : List AObj} (h : ∀ F w β a, Sim w β ⟨H, L, F⟩ → EnvR w β ⟨H, L, F⟩ env a → OpR P o env H L x H' L') : OpR P o env H L x H' L' := by
 intro F w β a next Q hS he hn
 exact h F w β a hS he F w β a next Q hS he hn
theorem zNy {t tx : TypeId} {y z : Operand} {e n i st len : Nat} {te : TyI} {b : Bool} {rows0 rows : List AV} {s : TV} {Ty : TypeId} (hT : TabOk P T) (ho : o.op = .call { callee := .builtin .copy, args := #[y, z], argTypes := #[t, tx] })
  (ht : appT T t tx = some (e, te, b)) (hy : evA env y = .sl (.l i) n st len) (hi : L[i]? = some (.arr Ty true te.size rows0)) (hn : rows0.length = n) (hz : evA env z = s) (hs : SrcA H L s rows) (hbs : b = true ↔ ∃ l, s = .p (.str l)) (hc : clR rows) (he : ∀ r ∈ rows, (cellsOf r).length = te.size)
  (hle : rows.length ≤ len) (h0 : 0 < len ∨ st = 0 ∨ rows = []) (hne : rows0.length ≠ 0) : OpR P o env H L (.p (.int .i64 rows.length)) H (L.set i (.arr Ty true te.size (rows0.take st ++ rows ++ rows0.drop (st + rows.length)))) :=
 zEx hi (AObj.off_arr.2 fun _ => hne) fun F w β a hS hen => by
  obtain ⟨at', hb1, _⟩ := zAb hT ht
  obtain ⟨inf, zv, i1, i2, i3, i4, i5⟩ := at'.info
  have hvz := zL hen z
  rw [hz] at hvz
  obtain ⟨news, n1, n2⟩ := hs.src' hS at' hb1 hvz hc he hbs
  obtain ⟨cs, c1, c2, hpos, c3⟩ := zCz hS hi hne
  have hvy := zL hen y
  rw [hy] at hvy
  generalize hvv : a.eval y = vy at hvy
  cases hvy with | sl _ _ _ _ _ _ _ hv =>
  have hsl := (hv _ _ _ _ hi hn).le
  obtain ⟨ao, cap, rfl, hlc, hcm, hadd, _⟩ := (hv _ _ _ _ hi hn).on fun _ => by omega
  by_cases hr0 : rows = []
  ·subst hr0
   have hn0 : news = [] := List.eq_nil_of_length_eq_zero (by rw [n2.len]; simp)
   subst hn0
   have hrun : (Builtin.copy_ #[t, tx] o.type #[a.eval y, a.eval z]).run P w = .ok (goInt 0) w := by
    have hu := at'.ut
    have hsl := n1.len w
    have hsc := n1.cells
    rw [← i3] at hsc
    rw [hvv]
    simp only [List.length_nil] at hsl hsc
    cases ao <;> simp [Builtin.copy_, run_underlying hu, sizeOf, typeInfo, i1, hsl, Nat.min_eq_left (Nat.zero_le len), hsc, storeCells]
   have e : rows0.take st ++ [] ++ rows0.drop (st + ([] : List AV).length) = rows0 := by simp
   rw [e]
   refine ⟨goInt 0, w, .inl (zLm (P := P) ho hrun), rfl, rfl, rfl, rfl, fun b hb => rfl, ObjGo.refl _ _ _, fun hst => ⟨(hS.objs (.l i) _ hi).mono hst rfl, .p (.int ..)⟩⟩
  obtain rfl := hadd (by rcases h0 with h | h | h <;> simp_all)
  have hnl := n2.len
  subst hn
  have hb1 : st * te.size + rows.length * te.size ≤ rows0.length * te.size := by rw [← Nat.add_mul]; exact Nat.mul_le_mul_right _ (by omega)
  have hrun := zMa (P := P) w t tx o.type e (β (.l i)) (st * te.size) len cap cs Ty inf (a.eval z) rows.length news at'.ut i1 (by rw [i3]; exact n1) c1 hle (by omega)
  rw [← hvv] at hrun
  have hblk := setRow_heap w (β (.l i)) cs (cs.toList.take (st * te.size) ++ news ++ cs.toList.drop (st * te.size + news.length)).toArray Ty (0, 0) c1
  have hlen : (cs.toList.take (st * te.size) ++ news ++ cs.toList.drop (st * te.size + news.length)).length = cs.size := by simp; omega
  have hrl : (rows0.take st ++ rows ++ rows0.drop (st + rows.length)).length = rows0.length := by simp; omega
  have hrg : ∀ p : Nat, (rows0.take st ++ rows ++ rows0.drop (st + rows.length))[p]? = if p < st then rows0[p]? else if p < st + rows.length then rows[p - st]? else rows0[p]? := fun p => by
   by_cases h1 : p < st
   ·rw [if_pos h1, List.append_assoc, List.getElem?_append_left (by simp; omega), List.getElem?_take, if_pos h1]
   ·rw [if_neg h1]
    by_cases h2 : p < st + rows.length
    ·rw [if_pos h2, List.append_assoc, List.getElem?_append_right (by simp; omega)]
     simp only [List.length_take, Nat.min_eq_left (show st ≤ rows0.length by omega)]
     rw [List.getElem?_append_left (by omega)]
    ·rw [if_neg h2, List.getElem?_append_right (by simp; omega)]
     simp only [List.length_append, List.length_take, Nat.min_eq_left (show st ≤ rows0.length by omega), List.getElem?_drop]
     congr 1; omega
  refine ⟨goInt rows.length, _, .inl (zLm (P := P) ho hrun), rfl, rfl, rfl, by simp, fun b hb => setRow_other w _ b _ hb, ?_, fun hst => ⟨?_, .p (.int ..)⟩⟩
  ·refine ⟨rfl, rfl, rfl, by rw [hrl]; exact Nat.le_refl _, fun _ _ => ⟨rfl, ?_⟩⟩
   unfold csize
   rw [hblk, c1]
   simpa using hlen
  ·refine yX (w := w) (N := Free β ⟨H, L, F⟩) hblk hpos ?_ (fun x v h => h.mono hst.size hst.frame)
   refine ⟨fun q hq => ?_, by rw [hrl, List.toList_toArray, List.length_take, hlen]; omega, fun p q rr x hp hq => ?_⟩
   ·rcases List.mem_append.1 hq with h | h
    ·rcases List.mem_append.1 h with h | h
     ·exact c3.size q (List.mem_of_mem_take h)
     ·exact he q h
    ·exact c3.size q (List.mem_of_mem_drop h)
   ·have hpl : p < rows0.length := by rw [← hrl]; exact (List.getElem?_eq_some_iff.1 hp).1
    rw [hrg] at hp
    have hql : q < te.size := by
     have hm : (cellsOf rr).length = te.size := by
      split at hp
      ·exact c3.size rr (List.mem_of_getElem? hp)
      ·split at hp
       ·exact he rr (List.mem_of_getElem? hp)
       ·exact c3.size rr (List.mem_of_getElem? hp)
     rw [← hm]; exact (List.getElem?_eq_some_iff.1 hq).1
    have hlt : p * te.size + q < rows0.length * te.size := by
     have : (p + 1) * te.size ≤ rows0.length * te.size := Nat.mul_le_mul_right _ (by omega)
     rw [Nat.add_mul, Nat.one_mul] at this; omega
    rw [hrl, List.toList_toArray, List.getElem?_take, if_pos hlt, zCq _ _ _ (by simp; omega)]
    split at hp
    ·rename_i h1
     have : (p + 1) * te.size ≤ st * te.size := Nat.mul_le_mul_right _ (by omega)
     rw [Nat.add_mul, Nat.one_mul] at this
     rw [if_pos (by omega)]
     obtain ⟨u, hu, hr'⟩ := c3.cell p q rr x hp hq
     rw [List.getElem?_take, if_pos hlt] at hu
     exact ⟨u, hu, hr'⟩
    ·rename_i h1
     have h3 : st * te.size ≤ p * te.size := Nat.mul_le_mul_right _ (by omega)
     rw [if_neg (by omega)]
     split at hp
     ·rename_i h2
      have : (p + 1) * te.size ≤ (st + rows.length) * te.size := Nat.mul_le_mul_right _ (by omega)
      rw [Nat.add_mul, Nat.one_mul, Nat.add_mul] at this
      rw [if_pos (by omega)]
      obtain ⟨u, hu, hr'⟩ := n2.cell (p - st) q rr x hp hq
      exact ⟨u, by rw [show p * te.size + q - st * te.size = (p - st) * te.size + q by rw [Nat.sub_mul]; omega]; exact hu, hr'⟩
     ·rename_i h2
      have : (st + rows.length) * te.size ≤ p * te.size := Nat.mul_le_mul_right _ (by omega)
      rw [Nat.add_mul] at this
      rw [if_neg (by omega)]
      obtain ⟨u, hu, hr'⟩ := c3.cell p q rr x hp hq
      rw [List.getElem?_take, if_pos hlt] at hu
      exact ⟨u, hu, hr'⟩
theorem opr_copy {t tx : TypeId} {y z : Operand} {e n i st len : Nat} {te : TyI} {b : Bool} {rows0 rows : List AV} {s : TV} {Ty : TypeId} (hT : TabOk P T) (ho : o.op = .call { callee := .builtin .copy, args := #[y, z], argTypes := #[t, tx] })
  (ht : appT T t tx = some (e, te, b)) (hy : evA env y = .sl (.l i) n st len) (hi : L[i]? = some (.arr Ty true te.size rows0)) (hn : rows0.length = n) (hz : evA env z = s) (hs : SrcA H L s rows) (hbs : b = true ↔ ∃ l, s = .p (.str l)) (hc : clR rows) (he : ∀ r ∈ rows, (cellsOf r).length = te.size)
  (hle : rows.length ≤ len) (h0 : 0 < len ∨ st = 0 ∨ rows = []) : OpR P o env H L (.p (.int .i64 rows.length)) H (L.set i (.arr Ty true te.size (rows0.take st ++ rows ++ rows0.drop (st + rows.length)))) := by
 cases rows0 with
 | cons r0 rs0 => exact zNy hT ho ht hy hi hn hz hs hbs hc he hle h0 (by simp)
 | nil =>
  subst hn
  refine zTz fun F w β a hS hen => ?_
  have hvy := zL hen y
  rw [hy] at hvy
  have hlen : len = 0 := by
   generalize a.eval y = vy at hvy
   cases hvy with | sl _ _ _ _ _ _ _ hv => have := (hv _ _ _ _ hi rfl).le; simp at this; omega
  have hst : st = 0 := by
   generalize a.eval y = vy at hvy
   cases hvy with | sl _ _ _ _ _ _ _ hv => have := (hv _ _ _ _ hi rfl).le; simp at this; omega
  subst hlen hst
  have hr0 : rows = [] := List.eq_nil_of_length_eq_zero (by omega)
  subst hr0
  have e0 : ([] : List AV).take 0 ++ [] ++ ([] : List AV).drop (0 + ([] : List AV).length) = [] := by simp
  rw [e0, zIx hi]
  refine zQ fun F w β a hS hen => ?_
  obtain ⟨at', hb1, _⟩ := zAb hT ht
  obtain ⟨inf, zv, i1, i2, i3, i4, i5⟩ := at'.info
  have hvz := zL hen z
  rw [hz] at hvz
  obtain ⟨news, n1, n2⟩ := hs.src' hS at' hb1 hvz hc he hbs
  have hn0 : news = [] := List.eq_nil_of_length_eq_zero (by rw [n2.len]; simp)
  subst hn0
  have hvy := zL hen y
  rw [hy] at hvy
  obtain ⟨ao, hvv⟩ : ∃ ao, a.eval y = .slice ao 0 0 := by
   generalize a.eval y = vy at hvy
   cases hvy with | sl _ _ _ _ _ _ _ hv => exact (hv _ _ _ _ hi rfl).off rfl rfl
  have hrun : (Builtin.copy_ #[t, tx] o.type #[a.eval y, a.eval z]).run P w = .ok (goInt 0) w := by
   have hu := at'.ut
   have hsl := n1.len w
   have hsc := n1.cells
   rw [← i3] at hsc
   rw [hvv]
   simp only [List.length_nil] at hsl hsc
   cases ao <;> simp [Builtin.copy_, run_underlying hu, sizeOf, typeInfo, i1, hsl, hsc, storeCells]
  exact ⟨goInt 0, zLm (P := P) ho hrun, .p (.int ..)⟩
end
def bv (l : List UInt8) : List AV := l.map fun b => .int .u8 b.toNat
theorem zLz (l : List UInt8) : clR (bv l) := by
 intro r hr x hx
 obtain ⟨b, _, rfl⟩ := List.mem_map.1 hr
 simp [cellsOf] at hx
 subst hx
 rfl
theorem y5 (l : List UInt8) : ∀ r ∈ bv l, (cellsOf r).length = 1 := by
 intro r hr
 obtain ⟨b, _, rfl⟩ := List.mem_map.1 hr
 rfl
@[simp] theorem bv_length (l : List UInt8) : (bv l).length = l.length := by simp [bv]
theorem zAx (a b : List UInt8) : bv (a ++ b) = bv a ++ bv b := by simp [bv]
theorem bv_take (a : List UInt8) (n : Nat) : (bv a).take n = bv (a.take n) := by simp [bv]
theorem bv_drop (a : List UInt8) (n : Nat) : (bv a).drop n = bv (a.drop n) := by simp [bv]
theorem bv_set (a : List UInt8) (n : Nat) (b : UInt8) : (bv a).set n (.int .u8 b.toNat) = bv (a.set n b) := by simp [bv, List.map_set]
theorem zFe (a : List UInt8) (n : Nat) : (bv a)[n]? = a[n]?.map fun b => .int .u8 b.toNat := by simp [bv]
theorem zB4 (n : Nat) (b : UInt8) : bv (List.replicate n b) = List.replicate n (.int .u8 b.toNat) := by simp [bv]
section
variable {P : Program} {T : Tab} {env : Env} {H L : List AObj} {o : Oper} {x : TV} {w : World} {β : Hd → Nat} {F : Nat → Prop}
theorem zHh {w w' : World} {β : Hd → Nat} {G : Hp} (hS : Sim w β G) (h1 : w'.heap = w.heap) (h2 : w'.os = w.os) (h3 : w'.tape = w.tape) (h4 : w'.output = w.output) : Step w β G w' β G ∧ Sim w' β G := by
 have hst : Step w β G w' β G := ⟨h2, h3, h4, by rw [h1]; exact Nat.le_refl _, fun b _ hf => ⟨by rw [h1], hf⟩, fun b _ => by rw [h1], rfl, fun k o ho => ⟨o, ho, ObjGo.same fun _ => by rw [h1]⟩⟩
 exact ⟨hst, fun k o ho => (hS.objs k o ho).mono hst (by rw [h1]), hS.inj, hS.ext, hS.disj, fun b h => by rw [h1]; exact hS.flt b h⟩
theorem zRe (h : ∀ F w β a, Sim w β ⟨H, L, F⟩ → EnvR w β ⟨H, L, F⟩ env a → ∃ (u : Value) (ob : Obj) (w0 : World), (execOp a.eval o).run P w = .ok (.value u) (w0.alloc ob) ∧ w0.heap = w.heap ∧ w0.os = w.os ∧ w0.tape = w.tape ∧ w0.output = w.output ∧
  (Step w β ⟨H, L, F⟩ (w0.alloc ob) β ⟨H, L, F⟩ → RepT (w0.alloc ob) β ⟨H, L, F⟩ x u)) : OpR P o env H L x H L := by
 intro F w β a next Q hS he hn
 obtain ⟨u, ob, w0, h1, g1, g2, g3, g4, h2⟩ := h F w β a hS he
 obtain ⟨t1, t2⟩ := zHh hS g1 g2 g3 g4
 obtain ⟨s1, s2⟩ := zH3 t2 ob
 unfold Oper.wp
 rw [h1]
 exact hn _ β u s2 (t1.trans s1) (h2 (t1.trans s1))
theorem y7 {s d e : TypeId} {y : Operand} {l : List UInt8} (hT : TabOk P T) (ho : o.op = .convert s d y) (hs : tyD T s = .str) (hd : tyD T d = .slice e) (he : tyD T e = .int .u8) (hy : evA env y = .p (.str l)) : OpR P o env H L (.p (.ps (bv l))) H L :=
 zRe fun F w β a hS hen => by
  have hv := zL hen y
  rw [hy] at hv
  obtain ⟨u1, a1, b1⟩ := zV hT (t := s) (by rw [hs]; simp)
  rw [hs] at b1
  obtain rfl := qZ b1
  obtain ⟨u2, a2, b2⟩ := zV hT (t := d) (by rw [hd]; simp)
  rw [hd] at b2
  obtain rfl := yB b2
  obtain ⟨u3, a3, b3⟩ := zV hT (t := e) (by rw [he]; simp)
  rw [he] at b3
  obtain rfl := zBo b3
  have hr := run_bytes_of_string (P := P) w s d e ⟨l.toArray⟩ a1 a2 a3
  have hsz : (⟨l.toArray⟩ : ByteArray).size = (bv l).length := by simp [ByteArray.size]
  refine ⟨_, _, w.drew, by simp only [execOp, ho, hv.str_inv, Sem.run_bind, hr, Result.andThen_ok, Sem.run_pure]; rfl, rfl, rfl, rfl, rfl, fun hst => ?_⟩
  have hge := grownCap_ge w (⟨l.toArray⟩ : ByteArray).size 0 e
  rw [hsz] at hge ⊢
  have hblk := yP w.drew (.cells (bytesRow ⟨l.toArray⟩ (grownCap w (bv l).length 0 e)) e ((bytesRow ⟨l.toArray⟩ (grownCap w (bv l).length 0 e)).size, (bytesRow ⟨l.toArray⟩ (grownCap w (bv l).length 0 e)).size + 1))
  refine .p (.ps (bv l) ⟨w.heap.size, 0, none⟩ _ 1 (fun i j => (bytesRow ⟨l.toArray⟩ (grownCap w (bv l).length 0 e)).getD (i * 1 + j) undef) (zJw hS) (by show w.drew.heap.size < _; simp) (y5 l) (fun i j hi hj => ?_) (fun i j r x hi hj => ?_) hge)
  ·have hc := cell_of_row _ _ (0 + (i * 1 + j)) _ _ _ hblk
   rw [Addr.add_lit]
   refine hc.trans ?_
   simp only [Nat.zero_add, Array.getD_eq_getD_getElem?]
   have hlt : i * 1 + j < (bytesRow ⟨l.toArray⟩ (grownCap w (bv l).length 0 e)).size := by
    simp [bytesRow]
    simp at hi
    omega
   rw [Array.getElem?_eq_getElem hlt]
   rfl
  ·rw [zFe] at hi
   simp only [Option.map_eq_some_iff] at hi
   obtain ⟨b, hb, rfl⟩ := hi
   match j with
   | 0 =>
    simp [cellsOf] at hj
    subst hj
    have hil : i < l.length := (List.getElem?_eq_some_iff.1 hb).1
    have : (bytesRow ⟨l.toArray⟩ (grownCap w (bv l).length 0 e)).getD (i * 1 + 0) undef = .int .u8 b.toNat := by
     simp only [Array.getD_eq_getD_getElem?, bytesRow]
     rw [Array.getElem?_append_left (by simp; omega)]
     simp [hb]
    rw [this]
    exact .int ..
   | j + 1 => simp [cellsOf] at hj
theorem z4 {s d e : TypeId} {y : Operand} {l : List UInt8} {q : TV} (hT : TabOk P T) (ho : o.op = .convert s d y) (hs : tyD T s = .slice e) (hd : tyD T d = .str) (he : tyD T e = .int .u8) (hy : evA env y = q) (hr : Rd H L q (bv l)) : OpR P o env H L (.p (.str l)) H L :=
 zQ fun F w β a hS hen => by
  have hv := zL hen y
  rw [hy] at hv
  obtain ⟨u1, a1, b1⟩ := zV hT (t := s) (by rw [hs]; simp)
  rw [hs] at b1
  obtain rfl := yB b1
  obtain ⟨u2, a2, b2⟩ := zV hT (t := d) (by rw [hd]; simp)
  rw [hd] at b2
  obtain rfl := qZ b2
  obtain ⟨u3, a3, b3⟩ := zV hT (t := e) (by rw [he]; simp)
  rw [he] at b3
  obtain rfl := zBo b3
  obtain ⟨ao, c, hval, hlc, hor⟩ := hr.val hS hv
  refine ⟨.string ⟨l.toArray⟩, ?_, .p (.str l)⟩
  have key : (convert s d (.slice ao (bv l).length c)).run P w = .ok (.string ⟨l.toArray⟩) w := by
   rcases hor with h0 | ⟨ad, e', rfl, hrow⟩
   ·have hl0 : l = [] := by simpa [bv] using h0
    subst hl0
    rw [run_convert_bytes_string w s d e ao _ c a1 a3 a2]
    cases ao <;> simp [Conv.bytesToString, loadCells]
    all_goals rfl
   ·by_cases hl0 : l = []
    ·subst hl0
     rw [run_convert_bytes_string w s d e _ _ c a1 a3 a2]
     simp [Conv.bytesToString, loadCells]
     rfl
    ·have he1 : e' = 1 := by
      have hne : bv l ≠ [] := by simpa [bv] using hl0
      obtain ⟨r, hm⟩ := List.exists_mem_of_ne_nil _ hne
      rw [← hrow.size r hm, y5 l r hm]
     subst he1
     rw [bv_length]
     refine run_convert_bytes_back w s d e ad c l a1 a3 a2 fun j hj => ?_
     obtain ⟨u, hu, hru⟩ := hrow.cell j 0 (.int .u8 l[j].toNat) (.int .u8 l[j].toNat) (by rw [zFe, List.getElem?_eq_getElem hj]; rfl) rfl
     cases hru
     simpa using hu
  simp only [execOp, ho, hval, Sem.run_bind, key, Result.andThen_ok, Sem.run_pure]
theorem zB3 {t t2 : TypeId} {y z : Operand} {l m : List UInt8} (ho : o.op = .binOp .add t y z t2) (hy : evA env y = .p (.str l)) (hz : evA env z = .p (.str m)) (hb : l.length + m.length ≤ 9223372036854775807) : OpR P o env H L (.p (.str (l ++ m))) H L :=
 zQ fun F w β a hS hen => by
  have h1 := zL hen y
  have h2 := zL hen z
  rw [hy] at h1
  rw [hz] at h2
  refine ⟨.string ⟨(l ++ m).toArray⟩, ?_, .p (.str _)⟩
  have e : (⟨l.toArray⟩ ++ ⟨m.toArray⟩ : ByteArray) = ⟨(l ++ m).toArray⟩ := by
   apply ByteArray.ext
   simp
  have hs : (⟨l.toArray⟩ : ByteArray).size + (⟨m.toArray⟩ : ByteArray).size ≤ 9223372036854775807 := by simpa [ByteArray.size] using hb
  have hadd : (Go.binOp .add t (.string ⟨l.toArray⟩) (.string ⟨m.toArray⟩)).run P w = .ok (.string ⟨(l ++ m).toArray⟩) w := by
   rw [binOp_string_add, run_string_add_sum w _ _ (by simp [ByteArray.size]; omega), e]
  have hg : (eqGuard .add t y z (.string ⟨l.toArray⟩) (.string ⟨m.toArray⟩)).run P w = .ok () w := by simp [eqGuard_at_string]
  simp only [execOp, ho, h1.str_inv, h2.str_inv, Sem.run_bind, hg, hadd, Result.andThen_ok, Sem.run_pure]
def elA (j : Int) (n : Nat) (te : TyI) (x : TV) : Option TV := match decide (0 ≤ j) && decide (j < n), isAggD te.d, aggOf x with
 | true, some false, some l => match l[j.toNat]? with
  | some y => some (.p y)
  | none => none
 | _, _, _ => none
theorem qN {t : TypeId} {y z : Operand} {n e : Nat} {te : TyI} {k : IntKind} {j : Int} (hT : TabOk P T) (ho : o.op = .index t y z) (hd : tyD T t = .array n e) (he : tlk T e = some te) (hz : evA env z = .p (.int k j)) (hx : elA j n te (evA env y) = some x) : OpR P o env H L x H L :=
 zQ fun F w β a hS hen => by
  have h1 := zL hen y
  have h2 := zL hen z
  rw [hz] at h2
  obtain ⟨u, h3, h4⟩ := zV hT (t := t) (by rw [hd]; simp)
  rw [hd] at h4
  obtain rfl := jC h4
  obtain ⟨inf, ue, ok⟩ := hT.get he
  unfold elA at hx
  split at hx
  ·rename_i l hj hag hl
   simp only [Bool.and_eq_true, decide_eq_true_eq] at hj
   split at hx
   ·rename_i q hq
    obtain rfl := Option.some.inj hx
    obtain ⟨vs, hv, hlen, hr⟩ := zJ4 hl h1
    have hlt : j.toNat < vs.length := by rw [hlen]; exact (List.getElem?_eq_some_iff.1 hq).1
    have hs1 := ok.one hag
    refine ⟨vs[j.toNat], ?_, .p (hr _ _ _ hq (List.getElem?_eq_getElem hlt))⟩
    have hp : (part e vs.toArray (j.toNat * te.size)).run P w = .ok vs[j.toNat] w := by
     rw [hs1, Nat.mul_one]
     simp [part, ok.run_agg w hag, hlt]
    simp only [execOp, ho, h2.int_inv, hv, Instr.index, asIntOf, Sem.run_bind, Sem.run_pure, run_underlying h3, Result.andThen_ok]
    simp [hj, ok.run_size, hp]
   ·cases hx
  ·cases hx
end
def unpOr : List TV → List TV
 | [] => []
 | x :: r => (match unp x with
  | some y => .p y
  | none => x) :: unpOr r
theorem zEe {w : World} {β : Hd → Nat} {G : Hp} : ∀ {xs : List TV} {vs : List Value}, RepL w β G xs vs → RepL w β G (unpOr xs) vs
 | [], vs, h => h
 | x :: xs, [], h => by simp [RepL] at h
 | x :: xs, v :: vs, h => by
  have ih := zEe (xs := xs) (vs := vs) ⟨by simpa using h.1, fun i y u hy hu => h.2 (i + 1) y u (by simpa using hy) (by simpa using hu)⟩
  have h0 := h.2 0 x v rfl rfl
  refine ⟨by simp [unpOr, ih.1], fun i y u hy hu => ?_⟩
  cases i with
  | zero =>
   simp [unpOr] at hy hu
   subst hu
   split at hy
   ·rename_i z hz
    subst hy
    exact .p (unp_ok x hz h0)
   ·subst hy; exact h0
  | succ i => exact ih.2 i y u (by simpa [unpOr] using hy) (by simpa using hu)
theorem Con.agg {P : Program} {f : FuncId} {args args' : List TV} {H : List AObj} {r : TV} {H' news : List AObj} (h : Con P f args H r H' news) (he : unpOr args' = args) : Con P f args' H r H' news :=
 ⟨h.can, fun F w β vs hS hr => h.run F w β vs hS (by rw [← he]; exact zEe hr)⟩
theorem Rd.full {H L : List AObj} {h : Hd} {Ty : TypeId} {b : Bool} {e n : Nat} {rs : List AV} (hg : (⟨H, L, noF⟩ : Hp).get h = some (.arr Ty b e rs)) (hn : rs.length = n) : Rd H L (.sl h n 0 n) rs := by
 have := Rd.sl (H := H) (L := L) (h := h) (n := n) (st := 0) (len := n) hg hn
 subst hn
 simpa using this
def aft (o : Oper) : List Nat := o.after.toList.filterMap fun e => match Region.binds .any e with
 | true => some e.on
 | false => none
def nmem : List Nat → Nat → Bool
 | [], _ => false
 | j :: r, i => match Nat.beq j i with
  | true => true
  | false => nmem r i
theorem qJ : ∀ {l : List Nat} {i : Nat}, nmem l i = true ↔ i ∈ l
 | [], i => by simp [nmem]
 | j :: r, i => by
  simp only [nmem, List.mem_cons]
  cases h : Nat.beq j i with
  | true => simp [(Nat.eq_of_beq_eq_true h).symm]
  | false =>
   have := Nat.ne_of_beq_eq_false h
   simp only [qJ]
   constructor
   ·exact .inr
   ·rintro (h | h)
    ·exact absurd h.symm this
    ·exact h
def wrGo : List Oper → Nat → Nat → Option Nat
 | [], _, _ => none
 | o :: r, i, t => match o.dst with
  | some d => match Nat.beq d t with
   | true => some i
   | false => wrGo r (i + 1) t
  | none => wrGo r (i + 1) t
theorem zAz : ∀ {r : List Oper} {i t j : Nat}, wrGo r i t = some j → i ≤ j ∧ ∃ o, r[j - i]? = some o ∧ o.dst = some t
 | [], _, _, _, h => by simp [wrGo] at h
 | o :: r, i, t, j, h => by
  simp only [wrGo] at h
  have next : wrGo r (i + 1) t = some j → i ≤ j ∧ ∃ o', (o :: r)[j - i]? = some o' ∧ o'.dst = some t := fun h => by
   obtain ⟨h1, o', h2, h3⟩ := zAz h
   exact ⟨by omega, o', by rw [show j - i = (j - (i + 1)) + 1 by omega]; simpa using h2, h3⟩
  split at h
  ·rename_i d hd
   split at h
   ·rename_i e
    obtain rfl := Option.some.inj h
    exact ⟨Nat.le_refl _, o, by simp, by rw [hd, Nat.eq_of_beq_eq_true e]⟩
   ·exact next h
  ·exact next h
def rdv (ops : List Oper) (env0 : Env) (xs : List TV) (o : Oper) (t : Nat) : TV := match wrGo ops 0 t with
 | some j => match nmem (aft o) j with
  | true => xs.getD j (.p .top)
  | false => lk env0 t
 | none => lk env0 t
def RdE (ops : List Oper) (env0 : Env) (xs : List TV) (o : Oper) : Env := (o.looksAt ops.toArray).map fun t => (t, rdv ops env0 xs o t)
def posn : List Nat → Nat → Nat → Option Nat
 | [], _, _ => none
 | s :: r, p, i => match Nat.beq s i with
  | true => some p
  | false => posn r (p + 1) i
def loK (o : Oper) : List Nat → Nat → Nat → Nat
 | [], _, k => k
 | s :: r, p, k => match nmem (aft o) s with
  | true => loK o r (p + 1) (p + 1)
  | false => loK o r (p + 1) k
def hiK (ops : List Oper) (i : Nat) : List Nat → Nat → Nat
 | [], p => p
 | s :: r, p => match ops[s]? with
  | some o => match nmem (aft o) i with
   | true => p
   | false => hiK ops i r (p + 1)
  | none => p
def allK (f : Nat → Prop) : Nat → Nat → Prop
 | k, 0 => f k
 | k, n + 1 => f k ∧ allK f (k + 1) n
theorem zFv {f : Nat → Prop} : ∀ {n k : Nat}, allK f k n → ∀ m, k ≤ m → m ≤ k + n → f m
 | 0, k, h, m, h1, h2 => by
  obtain rfl : m = k := by omega
  exact h
 | n + 1, k, h, m, h1, h2 => by
  rcases Nat.lt_or_eq_of_le h1 with h3 | rfl
  ·exact zFv h.2 m h3 (by omega)
  ·exact h.1
def gNo (ops : Array Oper) (env : Env) (j : Nat) (b : Bool) : Bool :=
 match (ops[j]?).bind (·.dst) with
 | some d => match lk env d with
  | .p (.bool c) => match c, b with
   | true, false => true
   | false, true => true
   | _, _ => false
  | .opt false _ => true
  | _ => false
 | none => false
theorem gNo_ok {w : World} {β : Hd → Nat} {G : Hp} {ops : Array Oper} {env : Env} {a : Act} {j : Nat} {b : Bool} (he : EnvR w β G env a) (h : gNo ops env j b = true) : yielded ops a.tmps j ≠ some b := by
 unfold gNo at h
 unfold yielded
 split at h
 ·rename_i d hd
  rw [hd]
  have hdd := he d
  split at h
  ·rename_i c hc
   rw [hc] at hdd
   have hv := hdd.bool_inv
   have hlt : d < a.tmps.size := by
    rcases Nat.lt_or_ge d a.tmps.size with h | h
    ·exact h
    ·simp [Array.getD, Nat.not_lt.2 h, undef] at hv
   have h2 : a.tmps[d]? = some (.bool c) := by
    rw [Array.getElem?_eq_getElem hlt]
    simpa [Array.getD, hlt] using hv
   cases b <;> cases c <;> simp_all
  ·rename_i x hc
   rw [hc] at hdd
   generalize hv : a.tmps.getD d undef = v at hdd
   cases hdd with
   | opt _ _ _ h1 h2 =>
    have hu := h2 rfl
    subst hu
    cases hq : a.tmps[d]? with
    | none => simp [hq]
    | some v =>
     have : v = undef := by
      rw [Array.getD_eq_getD_getElem?, hq] at hv
      exact hv
     subst this
     simp [hq, undef]
  ·cases h
 ·cases h
section
variable (P : Program) (ops : List Oper) (env0 : Env) (Hf : Nat → List AObj) (Ls : List (List AObj)) (ss : List Nat)
def Obl (i : Nat) (o : Oper) (xs : List TV) (x : TV) : Prop := match posn ss 0 i with
 | some p => OpR P o (RdE ops env0 xs o) (Hf p) (Ls.getD p []) x (Hf (p + 1)) (Ls.getD (p + 1) [])
 | none => allK (fun k => OpR P o (RdE ops env0 xs o) (Hf k) (Ls.getD k []) x (Hf k) (Ls.getD k [])) (loK o ss 0 0) (hiK ops i ss 0 - loK o ss 0 0)
def OblF (i : Nat) (o : Oper) (xs : List TV) (x : TV) : Prop :=
 ((∀ g b, o.guard = some (g, b) → gA ops.toArray (RdE ops env0 xs o) g = some b) ∧ Obl P ops env0 Hf Ls ss i o xs x) ∨
 (∃ g b, o.guard = some (g, b) ∧ (gA ops.toArray (RdE ops env0 xs o) g = some (!b) ∨ gNo ops.toArray (RdE ops env0 xs o) g b = true) ∧ (x = .p .top ∨ x = .opt false (.p (.bool false))) ∧ posn ss 0 i = none)
def Tele (K : List TV → Prop) : List Oper → Nat → List TV → Prop
 | [], _, xs => K xs
 | o :: rest, i, xs => ∃ x, OblF P ops env0 Hf Ls ss i o xs x ∧ Tele K rest (i + 1) (xs ++ [x])
end
def regLook (ops : List Oper) (i : Nat) (o : Oper) : List Nat → Bool
 | [] => true
 | t :: r => (match wrGo ops 0 t with
  | some j => nmem (aft o) j || Nat.beq j i || (match ops[j]? with
   | some q => nmem (aft q) i
   | none => false)
  | none => true) && regLook ops i o r
def allLt (i : Nat) : List Nat → Bool
 | [] => true
 | j :: r => Nat.blt j i && allLt i r
def regGo (N : Nat) (ops : List Oper) : List Oper → Nat → Bool
 | [], _ => true
 | o :: r, i => allLt i (aft o) && (match o.dst with
  | some d => Nat.blt d N && (match wrGo ops 0 d with
   | some j => Nat.beq j i
   | none => false)
  | none => true) && regLook ops i o (o.looksAt ops.toArray) && regGo N ops r (i + 1)
def chainOk (ops : List Oper) : List Nat → Bool
 | [] => true
 | [s] => Nat.blt s ops.length
 | s :: s' :: r => Nat.blt s ops.length && (match ops[s']? with
  | some o => nmem (aft o) s
  | none => false) && chainOk ops (s' :: r)
def regOk (N : Nat) (ops : List Oper) (ss : List Nat) : Bool := regGo N ops ops 0 && chainOk ops ss
theorem zKg : ∀ {l : List Nat} {i : Nat}, allLt i l = true → ∀ j ∈ l, j < i
 | j :: r, i, h, k, hk => by
  simp only [allLt, Bool.and_eq_true, Nat.blt_eq] at h
  rcases List.mem_cons.1 hk with rfl | hk
  ·exact h.1
  ·exact zKg h.2 k hk
theorem zGy {ops : List Oper} {i : Nat} {o : Oper} : ∀ {l : List Nat}, regLook ops i o l = true → ∀ t ∈ l, ∀ j, wrGo ops 0 t = some j → nmem (aft o) j = true ∨ j = i ∨ ∃ q, ops[j]? = some q ∧ nmem (aft q) i = true
 | t :: r, h, t', ht, j, hj => by
  simp only [regLook, Bool.and_eq_true] at h
  rcases List.mem_cons.1 ht with rfl | ht
  ·have h1 := h.1
   rw [hj] at h1
   simp only [Bool.or_eq_true] at h1
   rcases h1 with (h1 | h1) | h1
   ·exact .inl h1
   ·exact .inr (.inl (Nat.eq_of_beq_eq_true h1))
   ·split at h1
    ·rename_i q hq; exact .inr (.inr ⟨q, hq, h1⟩)
    ·cases h1
  ·exact zGy h.2 t' ht j hj
structure RegI (N : Nat) (ops : List Oper) (i : Nat) (o : Oper) : Prop where
 lt : ∀ j ∈ aft o, j < i
 dst : ∀ d, o.dst = some d → d < N ∧ wrGo ops 0 d = some i
 look : ∀ t ∈ o.looksAt ops.toArray, ∀ j, wrGo ops 0 t = some j → nmem (aft o) j = true ∨ j = i ∨ ∃ q, ops[j]? = some q ∧ nmem (aft q) i = true
theorem yO {N : Nat} {ops : List Oper} : ∀ {r : List Oper} {i0 : Nat}, regGo N ops r i0 = true → ∀ (i : Nat) o, r[i]? = some o → RegI N ops (i0 + i) o
 | [], _, _, i, o, h => by simp at h
 | o :: r, i0, h, i, o', ho => by
  simp only [regGo, Bool.and_eq_true] at h
  obtain ⟨⟨⟨h1, h2⟩, h3⟩, h4⟩ := h
  cases i with
  | zero =>
   simp at ho
   subst ho
   refine ⟨zKg h1, fun d hd => ?_, zGy h3⟩
   rw [hd] at h2
   simp only [Bool.and_eq_true, Nat.blt_eq] at h2
   obtain ⟨h5, h6⟩ := h2
   split at h6
   ·rename_i j hj; exact ⟨h5, by rw [hj, Nat.eq_of_beq_eq_true h6]; rfl⟩
   ·cases h6
  | succ i =>
   have := yO h4 i o' (by simpa using ho)
   rwa [show i0 + 1 + i = i0 + (i + 1) by omega] at this
theorem zHj : ∀ {ss : List Nat} {p0 i p : Nat}, posn ss p0 i = some p → p0 ≤ p ∧ ss[p - p0]? = some i
 | [], _, _, _, h => by simp [posn] at h
 | s :: r, p0, i, p, h => by
  simp only [posn] at h
  split at h
  ·rename_i e
   obtain rfl := Option.some.inj h
   exact ⟨Nat.le_refl _, by simp [Nat.eq_of_beq_eq_true e]⟩
  ·obtain ⟨h1, h2⟩ := zHj h
   exact ⟨by omega, by rw [show p - p0 = (p - (p0 + 1)) + 1 by omega]; simpa using h2⟩
theorem zBz : ∀ {ss : List Nat} {p0 i : Nat}, posn ss p0 i = none → i ∉ ss
 | [], _, _, _ => by simp
 | s :: r, p0, i, h => by
  simp only [posn] at h
  split at h
  ·cases h
  ·rename_i e
   have := Nat.ne_of_beq_eq_false e
   simp only [List.mem_cons, not_or]
   exact ⟨fun q => this q.symm, zBz h⟩
theorem jM {ops : List Oper} : ∀ {ss : List Nat}, chainOk ops ss = true → ∀ (p : Nat) s, ss[p]? = some s → s < ops.length ∧ ∀ s', ss[p + 1]? = some s' → ∃ o, ops[s']? = some o ∧ s ∈ aft o
 | [], _, p, s, h => by simp at h
 | [s], h, p, s', hs => by
  cases p with
  | zero => simp [chainOk] at h hs; subst hs; exact ⟨h, by simp⟩
  | succ p => simp at hs
 | s :: s' :: r, h, p, q, hq => by
  simp only [chainOk, Bool.and_eq_true] at h
  obtain ⟨⟨h1, h2⟩, h3⟩ := h
  cases p with
  | zero =>
   simp at hq
   subst hq
   refine ⟨by simpa using h1, fun t ht => ?_⟩
   simp at ht
   subst ht
   split at h2
   ·rename_i o ho; exact ⟨o, ho, qJ.1 h2⟩
   ·cases h2
  | succ p =>
   obtain ⟨h4, h5⟩ := jM h3 p q (by simpa using hq)
   exact ⟨h4, fun t ht => h5 t (by simpa using ht)⟩
theorem zPv {o : Oper} {k : Nat} : ∀ {ss : List Nat} {p k0 : Nat}, k0 ≤ k → (∀ (q : Nat) s, ss[q]? = some s → nmem (aft o) s = true → p + q + 1 ≤ k) → loK o ss p k0 ≤ k
 | [], _, _, h, _ => h
 | s :: r, p, k0, h, hs => by
  simp only [loK]
  split
  ·rename_i e
   exact zPv (hs 0 s rfl e) fun q t ht hm => by have := hs (q + 1) t (by simpa using ht) hm; omega
  ·exact zPv h fun q t ht hm => by have := hs (q + 1) t (by simpa using ht) hm; omega
theorem zJq {ops : List Oper} {i : Nat} : ∀ {ss : List Nat} {p : Nat}, (∀ s ∈ ss, s < ops.length) → hiK ops i ss p = p + ss.length ∨ ∃ q s o, hiK ops i ss p = p + q ∧ ss[q]? = some s ∧ ops[s]? = some o ∧ nmem (aft o) i = true
 | [], p, _ => .inl rfl
 | s :: r, p, h => by
  simp only [hiK]
  have hlt := h s (by simp)
  rw [List.getElem?_eq_getElem hlt]
  simp only
  split
  ·rename_i e
   exact .inr ⟨0, s, _, rfl, rfl, List.getElem?_eq_getElem hlt, e⟩
  ·rcases zJq (ss := r) (p := p + 1) (fun s hs => h s (by simp [hs])) with h1 | ⟨q, t, o, h1, h2, h3, h4⟩
   ·exact .inl (by rw [h1]; simp; omega)
   ·exact .inr ⟨q + 1, t, o, by rw [h1]; omega, by simpa using h2, h3, h4⟩
theorem zHs {N : Nat} {ops : List Oper} {ss : List Nat} (hr : regGo N ops ops 0 = true) (hc : chainOk ops ss = true) {p q s t : Nat} (hpq : p < q) (hp : ss[p]? = some s) (hq : ss[q]? = some t) : s < t := by
 induction q generalizing t with
 | zero => omega
 | succ q ih =>
  obtain ⟨u, hu⟩ : ∃ u, ss[q]? = some u := ⟨ss[q]'(by have := (List.getElem?_eq_some_iff.1 hq).1; omega), List.getElem?_eq_getElem _⟩
  obtain ⟨o, h1, h2⟩ := (jM hc q u hu).2 t hq
  have h3 := (yO hr t o h1).lt u h2
  rcases Nat.lt_or_eq_of_le (Nat.le_of_lt_succ hpq) with h | h
  ·have := ih h hu; omega
  ·subst h
   rw [hp] at hu
   obtain rfl := Option.some.inj hu
   omega
section
variable {P : Program} {Γ : Ctx} {ops : List Oper} {env0 : Env} {H : List AObj} {Hf : Nat → List AObj} {Ls : List (List AObj)} {ss : List Nat} {xs : List TV} {Q : Exit → Act → World → Prop}
def valR (ops : List Oper) (env0 : Env) (xs : List TV) (listed : Array Bool) (t : Nat) : TV := match wrGo ops 0 t with
 | some j => if listed.getD j false = true then xs.getD j (.p .top) else lk env0 t
 | none => lk env0 t
structure InvR (Γ : Ctx) (ops : List Oper) (env0 : Env) (Hf : Nat → List AObj) (Ls : List (List AObj)) (ss : List Nat) (xs : List TV) (listed : Array Bool) (a : Act) (w : World) : Prop where
 size : listed.size = ops.length
 closed : ∀ (i : Nat) o, ops[i]? = some o → listed.getD i false = true → ∀ j ∈ aft o, listed.getD j false = true
 st : ∃ k β, k ≤ ss.length ∧ (∀ (p : Nat) s, ss[p]? = some s → (listed.getD s false = true ↔ p < k)) ∧ Sim w β ⟨Hf k, Ls.getD k [], Γ.F⟩ ∧ Step Γ.w0 Γ.β0 ⟨Γ.H0, [], Γ.F⟩ w β ⟨Hf k, Ls.getD k [], Γ.F⟩ ∧
  ∀ t, RepT w β ⟨Hf k, Ls.getD k [], Γ.F⟩ (valR ops env0 xs listed t) (a.tmps.getD t undef)
 tmps : a.tmps.size = Γ.N
 defers : a.defers = []
theorem zWd {f : Nat → TV} : ∀ {l : List Nat} {t : Nat}, (t ∈ l ∧ lk (l.map fun t => (t, f t)) t = f t) ∨ lk (l.map fun t => (t, f t)) t = .p .top
 | [], t => .inr rfl
 | s :: r, t => by
  simp only [List.map_cons, y4, List.mem_cons]
  by_cases e : t = s
  ·subst e; exact .inl ⟨.inl rfl, by simp⟩
  ·rw [if_neg e]
   rcases zWd (f := f) (l := r) (t := t) with ⟨h1, h2⟩ | h
   ·exact .inl ⟨.inr h1, h2⟩
   ·exact .inr h
theorem reg_step (hreg : regOk Γ.N ops ss = true) (hobl : ∀ (i : Nat) o, ops[i]? = some o → OblF P ops env0 Hf Ls ss i o xs (xs.getD i (.p .top))) {listed : Array Bool} {a : Act} {w : World} (hI : InvR Γ ops env0 Hf Ls ss xs listed a w) {i : Nat} (hi : i ∈ Region.ready .any ops.toArray listed)
  {K : Act → World → Prop} (hK : ∀ a' w', InvR Γ ops env0 Hf Ls ss xs (listed.setIfInBounds i true) a' w' → K a' w') : wpOp P ops.toArray Q i K a w := by
 obtain ⟨hun, o, ho, hdep⟩ := mem_ready.1 hi
 have ho' : ops[i]? = some o := by simpa using ho
 unfold regOk at hreg
 simp only [Bool.and_eq_true] at hreg
 have hR := yO hreg.1 i o ho'
 rw [Nat.zero_add] at hR
 have hil : i < ops.length := (List.getElem?_eq_some_iff.1 ho').1
 have hdeps : ∀ j ∈ aft o, listed.getD j false = true := fun j hj => by
  unfold aft at hj
  simp only [List.mem_filterMap] at hj
  obtain ⟨e, he, hb⟩ := hj
  split at hb
  ·rename_i hbind
   obtain rfl := Option.some.inj hb
   exact hdep e (by simpa using he) hbind
  ·cases hb
 have hun' : ¬ listed.getD i false = true := by
  have hs : i < listed.size := by rw [hI.size]; exact hil
  simp [Array.getD, hs] at hun ⊢
  simp [hun]
 obtain ⟨k, β, hk, hkl, hS, hst, hrep⟩ := hI.st
 have hkl' : ∀ q s o', ss[q]? = some s → ops[s]? = some o' → i ∈ aft o' → k ≤ q := fun q s o' h1 h2 h3 => by
  rcases Nat.lt_or_ge q k with h | h
  ·exact absurd (hI.closed s o' h2 ((hkl q s h1).2 h) i h3) hun'
  ·exact h
 have hen : EnvR w β ⟨Hf k, Ls.getD k [], Γ.F⟩ (RdE ops env0 xs o) a := fun t => by
  unfold RdE
  rcases zWd (f := rdv ops env0 xs o) (l := o.looksAt ops.toArray) (t := t) with ⟨hm, h2⟩ | h2
  ·rw [h2]
   have hv := hrep t
   unfold valR at hv
   unfold rdv
   cases hw : wrGo ops 0 t with
   | none => rw [hw] at hv; exact hv
   | some j =>
    rw [hw] at hv
    simp only at hv ⊢
    cases hm2 : nmem (aft o) j with
    | true =>
     rw [if_pos (hdeps j (qJ.1 hm2))] at hv
     exact hv
    | false =>
     have hnl : ¬ listed.getD j false = true := by
      rcases hR.look t hm j hw with h | h | ⟨q, hq, h⟩
      ·rw [hm2] at h; cases h
      ·rw [h]; exact hun'
      ·exact fun hl => hun' (hI.closed j q hq hl i (qJ.1 h))
     rw [if_neg hnl] at hv
     exact hv
  ·rw [h2]; exact .p (.top _)
 have hclosed : ∀ (j : Nat) o', ops[j]? = some o' → (listed.setIfInBounds i true).getD j false = true → ∀ q ∈ aft o', (listed.setIfInBounds i true).getD q false = true := fun j o' hj hl q hq => by
  by_cases e : j = i
  ·subst e
   rw [ho'] at hj
   obtain rfl := Option.some.inj hj
   exact getD_set_true (hdeps q hq)
  ·rw [getD_set_ne false (fun h => e h.symm)] at hl
   exact getD_set_true (hI.closed j o' hj hl q hq)
 have hself : (listed.setIfInBounds i true).getD i false = true := by
  have hs : i < listed.size := by rw [hI.size]; exact hil
  simp [hs]
 have henv : ∀ {w' : World} {β' : Hd → Nat} {H' L' : List AObj} {u : Value}, Step w β ⟨Hf k, Ls.getD k [], Γ.F⟩ w' β' ⟨H', L', Γ.F⟩ → RepT w' β' ⟨H', L', Γ.F⟩ (xs.getD i (.p .top)) u →
   ∀ t, RepT w' β' ⟨H', L', Γ.F⟩ (valR ops env0 xs (listed.setIfInBounds i true) t) ((a.put o.dst u).tmps.getD t undef) := fun {w'} {β'} {H'} {L'} {u} hs hx t => by
  by_cases hd : o.dst = some t
  ·obtain ⟨hlt, hwr⟩ := hR.dst t hd
   unfold valR
   rw [hwr]
   simp only [hself, if_true]
   rw [hd]
   have hlt' : t < a.tmps.size := by rw [hI.tmps]; exact hlt
   have : (a.put (some t) u).tmps.getD t undef = u := by simp [Act.put, Array.getD, hlt']
   rw [this]
   exact hx
  ·have hold := (hrep t).mono hs
   have hv : valR ops env0 xs (listed.setIfInBounds i true) t = valR ops env0 xs listed t := by
    unfold valR
    cases hw : wrGo ops 0 t with
    | none => rfl
    | some j =>
     have hji : j ≠ i := by
      rintro rfl
      obtain ⟨_, o2, h2, h3⟩ := zAz hw
      rw [Nat.sub_zero, ho'] at h2
      obtain rfl := Option.some.inj h2
      exact hd h3
     simp only [getD_set_ne false (fun h => hji h.symm)]
   rw [hv]
   have hput : (a.put o.dst u).tmps.getD t undef = a.tmps.getD t undef := by
    cases hdd : o.dst with
    | none => rfl
    | some d =>
     have hne : d ≠ t := fun e => hd (by rw [hdd, e])
     simp only [Act.put, Array.getD_eq_getD_getElem?, Array.getElem?_setIfInBounds_ne hne]
   rw [hput]
   exact hold
 unfold wpOp
 rw [ho]
 simp only
 rcases hobl i o ho' with ⟨hw, hob⟩ | ⟨g, b, hg, hgv, hx, hpn⟩
 ·have hwant : Region.wanted o (yielded ops.toArray a.tmps) = true := by
   cases hg : o.guard with
   | none => simp [Region.wanted, hg]
   | some gb =>
    obtain ⟨g, b⟩ := gb
    simp [Region.wanted, hg, zUz hen (hw g b hg)]
  rw [if_pos hwant]
  refine .inl ?_
  unfold Obl at hob
  split at hob
  ·rename_i p hp
   obtain ⟨_, hsp⟩ := zHj hp
   rw [Nat.sub_zero] at hsp
   have hkp : k = p := by
    have h1 : ¬ p < k := fun h => hun' ((hkl p i hsp).2 h)
    rcases Nat.eq_zero_or_pos p with h0 | h0
    ·omega
    ·obtain ⟨s, hs⟩ : ∃ s, ss[p - 1]? = some s := ⟨ss[p - 1]'(by have := (List.getElem?_eq_some_iff.1 hsp).1; omega), List.getElem?_eq_getElem _⟩
     obtain ⟨o2, h2, h3⟩ := (jM hreg.2 (p - 1) s hs).2 i (by rw [show p - 1 + 1 = p by omega]; exact hsp)
     rw [ho'] at h2
     obtain rfl := Option.some.inj h2
     have := (hkl (p - 1) s hs).1 (hdeps s h3)
     omega
   subst hkp
   refine hob Γ.F w β a _ _ hS hen fun w' β' u hS' hst' hx => hK _ _ ⟨by simp [hI.size], hclosed, ⟨k + 1, β', ?_, fun q s hq => ?_, hS', hst.trans hst', henv hst' hx⟩, by rw [zBk]; exact hI.tmps, by rw [qL]; exact hI.defers⟩
   ·have := (List.getElem?_eq_some_iff.1 hsp).1; omega
   ·by_cases e : s = i
    ·subst e
     simp only [hself, true_iff]
     by_cases hqk : q < k
     ·exact absurd ((hkl q s hq).2 hqk) hun'
     ·rcases Nat.lt_or_eq_of_le (Nat.le_of_not_lt hqk) with h | h
      ·have := zHs hreg.1 hreg.2 h hsp hq
       omega
      ·omega
    ·rw [getD_set_ne false (fun h => e h.symm), hkl q s hq]
     constructor
     ·intro h; omega
     ·intro h
      rcases Nat.lt_or_eq_of_le (Nat.le_of_lt_succ h) with h | h
      ·exact h
      ·subst h; rw [hsp] at hq; exact absurd (Option.some.inj hq).symm e
  ·rename_i hpn
   have hni := zBz hpn
   have hlo : loK o ss 0 0 ≤ k := zPv (Nat.zero_le _) fun q s hq hm => by
    have := (hkl q s hq).1 (hdeps s (qJ.1 hm))
    omega
   have hhi : k ≤ hiK ops i ss 0 := by
    rcases zJq (ops := ops) (i := i) (ss := ss) (p := 0) (fun s hs => by obtain ⟨q, hq⟩ := List.getElem?_of_mem hs; exact (jM hreg.2 q s hq).1) with h | ⟨q, s, o2, h1, h2, h3, h4⟩
    ·omega
    ·have := hkl' q s o2 h2 h3 (qJ.1 h4); omega
   have := zFv hob k hlo (by omega)
   refine this Γ.F w β a _ _ hS hen fun w' β' u hS' hst' hx => hK _ _ ⟨by simp [hI.size], hclosed, ⟨k, β', hk, fun q s hq => ?_, hS', hst.trans hst', henv hst' hx⟩, by rw [zBk]; exact hI.tmps, by rw [qL]; exact hI.defers⟩
   have e : s ≠ i := by rintro rfl; exact hni (List.mem_of_getElem? hq)
   rw [getD_set_ne false (fun h => e h.symm), hkl q s hq]
 ·have hnw : ¬ Region.wanted o (yielded ops.toArray a.tmps) = true := by
   rcases hgv with hgv | hgv
   ·simp [Region.wanted, hg, zUz hen hgv]
   ·simp [Region.wanted, hg, gNo_ok hen hgv]
  rw [if_neg hnw]
  have hni := zBz hpn
  refine hK _ _ ⟨by simp [hI.size], hclosed, ⟨k, β, hk, fun q s hq => ?_, hS, hst, henv (Step.refl ..) (by
   rcases hx with hx | hx
   ·rw [hx]; exact .p (.top _)
   ·rw [hx]; exact .opt _ _ _ (fun h => by cases h) fun _ => rfl)⟩, by rw [zBk]; exact hI.tmps, by rw [qL]; exact hI.defers⟩
  have e : s ≠ i := by rintro rfl; exact hni (List.mem_of_getElem? hq)
  rw [getD_set_ne false (fun h => e h.symm), hkl q s hq]
def finE : List Oper → List TV → Env → Env
 | o :: r, x :: xs, env => finE r xs (putE env o.dst x)
 | _, _, env => env
def unl (n : Nat) (listed : Array Bool) : Nat := ((List.range n).filter fun i => !listed.getD i false).length
theorem zOi {n i : Nat} {listed : Array Bool} (hi : i < n) (hs : listed.size = n) (hu : listed.getD i false = false) : unl n (listed.setIfInBounds i true) < unl n listed := by
 unfold unl
 rw [← List.countP_eq_length_filter, ← List.countP_eq_length_filter]
 have hmono : ∀ l : List Nat, List.countP (fun j => !(listed.setIfInBounds i true).getD j false) l ≤ List.countP (fun j => !listed.getD j false) l := fun l => by
  refine List.countP_mono_left fun j _ hj => ?_
  by_cases e : i = j
  ·subst e
   simp [hs, hi] at hj
  ·rw [getD_set_ne false e] at hj; exact hj
 have key : ∀ l : List Nat, i ∈ l → List.countP (fun j => !(listed.setIfInBounds i true).getD j false) l < List.countP (fun j => !listed.getD j false) l := by
  intro l
  induction l with
  | nil => simp
  | cons j l ih =>
   intro hm
   rw [List.countP_cons, List.countP_cons]
   by_cases e : i = j
   ·subst e
    have h1 : (listed.setIfInBounds i true).getD i false = true := by simp [hs, hi]
    rw [h1, hu]
    have := hmono l
    simp only [Bool.not_true, Bool.false_eq_true, if_false, Bool.not_false, if_true]
    omega
   ·have h1 := ih (by rcases List.mem_cons.1 hm with h | h; exact absurd h e; exact h)
    rw [getD_set_ne false e]
    omega
 exact key _ (by simpa using hi)
theorem zV8 (hreg : regOk Γ.N ops ss = true) (hobl : ∀ (i : Nat) o, ops[i]? = some o → OblF P ops env0 Hf Ls ss i o xs (xs.getD i (.p .top)))
  (hend : ∀ listed a w, InvR Γ ops env0 Hf Ls ss xs listed a w → (∀ i, i < ops.length → listed.getD i false = true) → Q .normal a w) :
  ∀ (fuel : Nat) (listed : Array Bool) (a : Act) (w : World), unl ops.length listed ≤ fuel → InvR Γ ops env0 Hf Ls ss xs listed a w → wpAny P .any ops.toArray Q fuel listed a w := by
 have hall : ∀ (listed : Array Bool) (a : Act) (w : World), InvR Γ ops env0 Hf Ls ss xs listed a w → Region.ready .any ops.toArray listed = [] → ∀ i, i < ops.length → listed.getD i false = true := fun listed a w hI hr i => by
  have hreg1 : regGo Γ.N ops ops 0 = true := by
   unfold regOk at hreg
   simp only [Bool.and_eq_true] at hreg
   exact hreg.1
  induction i using Nat.strongRecOn with
  | ind i ih =>
   intro hi
   cases hq : listed.getD i false with
   | true => rfl
   | false =>
    exfalso
    have ho : ops[i]? = some ops[i] := List.getElem?_eq_getElem hi
    have hR := yO hreg1 i _ ho
    rw [Nat.zero_add] at hR
    have hs : i < listed.size := by rw [hI.size]; exact hi
    have : i ∈ Region.ready .any ops.toArray listed := mem_ready.2 ⟨by simp [Array.getD, hs] at hq ⊢; exact hq, ops[i], by simp [hi], fun e he hb => by
     have hm : e.on ∈ aft ops[i] := by
      unfold aft
      simp only [List.mem_filterMap]
      exact ⟨e, by simpa using he, by rw [hb]⟩
     have hlt := hR.lt _ hm
     exact ih e.on hlt (by omega)⟩
    rw [hr] at this
    cases this
 intro fuel
 induction fuel with
 | zero =>
  intro listed a w hf hI
  have hall' : ∀ i, i < ops.length → listed.getD i false = true := fun i hi => by
   cases hq : listed.getD i false with
   | true => rfl
   | false =>
    exfalso
    have := zOi hi hI.size hq
    omega
  refine ⟨?_, hend _ _ _ hI hall'⟩
  apply List.eq_nil_iff_forall_not_mem.2
  intro i hi
  obtain ⟨hun, o, ho, _⟩ := mem_ready.1 hi
  have hil : i < ops.length := (List.getElem?_eq_some_iff.1 (show ops[i]? = some o by simpa using ho)).1
  have h1 := hall' i hil
  have hs : i < listed.size := by rw [hI.size]; exact hil
  simp [Array.getD, hs] at hun h1
  rw [hun] at h1
  cases h1
 | succ fuel ih =>
  intro listed a w hf hI
  refine ⟨fun hr => hend _ _ _ hI (hall _ _ _ hI hr), fun i hi => reg_step hreg hobl hI hi fun a' w' hI' => ?_⟩
  obtain ⟨hun, o, ho, _⟩ := mem_ready.1 hi
  have hil : i < ops.length := (List.getElem?_eq_some_iff.1 (show ops[i]? = some o by simpa using ho)).1
  have hs : i < listed.size := by rw [hI.size]; exact hil
  have hq : listed.getD i false = false := by simp [Array.getD, hs] at hun ⊢; exact hun
  have := zOi hil hI.size hq
  exact ih _ _ _ (by omega) hI'
theorem zN5 : ∀ {r : List Oper} {xs : List TV} {env : Env} {t : Nat}, r.length = xs.length → (∀ (i j : Nat) (o o' : Oper), r[i]? = some o → r[j]? = some o' → o.dst = some t → o'.dst = some t → i = j) →
  lk (finE r xs env) t = match wrGo r 0 t with
   | some j => xs.getD j (.p .top)
   | none => lk env t
 | [], [], env, t, _, _ => rfl
 | [], _ :: _, _, _, h, _ => by simp at h
 | _ :: _, [], _, _, h, _ => by simp at h
 | o :: r, x :: xs, env, t, hl, hu => by
  have shift : ∀ {r : List Oper} {i : Nat}, wrGo r (i + 1) t = (wrGo r i t).map (· + 1) := by
   intro r
   induction r with
   | nil => intro i; rfl
   | cons o r ih =>
    intro i
    simp only [wrGo]
    split
    ·split
     ·rfl
     ·exact ih
    ·exact ih
  have ih := zN5 (r := r) (xs := xs) (env := putE env o.dst x) (t := t) (by simpa using hl) fun i j a b h1 h2 h3 h4 => by
   have := hu (i + 1) (j + 1) a b (by simpa using h1) (by simpa using h2) h3 h4
   omega
  simp only [finE, wrGo]
  rw [ih]
  cases hd : o.dst with
  | none =>
   simp only [putE]
   rw [shift]
   cases wrGo r 0 t <;> simp
  | some d =>
   simp only [putE, y4]
   cases hb : Nat.beq d t with
   | true =>
    have hdt := Nat.eq_of_beq_eq_true hb
    subst hdt
    have hn : wrGo r 0 d = none := by
     cases hw : wrGo r 0 d with
     | none => rfl
     | some j =>
      exfalso
      obtain ⟨_, o2, h2, h3⟩ := zAz hw
      have := hu 0 (j + 1) o o2 rfl (by simpa using h2) hd h3
      omega
    rw [hn]
    simp
   | false =>
    have hne := Nat.ne_of_beq_eq_false hb
    simp only [if_neg (fun e : t = d => hne e.symm)]
    rw [shift]
    cases wrGo r 0 t <;> simp
theorem jY {l m : List TV} {j : Nat} (h : j < l.length) : (l ++ m).getD j (.p .top) = l.getD j (.p .top) := by
 simp [List.getD, List.getElem?_append_left h]
theorem zRv {N : Nat} {xs ys : List TV} {i : Nat} {o : Oper} (hR : RegI N ops i o) (hl : i ≤ xs.length) (t : Nat) : rdv ops env0 (xs ++ ys) o t = rdv ops env0 xs o t := by
 unfold rdv
 split
 ·split
  ·rename_i j hj hm
   have := hR.lt _ (qJ.1 hm)
   exact jY (by omega)
  ·rfl
 ·rfl
theorem zHo {N : Nat} {xs ys : List TV} {i : Nat} {o : Oper} (hR : RegI N ops i o) (hl : i ≤ xs.length) : RdE ops env0 (xs ++ ys) o = RdE ops env0 xs o := by
 unfold RdE
 exact List.map_congr_left fun t _ => by rw [zRv hR hl]
theorem zGk {N : Nat} {xs ys : List TV} {i : Nat} {o : Oper} {x : TV} (hR : RegI N ops i o) (hl : i ≤ xs.length) (h : OblF P ops env0 Hf Ls ss i o xs x) : OblF P ops env0 Hf Ls ss i o (xs ++ ys) x := by
 unfold OblF Obl at h ⊢
 rw [zHo hR hl]
 exact h
theorem zPw {N : Nat} {K : List TV → Prop} (hreg : regGo N ops ops 0 = true) : ∀ {rest : List Oper} {i : Nat} {xs : List TV}, (∀ k, rest[k]? = ops[i + k]?) → i + rest.length = ops.length → xs.length = i → (∀ (j : Nat) o, j < i → ops[j]? = some o → OblF P ops env0 Hf Ls ss j o xs (xs.getD j (.p .top))) →
  Tele P ops env0 Hf Ls ss K rest i xs → ∃ ys, ys.length = ops.length ∧ (∀ (j : Nat) o, ops[j]? = some o → OblF P ops env0 Hf Ls ss j o ys (ys.getD j (.p .top))) ∧ K ys
 | [], i, xs, hr, hn, hl, hall, h => by
  simp at hn
  refine ⟨xs, by omega, fun j o ho => hall j o ?_ ho, h⟩
  have := (List.getElem?_eq_some_iff.1 ho).1
  omega
 | o :: rest, i, xs, hr, hn, hl, hall, h => by
  obtain ⟨x, h1, h2⟩ := h
  have ho : ops[i]? = some o := by have := hr 0; simpa using this.symm
  have hR := yO hreg i o ho
  rw [Nat.zero_add] at hR
  refine zPw hreg (fun k => ?_) (by simp at hn; omega) (by simp [hl]) (fun j o' hj ho' => ?_) h2
  ·have := hr (k + 1)
   rw [show i + 1 + k = i + (k + 1) by omega]
   simpa using this
  ·by_cases e : j = i
   ·subst e
    rw [ho] at ho'
    obtain rfl := Option.some.inj ho'
    have hx : (xs ++ [x]).getD j (.p .top) = x := by simp [List.getD, hl]
    rw [hx]
    exact zGk hR (by omega) h1
   ·have hR' := yO hreg j o' ho'
    rw [Nat.zero_add] at hR'
    have hji : j < i := by omega
    have hx : (xs ++ [x]).getD j (.p .top) = xs.getD j (.p .top) := jY (by omega)
    rw [hx]
    have h3 := hall j o' hji ho'
    exact zGk hR' (by omega) h3
theorem qR (n i : Nat) : (Array.replicate n false).getD i false = false := by
 by_cases h : i < n <;> simp [Array.getD, h]
theorem zU0 (Hf : Nat → List AObj) (Ls : List (List AObj)) (ss : List Nat) {id : Nat} {L : List AObj} {ops : List Oper} (hm : P.follows .mixedOrders = true) (hreg : regOk Γ.N ops ss = true) (hH : Hf 0 = H) (hL : Ls.getD 0 [] = L)
  (h : Tele P ops env0 Hf Ls ss (fun xs => J Γ (finE ops xs env0) (Hf ss.length) (Ls.getD ss.length []) (Q .normal)) ops 0 []) : J Γ env0 H L ((Code.region id ops.toArray true).wp P Q) := by
 subst hL hH
 intro a w β s
 have hreg1 : regGo Γ.N ops ops 0 = true := by
  unfold regOk at hreg
  simp only [Bool.and_eq_true] at hreg
  exact hreg.1
 obtain ⟨xs, hxl, hobl, hk⟩ := zPw hreg1 (rest := ops) (i := 0) (xs := []) (fun k => by rw [Nat.zero_add]) (by simp) rfl (fun j o hj => by omega) h
 refine wp_region_any hm ?_
 have hdrew : Step w β ⟨Hf 0, Ls.getD 0 [], Γ.F⟩ w.drew β ⟨Hf 0, Ls.getD 0 [], Γ.F⟩ ∧ Sim w.drew β ⟨Hf 0, Ls.getD 0 [], Γ.F⟩ := zHh s.sim rfl rfl rfl rfl
 refine zV8 (Γ := Γ) (xs := xs) hreg hobl (fun listed a' w' hI hall => ?_) _ _ a w.drew ?_ ⟨by simp, fun i o _ hl => ?_, ⟨0, β, Nat.zero_le _, fun p q hq => ?_, hdrew.2, s.step.trans hdrew.1, fun t => ?_⟩, s.size, s.defers⟩
 ·obtain ⟨k, β', hkk, hkl, hS, hst, hrep⟩ := hI.st
  have hke : k = ss.length := by
   rcases Nat.lt_or_eq_of_le hkk with h | h
   ·exfalso
    have hq : ss[k]? = some ss[k] := List.getElem?_eq_getElem h
    have hlt : ss[k] < ops.length := by
     unfold regOk at hreg
     simp only [Bool.and_eq_true] at hreg
     exact (jM hreg.2 k _ hq).1
    have := (hkl k _ hq).1 (hall _ hlt)
    omega
   ·exact h
  subst hke
  refine hk a' w' β' ⟨hS, hst, fun t => ?_, hI.tmps, hI.defers⟩
  have hv := hrep t
  rw [zN5 hxl.symm fun i j o o' hi hj hd hd' => by
   have h1 := ((yO hreg1 i o hi).dst t hd).2
   have h2 := ((yO hreg1 j o' hj).dst t hd').2
   rw [h1] at h2
   have := Option.some.inj h2
   omega]
  unfold valR at hv
  cases hw : wrGo ops 0 t with
  | none => rw [hw] at hv; exact hv
  | some j =>
   rw [hw] at hv
   obtain ⟨_, o2, h2, _⟩ := zAz hw
   simp only at hv ⊢
   rw [if_pos (hall j (by rw [Nat.sub_zero] at h2; exact (List.getElem?_eq_some_iff.1 h2).1))] at hv
   exact hv
 ·unfold unl
  exact Nat.le_trans (List.length_filter_le _ _) (by simp)
 ·have h0 : (Array.replicate ops.toArray.size false).getD i false = false := qR _ _
  rw [h0] at hl; cases hl
 ·have h0 : (Array.replicate ops.toArray.size false).getD q false = false := qR _ _
  rw [h0]
  simp
 ·have hv : valR ops env0 xs (Array.replicate ops.toArray.size false) t = lk env0 t := by
   unfold valR
   cases hw : wrGo ops 0 t with
   | none => rfl
   | some j =>
    have h0 : (Array.replicate ops.toArray.size false).getD j false = false := qR _ _
    simp only [h0, Bool.false_eq_true, if_false]
  rw [hv]
  exact (s.env t).mono hdrew.1
theorem yE (Ls : List (List AObj)) (ss : List Nat) {id : Nat} {L : List AObj} {ops : List Oper} (hm : P.follows .mixedOrders = true) (hreg : regOk Γ.N ops ss = true) (hL : Ls.getD 0 [] = L)
  (h : Tele P ops env0 (fun _ => H) Ls ss (fun xs => J Γ (finE ops xs env0) H (Ls.getD ss.length []) (Q .normal)) ops 0 []) : J Γ env0 H L ((Code.region id ops.toArray true).wp P Q) :=
 zU0 (fun _ => H) Ls ss hm hreg rfl hL h
theorem zG0 (Hs Ls : List (List AObj)) (ss : List Nat) {id : Nat} {L : List AObj} {ops : List Oper} (hm : P.follows .mixedOrders = true) (hreg : regOk Γ.N ops ss = true) (hH : Hs.getD 0 [] = H) (hL : Ls.getD 0 [] = L)
  (h : Tele P ops env0 (fun k => Hs.getD k []) Ls ss (fun xs => J Γ (finE ops xs env0) (Hs.getD ss.length []) (Ls.getD ss.length []) (Q .normal)) ops 0 []) : J Γ env0 H L ((Code.region id ops.toArray true).wp P Q) :=
 zU0 (fun k => Hs.getD k []) Ls ss hm hreg hH hL h
def tellL {α : Type} : List TV → (List TV → Option α) → Option α
 | [], k => k []
 | x :: r, k => tellL r fun r' => k (x :: r')
theorem zKc {α : Type} : ∀ (l : List TV) (k : List TV → Option α), tellL l k = k l
 | [], _ => rfl
 | x :: r, k => by simp only [tellL, zKc r]
def snocN (l : List TV) (x : TV) : Option (List TV) := tellL (l ++ [x]) some
def setN (l : List TV) (j : Nat) (x : TV) : Option (List TV) := tellL (l.set j x) some
theorem yG {l l' : List TV} {x : TV} (h : snocN l x = some l') : l ++ [x] = l' := by
 unfold snocN at h; rw [zKc] at h; exact Option.some.inj h
theorem zUl {l l' : List TV} {j : Nat} {x : TV} (h : setN l j x = some l') : l.set j x = l' := by
 unfold setN at h; rw [zKc] at h; exact Option.some.inj h
theorem zJf {K : List TV → Prop} {i : Nat} (h : K xs) : Tele P ops env0 Hf Ls ss K [] i xs := h
theorem T_op {K : List TV → Prop} {o : Oper} {rest : List Oper} {i k : Nat} {x : TV} {L : List AObj} (hg : o.guard = none) (hp : posn ss 0 i = none) (hk : loK o ss 0 0 = k) (hk2 : Nat.beq (hiK ops i ss 0 - k) 0 = true) (hL : Ls.getD k [] = L) (h : OpR P o (RdE ops env0 xs o) H L x H L) {xs' : List TV} (hxs : snocN xs x = some xs') (kk : Tele P ops env0 (fun _ => H) Ls ss K rest (i + 1) xs') :
  Tele P ops env0 (fun _ => H) Ls ss K (o :: rest) i xs :=
 ⟨x, .inl ⟨fun g b hgb => (by rw [hg] at hgb; cases hgb), by
  unfold Obl
  rw [hp]
  simp only
  rw [hk, Nat.eq_of_beq_eq_true hk2]
  show OpR _ _ _ _ _ _ _ _
  rw [hL]
  exact h⟩, by rw [yG hxs]; exact kk⟩
theorem zR9 {K : List TV → Prop} {o : Oper} {rest : List Oper} {i k : Nat} {x : TV} {L L2 : List AObj} (hg : o.guard = none) (hp : posn ss 0 i = none) (hk : loK o ss 0 0 = k) (hk2 : Nat.beq (hiK ops i ss 0 - k) 1 = true) (hL : Ls.getD k [] = L) (hL2 : Ls.getD (k + 1) [] = L2) (h : OpR P o (RdE ops env0 xs o) H L x H L) (h2 : OpR P o (RdE ops env0 xs o) H L2 x H L2) {xs' : List TV} (hxs : snocN xs x = some xs') (kk : Tele P ops env0 (fun _ => H) Ls ss K rest (i + 1) xs') :
  Tele P ops env0 (fun _ => H) Ls ss K (o :: rest) i xs :=
 ⟨x, .inl ⟨fun g b hgb => (by rw [hg] at hgb; cases hgb), by
  unfold Obl
  rw [hp]
  simp only
  rw [hk, Nat.eq_of_beq_eq_true hk2]
  show OpR _ _ _ _ _ _ _ _ ∧ OpR _ _ _ _ _ _ _ _
  rw [hL, hL2]
  exact ⟨h, h2⟩⟩, by rw [yG hxs]; exact kk⟩
theorem T_yes {K : List TV → Prop} {o : Oper} {rest : List Oper} {i k g : Nat} {b : Bool} {x : TV} {L : List AObj} (hg : o.guard = some (g, b)) (hb : gA ops.toArray (RdE ops env0 xs o) g = some b) (hp : posn ss 0 i = none) (hk : loK o ss 0 0 = k) (hk2 : Nat.beq (hiK ops i ss 0 - k) 0 = true) (hL : Ls.getD k [] = L) (h : OpR P o (RdE ops env0 xs o) H L x H L) {xs' : List TV} (hxs : snocN xs x = some xs') (kk : Tele P ops env0 (fun _ => H) Ls ss K rest (i + 1) xs') :
  Tele P ops env0 (fun _ => H) Ls ss K (o :: rest) i xs :=
 ⟨x, .inl ⟨fun g' b' hgb => (by rw [hg] at hgb; obtain ⟨rfl, rfl⟩ := Prod.mk.inj (Option.some.inj hgb); exact hb), by
  unfold Obl
  rw [hp]
  simp only
  rw [hk, Nat.eq_of_beq_eq_true hk2]
  show OpR _ _ _ _ _ _ _ _
  rw [hL]
  exact h⟩, by rw [yG hxs]; exact kk⟩
theorem T_no {K : List TV → Prop} {o : Oper} {rest : List Oper} {i g : Nat} {b : Bool} (hg : o.guard = some (g, b)) (hb : gA ops.toArray (RdE ops env0 xs o) g = some (!b)) (hp : posn ss 0 i = none) {xs' : List TV} (hxs : snocN xs (.p .top) = some xs') (kk : Tele P ops env0 (fun _ => H) Ls ss K rest (i + 1) xs') :
  Tele P ops env0 (fun _ => H) Ls ss K (o :: rest) i xs := ⟨.p .top, .inr ⟨g, b, hg, .inl hb, .inl rfl, hp⟩, by rw [yG hxs]; exact kk⟩
theorem T_noU {K : List TV → Prop} {o : Oper} {rest : List Oper} {i g : Nat} {b : Bool} (hg : o.guard = some (g, b)) (hb : gNo ops.toArray (RdE ops env0 xs o) g b = true) (hp : posn ss 0 i = none) {xs' : List TV} (hxs : snocN xs (.opt false (.p (.bool false))) = some xs') (kk : Tele P ops env0 (fun _ => H) Ls ss K rest (i + 1) xs') :
  Tele P ops env0 (fun _ => H) Ls ss K (o :: rest) i xs := ⟨.opt false (.p (.bool false)), .inr ⟨g, b, hg, .inr hb, .inr rfl, hp⟩, by rw [yG hxs]; exact kk⟩
theorem T_st {K : List TV → Prop} {o : Oper} {rest : List Oper} {i q : Nat} {x : TV} {L L' : List AObj} (hg : o.guard = none) (hp : posn ss 0 i = some q) (hL : Ls.getD q [] = L) (hL' : Ls.getD (q + 1) [] = L') (h : OpR P o (RdE ops env0 xs o) H L x H L') {xs' : List TV} (hxs : snocN xs x = some xs') (kk : Tele P ops env0 (fun _ => H) Ls ss K rest (i + 1) xs') :
  Tele P ops env0 (fun _ => H) Ls ss K (o :: rest) i xs :=
 ⟨x, .inl ⟨fun g b hgb => (by rw [hg] at hgb; cases hgb), by
  unfold Obl
  rw [hp]
  simp only
  rw [hL, hL']
  exact h⟩, by rw [yG hxs]; exact kk⟩
theorem zMf {l : List TV} {j : Nat} {y : TV} (hy : y ≠ .p .top) (h : l.getD j (.p .top) = y) : l.set j y = l := by
 have hj : j < l.length := by
  rcases Nat.lt_or_ge j l.length with h1 | h1
  ·exact h1
  ·simp [List.getD, List.getElem?_eq_none h1] at h; exact absurd h.symm hy
 have : l[j] = y := by simpa [List.getD, hj] using h
 rw [← this]
 simp
theorem zTc {K : List TV → Prop} {rest : List Oper} {i : Nat} (j : Nat) {b : Bool} (hx : xs.getD j (.p .top) = .p (.bool b)) (ht : b = true → Tele P ops env0 Hf Ls ss K rest i (xs.set j (.p (.bool true)))) (hf : b = false → Tele P ops env0 Hf Ls ss K rest i (xs.set j (.p (.bool false)))) :
  Tele P ops env0 Hf Ls ss K rest i xs := by
 cases hb : b with
 | true =>
  have := ht hb
  rwa [zMf (by simp) (by rw [hx, hb])] at this
 | false =>
  have := hf hb
  rwa [zMf (by simp) (by rw [hx, hb])] at this
theorem zT9 {K : List TV → Prop} {rest : List Oper} {i : Nat} (j : Nat) {b : Bool} (hx : xs.getD j (.p .top) = .p (.bool b)) (hb : b = true) {xs' : List TV} (hxs : setN xs j (.p (.bool true)) = some xs') (ht : Tele P ops env0 Hf Ls ss K rest i xs') : Tele P ops env0 Hf Ls ss K rest i xs :=
 zTc j hx (fun _ => by rw [zUl hxs]; exact ht) fun h => by rw [hb] at h; cases h
theorem zI5 {K : List TV → Prop} {rest : List Oper} {i : Nat} (j : Nat) {b : Bool} (hx : xs.getD j (.p .top) = .p (.bool b)) (hb : b = false) {xs' : List TV} (hxs : setN xs j (.p (.bool false)) = some xs') (hf : Tele P ops env0 Hf Ls ss K rest i xs') : Tele P ops env0 Hf Ls ss K rest i xs :=
 zTc j hx (fun h => by rw [hb] at h; cases h) fun _ => by rw [zUl hxs]; exact hf
end
def accT (h : Nat) (d : AV) (acc : List AV) : TV := match acc with
 | [] => .p d
 | r :: rs => .sl (.l h) (r :: rs).length 0 (r :: rs).length
def accL (e sz : Nat) (acc : List AV) : List AObj := match acc with
 | [] => []
 | r :: rs => [.arr e true sz (r :: rs)]
def accV (d : AV) (acc : List AV) : AV := match acc with
 | [] => d
 | r :: rs => .ps (r :: rs)
section
variable {P : Program} {T : Tab} {Γ : Ctx} {env : Env} {H L : List AObj} {o : Oper} {x : TV} {Φ : Act → World → Prop}
theorem Rd.acc {L0 L1 : List AObj} {e sz : Nat} {d : AV} {acc : List AV} (hd : d = .nils ∨ d = .cz) : Rd H (L0 ++ (accL e sz acc ++ L1)) (accT L0.length d acc) acc := by
 cases acc with
 | nil => rcases hd with rfl | rfl; exact .nils; exact .cz
 | cons r rs => exact Rd.full (Ty := e) (b := true) (e := sz) (by simp [Hp.get, accL]) rfl
theorem zCh {t tx : TypeId} {y z : Operand} {e : Nat} {te : TyI} {b : Bool} {s : TV} {d : AV} (hT : TabOk P T) (ho : o.op = .call { callee := .builtin .append, args := #[y, z], argTypes := #[t, tx] })
  (ht : appT T t tx = some (e, te, b)) (hd : d = .nils ∨ d = .cz) (hy : evA env y = .p d) (hz : evA env z = s) (hs : SrcA H L s []) (hbs : b = true ↔ ∃ l, s = .p (.str l)) : OpR P o env H L (.p d) H L :=
 zQ fun F w β a hS hen => by
  obtain ⟨at', hb1, _⟩ := zAb hT ht
  obtain ⟨inf, zv, i1, i2, i3, i4, i5⟩ := at'.info
  have hvz := zL hen z
  rw [hz] at hvz
  obtain ⟨news, n1, n2⟩ := hs.src' hS at' hb1 hvz (by intro r hr; simp at hr) (by intro r hr; simp at hr) hbs
  have hn0 : news = [] := List.eq_nil_of_length_eq_zero (by rw [n2.len]; simp)
  subst hn0
  have hvy := zL hen y
  rw [hy] at hvy
  obtain ⟨ao, hv⟩ : ∃ ao, a.eval y = .slice ao 0 0 := by
   generalize a.eval y = u at hvy
   rcases hd with rfl | rfl <;> cases hvy with | p h => cases h; exact ⟨_, rfl⟩
  refine ⟨_, zAs (P := P) (w' := w) (v := a.eval y) ho rfl ?_, hvy⟩
  have hu := at'.ut
  have hsl := n1.len w
  have hsc := n1.cells
  rw [← i3] at hsc
  simp only [List.length_nil] at hsl hsc
  rw [hv]
  rcases n1.kind with ⟨e', hk⟩ | hk <;> cases ao <;> simp [Builtin.append_, run_underlying hu, run_underlying hk, sizeOf, typeInfo, i1, hsl, hsc, storeCells]
theorem zGp {L0 : List AObj} {acc : List AV} {t tx : TypeId} {y z : Operand} {e : Nat} {te : TyI} {b : Bool} {s : TV} {d : AV} {rows : List AV} (hT : TabOk P T) (ho : o.op = .call { callee := .builtin .append, args := #[y, z], argTypes := #[t, tx] })
  (ht : appT T t tx = some (e, te, b)) (hL : L = L0 ++ accL e te.size acc) (hd : d = .nils ∨ d = .cz) (hy : evA env y = accT L0.length d acc) (hz : evA env z = s) (hs : SrcA H L s rows) (hbs : b = true ↔ ∃ l, s = .p (.str l)) (hc : clR rows) (he : ∀ r ∈ rows, (cellsOf r).length = te.size)
  (hpos : 0 < te.size) (hb0 : 0 < te.bytes) (hfit : (acc.length + rows.length) * te.bytes ≤ 140737488355328) : OpR P o env H L (accT L0.length d (acc ++ rows)) H (L0 ++ accL e te.size (acc ++ rows)) := by
 subst hL
 cases acc with
 | nil =>
  simp only [accL, List.append_nil] at hs ⊢
  cases rows with
  | nil =>
   have := zCh (o := o) hT ho ht hd hy hz hs hbs
   simpa [accT, accL] using this
  | cons r rs =>
   have hy' : evA env y = .p .nils ∨ evA env y = .p .cz := by
    rw [hy]; rcases hd with rfl | rfl
    ·exact .inl rfl
    ·exact .inr rfl
   exact zC5 (o := o) hT ho ht hy' hz hs hbs hc he hpos hb0 (by simp) (by simpa using hfit)
 | cons r rs =>
  have := yW (o := o) (L := L0 ++ accL e te.size (r :: rs)) (i := L0.length) (rows0 := r :: rs) hT ho ht hy (by simp [accL]) rfl rfl hz hs hbs hc he hb0 hfit
  have e1 : (L0 ++ accL e te.size (r :: rs)).set L0.length (.arr e true te.size (r :: rs ++ rows)) = L0 ++ accL e te.size (r :: rs ++ rows) := by
   rw [List.set_append_right _ _ (Nat.le_refl _), Nat.sub_self]; rfl
  rw [e1] at this
  have e2 : accT L0.length d (r :: rs ++ rows) = .sl (.l L0.length) ((r :: rs).length + rows.length) 0 ((r :: rs).length + rows.length) := by simp [accT]; omega
  rw [e2]
  exact this
theorem j3 {t e : Nat} {te : TyI} (hT : TabOk P T) (ho : o.op = .buildSlice t 0 #[]) (hd : tyD T t = .slice e) (he : tlk T e = some te) : OpR P o env H L (.p .cz) H L :=
 zHg fun F w β a hS hen => by
  obtain ⟨u, h1, h2⟩ := zV hT (t := t) (by rw [hd]; simp)
  rw [hd] at h2
  obtain rfl := yB h2
  obtain ⟨inf, ue, ok⟩ := hT.get he
  refine ⟨.slice (some ⟨w.heap.size, 0, none⟩) 0 0, .cells (Array.map (fun _ => default) (Array.range 0)) e, ?_, fun _ => .p (.cz _)⟩
  simp only [execOp, ho, Sem.run_bind, Instr.buildSlice, run_underlying h1, Result.andThen_ok, ok.run_size]
  simp [Instr.fill, newRow]
end
section
variable {P : Program} {T : Tab} {Γ : Ctx} {env : Env} {H L : List AObj} {o : Oper} {x : TV} {Q : Exit → Act → World → Prop} {ops : Array Oper} {rest : List Oper}
end
def frcH {α : Type} (h : Hd) (k : Hd → Option α) : Option α := match h with
 | .o i => k (.o i)
 | .l i => k (.l i)
theorem zNc {α : Type} (h : Hd) (k : Hd → Option α) : frcH h k = k h := by cases h <;> rfl
def frcV {α : Type} (x : AV) (k : AV → Option α) : Option α := match x with
 | .int a b => k (.int a b)
 | .bool b => k (.bool b)
 | .str l => k (.str l)
 | .nilp => k .nilp
 | .pp c => k (.pp c)
 | .nils => k .nils
 | .cz => k .cz
 | .ps r => k (.ps r)
 | .agg l => k (.agg l)
 | .cell x => k (.cell x)
 | .top => k .top
def frcT {α : Type} (x : TV) (k : TV → Option α) : Option α := match x with
 | .p v => frcV v fun v' => k (.p v')
 | .ad h o => frcH h fun h' => k (.ad h' o)
 | .sl h a b c => frcH h fun h' => k (.sl h' a b c)
 | .el s e i o => k (.el s e i o)
 | .agg l => k (.agg l)
 | .tup l => k (.tup l)
 | .fn f l => k (.fn f l)
 | .opt g x => k (.opt g x)
def frcU {α : Type} (x : TV) (k : TV → Option α) : Option α := match x with
 | .p v => k (.p v)
 | .ad h o => frcH h fun h' => k (.ad h' o)
 | .sl h a b c => frcH h fun h' => k (.sl h' a b c)
 | .el s e i o => k (.el s e i o)
 | .agg l => k (.agg l)
 | .tup l => k (.tup l)
 | .fn f l => k (.fn f l)
 | .opt g x => k (.opt g x)
def frcUL {α : Type} : List TV → (List TV → Option α) → Option α
 | [], k => k []
 | x :: r, k => frcU x fun x' => frcUL r fun r' => k (x' :: r')
theorem zGv {α : Type} (x : TV) (k : TV → Option α) : frcU x k = k x := by cases x <;> first | rfl | simp [frcU, zNc]
theorem zIk {α : Type} : ∀ (l : List TV) (k : List TV → Option α), frcUL l k = k l
 | [], _ => rfl
 | x :: r, k => by simp only [frcUL, zGv, zIk r]
def frcO {α : Type} (x : AObj) (k : AObj → Option α) : Option α := match x with
 | .dead => k .dead
 | .box t cs => frcUL cs fun cs' => k (.box t cs')
 | .arr t a e r => k (.arr t a e r)
 | .raw x => k (.raw x)
def frcM {α : Type} : List AObj → (List AObj → Option α) → Option α
 | [], k => k []
 | x :: r, k => frcO x fun x' => frcM r fun r' => k (x' :: r')
theorem frcV_eq {α : Type} (x : AV) (k : AV → Option α) : frcV x k = k x := by cases x <;> rfl
theorem frcT_eq {α : Type} (x : TV) (k : TV → Option α) : frcT x k = k x := by cases x <;> first | rfl | simp [frcT, frcV_eq, zNc]
theorem frcO_eq {α : Type} (x : AObj) (k : AObj → Option α) : frcO x k = k x := by cases x <;> first | rfl | simp [frcO, zIk]
theorem zHe {α : Type} : ∀ (l : List AObj) (k : List AObj → Option α), frcM l k = k l
 | [], _ => rfl
 | x :: r, k => by simp only [frcM, frcO_eq, zHe r]
def nrm : Option (TV × List AObj) → Option (TV × List AObj)
 | some (x, L) => frcT x fun x' => frcM L fun L' => some (x', L')
 | none => none
theorem nrm_eq (o : Option (TV × List AObj)) : nrm o = o := by
 match o with
 | none => rfl
 | some (x, L) => simp only [nrm, frcT_eq, zHe]
def stepN (T : Tab) (env : Env) (L : List AObj) (o : Op) : Option (TV × List AObj) := nrm (stepA T env L o)
theorem zK {P : Program} {T : Tab} {env : Env} {H L : List AObj} {o : Oper} {x : TV} (hT : TabOk P T) {L' : List AObj} (h : stepN T env L o.op = some (x, L')) : OpR P o env H L x H L' :=
 zN hT (by rw [← nrm_eq (stepA T env L o.op)]; exact h)
theorem zVx {w0 w : World} {β0 β : Hd → Nat} {H0 H L : List AObj} {F : Nat → Prop} (h : Step w0 β0 ⟨H0, [], F⟩ w β ⟨H, L, F⟩) : Step w0 β0 ⟨H0, [], F⟩ w β ⟨H, [], F⟩ := by
 have hlv : ∀ k, (⟨H, [], F⟩ : Hp).live k → (⟨H, L, F⟩ : Hp).live k := fun k hk => by
  cases k with
  | o k => exact hk
  | l i => obtain ⟨o, ho, _⟩ := hk; simp [Hp.get] at ho
 exact ⟨h.os, h.tape, h.output, h.size, fun b hb hf => ⟨(h.frame b hb hf).1, (h.frame b hb hf).2.1, fun k hk => (h.frame b hb hf).2.2 k (hlv k hk)⟩, h.fr, rfl, fun k o ho => by
  cases k with
  | o k => exact h.obj (.o k) o ho
  | l i => simp [Hp.get] at ho⟩
theorem Con.freeze {P : Program} {f : FuncId} {args : List TV} {H H' : List AObj} {Ty : TypeId} {b : Bool} {e n : Nat} {rows : List AV} (h : Con P f args H (.sl (.l 0) n 0 n) H' [.arr Ty b e rows]) (hn : rows.length = n) : Con P f args H (.p (.ps rows)) H' [] :=
 ⟨h.can, fun F w β vs hS hr => (h.run F w β vs hS hr).mono fun ed w' ⟨β', v, he, hS', hst, hv⟩ => by
  have hJ : J ⟨1, w, β, H, F⟩ [(0, .sl (.l 0) n 0 n)] H' [.arr Ty b e rows] (fun a w2 => ∃ β2, Sim w2 β2 ⟨H', [], F⟩ ∧ Step w β ⟨H, [], F⟩ w2 β2 ⟨H', [], F⟩ ∧ RepT w2 β2 ⟨H', [], F⟩ (.p (.ps rows)) (a.tmps.getD 0 undef)) :=
   zAj 0 0 rfl rfl hn fun a w2 β2 s => ⟨β2, zOg s.sim, zVx s.step, zWf (s.env 0) rfl⟩
  obtain ⟨β2, h1, h2, h3⟩ := hJ ⟨#[v], []⟩ w' β' ⟨hS', hst, fun t => by
   cases t with
   | zero => exact hv
   | succ t => exact .p (.top _), rfl, rfl⟩
  exact ⟨β2, v, he, h1, h2, h3⟩⟩
section
variable {P : Program} {T : Tab} {env : Env} {H L : List AObj} {o : Oper} {x : TV}
end
end Go.Awp

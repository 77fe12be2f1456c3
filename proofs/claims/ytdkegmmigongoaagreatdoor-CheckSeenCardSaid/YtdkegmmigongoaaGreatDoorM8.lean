import Derived.Test.YtdkegmmigongoaaGreatDoorGo
import Derived.Test.YtdkegmmigongoaaGreatDoorM7
import Derived.Lib.Bytealg
import Derived.Laws.Externs
import Derived.Test.YtdkegmmigongoaaGreatDoorM3
namespace Go.Proofs.YtdkegmmigongoaaGreatDoor
set_option maxRecDepth 20000
open Go.Awp Tr
theorem opr_ext {P : Program} {env : Env} {H L : List AObj} {o : Oper} {fo : Operand} {as' : List Operand} {ts : Array TypeId} {f : FuncId} {args : List TV} {x : TV} {fn : Func} {e : Array Value → Sem Value} (ho : o.op = .call { callee := .value fo, args := as'.toArray, argTypes := ts }) (hf : evA env fo = .fn f []) (ha : evL env as' = args)
  (hfn : P.funcs[f]? = some fn) (hname : (fn.name == "runtime.NumGoroutine") = false) (hb : fn.body.isNone = true) (hn : Extern.findNext fn = none) (he : Extern.find fn = some e)
  (hrun : ∀ (w : World) (β : Hd → Nat) (G : Hp) (vs : List Value), RepL w β G args vs → ∃ v, (e vs.toArray).run P w = .ok v w ∧ RepT w β G x v) : OpR P o env H L x H L :=
 opr_pure fun F w β a hS hen => by
  have hfo := evA_ok hen fo
  rw [hf] at hfo
  obtain ⟨vs, hvs, hl⟩ : ∃ vs : List Value, a.eval fo = .func (.func f) #[] vs.toArray ∧ vs.length = 0 := by
   generalize hv : a.eval fo = v at hfo
   cases hfo with | fn _ _ vs hl hr => exact ⟨vs, rfl, hl⟩
  obtain rfl := List.length_eq_zero_iff.1 hl
  have hargs := evL_ok hen as'
  rw [ha] at hargs
  obtain ⟨v, hv, hx⟩ := hrun w β _ _ hargs
  refine ⟨v, ?_, hx⟩
  simp only [execOp, ho, resolve, invoke, Deferred.ofValue, hvs, Sem.run_bind, Sem.run_pure, Result.andThen_ok, List.map_toArray, List.nil_append, List.append_toArray, List.append_nil]
  rw [run_callFunc_extern hfn hname hb hn he, hv]
  rfl
theorem u8_nat (c : UInt8) : ((c.toNat : Nat) : Int).toNat.toUInt8 = c := by simp
theorem idx_run {P : Program} {l : List UInt8} {c : UInt8} (w : World) (β : Hd → Nat) (G : Hp) (vs : List Value) (h : RepL w β G [.p (.str l), .p (.int .u8 (c.toNat : Int))] vs) : ∃ v, (Extern.BytealgIndexByte.indexByte vs.toArray).run P w = .ok v w ∧ RepT w β G (.p (.int .i64 (Lib.indexByte l c))) v := by
 obtain ⟨hl, hr⟩ := h
 match vs, hl with
 | [v1, v2], _ =>
  have h1 := hr 0 _ v1 rfl rfl
  have h2 := hr 1 _ v2 rfl rfl
  cases h1 with | p h1 => cases h1; cases h2 with | p h2 => cases h2; exact ⟨_, Lib.run_indexByteString _ _ w, by rw [u8_nat]; exact .p (.int ..)⟩
theorem count_run {P : Program} {l : List UInt8} {c : UInt8} (w : World) (β : Hd → Nat) (G : Hp) (vs : List Value) (h : RepL w β G [.p (.str l), .p (.int .u8 (c.toNat : Int))] vs) : ∃ v, (Extern.BytealgCount.count vs.toArray).run P w = .ok v w ∧ RepT w β G (.p (.int .i64 ((l.count c : Nat) : Int))) v := by
 obtain ⟨hl, hr⟩ := h
 match vs, hl with
 | [v1, v2], _ =>
  have h1 := hr 0 _ v1 rfl rfl
  have h2 := hr 1 _ v2 rfl rfl
  cases h1 with | p h1 => cases h1; cases h2 with | p h2 => cases h2; exact ⟨_, Lib.run_countString _ _ w, by rw [u8_nat]; exact .p (.int ..)⟩
theorem sidx_n (l : List UInt8) (n : Int) (c : UInt8) (h : n = (c.toNat : Int)) : Con Tryz.prog 204 [.p (.str l), .p (.int .u8 n)] [] (.p (.int .i64 (Lib.indexByte l c))) [] [] := by
 have hr := fun (w : World) (β : Hd → Nat) (G : Hp) (vs : List Value) => @idx_run Tryz.prog l c w β G vs
 rw [← h] at hr
 generalize Lib.indexByte l c = z at hr
 refine con_of Tryz.func204 rfl (by kernel_rfl) rfl fun F w0 β0 => ?_
 refine K_tell rfl ?_
 iterate 9 (refine g1 ?_)
 refine K_op rfl rfl (opr_ext (e := Extern.BytealgIndexByte.indexByte) rfl rfl rfl Tryz.func208 (by kernel_rfl) (by kernel_rfl) (by kernel_rfl) (by kernel_rfl) hr) rfl ?_
 refine go ?_
 exact J_done hT rfl rfl rfl
theorem scount_spec (l : List UInt8) : Con Tryz.prog 193 [.p (.str l), .p (.str [47])] [] (.p (.int .i64 ((l.count 47 : Nat) : Int))) [] [] := by
 have hr := fun (w : World) (β : Hd → Nat) (G : Hp) (vs : List Value) => @count_run Tryz.prog l 47 w β G vs
 rw [show ((47 : UInt8).toNat : Int) = 47 from rfl] at hr
 generalize ((l.count 47 : Nat) : Int) = z at hr
 refine con_of Tryz.func193 rfl (by kernel_rfl) rfl fun F w0 β0 => ?_
 refine K_tell rfl ?_
 refine go ?_
 refine K_op rfl rfl (opr_byte hT rfl rfl rfl rfl (by decide) rfl) rfl ?_
 refine K_op rfl rfl (opr_ext (e := Extern.BytealgCount.count) rfl rfl rfl Tryz.func200 (by kernel_rfl) (by kernel_rfl) (by kernel_rfl) (by kernel_rfl) hr) rfl ?_
 refine go ?_
 exact J_done hT rfl rfl rfl
theorem lidx_spec (l : List UInt8) : Con Tryz.prog 201 [.p (.str l), .p (.str [47])] [] (.p (.int .i64 (Lib.indexByte l 47))) [] [] := by
 have c1 := sidx_n l 47 47 rfl
 by_cases h : ([47] : List UInt8) = l
 ·subst h
  rw [show Lib.indexByte [47] 47 = 0 from rfl]
  refine con_of Tryz.func201 rfl (by kernel_rfl) rfl fun F w0 β0 => ?_
  refine K_tell rfl ?_
  refine go ?_
  exact J_done hT rfl rfl rfl
 ·generalize Lib.indexByte l 47 = z at c1
  refine con_of Tryz.func201 rfl (by kernel_rfl) rfl fun F w0 β0 => ?_
  refine K_tell rfl ?_
  refine go ?_
  refine K_condF rfl (by simp [h]) ?_
  refine go ?_
  refine K_op rfl rfl (opr_byte hT rfl rfl rfl rfl (by decide) rfl) rfl ?_
  refine K_op rfl rfl (opr_callP rfl rfl (c1) rfl rfl rfl rfl) rfl ?_
  refine go ?_
  exact J_done hT rfl rfl rfl
theorem index_spec (l : List UInt8) : Con Tryz.prog 194 [.p (.str l), .p (.str [47])] [] (.p (.int .i64 (Lib.indexByte l 47))) [] [] := by
 have c1 := lidx_spec l
 generalize Lib.indexByte l 47 = z at c1
 refine con_of Tryz.func194 rfl (by kernel_rfl) rfl fun F w0 β0 => ?_
 refine K_tell rfl ?_
 refine go ?_
 refine K_op rfl rfl (opr_callP rfl rfl (c1) rfl rfl rfl rfl) rfl ?_
 refine go ?_
 exact J_done hT rfl rfl rfl
def spl (c : UInt8) : List UInt8 → List (List UInt8)
 | [] => [[]]
 | b :: l => if b = c then [] :: spl c l else match spl c l with
  | [] => [[b]]
  | x :: r => (b :: x) :: r
theorem spl_ne (c : UInt8) (l : List UInt8) : spl c l ≠ [] := by
 cases l with
 | nil => simp [spl]
 | cons b l =>
  unfold spl
  split
  ·simp
  ·split <;> simp
theorem spl_len (c : UInt8) : ∀ l : List UInt8, (spl c l).length = l.count c + 1
 | [] => rfl
 | b :: l => by
  have ih := spl_len c l
  have hne := spl_ne c l
  rw [List.count_cons]
  unfold spl
  by_cases h : b = c
  ·rw [if_pos h, if_pos (by simp [h]), List.length_cons, ih]
  ·rw [if_neg h, if_neg (by simp [h])]
   cases hs : spl c l with
   | nil => exact absurd hs hne
   | cons x r => rw [hs] at ih; simpa using ih
theorem count_le (c : UInt8) (l : List UInt8) : l.count c ≤ l.length := List.count_le_length
theorem spl_at (c : UInt8) : ∀ l : List UInt8, 0 < l.count c → ∃ i : Nat, Lib.indexByte l c = (i : Int) ∧ i < l.length ∧ spl c l = l.take i :: spl c (l.drop (i + 1)) ∧ l.count c = (l.drop (i + 1)).count c + 1
 | [], h => by simp at h
 | b :: l, h => by
  by_cases hb : b = c
  ·subst hb
   exact ⟨0, by simp [Lib.indexByte], by simp, by simp [spl], by simp⟩
  ·have hc : (b :: l).count c = l.count c := by rw [List.count_cons, if_neg (by simp [hb])]; rfl
   rw [hc] at h ⊢
   obtain ⟨i, h1, h2, h3, h4⟩ := spl_at c l h
   refine ⟨i + 1, ?_, by simpa using h2, ?_, h4⟩
   ·unfold Lib.indexByte
    rw [if_neg (by simp [hb]), h1, if_neg (by simp)]
    rfl
   ·conv => lhs; unfold spl
    rw [if_neg hb, h3]
    rfl
theorem spl_none {c : UInt8} : ∀ {l : List UInt8}, l.count c = 0 → spl c l = [l]
 | [], _ => rfl
 | b :: l, h => by
  have hb : b ≠ c := fun e => by subst e; simp at h
  rw [List.count_cons, if_neg (by simp [hb])] at h
  unfold spl
  rw [if_neg hb, spl_none (l := l) (by omega)]
theorem str_size (l : List (List UInt8)) : ∀ r ∈ l.map AV.str, (cellsOf r).length = 1 := by
 intro r hr
 obtain ⟨y, _, rfl⟩ := List.mem_map.1 hr
 rfl
theorem opr_cut_all {P : Program} {T : Tab} {env : Env} {H L : List AObj} {o : Oper} {t : TypeId} {y : Operand} {hi : Option Operand} {rows : List AV} {e n : Nat} {te : TyI} {h : Hd} (hT : TabOk P T) (ho : o.op = .slice t y none hi none) (hy : evA env y = .sl h n 0 n) (hd : tyD T t = .slice e) (hte : tlk T e = some te) (hr : Rd H L (.sl h n 0 n) rows) (hl : loA env none = some 0) (hn : rows.length = n)
  (hh : hiA env rows.length hi = some (n : Int)) (hE : ∀ r ∈ rows, (cellsOf r).length = te.size) : OpR P o env H L (.sl h n 0 n) H L := by
 have := opr_cut (i := 0) (j := (n : Int)) hT ho hy hd hte hr hl hh (by omega) (by omega) (by omega) hE
 simpa [cutA] using this
structure GSp (l : List UInt8) where
 done : List (List UInt8)
 r : List UInt8
 e : done ++ spl 47 r = spl 47 l
 c : r.count 47 + done.length = l.count 47
 h : r.length ≤ l.length
def gRow (n : Nat) (d : List (List UInt8)) : List AV := d.map .str ++ List.replicate (n - d.length) (.str [])
theorem gRow_len {n : Nat} {d : List (List UInt8)} (h : d.length ≤ n) : (gRow n d).length = n := by
 unfold gRow
 simp
 omega
theorem gRow_set {n : Nat} {d : List (List UInt8)} (h : d.length < n) (x : List UInt8) : (gRow n d).set (0 + d.length) (.str x) = gRow n (d ++ [x]) := by
 unfold gRow
 rw [Nat.zero_add, List.set_append_right _ _ (by simp), List.length_map, Nat.sub_self, show n - d.length = (n - (d ++ [x]).length) + 1 by simp; omega, List.replicate_succ, List.set_cons_zero, List.map_append, List.append_assoc]
 rfl
set_option maxHeartbeats 8000000 in
theorem gsplit_spec (l : List UInt8) (hl : l.length ≤ 100000) : Con Tryz.prog 186 [.p (.str l), .p (.str [47]), .p (.int .i64 0), .p (.int .i64 (-1))] [] (.sl (.l 0) (spl 47 l).length 0 (spl 47 l).length) [] [.arr 9 true 1 ((spl 47 l).map .str)] := by
 have hcl := count_le 47 l
 have hsl := spl_len 47 l
 have c1 := scount_spec l
 refine con_of Tryz.func186 rfl (by kernel_rfl) rfl fun F w0 β0 => ?_
 refine K_tell rfl ?_
 refine go ?_
 refine K_op rfl rfl (opr_callP rfl rfl (c1) rfl rfl rfl rfl) rfl ?_
 refine go ?_
 have en : mmA Builtin.min (IntKind.i64.wrap (((l.count 47 : Nat) : Int) + 1)) (IntKind.i64.wrap ((l.length : Int) + 1)) = ((l.count 47 + 1 : Nat) : Int) := by
  rw [IntWalk.i64_in _ (by omega), IntWalk.i64_in _ (by omega)]
  show (if (l.length : Int) + 1 < ((l.count 47 : Nat) : Int) + 1 then (l.length : Int) + 1 else ((l.count 47 : Nat) : Int) + 1) = _
  rw [if_neg (by omega)]
  rfl
 rw [en]
 refine K_op rfl rfl (opr_make (n := l.count 47 + 1) hT rfl rfl rfl rfl rfl rfl rfl rfl rfl (by show _ * 16 ≤ _; omega)) rfl ?_
 refine go ?_
 rw [IntWalk.i64_in (((l.count 47 + 1 : Nat) : Int) - 1) (by omega), show ((l.count 47 + 1 : Nat) : Int) - 1 = ((l.count 47 : Nat) : Int) by omega]
 generalize hcn : l.count 47 = cn at hcl hsl
 refine J_loop (fun q : GSp l => [(0, .p (.str q.r)), (1, .p (.str [47])), (2, .p (.int .i64 0)), (3, .p (.int .i64 (cn : Int))), (9, .sl (.l 0) (cn + 1) 0 (cn + 1)), (10, .p (.int .i64 (q.done.length : Int)))]) (fun _ => []) (fun q => [.arr 9 true 1 (gRow (cn + 1) q.done)]) (fun q => q.r.length) ⟨[], l, rfl, rfl, Nat.le_refl _⟩ ⟨rfl, rfl, rfl, rfl, rfl, rfl, trivial⟩ rfl rfl (fun q => ?_)
 obtain ⟨dn, r, he, hc, hr⟩ := q
 dsimp only
 rw [hcn] at hc
 have hdl : dn.length ≤ cn := by omega
 have hgl := gRow_len (n := cn + 1) (d := dn) (by omega)
 refine go ?_
 by_cases h : dn.length < cn
 ·obtain ⟨m, h1, h2, h3, h4⟩ := spl_at 47 r (by omega)
  have c2 := index_spec r
  rw [h1] at c2
  refine K_condT rfl (decide_eq_true (by omega)) ?_
  refine go ?_
  refine K_op rfl rfl (opr_callP rfl rfl (c2) rfl rfl rfl rfl) rfl ?_
  refine go ?_
  rw [IntWalk.i64_in ((m : Int) + 0) (by omega), show (m : Int) + 0 = (m : Int) by omega]
  refine K_op rfl rfl (opr_cut_str (i := 0) (j := (m : Int)) hT rfl rfl rfl rfl rfl (by omega) (by omega) (by omega)) rfl ?_
  refine K_op rfl rfl (opr_index hT rfl rfl rfl rfl rfl (Rd.full rfl hgl) (by omega) (by rw [hgl]; omega)) rfl ?_
  refine K_op rfl rfl (opr_storeEl1 hT rfl rfl rfl hgl rfl rfl rfl rfl) rfl ?_
  have ex : ((r.drop (0 : Int).toNat).take ((m : Int).toNat - (0 : Int).toNat)) = r.take m := by simp
  rw [ex, Int.toNat_natCast, gRow_set (by omega)]
  refine go ?_
  rw [IntWalk.i64_in ((m : Int) + (([47] : List UInt8).length : Int)) (by simp; omega)]
  refine K_op rfl rfl (opr_cut_str (i := (m : Int) + 1) (j := (r.length : Int)) hT rfl rfl rfl rfl rfl (by omega) (by omega) (by omega)) rfl ?_
  have ey : ((r.drop ((m : Int) + 1).toNat).take ((r.length : Int).toNat - ((m : Int) + 1).toNat)) = r.drop (m + 1) := by
   rw [show ((m : Int) + 1).toNat = m + 1 by omega, Int.toNat_natCast]
   exact List.take_of_length_le (by simp)
  rw [ey]
  refine go ?_
  rw [IntWalk.i64_in ((dn.length : Int) + 1) (by omega)]
  exact fun a w' β st => ⟨⟨dn ++ [r.take m], r.drop (m + 1), by rw [List.append_assoc, List.singleton_append, ← h3]; exact he, by rw [hcn, List.length_append]; simp; omega, by simp; omega⟩, β, by show (r.drop (m + 1)).length < r.length; simp; omega, st.sim, st.step, st.env.sub (sub_of_all ⟨rfl, rfl, rfl, rfl, rfl, by rw [List.length_append]; rfl, trivial⟩), st.size, st.defers⟩
 have hdc : dn.length = cn := by omega
 refine K_condF rfl (decide_eq_false (by omega)) ?_
 refine go ?_
 refine K_op rfl rfl (opr_index hT rfl rfl rfl rfl rfl (Rd.full rfl hgl) (by omega) (by rw [hgl]; omega)) rfl ?_
 refine K_op rfl rfl (opr_storeEl1 hT rfl rfl rfl hgl rfl rfl rfl rfl) rfl ?_
 have e2 : dn ++ [r] = spl 47 l := by rw [← he, spl_none (show r.count 47 = 0 by omega)]
 have e3 : gRow (cn + 1) (dn ++ [r]) = (spl 47 l).map .str := by
  unfold gRow
  rw [e2, hsl, Nat.sub_self]
  simp
 have hml : ((spl 47 l).map AV.str).length = cn + 1 := by simp [hsl]
 rw [Int.toNat_natCast, gRow_set (by omega), e3]
 refine go ?_
 rw [IntWalk.i64_in ((dn.length : Int) + 1) (by omega), show (dn.length : Int) + 1 = ((cn + 1 : Nat) : Int) by omega]
 refine K_op rfl rfl (opr_cut_all hT rfl rfl rfl rfl (Rd.full rfl hml) rfl hml rfl (str_size _)) rfl ?_
 rw [hsl]
 refine go ?_
 exact J_give hT rfl rfl
theorem split_spec (l : List UInt8) (hl : l.length ≤ 100000) : Con Tryz.prog 177 [.p (.str l), .p (.str [47])] [] (.p (.ps ((spl 47 l).map .str))) [] [] := by
 have c1 := (gsplit_spec l hl).freeze (by simp)
 generalize (spl 47 l).map AV.str = rows at c1
 refine con_of Tryz.func177 rfl (by kernel_rfl) rfl fun F w0 β0 => ?_
 refine K_tell rfl ?_
 refine go ?_
 refine K_op rfl rfl (opr_callP rfl rfl (c1) rfl rfl rfl rfl) rfl ?_
 refine go ?_
 exact J_done hT rfl rfl rfl
def idxG {α : Type} (g : α → Bool) : List α → Nat → Int
 | [], _ => -1
 | x :: t, i => if g x = true then (i : Int) else idxG g t (i + 1)
theorem idxG_any {α : Type} (g : α → Bool) : ∀ (l : List α) (i : Nat), decide (idxG g l i ≥ 0) = l.any g
 | [], i => rfl
 | x :: t, i => by
  unfold idxG
  rw [List.any_cons]
  split
  ·rename_i h
   rw [h, Bool.true_or]
   exact decide_eq_true (by omega)
  ·rename_i h
   simp only [Bool.not_eq_true] at h
   rw [h, Bool.false_or]
   exact idxG_any g t (i + 1)
structure IxG {α : Type} (g : α → Bool) (l : List α) where
 i : Nat
 h : i ≤ l.length
 e : idxG g (l.drop i) i = idxG g l 0
theorem idxG_step {α : Type} (g : α → Bool) {l : List α} {i : Nat} {x : α} (hx : l[i]? = some x) : idxG g (l.drop i) i = if g x = true then (i : Int) else idxG g (l.drop (i + 1)) (i + 1) := by
 obtain ⟨h, rfl⟩ := List.getElem?_eq_some_iff.1 hx
 rw [List.drop_eq_getElem_cons h]
 rfl
theorem map_get {α : Type} (f : α → AV) {l : List α} {i : Nat} {x : α} (hx : l[i]? = some x) : (l.map f)[((i : Nat) : Int).toNat]? = some (f x) := by rw [Int.toNat_natCast, List.getElem?_map, hx]; rfl
set_option maxHeartbeats 4000000 in
theorem sIndexFunc_spec (s : AV) (l : List (List UInt8)) (f : Nat) (g : List UInt8 → Bool) (hrd : ∀ L, Rd [] L (.p s) (l.map .str)) (hl : l.length ≤ big40) (hf : ∀ x ∈ l, Con Tryz.prog f [.p (.str x)] [] (.p (.bool (g x))) [] []) : Con Tryz.prog 195 [.p s, .fn f []] [] (.p (.int .i64 (idxG g l 0))) [] [] := by
 have hlen : (l.map AV.str).length = l.length := by simp
 unfold big40 at hl
 refine con_of Tryz.func195 rfl (by kernel_rfl) rfl fun F w0 β0 => ?_
 refine K_tell rfl ?_
 refine go ?_
 refine K_op rfl rfl (opr_len_rd hT rfl rfl (hrd _)) rfl ?_
 rw [hlen]
 refine go ?_
 refine J_loop (fun q : IxG g l => [(0, .p s), (1, .fn f []), (7, .p (.int .i64 (l.length : Int))), (8, .p (.int .i64 (q.i : Int)))]) (fun _ => []) (fun _ => []) (fun q => l.length - q.i) ⟨0, by omega, rfl⟩ ⟨rfl, rfl, rfl, rfl, trivial⟩ rfl rfl (fun q => ?_)
 have hi := q.h
 have he := q.e
 refine go ?_
 by_cases h : q.i < l.length
 ·have hx : l[q.i]? = some l[q.i] := List.getElem?_eq_getElem h
  have hfx := hf _ (List.getElem_mem h)
  generalize l[q.i] = x at hx hfx
  have hxk := map_get AV.str hx
  rw [idxG_step _ hx] at he
  refine K_condT rfl (decide_eq_true (by omega)) ?_
  refine go ?_
  refine K_op rfl rfl (opr_index hT rfl rfl rfl rfl rfl (hrd _) (by omega) (by rw [hlen]; omega)) rfl ?_
  refine go ?_
  refine K_op rfl rfl (opr_load_el hT rfl rfl (hrd _) hxk rfl rfl) rfl ?_
  refine go ?_
  refine K_op rfl rfl (opr_callP rfl rfl (hfx) rfl rfl rfl rfl) rfl ?_
  refine go ?_
  by_cases hk : g x = true
  ·rw [if_pos hk] at he
   rw [← he]
   refine K_condT rfl hk ?_
   refine go ?_
   exact J_done hT rfl rfl rfl
  ·rw [if_neg hk] at he
   refine K_condF rfl (by simpa using hk) ?_
   refine go ?_
   refine J_again ⟨q.i + 1, by omega, he⟩ (by show l.length - (q.i + 1) < l.length - q.i; omega) ⟨rfl, rfl, rfl, congrArg (fun z => TV.p (.int .i64 z)) (by rw [IntWalk.i64_in _ (by omega)]; rfl), trivial⟩ rfl rfl
 rw [List.drop_eq_nil_of_le (by omega), idxG] at he
 rw [← he]
 refine K_condF rfl (decide_eq_false (by omega)) ?_
 refine go ?_
 exact J_done hT rfl rfl rfl
theorem sContainsFunc_spec (s : AV) (l : List (List UInt8)) (f : Nat) (g : List UInt8 → Bool) (hrd : ∀ L, Rd [] L (.p s) (l.map .str)) (hl : l.length ≤ big40) (hf : ∀ x ∈ l, Con Tryz.prog f [.p (.str x)] [] (.p (.bool (g x))) [] []) : Con Tryz.prog 187 [.p s, .fn f []] [] (.p (.bool (l.any g))) [] [] := by
 have c1 := sIndexFunc_spec s l f g hrd hl hf
 rw [← idxG_any g l 0]
 generalize idxG g l 0 = z at c1
 refine con_of Tryz.func187 rfl (by kernel_rfl) rfl fun F w0 β0 => ?_
 refine K_tell rfl ?_
 refine go ?_
 refine K_op rfl rfl (opr_callP rfl rfl (c1) rfl rfl rfl rfl) rfl ?_
 refine go ?_
 exact J_done hT rfl rfl rfl
theorem may1_spec (x : List UInt8) : Con Tryz.prog 188 [.p (.str x)] [] (.p (.bool (!nameB x))) [] [] := by
 have c1 := kname_spec x
 generalize nameB x = b at c1
 refine con_of Tryz.func188 rfl (by kernel_rfl) rfl fun F w0 β0 => ?_
 refine K_tell rfl ?_
 refine go ?_
 refine K_op rfl rfl (opr_callP rfl rfl (c1) rfl rfl rfl rfl) rfl ?_
 refine go ?_
 exact J_done hT rfl rfl rfl
def mayN (l : List (List UInt8)) : Bool := decide ((l.length : Int) ≤ 16) && !(l.any fun x => !nameB x)
theorem may16_spec (s : AV) (l : List (List UInt8)) (hrd : ∀ L, Rd [] L (.p s) (l.map .str)) (hl : l.length ≤ big40) : Con Tryz.prog 178 [.p s] [] (.p (.bool (mayN l))) [] [] := by
 have hlen : (l.map AV.str).length = l.length := by simp
 have c1 := sContainsFunc_spec s l 188 (fun x => !nameB x) hrd hl (fun x _ => may1_spec x)
 unfold mayN
 generalize (l.any fun x => !nameB x) = b at c1
 refine con_of Tryz.func178 rfl (by kernel_rfl) rfl fun F w0 β0 => ?_
 refine K_tell rfl ?_
 refine go ?_
 refine K_op rfl rfl (opr_len_rd hT rfl rfl (hrd _)) rfl ?_
 rw [hlen]
 refine go ?_
 refine K_opt rfl rfl rfl need1 (fun _ => opr_callP rfl rfl (c1) rfl rfl rfl rfl) rfl ?_
 refine go ?_
 exact J_done hT rfl rfl rfl
def splitN (l : List UInt8) : AV × Int :=
 if l = [] ∨ 255 < l.length then (.nils, 17) else if l.headD 0 ≠ 47 then (.nils, 15) else if l = [47] then (.nils, 0)
 else if mayN (spl 47 (l.drop 1)) = true then (.ps ((spl 47 (l.drop 1)).map .str), 0) else (.nils, 17)
set_option maxHeartbeats 4000000 in
theorem nsplit_spec (l : List UInt8) : Con Tryz.prog 168 [.p (.str l)] [] (.tup [.p (splitN l).1, .p (.int .i64 (splitN l).2)]) [] [] := by
 unfold splitN
 by_cases h1 : l = [] ∨ 255 < l.length
 ·rw [if_pos h1]
  refine con_of Tryz.func168 rfl (by kernel_rfl) rfl fun F w0 β0 => ?_
  refine K_tell rfl ?_
  refine go ?_
  refine K_condT rfl (by rcases h1 with h | h <;> simp [h] <;> omega) ?_
  refine go ?_
  exact J_done hT rfl rfl rfl
 ·rw [if_neg h1]
  have hne : l ≠ [] := fun e => h1 (.inl e)
  have h0 : l[0]? = some (l.headD 0) := by
   cases l with
   | nil => exact absurd rfl hne
   | cons b r => rfl
  by_cases h2 : l.headD 0 ≠ 47
  ·rw [if_pos h2]
   refine con_of Tryz.func168 rfl (by kernel_rfl) rfl fun F w0 β0 => ?_
   refine K_tell rfl ?_
   refine go ?_
   refine K_condF rfl (by simp [hne]; omega) ?_
   refine go ?_
   refine K_op rfl rfl (opr_byte hT rfl rfl rfl rfl (by decide) h0) rfl ?_
   refine go ?_
   refine K_condT rfl (by rw [bne_iff_ne]; intro e; exact h2 (UInt8.toNat_inj.1 (by show (l.headD 0).toNat = 47; omega))) ?_
   refine go ?_
   exact J_done hT rfl rfl rfl
  ·rw [if_neg h2]
   simp only [ne_eq, Decidable.not_not] at h2
   by_cases h3 : l = [47]
   ·subst h3
    rw [if_pos rfl]
    refine con_of Tryz.func168 rfl (by kernel_rfl) rfl fun F w0 β0 => ?_
    refine K_tell rfl ?_
    refine go ?_
    refine K_op rfl rfl (opr_byte hT rfl rfl rfl rfl (by decide) rfl) rfl ?_
    refine go ?_
    exact J_done hT rfl rfl rfl
   ·rw [if_neg h3]
    have c1 := split_spec (l.drop 1) (by simp; omega)
    have hbd : (spl 47 (l.drop 1)).length ≤ big40 := by
     rw [spl_len]
     have h5 := count_le 47 (l.drop 1)
     have h6 : (l.drop 1).length ≤ l.length := by simp
     unfold big40
     omega
    have c2 := may16_spec (.ps ((spl 47 (l.drop 1)).map .str)) (spl 47 (l.drop 1)) (fun _ => .ps _) hbd
    have hcut : ((l.drop (1 : Int).toNat).take ((l.length : Int).toNat - (1 : Int).toNat)) = l.drop 1 := List.take_of_length_le (by simp)
    generalize spl 47 (l.drop 1) = p at c1 c2
    refine con_of Tryz.func168 rfl (by kernel_rfl) rfl fun F w0 β0 => ?_
    refine K_tell rfl ?_
    refine go ?_
    refine K_condF rfl (by simp [hne]; omega) ?_
    refine go ?_
    refine K_op rfl rfl (opr_byte hT rfl rfl rfl rfl (by decide) h0) rfl ?_
    rw [h2]
    refine go ?_
    refine K_condF rfl (by simp [h3]) ?_
    refine go ?_
    refine K_op rfl rfl (opr_cut_str (i := 1) (j := (l.length : Int)) hT rfl rfl rfl rfl rfl (by omega) (by have := List.length_pos_iff.2 hne; omega) (by omega)) rfl ?_
    rw [hcut]
    refine K_op rfl rfl (opr_callP rfl rfl (c1) rfl rfl rfl rfl) rfl ?_
    refine go ?_
    refine K_op rfl rfl (opr_callP rfl rfl (c2) rfl rfl rfl rfl) rfl ?_
    by_cases hm : mayN p = true
    ·rw [if_pos hm, hm]
     refine go ?_
     exact J_done hT rfl rfl rfl
    ·rw [if_neg hm]
     simp only [Bool.not_eq_true] at hm
     rw [hm]
     refine go ?_
     exact J_done hT rfl rfl rfl
structure SmQ (a b : List (List UInt8)) where
 i : Nat
 h : i ≤ a.length
 e : a.take i = b.take i
theorem take_snoc {α : Type} {l : List α} {i : Nat} {x : α} (hx : l[i]? = some x) : l.take (i + 1) = l.take i ++ [x] := by
 obtain ⟨h, rfl⟩ := List.getElem?_eq_some_iff.1 hx
 exact List.take_succ_eq_append_getElem h
set_option maxHeartbeats 4000000 in
theorem sEqual_spec (s1 s2 : AV) (a b : List (List UInt8)) (h1 : ∀ L, Rd [] L (.p s1) (a.map .str)) (h2 : ∀ L, Rd [] L (.p s2) (b.map .str)) (la : a.length ≤ big40) : Con Tryz.prog 184 [.p s1, .p s2] [] (.p (.bool (decide (a = b)))) [] [] := by
 have n1 : (a.map AV.str).length = a.length := by simp
 have n2 : (b.map AV.str).length = b.length := by simp
 unfold big40 at la
 refine con_of Tryz.func184 rfl (by kernel_rfl) rfl fun F w0 β0 => ?_
 refine K_tell rfl ?_
 refine go ?_
 refine K_op rfl rfl (opr_len_rd hT rfl rfl (h1 _)) rfl ?_
 rw [n1]
 refine go ?_
 refine K_op rfl rfl (opr_len_rd hT rfl rfl (h2 _)) rfl ?_
 rw [n2]
 refine go ?_
 by_cases hl : a.length = b.length
 ·refine K_condF rfl (by simp [hl]) ?_
  refine go ?_
  refine K_op rfl rfl (opr_len_rd hT rfl rfl (h1 _)) rfl ?_
  rw [n1]
  refine go ?_
  refine J_loop (fun q : SmQ a b => [(0, .p s1), (1, .p s2), (12, .p (.int .i64 (a.length : Int))), (13, .p (.int .i64 (q.i : Int)))]) (fun _ => []) (fun _ => []) (fun q => a.length - q.i) ⟨0, by omega, rfl⟩ ⟨rfl, rfl, rfl, rfl, trivial⟩ rfl rfl (fun q => ?_)
  have hi := q.h
  have he := q.e
  refine go ?_
  by_cases h : q.i < a.length
  ·have hx : a[q.i]? = some a[q.i] := List.getElem?_eq_getElem h
   have hy : b[q.i]? = some (b[q.i]'(by omega)) := List.getElem?_eq_getElem _
   have hta := take_snoc hx
   have htb := take_snoc hy
   generalize a[q.i] = x at hx hta
   generalize b[q.i]'(by omega) = y at hy htb
   have hxk := map_get AV.str hx
   have hyk := map_get AV.str hy
   refine K_condT rfl (decide_eq_true (by omega)) ?_
   refine go ?_
   refine J_draw [_] [] (by kernel_rfl) (by kernel_rfl) rfl ?_
   refine gd ?_
   refine T_opD rfl rfl rfl rfl rfl (opr_index hT rfl rfl rfl rfl rfl (h1 _) (by omega) (by rw [n1]; omega)) rfl ?_
   refine T_opD rfl rfl rfl rfl rfl (opr_load_el hT rfl rfl (h1 _) hxk rfl rfl) rfl ?_
   refine gd ?_
   refine T_opD rfl rfl rfl rfl rfl (opr_index hT rfl rfl rfl rfl rfl (h2 _) (by omega) (by rw [n2]; omega)) rfl ?_
   refine T_opD rfl rfl rfl rfl rfl (opr_load_el hT rfl rfl (h2 _) hyk rfl rfl) rfl ?_
   refine gd ?_
   refine go ?_
   by_cases hk : x = y
   ·refine K_condF rfl (by simp [hk]) ?_
    refine go ?_
    refine J_again ⟨q.i + 1, by omega, by rw [hta, htb, he, hk]⟩ (by show a.length - (q.i + 1) < a.length - q.i; omega) ⟨rfl, rfl, rfl, congrArg (fun z => TV.p (.int .i64 z)) (by rw [IntWalk.i64_in _ (by omega)]; rfl), trivial⟩ rfl rfl
   ·refine K_condT rfl (by simp [hk]) ?_
    refine go ?_
    rw [show decide (a = b) = false from decide_eq_false fun e => by subst e; rw [hx] at hy; exact hk (Option.some.inj hy)]
    exact J_done hT rfl rfl rfl
  ·refine K_condF rfl (decide_eq_false (by omega)) ?_
   refine go ?_
   rw [show decide (a = b) = true from decide_eq_true (by rw [List.take_of_length_le (by omega), List.take_of_length_le (by omega)] at he; exact he)]
   exact J_done hT rfl rfl rfl
 ·refine K_condT rfl (by simp; omega) ?_
  refine go ?_
  rw [show decide (a = b) = false from decide_eq_false fun e => hl (by rw [e])]
  exact J_done hT rfl rfl rfl
def underB (a b : List (List UInt8)) : Bool := decide ((a.length : Int) < (b.length : Int)) && decide (a = b.take a.length)
set_option maxHeartbeats 4000000 in
theorem under_spec (s1 s2 : AV) (a b : List (List UInt8)) (h1 : Sl .str s1 a) (h2 : Sl .str s2 b) (la : a.length ≤ big40) : Con Tryz.prog 173 [.p s1, .p s2] [] (.p (.bool (underB a b))) [] [] := by
 have n1 : (a.map AV.str).length = a.length := by simp
 have n2 : (b.map AV.str).length = b.length := by simp
 unfold underB
 by_cases h : (a.length : Int) < (b.length : Int)
 ·rw [decide_eq_true h, Bool.true_and]
  obtain rfl : s2 = .ps (b.map .str) := by
   cases h2 with
   | nils => simp at h; omega
   | ps => rfl
  have c1 := sEqual_spec s1 (.ps ((b.take a.length).map .str)) a (b.take a.length) (fun _ => h1.rd _ _) (fun _ => .ps _) la
  generalize decide (a = b.take a.length) = e at c1
  have hcut : ((b.map AV.str).drop (0 : Int).toNat).take (((a.length : Int)).toNat - (0 : Int).toNat) = (b.take a.length).map .str := by simp
  refine con_of Tryz.func173 rfl (by kernel_rfl) rfl fun F w0 β0 => ?_
  refine K_tell rfl ?_
  refine go ?_
  refine K_op rfl rfl (opr_len_rd hT rfl rfl (h1.rd _ _)) rfl ?_
  rw [n1]
  refine gx ?_
  rw [n2, show decide ((a.length : Int) < (b.length : Int)) = true from decide_eq_true h]
  refine gx ?_
  refine K_yes rfl rfl rfl (opr_len_rd hT rfl rfl (h1.rd _ _)) rfl ?_
  rw [n1]
  refine gx ?_
  refine K_yes rfl rfl rfl (opr_cut (i := 0) (j := (a.length : Int)) hT rfl rfl rfl rfl (.ps _) rfl rfl (by omega) (by omega) (by rw [n2]; omega) (str_size b)) rfl ?_
  rw [hcut]
  refine K_yes rfl rfl rfl (opr_callP rfl rfl (c1) rfl rfl rfl rfl) rfl ?_
  refine go ?_
  exact J_done hT rfl rfl rfl
 ·rw [decide_eq_false h, Bool.false_and]
  refine con_of Tryz.func173 rfl (by kernel_rfl) rfl fun F w0 β0 => ?_
  refine K_tell rfl ?_
  refine go ?_
  refine K_op rfl rfl (opr_len_rd hT rfl rfl (h1.rd _ _)) rfl ?_
  rw [n1]
  refine gx ?_
  refine K_op rfl rfl (opr_len_rd hT rfl rfl (h2.rd _ _)) rfl ?_
  rw [n2]
  refine gx ?_
  rw [show decide ((a.length : Int) < (b.length : Int)) = false from decide_eq_false h]
  refine go ?_
  exact J_done hT rfl rfl rfl
end Go.Proofs.YtdkegmmigongoaaGreatDoor
namespace Go.Proofs.YtdkegmmigongoaaGreatDoor
set_option maxRecDepth 20000
open Go.Awp
theorem b0_key (k n : Int) (r : List UInt8) (hk : 0 ≤ k ∧ k ≤ 255) : b0 (keyH k n ++ r) = k := by
 simp [b0, keyH]; omega
theorem gF_key (k n : Int) (r : List UInt8) (hn : 0 ≤ n ∧ n ≤ 4294967295) : gF (keyH k n ++ r) 1 = n := by
 unfold gF keyH
 rw [List.cons_append, List.drop_succ_cons, List.drop_zero, List.take_append_of_le_length (by simp [beB_len]), List.take_of_length_le (by simp [beB_len]), beV_be4 n hn]
theorem drop_key (k n : Int) (r : List UInt8) : (keyH k n ++ r).drop 5 = r := by
 rw [List.drop_append, List.drop_of_length_le (by rw [keyH_len]; exact Nat.le_refl _), keyH_len]; rfl
theorem key_inj {k n k' n' : Int} {r r' : List UInt8} (hk : 0 ≤ k ∧ k ≤ 255) (hk' : 0 ≤ k' ∧ k' ≤ 255) (hn : 0 ≤ n ∧ n ≤ 4294967295) (hn' : 0 ≤ n' ∧ n' ≤ 4294967295) (h : keyH k n ++ r = keyH k' n' ++ r') : k = k' ∧ n = n' ∧ r = r' := by
 refine ⟨?_, ?_, ?_⟩
 ·rw [← b0_key k n r hk, h, b0_key k' n' r' hk']
 ·rw [← gF_key k n r hn, h, gF_key k' n' r' hn']
 ·rw [← drop_key k n r, h, drop_key k' n' r']
theorem beV_be2 (v : Int) (h : 0 ≤ v ∧ v ≤ 65535) : beV (beB 2 v) = v := by
 obtain ⟨x, rfl⟩ : ∃ x : Nat, v = x := ⟨v.toNat, by omega⟩
 rw [beV_beB, Nat.mod_eq_of_lt (by omega)]
theorem bl_append (p a b : List UInt8) : Op.bytesLess (p ++ a) (p ++ b) = Op.bytesLess a b := by
 induction p with
 | nil => rfl
 | cons x p ih => simp [Op.bytesLess, ih]
theorem bl_be2 (i j : Int) (hi : 0 ≤ i ∧ i ≤ 65535) (hj : 0 ≤ j ∧ j ≤ 65535) : Op.bytesLess (beB 2 i) (beB 2 j) = decide (i < j) := by
 have e : ∀ x : Int, 0 ≤ x ∧ x ≤ 65535 → beB 2 x = [UInt8.ofNat (x / 256).toNat, UInt8.ofNat (x % 256).toNat] := fun x hx => by
  simp only [beB]
  congr 3
  ·have : x / 256 ^ 1 % 256 = x / 256 := by rw [Int.pow_one]; omega
   omega
  ·simp
 rw [e i hi, e j hj]
 simp only [Op.bytesLess, Bool.and_false, Bool.or_false]
 rw [Bool.eq_iff_iff]
 simp only [Bool.or_eq_true, Bool.and_eq_true, decide_eq_true_eq, beq_iff_eq, UInt8.lt_iff_toNat_lt, ← UInt8.toNat_inj]
 simp
 omega
theorem bl_prefix {a k : List UInt8} (h : a <+: k) : Op.bytesLess k a = false := by
 obtain ⟨t, rfl⟩ := h
 have := bl_append a t []
 rw [List.append_nil] at this
 rw [this, bl_nil]
theorem inR_beh {a : List UInt8} (h : beh a ≠ []) (k : List UInt8) : inR k a (beh a) = decide (a <+: k) := by
 rw [Bool.eq_iff_iff, decide_eq_true_eq, ← beh_iff h k]
 simp [inR]
theorem inR_block (n : Int) (i : Int) (hi : 0 ≤ i ∧ i ≤ 65535) (k : List UInt8) : inR k (keyH 68 n ++ beB 2 i) (beh (keyH 68 n)) = (decide (keyH 68 n <+: k) && !Op.bytesLess k (keyH 68 n ++ beB 2 i)) := by
 have hb := beh_iff (beh_key 68 n (by decide)) k
 rw [Bool.eq_iff_iff]
 simp only [inR, Bool.and_eq_true, Bool.not_eq_true', decide_eq_true_eq]
 rw [← hb]
 constructor
 ·rintro ⟨h1, h2⟩
  refine ⟨⟨?_, h2⟩, h1⟩
  cases h3 : Op.bytesLess k (keyH 68 n) with
  | false => rfl
  | true =>
   have : Op.bytesLess k (keyH 68 n ++ beB 2 i) = true := by
    cases h4 : Op.bytesLess (keyH 68 n) (keyH 68 n ++ beB 2 i) with
    | true => exact bl_trans h3 h4
    | false =>
     have := bl_total h4 (bl_prefix (List.prefix_append _ _))
     rwa [← this]
   rw [this] at h1; cases h1
 ·rintro ⟨⟨_, h2⟩, h1⟩
  exact ⟨h1, h2⟩
end Go.Proofs.YtdkegmmigongoaaGreatDoor

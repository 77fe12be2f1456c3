import Derived.Test.YtdkegmmigongoaaGreatDoorGo
import Derived.Test.YtdkegmmigongoaaGreatDoorM4
import Derived.Test.YtdkegmmigongoaaGreatDoorM6
import Derived.Lib.Bytealg
import Derived.Laws.Externs
namespace Go.Proofs.YtdkegmmigongoaaGreatDoor
set_option maxRecDepth 20000
open Go.Awp
theorem lset_mem_iff {k v : List UInt8} : ∀ {l : List KV}, Rises l → ∀ y : KV, y ∈ lset k v l ↔ y = (k, v) ∨ (y ∈ l ∧ y.1 ≠ k)
 | [], _, y => by simp [lset]
 | x :: r, h, y => by
  have hr := List.pairwise_cons.1 h
  unfold lset
  split
  ·rename_i hlt
   simp only [List.mem_cons]
   constructor
   ·rintro (h1 | h1 | h1)
    ·exact .inl h1
    ·exact .inr ⟨.inl h1, by rw [h1]; exact fun e => lt_ne hlt e.symm⟩
    ·exact .inr ⟨.inr h1, fun e => lt_ne (lt_trans hlt (hr.1 y h1)) e.symm⟩
   ·rintro (h1 | ⟨h1 | h1, _⟩)
    ·exact .inl h1
    ·exact .inr (.inl h1)
    ·exact .inr (.inr h1)
  ·split
   ·rename_i he
    simp only [List.mem_cons]
    constructor
    ·rintro (h1 | h1)
     ·exact .inl h1
     ·exact .inr ⟨.inr h1, fun e => lt_ne (hr.1 y h1) (by rw [e, he])⟩
    ·rintro (h1 | ⟨h1 | h1, h2⟩)
     ·exact .inl h1
     ·exact absurd (by rw [h1, he]) h2
     ·exact .inr h1
   ·rename_i he
    simp only [List.mem_cons, lset_mem_iff hr.2 y]
    constructor
    ·rintro (h1 | h1 | ⟨h1, h2⟩)
     ·exact .inr ⟨.inl h1, by rw [h1]; exact fun e => he e.symm⟩
     ·exact .inl h1
     ·exact .inr ⟨.inr h1, h2⟩
    ·rintro (h1 | ⟨h1 | h1, h2⟩)
     ·exact .inr (.inl h1)
     ·exact .inl h1
     ·exact .inr (.inr ⟨h1, h2⟩)
theorem rises_ext : ∀ {l m : List KV}, Rises l → Rises m → (∀ x, x ∈ l ↔ x ∈ m) → l = m
 | [], [], _, _, _ => rfl
 | [], b :: m, _, _, h => by simpa using (h b).2 (by simp)
 | a :: l, [], _, _, h => by simpa using (h a).1 (by simp)
 | a :: l, b :: m, hl, hm, h => by
  have h1 := List.pairwise_cons.1 hl
  have h2 := List.pairwise_cons.1 hm
  have e : a = b := by
   rcases List.mem_cons.1 ((h a).1 (by simp)) with e | ha
   ·exact e
   ·rcases List.mem_cons.1 ((h b).2 (by simp)) with e | hb
    ·exact e.symm
    ·exact absurd (h2.1 a ha) (lt_asymm (h1.1 b hb))
  subst e
  rw [rises_ext h1.2 h2.2 fun x => ?_]
  constructor
  ·intro hx
   rcases List.mem_cons.1 ((h x).1 (by simp [hx])) with e | hx2
   ·subst e; exact absurd (h1.1 x hx) (lt_irrefl _)
   ·exact hx2
  ·intro hx
   rcases List.mem_cons.1 ((h x).2 (by simp [hx])) with e | hx2
   ·subst e; exact absurd (h2.1 x hx) (lt_irrefl _)
   ·exact hx2
namespace Tr
end Tr
end Go.Proofs.YtdkegmmigongoaaGreatDoor
namespace Go.Proofs.YtdkegmmigongoaaGreatDoor
set_option maxRecDepth 20000
open Go.Awp
theorem lget_some {k v : List UInt8} : ∀ {l : List KV}, Rises l → (lget k l = some v ↔ (k, v) ∈ l)
 | [], _ => by simp [lget]
 | x :: r, h => by
  have hp := List.pairwise_cons.1 h
  unfold lget
  split
  ·rename_i e
   subst e
   constructor
   ·intro h1
    obtain rfl := Option.some.inj h1
    simp
   ·intro h1
    rcases List.mem_cons.1 h1 with h1 | h1
    ·rw [← h1]
    ·exact absurd (hp.1 _ h1) (lt_irrefl _)
  ·rename_i e
   rw [lget_some hp.2, List.mem_cons]
   exact ⟨.inr, fun h1 => h1.resolve_left fun h2 => e (by rw [← h2])⟩
theorem lget_lset {k v kk : List UInt8} : ∀ {l : List KV}, Rises l → lget kk (lset k v l) = if kk = k then some v else lget kk l
 | [], _ => by
  simp only [lset, lget]
  by_cases e : kk = k
  ·rw [if_pos e.symm, if_pos e]
  ·rw [if_neg (fun h => e h.symm), if_neg e]
 | x :: r, h => by
  have hp := List.pairwise_cons.1 h
  unfold lset
  split
  ·simp only [lget]
   by_cases e : kk = k
   ·rw [if_pos e.symm, if_pos e]
   ·rw [if_neg (fun h => e h.symm), if_neg e]
  ·split
   ·rename_i e0
    simp only [lget]
    by_cases e : kk = k
    ·rw [if_pos e.symm, if_pos e]
    ·rw [if_neg (fun h => e h.symm), if_neg e, if_neg (fun h => e (by rw [← h, e0]))]
   ·rename_i e0
    simp only [lget]
    by_cases e1 : x.1 = kk
    ·rw [if_pos e1, if_pos e1, if_neg (fun e => e0 (by rw [← e, e1]))]
    ·rw [if_neg e1, if_neg e1, lget_lset hp.2]
theorem lget_lcut {k kk : List UInt8} : ∀ {l : List KV}, lget kk (lcut k l) = if kk = k then none else lget kk l
 | [] => by simp [lcut, lget]
 | x :: r => by
  have ih := lget_lcut (k := k) (kk := kk) (l := r)
  unfold lcut at ih ⊢
  rw [List.filter_cons]
  by_cases e : x.1 = k
  ·rw [if_neg (by simp [e]), ih]
   by_cases e2 : kk = k
   ·rw [if_pos e2, if_pos e2]
   ·rw [if_neg e2, if_neg e2, lget, if_neg (fun h => e2 (by rw [← h, e]))]
  ·rw [if_pos (by simp [e])]
   simp only [lget]
   by_cases e1 : x.1 = kk
   ·rw [if_pos e1, if_pos e1, if_neg (fun h => e (by rw [e1, h]))]
   ·rw [if_neg e1, if_neg e1, ih]
theorem lset_length {k v : List UInt8} : ∀ {l : List KV}, Rises l → (lset k v l).length = if (lget k l).isSome = true then l.length else l.length + 1
 | [], _ => by simp [lset, lget]
 | x :: r, h => by
  have hp := List.pairwise_cons.1 h
  unfold lset
  split
  ·rename_i hlt
   have : lget k (x :: r) = none := lget_none fun y hy => by
    rcases List.mem_cons.1 hy with rfl | hy
    ·exact fun e => lt_ne hlt e.symm
    ·exact fun e => lt_ne (lt_trans hlt (hp.1 y hy)) e.symm
   rw [this]; rfl
  ·split
   ·rename_i e
    simp [lget, e]
   ·rename_i e
    have e' : lget k (x :: r) = lget k r := by rw [lget, if_neg (fun h => e h.symm)]
    rw [e', List.length_cons, lset_length hp.2, List.length_cons]
    split <;> rfl
theorem lget_ext {l m : List KV} (hl : Rises l) (hm : Rises m) (h : ∀ k, lget k l = lget k m) : l = m := by
 have key : ∀ {l m : List KV}, Rises l → Rises m → (∀ k, lget k l = lget k m) → ∀ x, x ∈ l → x ∈ m := fun {l m} hl hm h x hx => by
  have := (lget_some hl).2 (show (x.1, x.2) ∈ l from hx)
  rw [h] at this
  exact (lget_some hm).1 this
 exact rises_ext hl hm fun x => ⟨key hl hm h x, key hm hl (fun k => (h k).symm) x⟩
namespace Tr
theorem set_get {k v kk : List UInt8} {t : Tr} (h : Rises t.row) : (t.set k v).get kk = if kk = k then some v else t.get kk := by
 have h2 : Rises (t.set k v).row := by rw [set_row _ _ _ h]; exact lset_rises h
 rw [get_row _ _ h2, get_row _ _ h, set_row _ _ _ h, lget_lset h]
theorem set_rises {k v : List UInt8} {t : Tr} (h : Rises t.row) : Rises (t.set k v).row := by rw [set_row _ _ _ h]; exact lset_rises h
theorem cut_rises {k : List UInt8} {t : Tr} (h : Rises t.row) : Rises (t.cut k).row := by rw [cut_row _ _ h]; exact lcut_rises h
end Tr
end Go.Proofs.YtdkegmmigongoaaGreatDoor
namespace Go.Proofs.YtdkegmmigongoaaGreatDoor
set_option maxRecDepth 20000
open Go.Awp
def hpk (σ : List Nat) : Hd → Hd
 | .o j => .o j
 | .l i => match σ[i]? with
  | some k => .l k
  | none => .l i
def tpk (σ : List Nat) : TV → TV
 | .p x => .p x
 | .ad h off => .ad (hpk σ h) off
 | .sl h a b c => .sl (hpk σ h) a b c
 | .el s e i off => .el (tpk σ s) e i off
 | .agg l => .agg (pkL σ l)
 | .tup l => .tup (pkL σ l)
 | .fn f l => .fn f (pkL σ l)
 | .opt c x => .opt c (tpk σ x)
where pkL (σ : List Nat) : List TV → List TV
 | [] => []
 | x :: r => tpk σ x :: pkL σ r
def opk (σ : List Nat) : AObj → AObj
 | .box T cells => .box T (tpk.pkL σ cells)
 | o => o
def Pk (L : List AObj) (σ0 : List Nat) : List Nat → List AObj → Prop
 | [], [] => True
 | k :: r, ob :: obs => (L[k]? = some (opk σ0 ob) ∧ ob.okL σ0.length = true) ∧ Pk L σ0 r obs
 | _, _ => False
theorem Pk.len {L : List AObj} {σ0 : List Nat} : ∀ {σ : List Nat} {L2 : List AObj}, Pk L σ0 σ L2 → L2.length = σ.length
 | [], [], _ => rfl
 | _ :: _, _ :: _, h => by simp [Pk.len h.2]
theorem Pk.get {L : List AObj} {σ0 : List Nat} : ∀ {σ : List Nat} {L2 : List AObj}, Pk L σ0 σ L2 → ∀ {j : Nat} {ob : AObj}, L2[j]? = some ob → ∃ k, σ[j]? = some k ∧ L[k]? = some (opk σ0 ob) ∧ ob.okL σ0.length = true
 | [], [], _, j, ob, hj => by simp at hj
 | k :: r, o :: obs, hl, 0, ob, hj => by
  obtain rfl : o = ob := by simpa using hj
  exact ⟨k, by simp, hl.1.1, hl.1.2⟩
 | k :: r, o :: obs, hl, j + 1, ob, hj => by
  obtain ⟨k', h1, h2⟩ := Pk.get hl.2 (show obs[j]? = some ob by simpa using hj)
  exact ⟨k', by simpa using h1, h2⟩
section
variable {w : World} {β : Hd → Nat} {H L L2 : List AObj} {F : Nat → Prop} {σ : List Nat}
end
theorem opr_app_lz {P : Program} {T : Tab} {env : Env} {H L : List AObj} {o : Oper} {t tx : TypeId} {y z : Operand} {e : Nat} {te : TyI} {b : Bool} {rows : List AV} {s : TV} {d : AV} (hT : TabOk P T) (ho : o.op = .call { callee := .builtin .append, args := #[y, z], argTypes := #[t, tx] })
  (ht : appT T t tx = some (e, te, b)) (hd : d = .nils ∨ d = .cz) (hy : evA env y = .p d) (hz : evA env z = s) (hs : SrcA H L s rows) (hbs : b = true ↔ ∃ l, s = .p (.str l)) (hc : clR rows) (he : ∀ r ∈ rows, (cellsOf r).length = te.size) (hpos : 0 < te.size) (hb0 : 0 < te.bytes)
  (hfit : rows.length * te.bytes ≤ 140737488355328) : OpR P o env H L (.sl (.l L.length) rows.length 0 rows.length) H (L ++ [.arr e true te.size rows]) := by
 cases rows with
 | nil =>
  have := opr_app_nothing (P := P) (env := env) hT ho ht hd hy hz hs hbs
  intro F w β a next Q hS hE hn
  exact this F w β a next Q hS hE fun w' β' u s1 s2 s3 => by
   obtain ⟨k1, k2⟩ := sim_lazy e hpos s1
   exact hn w' β' u k1 (s2.trans k2) (rep_lazy e te.size hd s3)
 | cons r rs =>
  exact opr_app_new hT ho ht (by rcases hd with rfl | rfl; exact .inl hy; exact .inr hy) hz hs hbs hc he hpos hb0 (by simp) hfit
end Go.Proofs.YtdkegmmigongoaaGreatDoor
namespace Go.Proofs.YtdkegmmigongoaaGreatDoor
set_option maxRecDepth 20000
open Go.Awp Tr
theorem opr_ext {P : Program} {env : Env} {H L : List AObj} {o : Oper} {fo : Operand} {as' : List Operand} {ts : Array TypeId} {f : FuncId} {args : List TV} {x : TV} {fn : Func} {e : Array Value → Sem Value} (ho : o.op = .call { callee := .value fo, args := as'.toArray, argTypes := ts }) (hf : evA env fo = .fn f []) (ha : evL env as' = args)
  (hfn : P.funcs[f]? = some fn) (hname : (fn.name == "runtime.NumGoroutine") = false) (hb : fn.body.isNone = true) (hn : Extern.findNext fn = none) (he : Extern.find fn = some e)
  (hrun : ∀ (w : World) (β : Hd → Nat) (G : Hp) (vs : List Value), RepL w β G args vs → ∃ v, (e vs.toArray).run P w = .ok v w ∧ RepT w β G x v) : OpR P o env H L x H L :=
 opr_pure fun F w β a hS hen => by
  have hfo := evA_ok hen fo
  rw [hf] at hfo
  obtain ⟨vs, hvs, hl⟩ : ∃ vs : List Value, a.eval fo = .func (.func f) #[] vs.toArray ∧ vs.length = 0 := by
   generalize hv : a.eval fo = v at hfo
   cases hfo with | fn _ _ vs hl hr => exact ⟨vs, rfl, hl⟩
  obtain rfl := List.length_eq_zero_iff.1 hl
  have hargs := evL_ok hen as'
  rw [ha] at hargs
  obtain ⟨v, hv, hx⟩ := hrun w β _ _ hargs
  refine ⟨v, ?_, hx⟩
  simp only [execOp, ho, resolve, invoke, Deferred.ofValue, hvs, Sem.run_bind, Sem.run_pure, Result.andThen_ok, List.map_toArray, List.nil_append, List.append_toArray, List.append_nil]
  rw [run_callFunc_extern hfn hname hb hn he, hv]
  rfl
theorem u8_nat (c : UInt8) : ((c.toNat : Nat) : Int).toNat.toUInt8 = c := by simp
theorem idx_run {P : Program} {l : List UInt8} {c : UInt8} (w : World) (β : Hd → Nat) (G : Hp) (vs : List Value) (h : RepL w β G [.p (.str l), .p (.int .u8 (c.toNat : Int))] vs) : ∃ v, (Extern.BytealgIndexByte.indexByte vs.toArray).run P w = .ok v w ∧ RepT w β G (.p (.int .i64 (Lib.indexByte l c))) v := by
 obtain ⟨hl, hr⟩ := h
 match vs, hl with
 | [v1, v2], _ =>
  have h1 := hr 0 _ v1 rfl rfl
  have h2 := hr 1 _ v2 rfl rfl
  cases h1 with | p h1 => cases h1; cases h2 with | p h2 => cases h2; exact ⟨_, Lib.run_indexByteString _ _ w, by rw [u8_nat]; exact .p (.int ..)⟩
theorem count_run {P : Program} {l : List UInt8} {c : UInt8} (w : World) (β : Hd → Nat) (G : Hp) (vs : List Value) (h : RepL w β G [.p (.str l), .p (.int .u8 (c.toNat : Int))] vs) : ∃ v, (Extern.BytealgCount.count vs.toArray).run P w = .ok v w ∧ RepT w β G (.p (.int .i64 ((l.count c : Nat) : Int))) v := by
 obtain ⟨hl, hr⟩ := h
 match vs, hl with
 | [v1, v2], _ =>
  have h1 := hr 0 _ v1 rfl rfl
  have h2 := hr 1 _ v2 rfl rfl
  cases h1 with | p h1 => cases h1; cases h2 with | p h2 => cases h2; exact ⟨_, Lib.run_countString _ _ w, by rw [u8_nat]; exact .p (.int ..)⟩
theorem sidx_n (l : List UInt8) (n : Int) (c : UInt8) (h : n = (c.toNat : Int)) : Con Tryz.prog 204 [.p (.str l), .p (.int .u8 n)] [] (.p (.int .i64 (Lib.indexByte l c))) [] [] := by
 have hr := fun (w : World) (β : Hd → Nat) (G : Hp) (vs : List Value) => @idx_run Tryz.prog l c w β G vs
 rw [← h] at hr
 generalize Lib.indexByte l c = z at hr
 refine con_of Tryz.func204 rfl (by kernel_rfl) rfl fun F w0 β0 => ?_
 refine K_tell rfl ?_
 iterate 9 (refine g1 ?_)
 refine K_op rfl rfl (opr_ext (e := Extern.BytealgIndexByte.indexByte) rfl rfl rfl Tryz.func208 (by kernel_rfl) (by kernel_rfl) (by kernel_rfl) (by kernel_rfl) hr) rfl ?_
 refine go ?_
 exact J_done hT rfl rfl rfl
theorem scount_spec (l : List UInt8) : Con Tryz.prog 193 [.p (.str l), .p (.str [47])] [] (.p (.int .i64 ((l.count 47 : Nat) : Int))) [] [] := by
 have hr := fun (w : World) (β : Hd → Nat) (G : Hp) (vs : List Value) => @count_run Tryz.prog l 47 w β G vs
 rw [show ((47 : UInt8).toNat : Int) = 47 from rfl] at hr
 generalize ((l.count 47 : Nat) : Int) = z at hr
 refine con_of Tryz.func193 rfl (by kernel_rfl) rfl fun F w0 β0 => ?_
 refine K_tell rfl ?_
 refine go ?_
 refine K_op rfl rfl (opr_byte hT rfl rfl rfl rfl (by decide) rfl) rfl ?_
 refine K_op rfl rfl (opr_ext (e := Extern.BytealgCount.count) rfl rfl rfl Tryz.func200 (by kernel_rfl) (by kernel_rfl) (by kernel_rfl) (by kernel_rfl) hr) rfl ?_
 refine go ?_
 exact J_done hT rfl rfl rfl
theorem lidx_spec (l : List UInt8) : Con Tryz.prog 201 [.p (.str l), .p (.str [47])] [] (.p (.int .i64 (Lib.indexByte l 47))) [] [] := by
 have c1 := sidx_n l 47 47 rfl
 by_cases h : ([47] : List UInt8) = l
 ·subst h
  rw [show Lib.indexByte [47] 47 = 0 from rfl]
  refine con_of Tryz.func201 rfl (by kernel_rfl) rfl fun F w0 β0 => ?_
  refine K_tell rfl ?_
  refine go ?_
  exact J_done hT rfl rfl rfl
 ·generalize Lib.indexByte l 47 = z at c1
  refine con_of Tryz.func201 rfl (by kernel_rfl) rfl fun F w0 β0 => ?_
  refine K_tell rfl ?_
  refine go ?_
  refine K_condF rfl (by simp [h]) ?_
  refine go ?_
  refine K_op rfl rfl (opr_byte hT rfl rfl rfl rfl (by decide) rfl) rfl ?_
  refine K_op rfl rfl (opr_callP rfl rfl (c1) rfl rfl rfl rfl) rfl ?_
  refine go ?_
  exact J_done hT rfl rfl rfl
theorem index_spec (l : List UInt8) : Con Tryz.prog 194 [.p (.str l), .p (.str [47])] [] (.p (.int .i64 (Lib.indexByte l 47))) [] [] := by
 have c1 := lidx_spec l
 generalize Lib.indexByte l 47 = z at c1
 refine con_of Tryz.func194 rfl (by kernel_rfl) rfl fun F w0 β0 => ?_
 refine K_tell rfl ?_
 refine go ?_
 refine K_op rfl rfl (opr_callP rfl rfl (c1) rfl rfl rfl rfl) rfl ?_
 refine go ?_
 exact J_done hT rfl rfl rfl
def spl (c : UInt8) : List UInt8 → List (List UInt8)
 | [] => [[]]
 | b :: l => if b = c then [] :: spl c l else match spl c l with
  | [] => [[b]]
  | x :: r => (b :: x) :: r
theorem spl_ne (c : UInt8) (l : List UInt8) : spl c l ≠ [] := by
 cases l with
 | nil => simp [spl]
 | cons b l =>
  unfold spl
  split
  ·simp
  ·split <;> simp
theorem spl_len (c : UInt8) : ∀ l : List UInt8, (spl c l).length = l.count c + 1
 | [] => rfl
 | b :: l => by
  have ih := spl_len c l
  have hne := spl_ne c l
  rw [List.count_cons]
  unfold spl
  by_cases h : b = c
  ·rw [if_pos h, if_pos (by simp [h]), List.length_cons, ih]
  ·rw [if_neg h, if_neg (by simp [h])]
   cases hs : spl c l with
   | nil => exact absurd hs hne
   | cons x r => rw [hs] at ih; simpa using ih
theorem count_le (c : UInt8) (l : List UInt8) : l.count c ≤ l.length := List.count_le_length
theorem spl_at (c : UInt8) : ∀ l : List UInt8, 0 < l.count c → ∃ i : Nat, Lib.indexByte l c = (i : Int) ∧ i < l.length ∧ spl c l = l.take i :: spl c (l.drop (i + 1)) ∧ l.count c = (l.drop (i + 1)).count c + 1
 | [], h => by simp at h
 | b :: l, h => by
  by_cases hb : b = c
  ·subst hb
   exact ⟨0, by simp [Lib.indexByte], by simp, by simp [spl], by simp⟩
  ·have hc : (b :: l).count c = l.count c := by rw [List.count_cons, if_neg (by simp [hb])]; rfl
   rw [hc] at h ⊢
   obtain ⟨i, h1, h2, h3, h4⟩ := spl_at c l h
   refine ⟨i + 1, ?_, by simpa using h2, ?_, h4⟩
   ·unfold Lib.indexByte
    rw [if_neg (by simp [hb]), h1, if_neg (by simp)]
    rfl
   ·conv => lhs; unfold spl
    rw [if_neg hb, h3]
    rfl
theorem spl_none {c : UInt8} : ∀ {l : List UInt8}, l.count c = 0 → spl c l = [l]
 | [], _ => rfl
 | b :: l, h => by
  have hb : b ≠ c := fun e => by subst e; simp at h
  rw [List.count_cons, if_neg (by simp [hb])] at h
  unfold spl
  rw [if_neg hb, spl_none (l := l) (by omega)]
theorem str_size (l : List (List UInt8)) : ∀ r ∈ l.map AV.str, (cellsOf r).length = 1 := by
 intro r hr
 obtain ⟨y, _, rfl⟩ := List.mem_map.1 hr
 rfl
theorem opr_cut_all {P : Program} {T : Tab} {env : Env} {H L : List AObj} {o : Oper} {t : TypeId} {y : Operand} {hi : Option Operand} {rows : List AV} {e n : Nat} {te : TyI} {h : Hd} (hT : TabOk P T) (ho : o.op = .slice t y none hi none) (hy : evA env y = .sl h n 0 n) (hd : tyD T t = .slice e) (hte : tlk T e = some te) (hr : Rd H L (.sl h n 0 n) rows) (hl : loA env none = some 0) (hn : rows.length = n)
  (hh : hiA env rows.length hi = some (n : Int)) (hE : ∀ r ∈ rows, (cellsOf r).length = te.size) : OpR P o env H L (.sl h n 0 n) H L := by
 have := opr_cut (i := 0) (j := (n : Int)) hT ho hy hd hte hr hl hh (by omega) (by omega) (by omega) hE
 simpa [cutA] using this
structure GSp (l : List UInt8) where
 done : List (List UInt8)
 r : List UInt8
 e : done ++ spl 47 r = spl 47 l
 c : r.count 47 + done.length = l.count 47
 h : r.length ≤ l.length
def gRow (n : Nat) (d : List (List UInt8)) : List AV := d.map .str ++ List.replicate (n - d.length) (.str [])
theorem gRow_len {n : Nat} {d : List (List UInt8)} (h : d.length ≤ n) : (gRow n d).length = n := by
 unfold gRow
 simp
 omega
theorem gRow_set {n : Nat} {d : List (List UInt8)} (h : d.length < n) (x : List UInt8) : (gRow n d).set (0 + d.length) (.str x) = gRow n (d ++ [x]) := by
 unfold gRow
 rw [Nat.zero_add, List.set_append_right _ _ (by simp), List.length_map, Nat.sub_self, show n - d.length = (n - (d ++ [x]).length) + 1 by simp; omega, List.replicate_succ, List.set_cons_zero, List.map_append, List.append_assoc]
 rfl
set_option maxHeartbeats 8000000 in
theorem gsplit_spec (l : List UInt8) (hl : l.length ≤ 100000) : Con Tryz.prog 186 [.p (.str l), .p (.str [47]), .p (.int .i64 0), .p (.int .i64 (-1))] [] (.sl (.l 0) (spl 47 l).length 0 (spl 47 l).length) [] [.arr 9 true 1 ((spl 47 l).map .str)] := by
 have hcl := count_le 47 l
 have hsl := spl_len 47 l
 have c1 := scount_spec l
 refine con_of Tryz.func186 rfl (by kernel_rfl) rfl fun F w0 β0 => ?_
 refine K_tell rfl ?_
 refine go ?_
 refine K_op rfl rfl (opr_callP rfl rfl (c1) rfl rfl rfl rfl) rfl ?_
 refine go ?_
 have en : mmA Builtin.min (IntKind.i64.wrap (((l.count 47 : Nat) : Int) + 1)) (IntKind.i64.wrap ((l.length : Int) + 1)) = ((l.count 47 + 1 : Nat) : Int) := by
  rw [IntWalk.i64_in _ (by omega), IntWalk.i64_in _ (by omega)]
  show (if (l.length : Int) + 1 < ((l.count 47 : Nat) : Int) + 1 then (l.length : Int) + 1 else ((l.count 47 : Nat) : Int) + 1) = _
  rw [if_neg (by omega)]
  rfl
 rw [en]
 refine K_op rfl rfl (opr_make (n := l.count 47 + 1) hT rfl rfl rfl rfl rfl rfl rfl rfl rfl (by show _ * 16 ≤ _; omega)) rfl ?_
 refine go ?_
 rw [IntWalk.i64_in (((l.count 47 + 1 : Nat) : Int) - 1) (by omega), show ((l.count 47 + 1 : Nat) : Int) - 1 = ((l.count 47 : Nat) : Int) by omega]
 generalize hcn : l.count 47 = cn at hcl hsl
 refine J_loop (fun q : GSp l => [(0, .p (.str q.r)), (1, .p (.str [47])), (2, .p (.int .i64 0)), (3, .p (.int .i64 (cn : Int))), (9, .sl (.l 0) (cn + 1) 0 (cn + 1)), (10, .p (.int .i64 (q.done.length : Int)))]) (fun _ => []) (fun q => [.arr 9 true 1 (gRow (cn + 1) q.done)]) (fun q => q.r.length) ⟨[], l, rfl, rfl, Nat.le_refl _⟩ ⟨rfl, rfl, rfl, rfl, rfl, rfl, trivial⟩ rfl rfl (fun q => ?_)
 obtain ⟨dn, r, he, hc, hr⟩ := q
 dsimp only
 rw [hcn] at hc
 have hdl : dn.length ≤ cn := by omega
 have hgl := gRow_len (n := cn + 1) (d := dn) (by omega)
 refine go ?_
 by_cases h : dn.length < cn
 ·obtain ⟨m, h1, h2, h3, h4⟩ := spl_at 47 r (by omega)
  have c2 := index_spec r
  rw [h1] at c2
  refine K_condT rfl (decide_eq_true (by omega)) ?_
  refine go ?_
  refine K_op rfl rfl (opr_callP rfl rfl (c2) rfl rfl rfl rfl) rfl ?_
  refine go ?_
  rw [IntWalk.i64_in ((m : Int) + 0) (by omega), show (m : Int) + 0 = (m : Int) by omega]
  refine K_op rfl rfl (opr_cut_str (i := 0) (j := (m : Int)) hT rfl rfl rfl rfl rfl (by omega) (by omega) (by omega)) rfl ?_
  refine K_op rfl rfl (opr_index hT rfl rfl rfl rfl rfl (Rd.full rfl hgl) (by omega) (by rw [hgl]; omega)) rfl ?_
  refine K_op rfl rfl (opr_storeEl1 hT rfl rfl rfl hgl rfl rfl rfl rfl) rfl ?_
  have ex : ((r.drop (0 : Int).toNat).take ((m : Int).toNat - (0 : Int).toNat)) = r.take m := by simp
  rw [ex, Int.toNat_natCast, gRow_set (by omega)]
  refine go ?_
  rw [IntWalk.i64_in ((m : Int) + (([47] : List UInt8).length : Int)) (by simp; omega)]
  refine K_op rfl rfl (opr_cut_str (i := (m : Int) + 1) (j := (r.length : Int)) hT rfl rfl rfl rfl rfl (by omega) (by omega) (by omega)) rfl ?_
  have ey : ((r.drop ((m : Int) + 1).toNat).take ((r.length : Int).toNat - ((m : Int) + 1).toNat)) = r.drop (m + 1) := by
   rw [show ((m : Int) + 1).toNat = m + 1 by omega, Int.toNat_natCast]
   exact List.take_of_length_le (by simp)
  rw [ey]
  refine go ?_
  rw [IntWalk.i64_in ((dn.length : Int) + 1) (by omega)]
  exact fun a w' β st => ⟨⟨dn ++ [r.take m], r.drop (m + 1), by rw [List.append_assoc, List.singleton_append, ← h3]; exact he, by rw [hcn, List.length_append]; simp; omega, by simp; omega⟩, β, by show (r.drop (m + 1)).length < r.length; simp; omega, st.sim, st.step, st.env.sub (sub_of_all ⟨rfl, rfl, rfl, rfl, rfl, by rw [List.length_append]; rfl, trivial⟩), st.size, st.defers⟩
 have hdc : dn.length = cn := by omega
 refine K_condF rfl (decide_eq_false (by omega)) ?_
 refine go ?_
 refine K_op rfl rfl (opr_index hT rfl rfl rfl rfl rfl (Rd.full rfl hgl) (by omega) (by rw [hgl]; omega)) rfl ?_
 refine K_op rfl rfl (opr_storeEl1 hT rfl rfl rfl hgl rfl rfl rfl rfl) rfl ?_
 have e2 : dn ++ [r] = spl 47 l := by rw [← he, spl_none (show r.count 47 = 0 by omega)]
 have e3 : gRow (cn + 1) (dn ++ [r]) = (spl 47 l).map .str := by
  unfold gRow
  rw [e2, hsl, Nat.sub_self]
  simp
 have hml : ((spl 47 l).map AV.str).length = cn + 1 := by simp [hsl]
 rw [Int.toNat_natCast, gRow_set (by omega), e3]
 refine go ?_
 rw [IntWalk.i64_in ((dn.length : Int) + 1) (by omega), show (dn.length : Int) + 1 = ((cn + 1 : Nat) : Int) by omega]
 refine K_op rfl rfl (opr_cut_all hT rfl rfl rfl rfl (Rd.full rfl hml) rfl hml rfl (str_size _)) rfl ?_
 rw [hsl]
 refine go ?_
 exact J_give hT rfl rfl
theorem split_spec (l : List UInt8) (hl : l.length ≤ 100000) : Con Tryz.prog 177 [.p (.str l), .p (.str [47])] [] (.p (.ps ((spl 47 l).map .str))) [] [] := by
 have c1 := (gsplit_spec l hl).freeze (by simp)
 generalize (spl 47 l).map AV.str = rows at c1
 refine con_of Tryz.func177 rfl (by kernel_rfl) rfl fun F w0 β0 => ?_
 refine K_tell rfl ?_
 refine go ?_
 refine K_op rfl rfl (opr_callP rfl rfl (c1) rfl rfl rfl rfl) rfl ?_
 refine go ?_
 exact J_done hT rfl rfl rfl
end Go.Proofs.YtdkegmmigongoaaGreatDoor

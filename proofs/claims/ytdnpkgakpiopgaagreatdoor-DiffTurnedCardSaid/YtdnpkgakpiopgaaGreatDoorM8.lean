import Derived.Test.YtdnpkgakpiopgaaGreatDoorM5
import Derived.Test.YtdnpkgakpiopgaaGreatDoorGo
import Derived.Test.YtdnpkgakpiopgaaGreatDoorM7
import Derived.Test.YtdnpkgakpiopgaaGreatDoorM6
import Derived.Lib.Bytealg
import Derived.Laws.Externs
namespace Go.Proofs.YtdnpkgakpiopgaaGreatDoor
set_option maxRecDepth 20000
open Go.Awp
inductive Sl {α : Type} (mk : α → AV) : AV → List α → Prop
 | nils : Sl mk .nils []
 | ps (l : List α) : Sl mk (.ps (l.map mk)) l
theorem Sl.rd {α : Type} {mk : α → AV} {s : AV} {l : List α} (h : Sl mk s l) (H L : List AObj) : Rd H L (.p s) (l.map mk) := by
 cases h with
 | nils => exact .nils
 | ps => exact .ps _
theorem shp_agg {α : Type} (mk : α → AV) (ok : α → Prop) {t e : Nat} {te : TyI} {ls : List Nat} {a : AV} (h : Shp tab 8 t a) (ht : tyD tab t = .slice e) (hte : tlk tab e = some te) (hls : leaves tab 7 e = some ls) (hag : isAggD te.d = some true) (hb : 0 < te.bytes)
  (hrow : ∀ cs, All2 (Shp tab 7) ls cs → ∃ x, AV.agg cs = mk x ∧ ok x) : ∃ l, Sl mk a l ∧ (∀ x ∈ l, ok x) ∧ l.length ≤ 140737488355328 := by
 rcases h.slice ht with rfl | ⟨rows, te', ls', rfl, hte', hls', hlen, hrows⟩
 ·exact ⟨[], .nils, by simp, by simp⟩
 ·rw [hte] at hte'
  obtain rfl := Option.some.inj hte'
  rw [hls] at hls'
  obtain rfl := Option.some.inj hls'
  have key : ∀ rows : List AV, (∀ r ∈ rows, All2 (Shp tab 7) ls (cellsOf r) ∧ (∀ y, isAggD te.d = some false → cellsOf r = [y] → r = y) ∧ (isAggD te.d = some true → ∃ cs, r = .agg cs)) → ∃ l : List α, rows = l.map mk ∧ ∀ x ∈ l, ok x := by
   intro rows
   induction rows with
   | nil => intro _; exact ⟨[], rfl, by simp⟩
   | cons r rs ih =>
    intro hr
    obtain ⟨l, hl, hok⟩ := ih fun r' h' => hr r' (by simp [h'])
    obtain ⟨h1, _, h2⟩ := hr r (by simp)
    obtain ⟨cs, rfl⟩ := h2 hag
    obtain ⟨x, hx, hxo⟩ := hrow cs h1
    refine ⟨x :: l, by rw [hl, hx]; rfl, fun o ho => ?_⟩
    rcases List.mem_cons.1 ho with rfl | ho
    ·exact hxo
    ·exact hok o ho
  obtain ⟨l, rfl, hok⟩ := key rows hrows
  refine ⟨l, .ps l, hok, ?_⟩
  unfold Go.Awp.reach at hlen
  have := Nat.le_mul_of_pos_right (l.map mk).length hb
  simp only [List.length_map] at hlen this
  omega
section
variable {α : Type} (stop : Nat → α → Bool)
def cutG : List α → Nat → Nat
 | [], i => i
 | o :: r, i => if stop i o = true then i else cutG r (i + 1)
structure CG (l : List α) where
 i : Nat
 h : i ≤ l.length
 e : cutG stop (l.drop i) i = cutG stop l 0
end
end Go.Proofs.YtdnpkgakpiopgaaGreatDoor
namespace Go.Proofs.YtdnpkgakpiopgaaGreatDoor
set_option maxRecDepth 20000
open Go.Awp Tr
structure VOp where
 kind : Int
 key : List UInt8
 val : List UInt8
def putB (t : Tr) (r : Rg) : Tr := t.set r.1 r.2
end Go.Proofs.YtdnpkgakpiopgaaGreatDoor
namespace Go.Proofs.YtdnpkgakpiopgaaGreatDoor
set_option maxRecDepth 20000
open Go.Awp
def hpk (σ : List Nat) : Hd → Hd
 | .o j => .o j
 | .l i => match σ[i]? with
  | some k => .l k
  | none => .l i
def tpk (σ : List Nat) : TV → TV
 | .p x => .p x
 | .ad h off => .ad (hpk σ h) off
 | .sl h a b c => .sl (hpk σ h) a b c
 | .el s e i off => .el (tpk σ s) e i off
 | .agg l => .agg (pkL σ l)
 | .tup l => .tup (pkL σ l)
 | .fn f l => .fn f (pkL σ l)
 | .opt c x => .opt c (tpk σ x)
where pkL (σ : List Nat) : List TV → List TV
 | [] => []
 | x :: r => tpk σ x :: pkL σ r
def opk (σ : List Nat) : AObj → AObj
 | .box T cells => .box T (tpk.pkL σ cells)
 | o => o
def Pk (L : List AObj) (σ0 : List Nat) : List Nat → List AObj → Prop
 | [], [] => True
 | k :: r, ob :: obs => (L[k]? = some (opk σ0 ob) ∧ ob.okL σ0.length = true) ∧ Pk L σ0 r obs
 | _, _ => False
theorem Pk.len {L : List AObj} {σ0 : List Nat} : ∀ {σ : List Nat} {L2 : List AObj}, Pk L σ0 σ L2 → L2.length = σ.length
 | [], [], _ => rfl
 | _ :: _, _ :: _, h => by simp [Pk.len h.2]
theorem Pk.get {L : List AObj} {σ0 : List Nat} : ∀ {σ : List Nat} {L2 : List AObj}, Pk L σ0 σ L2 → ∀ {j : Nat} {ob : AObj}, L2[j]? = some ob → ∃ k, σ[j]? = some k ∧ L[k]? = some (opk σ0 ob) ∧ ob.okL σ0.length = true
 | [], [], _, j, ob, hj => by simp at hj
 | k :: r, o :: obs, hl, 0, ob, hj => by
  obtain rfl : o = ob := by simpa using hj
  exact ⟨k, by simp, hl.1.1, hl.1.2⟩
 | k :: r, o :: obs, hl, j + 1, ob, hj => by
  obtain ⟨k', h1, h2⟩ := Pk.get hl.2 (show obs[j]? = some ob by simpa using hj)
  exact ⟨k', by simpa using h1, h2⟩
section
variable {w : World} {β : Hd → Nat} {H L L2 : List AObj} {F : Nat → Prop} {σ : List Nat}
end
theorem zQq {P : Program} {T : Tab} {env : Env} {H L : List AObj} {o : Oper} {t tx : TypeId} {y z : Operand} {e : Nat} {te : TyI} {b : Bool} {rows : List AV} {s : TV} {d : AV} (hT : TabOk P T) (ho : o.op = .call { callee := .builtin .append, args := #[y, z], argTypes := #[t, tx] })
  (ht : appT T t tx = some (e, te, b)) (hd : d = .nils ∨ d = .cz) (hy : evA env y = .p d) (hz : evA env z = s) (hs : SrcA H L s rows) (hbs : b = true ↔ ∃ l, s = .p (.str l)) (hc : clR rows) (he : ∀ r ∈ rows, (cellsOf r).length = te.size) (hpos : 0 < te.size) (hb0 : 0 < te.bytes)
  (hfit : rows.length * te.bytes ≤ 140737488355328) : OpR P o env H L (.sl (.l L.length) rows.length 0 rows.length) H (L ++ [.arr e true te.size rows]) := by
 cases rows with
 | nil =>
  have := zCh (P := P) (env := env) hT ho ht hd hy hz hs hbs
  intro F w β a next Q hS hE hn
  exact this F w β a next Q hS hE fun w' β' u s1 s2 s3 => by
   obtain ⟨k1, k2⟩ := zJp e hpos s1
   exact hn w' β' u k1 (s2.trans k2) (zIz e te.size hd s3)
 | cons r rs =>
  exact zC5 hT ho ht (by rcases hd with rfl | rfl; exact .inl hy; exact .inr hy) hz hs hbs hc he hpos hb0 (by simp) hfit
end Go.Proofs.YtdnpkgakpiopgaaGreatDoor
namespace Go.Proofs.YtdnpkgakpiopgaaGreatDoor
set_option maxRecDepth 20000
open Go.Awp Tr
theorem zIt {P : Program} {env : Env} {H L : List AObj} {o : Oper} {fo : Operand} {as' : List Operand} {ts : Array TypeId} {f : FuncId} {args : List TV} {x : TV} {fn : Func} {e : Array Value → Sem Value} (ho : o.op = .call { callee := .value fo, args := as'.toArray, argTypes := ts }) (hf : evA env fo = .fn f []) (ha : evL env as' = args)
  (hfn : P.funcs[f]? = some fn) (hname : (fn.name == "runtime.NumGoroutine") = false) (hb : fn.body.isNone = true) (hn : Extern.findNext fn = none) (he : Extern.find fn = some e)
  (hrun : ∀ (w : World) (β : Hd → Nat) (G : Hp) (vs : List Value), RepL w β G args vs → ∃ v, (e vs.toArray).run P w = .ok v w ∧ RepT w β G x v) : OpR P o env H L x H L :=
 zQ fun F w β a hS hen => by
  have hfo := zL hen fo
  rw [hf] at hfo
  obtain ⟨vs, hvs, hl⟩ : ∃ vs : List Value, a.eval fo = .func (.func f) #[] vs.toArray ∧ vs.length = 0 := by
   generalize hv : a.eval fo = v at hfo
   cases hfo with | fn _ _ vs hl hr => exact ⟨vs, rfl, hl⟩
  obtain rfl := List.length_eq_zero_iff.1 hl
  have hargs := zLk hen as'
  rw [ha] at hargs
  obtain ⟨v, hv, hx⟩ := hrun w β _ _ hargs
  refine ⟨v, ?_, hx⟩
  simp only [execOp, ho, resolve, invoke, Deferred.ofValue, hvs, Sem.run_bind, Sem.run_pure, Result.andThen_ok, List.map_toArray, List.nil_append, List.append_toArray, List.append_nil]
  rw [run_callFunc_extern hfn hname hb hn he, hv]
  rfl
theorem u8_nat (c : UInt8) : ((c.toNat : Nat) : Int).toNat.toUInt8 = c := by simp
theorem idx_run {P : Program} {l : List UInt8} {c : UInt8} (w : World) (β : Hd → Nat) (G : Hp) (vs : List Value) (h : RepL w β G [.p (.str l), .p (.int .u8 (c.toNat : Int))] vs) : ∃ v, (Extern.BytealgIndexByte.indexByte vs.toArray).run P w = .ok v w ∧ RepT w β G (.p (.int .i64 (Lib.indexByte l c))) v := by
 obtain ⟨hl, hr⟩ := h
 match vs, hl with
 | [v1, v2], _ =>
  have h1 := hr 0 _ v1 rfl rfl
  have h2 := hr 1 _ v2 rfl rfl
  cases h1 with | p h1 => cases h1; cases h2 with | p h2 => cases h2; exact ⟨_, Lib.run_indexByteString _ _ w, by rw [u8_nat]; exact .p (.int ..)⟩
theorem zUq {P : Program} {l : List UInt8} {c : UInt8} (w : World) (β : Hd → Nat) (G : Hp) (vs : List Value) (h : RepL w β G [.p (.str l), .p (.int .u8 (c.toNat : Int))] vs) : ∃ v, (Extern.BytealgCount.count vs.toArray).run P w = .ok v w ∧ RepT w β G (.p (.int .i64 ((l.count c : Nat) : Int))) v := by
 obtain ⟨hl, hr⟩ := h
 match vs, hl with
 | [v1, v2], _ =>
  have h1 := hr 0 _ v1 rfl rfl
  have h2 := hr 1 _ v2 rfl rfl
  cases h1 with | p h1 => cases h1; cases h2 with | p h2 => cases h2; exact ⟨_, Lib.run_countString _ _ w, by rw [u8_nat]; exact .p (.int ..)⟩
theorem sidx_n (l : List UInt8) (n : Int) (c : UInt8) (h : n = (c.toNat : Int)) : Con Tryz.prog 218 [.p (.str l), .p (.int .u8 n)] [] (.p (.int .i64 (Lib.indexByte l c))) [] [] := by
 have hr := fun (w : World) (β : Hd → Nat) (G : Hp) (vs : List Value) => @idx_run Tryz.prog l c w β G vs
 rw [← h] at hr
 generalize Lib.indexByte l c = z at hr
 refine zD Tryz.func218 rfl (by kernel_rfl) rfl fun F w0 β0 => ?_
 refine zE rfl ?_
 iterate 9 (refine g1 ?_)
 refine zH rfl rfl (zIt (e := Extern.BytealgIndexByte.indexByte) rfl rfl rfl Tryz.func223 (by kernel_rfl) (by kernel_rfl) (by kernel_rfl) (by kernel_rfl) hr) rfl ?_
 refine go ?_
 exact zC hT rfl rfl rfl
theorem zMp (l : List UInt8) : Con Tryz.prog 205 [.p (.str l), .p (.str [47])] [] (.p (.int .i64 ((l.count 47 : Nat) : Int))) [] [] := by
 have hr := fun (w : World) (β : Hd → Nat) (G : Hp) (vs : List Value) => @zUq Tryz.prog l 47 w β G vs
 rw [show ((47 : UInt8).toNat : Int) = 47 from rfl] at hr
 generalize ((l.count 47 : Nat) : Int) = z at hr
 refine zD Tryz.func205 rfl (by kernel_rfl) rfl fun F w0 β0 => ?_
 refine zE rfl ?_
 refine go ?_
 refine zH rfl rfl (j2 hT rfl rfl rfl rfl (by decide) rfl) rfl ?_
 refine zH rfl rfl (zIt (e := Extern.BytealgCount.count) rfl rfl rfl Tryz.func213 (by kernel_rfl) (by kernel_rfl) (by kernel_rfl) (by kernel_rfl) hr) rfl ?_
 refine go ?_
 exact zC hT rfl rfl rfl
theorem zTe (l : List UInt8) : Con Tryz.prog 214 [.p (.str l), .p (.str [47])] [] (.p (.int .i64 (Lib.indexByte l 47))) [] [] := by
 have c1 := sidx_n l 47 47 rfl
 by_cases h : ([47] : List UInt8) = l
 ·subst h
  rw [show Lib.indexByte [47] 47 = 0 from rfl]
  refine zD Tryz.func214 rfl (by kernel_rfl) rfl fun F w0 β0 => ?_
  refine zE rfl ?_
  refine go ?_
  exact zC hT rfl rfl rfl
 ·generalize Lib.indexByte l 47 = z at c1
  refine zD Tryz.func214 rfl (by kernel_rfl) rfl fun F w0 β0 => ?_
  refine zE rfl ?_
  refine go ?_
  refine zF rfl (by simp [h]) ?_
  refine go ?_
  refine zH rfl rfl (j2 hT rfl rfl rfl rfl (by decide) rfl) rfl ?_
  refine zH rfl rfl (zB rfl rfl (c1) rfl rfl rfl rfl) rfl ?_
  refine go ?_
  exact zC hT rfl rfl rfl
theorem zQw (l : List UInt8) : Con Tryz.prog 206 [.p (.str l), .p (.str [47])] [] (.p (.int .i64 (Lib.indexByte l 47))) [] [] := by
 have c1 := zTe l
 generalize Lib.indexByte l 47 = z at c1
 refine zD Tryz.func206 rfl (by kernel_rfl) rfl fun F w0 β0 => ?_
 refine zE rfl ?_
 refine go ?_
 refine zH rfl rfl (zB rfl rfl (c1) rfl rfl rfl rfl) rfl ?_
 refine go ?_
 exact zC hT rfl rfl rfl
def spl (c : UInt8) : List UInt8 → List (List UInt8)
 | [] => [[]]
 | b :: l => if b = c then [] :: spl c l else match spl c l with
  | [] => [[b]]
  | x :: r => (b :: x) :: r
theorem spl_ne (c : UInt8) (l : List UInt8) : spl c l ≠ [] := by
 cases l with
 | nil => simp [spl]
 | cons b l =>
  unfold spl
  split
  ·simp
  ·split <;> simp
theorem spl_len (c : UInt8) : ∀ l : List UInt8, (spl c l).length = l.count c + 1
 | [] => rfl
 | b :: l => by
  have ih := spl_len c l
  have hne := spl_ne c l
  rw [List.count_cons]
  unfold spl
  by_cases h : b = c
  ·rw [if_pos h, if_pos (by simp [h]), List.length_cons, ih]
  ·rw [if_neg h, if_neg (by simp [h])]
   cases hs : spl c l with
   | nil => exact absurd hs hne
   | cons x r => rw [hs] at ih; simpa using ih
theorem zPk (c : UInt8) (l : List UInt8) : l.count c ≤ l.length := List.count_le_length
theorem spl_at (c : UInt8) : ∀ l : List UInt8, 0 < l.count c → ∃ i : Nat, Lib.indexByte l c = (i : Int) ∧ i < l.length ∧ spl c l = l.take i :: spl c (l.drop (i + 1)) ∧ l.count c = (l.drop (i + 1)).count c + 1
 | [], h => by simp at h
 | b :: l, h => by
  by_cases hb : b = c
  ·subst hb
   exact ⟨0, by simp [Lib.indexByte], by simp, by simp [spl], by simp⟩
  ·have hc : (b :: l).count c = l.count c := by rw [List.count_cons, if_neg (by simp [hb])]; rfl
   rw [hc] at h ⊢
   obtain ⟨i, h1, h2, h3, h4⟩ := spl_at c l h
   refine ⟨i + 1, ?_, by simpa using h2, ?_, h4⟩
   ·unfold Lib.indexByte
    rw [if_neg (by simp [hb]), h1, if_neg (by simp)]
    rfl
   ·conv => lhs; unfold spl
    rw [if_neg hb, h3]
    rfl
theorem zJ2 {c : UInt8} : ∀ {l : List UInt8}, l.count c = 0 → spl c l = [l]
 | [], _ => rfl
 | b :: l, h => by
  have hb : b ≠ c := fun e => by subst e; simp at h
  rw [List.count_cons, if_neg (by simp [hb])] at h
  unfold spl
  rw [if_neg hb, zJ2 (l := l) (by omega)]
theorem zPa (l : List (List UInt8)) : ∀ r ∈ l.map AV.str, (cellsOf r).length = 1 := by
 intro r hr
 obtain ⟨y, _, rfl⟩ := List.mem_map.1 hr
 rfl
theorem zM9 {P : Program} {T : Tab} {env : Env} {H L : List AObj} {o : Oper} {t : TypeId} {y : Operand} {hi : Option Operand} {rows : List AV} {e n : Nat} {te : TyI} {h : Hd} (hT : TabOk P T) (ho : o.op = .slice t y none hi none) (hy : evA env y = .sl h n 0 n) (hd : tyD T t = .slice e) (hte : tlk T e = some te) (hr : Rd H L (.sl h n 0 n) rows) (hl : loA env none = some 0) (hn : rows.length = n)
  (hh : hiA env rows.length hi = some (n : Int)) (hE : ∀ r ∈ rows, (cellsOf r).length = te.size) : OpR P o env H L (.sl h n 0 n) H L := by
 have := y9 (i := 0) (j := (n : Int)) hT ho hy hd hte hr hl hh (by omega) (by omega) (by omega) hE
 simpa [cutA] using this
structure GSp (l : List UInt8) where
 done : List (List UInt8)
 r : List UInt8
 e : done ++ spl 47 r = spl 47 l
 c : r.count 47 + done.length = l.count 47
 h : r.length ≤ l.length
def gRow (n : Nat) (d : List (List UInt8)) : List AV := d.map .str ++ List.replicate (n - d.length) (.str [])
theorem gRow_len {n : Nat} {d : List (List UInt8)} (h : d.length ≤ n) : (gRow n d).length = n := by
 unfold gRow
 simp
 omega
theorem zO5 {n : Nat} {d : List (List UInt8)} (h : d.length < n) (x : List UInt8) : (gRow n d).set (0 + d.length) (.str x) = gRow n (d ++ [x]) := by
 unfold gRow
 rw [Nat.zero_add, List.set_append_right _ _ (by simp), List.length_map, Nat.sub_self, show n - d.length = (n - (d ++ [x]).length) + 1 by simp; omega, List.replicate_succ, List.set_cons_zero, List.map_append, List.append_assoc]
 rfl
set_option maxHeartbeats 8000000 in
theorem zN3 (l : List UInt8) (hl : l.length ≤ 100000) : Con Tryz.prog 192 [.p (.str l), .p (.str [47]), .p (.int .i64 0), .p (.int .i64 (-1))] [] (.sl (.l 0) (spl 47 l).length 0 (spl 47 l).length) [] [.arr 9 true 1 ((spl 47 l).map .str)] := by
 have hcl := zPk 47 l
 have hsl := spl_len 47 l
 have c1 := zMp l
 refine zD Tryz.func192 rfl (by kernel_rfl) rfl fun F w0 β0 => ?_
 refine zE rfl ?_
 refine go ?_
 refine zH rfl rfl (zB rfl rfl (c1) rfl rfl rfl rfl) rfl ?_
 refine go ?_
 have en : mmA Builtin.min (IntKind.i64.wrap (((l.count 47 : Nat) : Int) + 1)) (IntKind.i64.wrap ((l.length : Int) + 1)) = ((l.count 47 + 1 : Nat) : Int) := by
  rw [IntWalk.i64_in _ (by omega), IntWalk.i64_in _ (by omega)]
  show (if (l.length : Int) + 1 < ((l.count 47 : Nat) : Int) + 1 then (l.length : Int) + 1 else ((l.count 47 : Nat) : Int) + 1) = _
  rw [if_neg (by omega)]
  rfl
 rw [en]
 refine zH rfl rfl (zIs (n := l.count 47 + 1) hT rfl rfl rfl rfl rfl rfl rfl rfl rfl (by show _ * 16 ≤ _; omega)) rfl ?_
 refine go ?_
 rw [IntWalk.i64_in (((l.count 47 + 1 : Nat) : Int) - 1) (by omega), show ((l.count 47 + 1 : Nat) : Int) - 1 = ((l.count 47 : Nat) : Int) by omega]
 generalize hcn : l.count 47 = cn at hcl hsl
 refine z9 (fun q : GSp l => [(0, .p (.str q.r)), (1, .p (.str [47])), (2, .p (.int .i64 0)), (3, .p (.int .i64 (cn : Int))), (9, .sl (.l 0) (cn + 1) 0 (cn + 1)), (10, .p (.int .i64 (q.done.length : Int)))]) (fun _ => []) (fun q => [.arr 9 true 1 (gRow (cn + 1) q.done)]) (fun q => q.r.length) ⟨[], l, rfl, rfl, Nat.le_refl _⟩ ⟨rfl, rfl, rfl, rfl, rfl, rfl, trivial⟩ rfl rfl (fun q => ?_)
 obtain ⟨dn, r, he, hc, hr⟩ := q
 dsimp only
 rw [hcn] at hc
 have hdl : dn.length ≤ cn := by omega
 have hgl := gRow_len (n := cn + 1) (d := dn) (by omega)
 refine go ?_
 by_cases h : dn.length < cn
 ·obtain ⟨m, h1, h2, h3, h4⟩ := spl_at 47 r (by omega)
  have c2 := zQw r
  rw [h1] at c2
  refine zG rfl (decide_eq_true (by omega)) ?_
  refine go ?_
  refine zH rfl rfl (zB rfl rfl (c2) rfl rfl rfl rfl) rfl ?_
  refine go ?_
  rw [IntWalk.i64_in ((m : Int) + 0) (by omega), show (m : Int) + 0 = (m : Int) by omega]
  refine zH rfl rfl (zBi (i := 0) (j := (m : Int)) hT rfl rfl rfl rfl rfl (by omega) (by omega) (by omega)) rfl ?_
  refine zH rfl rfl (zJ hT rfl rfl rfl rfl rfl (Rd.full rfl hgl) (by omega) (by rw [hgl]; omega)) rfl ?_
  refine zH rfl rfl (zCk hT rfl rfl rfl hgl rfl rfl rfl rfl) rfl ?_
  have ex : ((r.drop (0 : Int).toNat).take ((m : Int).toNat - (0 : Int).toNat)) = r.take m := by simp
  rw [ex, Int.toNat_natCast, zO5 (by omega)]
  refine go ?_
  rw [IntWalk.i64_in ((m : Int) + (([47] : List UInt8).length : Int)) (by simp; omega)]
  refine zH rfl rfl (zBi (i := (m : Int) + 1) (j := (r.length : Int)) hT rfl rfl rfl rfl rfl (by omega) (by omega) (by omega)) rfl ?_
  have ey : ((r.drop ((m : Int) + 1).toNat).take ((r.length : Int).toNat - ((m : Int) + 1).toNat)) = r.drop (m + 1) := by
   rw [show ((m : Int) + 1).toNat = m + 1 by omega, Int.toNat_natCast]
   exact List.take_of_length_le (by simp)
  rw [ey]
  refine go ?_
  rw [IntWalk.i64_in ((dn.length : Int) + 1) (by omega)]
  exact fun a w' β st => ⟨⟨dn ++ [r.take m], r.drop (m + 1), by rw [List.append_assoc, List.singleton_append, ← h3]; exact he, by rw [hcn, List.length_append]; simp; omega, by simp; omega⟩, β, by show (r.drop (m + 1)).length < r.length; simp; omega, st.sim, st.step, st.env.sub (jE ⟨rfl, rfl, rfl, rfl, rfl, by rw [List.length_append]; rfl, trivial⟩), st.size, st.defers⟩
 have hdc : dn.length = cn := by omega
 refine zF rfl (decide_eq_false (by omega)) ?_
 refine go ?_
 refine zH rfl rfl (zJ hT rfl rfl rfl rfl rfl (Rd.full rfl hgl) (by omega) (by rw [hgl]; omega)) rfl ?_
 refine zH rfl rfl (zCk hT rfl rfl rfl hgl rfl rfl rfl rfl) rfl ?_
 have e2 : dn ++ [r] = spl 47 l := by rw [← he, zJ2 (show r.count 47 = 0 by omega)]
 have e3 : gRow (cn + 1) (dn ++ [r]) = (spl 47 l).map .str := by
  unfold gRow
  rw [e2, hsl, Nat.sub_self]
  simp
 have hml : ((spl 47 l).map AV.str).length = cn + 1 := by simp [hsl]
 rw [Int.toNat_natCast, zO5 (by omega), e3]
 refine go ?_
 rw [IntWalk.i64_in ((dn.length : Int) + 1) (by omega), show (dn.length : Int) + 1 = ((cn + 1 : Nat) : Int) by omega]
 refine zH rfl rfl (zM9 hT rfl rfl rfl rfl (Rd.full rfl hml) rfl hml rfl (zPa _)) rfl ?_
 rw [hsl]
 refine go ?_
 exact zBr hT rfl rfl
theorem zQv (l : List UInt8) (hl : l.length ≤ 100000) : Con Tryz.prog 178 [.p (.str l), .p (.str [47])] [] (.p (.ps ((spl 47 l).map .str))) [] [] := by
 have c1 := (zN3 l hl).freeze (by simp)
 generalize (spl 47 l).map AV.str = rows at c1
 refine zD Tryz.func178 rfl (by kernel_rfl) rfl fun F w0 β0 => ?_
 refine zE rfl ?_
 refine go ?_
 refine zH rfl rfl (zB rfl rfl (c1) rfl rfl rfl rfl) rfl ?_
 refine go ?_
 exact zC hT rfl rfl rfl
def idxG {α : Type} (g : α → Bool) : List α → Nat → Int
 | [], _ => -1
 | x :: t, i => if g x = true then (i : Int) else idxG g t (i + 1)
theorem zQj {α : Type} (g : α → Bool) : ∀ (l : List α) (i : Nat), decide (idxG g l i ≥ 0) = l.any g
 | [], i => rfl
 | x :: t, i => by
  unfold idxG
  rw [List.any_cons]
  split
  ·rename_i h
   rw [h, Bool.true_or]
   exact decide_eq_true (by omega)
  ·rename_i h
   simp only [Bool.not_eq_true] at h
   rw [h, Bool.false_or]
   exact zQj g t (i + 1)
structure IxG {α : Type} (g : α → Bool) (l : List α) where
 i : Nat
 h : i ≤ l.length
 e : idxG g (l.drop i) i = idxG g l 0
theorem zVy {α : Type} (g : α → Bool) {l : List α} {i : Nat} {x : α} (hx : l[i]? = some x) : idxG g (l.drop i) i = if g x = true then (i : Int) else idxG g (l.drop (i + 1)) (i + 1) := by
 obtain ⟨h, rfl⟩ := List.getElem?_eq_some_iff.1 hx
 rw [List.drop_eq_getElem_cons h]
 rfl
theorem zGo {α : Type} (f : α → AV) {l : List α} {i : Nat} {x : α} (hx : l[i]? = some x) : (l.map f)[((i : Nat) : Int).toNat]? = some (f x) := by rw [Int.toNat_natCast, List.getElem?_map, hx]; rfl
end Go.Proofs.YtdnpkgakpiopgaaGreatDoor

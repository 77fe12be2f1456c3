import Derived.Test.YtdkegmmigongoaaGreatDoorGo
import Derived.Test.YtdkegmmigongoaaGreatDoorM6
import Derived.Test.YtdkegmmigongoaaGreatDoorM5
namespace Go.Proofs.YtdkegmmigongoaaGreatDoor
set_option maxRecDepth 20000
open Go.Awp Tr
end Go.Proofs.YtdkegmmigongoaaGreatDoor
namespace Go.Proofs.YtdkegmmigongoaaGreatDoor
set_option maxRecDepth 20000
open Go.Awp
inductive Sl {α : Type} (mk : α → AV) : AV → List α → Prop
 | nils : Sl mk .nils []
 | ps (l : List α) : Sl mk (.ps (l.map mk)) l
theorem Sl.rd {α : Type} {mk : α → AV} {s : AV} {l : List α} (h : Sl mk s l) (H L : List AObj) : Rd H L (.p s) (l.map mk) := by
 cases h with
 | nils => exact .nils
 | ps => exact .ps _
theorem shp_agg {α : Type} (mk : α → AV) (ok : α → Prop) {t e : Nat} {te : TyI} {ls : List Nat} {a : AV} (h : Shp tab 8 t a) (ht : tyD tab t = .slice e) (hte : tlk tab e = some te) (hls : leaves tab 7 e = some ls) (hag : isAggD te.d = some true) (hb : 0 < te.bytes)
  (hrow : ∀ cs, All2 (Shp tab 7) ls cs → ∃ x, AV.agg cs = mk x ∧ ok x) : ∃ l, Sl mk a l ∧ (∀ x ∈ l, ok x) ∧ l.length ≤ 140737488355328 := by
 rcases h.slice ht with rfl | ⟨rows, te', ls', rfl, hte', hls', hlen, hrows⟩
 ·exact ⟨[], .nils, by simp, by simp⟩
 ·rw [hte] at hte'
  obtain rfl := Option.some.inj hte'
  rw [hls] at hls'
  obtain rfl := Option.some.inj hls'
  have key : ∀ rows : List AV, (∀ r ∈ rows, All2 (Shp tab 7) ls (cellsOf r) ∧ (∀ y, isAggD te.d = some false → cellsOf r = [y] → r = y) ∧ (isAggD te.d = some true → ∃ cs, r = .agg cs)) → ∃ l : List α, rows = l.map mk ∧ ∀ x ∈ l, ok x := by
   intro rows
   induction rows with
   | nil => intro _; exact ⟨[], rfl, by simp⟩
   | cons r rs ih =>
    intro hr
    obtain ⟨l, hl, hok⟩ := ih fun r' h' => hr r' (by simp [h'])
    obtain ⟨h1, _, h2⟩ := hr r (by simp)
    obtain ⟨cs, rfl⟩ := h2 hag
    obtain ⟨x, hx, hxo⟩ := hrow cs h1
    refine ⟨x :: l, by rw [hl, hx]; rfl, fun o ho => ?_⟩
    rcases List.mem_cons.1 ho with rfl | ho
    ·exact hxo
    ·exact hok o ho
  obtain ⟨l, rfl, hok⟩ := key rows hrows
  refine ⟨l, .ps l, hok, ?_⟩
  unfold Go.Awp.reach at hlen
  have := Nat.le_mul_of_pos_right (l.map mk).length hb
  simp only [List.length_map] at hlen this
  omega
section
variable {α : Type} (stop : Nat → α → Bool)
def cutG : List α → Nat → Nat
 | [], i => i
 | o :: r, i => if stop i o = true then i else cutG r (i + 1)
structure CG (l : List α) where
 i : Nat
 h : i ≤ l.length
 e : cutG stop (l.drop i) i = cutG stop l 0
end
end Go.Proofs.YtdkegmmigongoaaGreatDoor
namespace Go.Proofs.YtdkegmmigongoaaGreatDoor
set_option maxRecDepth 20000
open Go.Awp Tr
structure VOp where
 kind : Int
 key : List UInt8
 val : List UInt8
def putB (t : Tr) (r : Rg) : Tr := t.set r.1 r.2
end Go.Proofs.YtdkegmmigongoaaGreatDoor
namespace Go.Proofs.YtdkegmmigongoaaGreatDoor
set_option maxRecDepth 20000
open Go.Awp
theorem lset_mem_iff {k v : List UInt8} : ∀ {l : List KV}, Rises l → ∀ y : KV, y ∈ lset k v l ↔ y = (k, v) ∨ (y ∈ l ∧ y.1 ≠ k)
 | [], _, y => by simp [lset]
 | x :: r, h, y => by
  have hr := List.pairwise_cons.1 h
  unfold lset
  split
  ·rename_i hlt
   simp only [List.mem_cons]
   constructor
   ·rintro (h1 | h1 | h1)
    ·exact .inl h1
    ·exact .inr ⟨.inl h1, by rw [h1]; exact fun e => lt_ne hlt e.symm⟩
    ·exact .inr ⟨.inr h1, fun e => lt_ne (lt_trans hlt (hr.1 y h1)) e.symm⟩
   ·rintro (h1 | ⟨h1 | h1, _⟩)
    ·exact .inl h1
    ·exact .inr (.inl h1)
    ·exact .inr (.inr h1)
  ·split
   ·rename_i he
    simp only [List.mem_cons]
    constructor
    ·rintro (h1 | h1)
     ·exact .inl h1
     ·exact .inr ⟨.inr h1, fun e => lt_ne (hr.1 y h1) (by rw [e, he])⟩
    ·rintro (h1 | ⟨h1 | h1, h2⟩)
     ·exact .inl h1
     ·exact absurd (by rw [h1, he]) h2
     ·exact .inr h1
   ·rename_i he
    simp only [List.mem_cons, lset_mem_iff hr.2 y]
    constructor
    ·rintro (h1 | h1 | ⟨h1, h2⟩)
     ·exact .inr ⟨.inl h1, by rw [h1]; exact fun e => he e.symm⟩
     ·exact .inl h1
     ·exact .inr ⟨.inr h1, h2⟩
    ·rintro (h1 | ⟨h1 | h1, h2⟩)
     ·exact .inr (.inl h1)
     ·exact .inl h1
     ·exact .inr (.inr ⟨h1, h2⟩)
theorem rises_ext : ∀ {l m : List KV}, Rises l → Rises m → (∀ x, x ∈ l ↔ x ∈ m) → l = m
 | [], [], _, _, _ => rfl
 | [], b :: m, _, _, h => by simpa using (h b).2 (by simp)
 | a :: l, [], _, _, h => by simpa using (h a).1 (by simp)
 | a :: l, b :: m, hl, hm, h => by
  have h1 := List.pairwise_cons.1 hl
  have h2 := List.pairwise_cons.1 hm
  have e : a = b := by
   rcases List.mem_cons.1 ((h a).1 (by simp)) with e | ha
   ·exact e
   ·rcases List.mem_cons.1 ((h b).2 (by simp)) with e | hb
    ·exact e.symm
    ·exact absurd (h2.1 a ha) (lt_asymm (h1.1 b hb))
  subst e
  rw [rises_ext h1.2 h2.2 fun x => ?_]
  constructor
  ·intro hx
   rcases List.mem_cons.1 ((h x).1 (by simp [hx])) with e | hx2
   ·subst e; exact absurd (h1.1 x hx) (lt_irrefl _)
   ·exact hx2
  ·intro hx
   rcases List.mem_cons.1 ((h x).2 (by simp [hx])) with e | hx2
   ·subst e; exact absurd (h2.1 x hx) (lt_irrefl _)
   ·exact hx2
namespace Tr
end Tr
end Go.Proofs.YtdkegmmigongoaaGreatDoor
namespace Go.Proofs.YtdkegmmigongoaaGreatDoor
set_option maxRecDepth 20000
open Go.Awp
theorem lget_some {k v : List UInt8} : ∀ {l : List KV}, Rises l → (lget k l = some v ↔ (k, v) ∈ l)
 | [], _ => by simp [lget]
 | x :: r, h => by
  have hp := List.pairwise_cons.1 h
  unfold lget
  split
  ·rename_i e
   subst e
   constructor
   ·intro h1
    obtain rfl := Option.some.inj h1
    simp
   ·intro h1
    rcases List.mem_cons.1 h1 with h1 | h1
    ·rw [← h1]
    ·exact absurd (hp.1 _ h1) (lt_irrefl _)
  ·rename_i e
   rw [lget_some hp.2, List.mem_cons]
   exact ⟨.inr, fun h1 => h1.resolve_left fun h2 => e (by rw [← h2])⟩
theorem lget_lset {k v kk : List UInt8} : ∀ {l : List KV}, Rises l → lget kk (lset k v l) = if kk = k then some v else lget kk l
 | [], _ => by
  simp only [lset, lget]
  by_cases e : kk = k
  ·rw [if_pos e.symm, if_pos e]
  ·rw [if_neg (fun h => e h.symm), if_neg e]
 | x :: r, h => by
  have hp := List.pairwise_cons.1 h
  unfold lset
  split
  ·simp only [lget]
   by_cases e : kk = k
   ·rw [if_pos e.symm, if_pos e]
   ·rw [if_neg (fun h => e h.symm), if_neg e]
  ·split
   ·rename_i e0
    simp only [lget]
    by_cases e : kk = k
    ·rw [if_pos e.symm, if_pos e]
    ·rw [if_neg (fun h => e h.symm), if_neg e, if_neg (fun h => e (by rw [← h, e0]))]
   ·rename_i e0
    simp only [lget]
    by_cases e1 : x.1 = kk
    ·rw [if_pos e1, if_pos e1, if_neg (fun e => e0 (by rw [← e, e1]))]
    ·rw [if_neg e1, if_neg e1, lget_lset hp.2]
theorem lget_lcut {k kk : List UInt8} : ∀ {l : List KV}, lget kk (lcut k l) = if kk = k then none else lget kk l
 | [] => by simp [lcut, lget]
 | x :: r => by
  have ih := lget_lcut (k := k) (kk := kk) (l := r)
  unfold lcut at ih ⊢
  rw [List.filter_cons]
  by_cases e : x.1 = k
  ·rw [if_neg (by simp [e]), ih]
   by_cases e2 : kk = k
   ·rw [if_pos e2, if_pos e2]
   ·rw [if_neg e2, if_neg e2, lget, if_neg (fun h => e2 (by rw [← h, e]))]
  ·rw [if_pos (by simp [e])]
   simp only [lget]
   by_cases e1 : x.1 = kk
   ·rw [if_pos e1, if_pos e1, if_neg (fun h => e (by rw [e1, h]))]
   ·rw [if_neg e1, if_neg e1, ih]
theorem lset_length {k v : List UInt8} : ∀ {l : List KV}, Rises l → (lset k v l).length = if (lget k l).isSome = true then l.length else l.length + 1
 | [], _ => by simp [lset, lget]
 | x :: r, h => by
  have hp := List.pairwise_cons.1 h
  unfold lset
  split
  ·rename_i hlt
   have : lget k (x :: r) = none := lget_none fun y hy => by
    rcases List.mem_cons.1 hy with rfl | hy
    ·exact fun e => lt_ne hlt e.symm
    ·exact fun e => lt_ne (lt_trans hlt (hp.1 y hy)) e.symm
   rw [this]; rfl
  ·split
   ·rename_i e
    simp [lget, e]
   ·rename_i e
    have e' : lget k (x :: r) = lget k r := by rw [lget, if_neg (fun h => e h.symm)]
    rw [e', List.length_cons, lset_length hp.2, List.length_cons]
    split <;> rfl
theorem lcut_length {k : List UInt8} {l : List KV} (h : Rises l) : (lcut k l).length = if (lget k l).isSome = true then l.length - 1 else l.length := by
 induction l with
 | nil => simp [lcut, lget]
 | cons x r ih =>
  have hp := List.pairwise_cons.1 h
  have ih := ih hp.2
  unfold lcut at ih ⊢
  rw [List.filter_cons]
  by_cases e : x.1 = k
  ·have hf : (r.filter fun y => !(y.1 == k)) = r := List.filter_eq_self.2 fun y hy => by
    have := hp.1 y hy
    simp only [Bool.not_eq_true', beq_eq_false_iff_ne, ne_eq]
    exact fun e2 => lt_ne this (by rw [e, e2])
   rw [if_neg (by simp [e]), hf, lget, if_pos e]
   simp
  ·rw [if_pos (by simp [e]), List.length_cons, ih, lget, if_neg e]
   split
   ·rename_i hs
    cases r with
    | nil => simp [lget] at hs
    | cons => simp
   ·rfl
theorem lget_ext {l m : List KV} (hl : Rises l) (hm : Rises m) (h : ∀ k, lget k l = lget k m) : l = m := by
 have key : ∀ {l m : List KV}, Rises l → Rises m → (∀ k, lget k l = lget k m) → ∀ x, x ∈ l → x ∈ m := fun {l m} hl hm h x hx => by
  have := (lget_some hl).2 (show (x.1, x.2) ∈ l from hx)
  rw [h] at this
  exact (lget_some hm).1 this
 exact rises_ext hl hm fun x => ⟨key hl hm h x, key hm hl (fun k => (h k).symm) x⟩
namespace Tr
theorem set_get {k v kk : List UInt8} {t : Tr} (h : Rises t.row) : (t.set k v).get kk = if kk = k then some v else t.get kk := by
 have h2 : Rises (t.set k v).row := by rw [set_row _ _ _ h]; exact lset_rises h
 rw [get_row _ _ h2, get_row _ _ h, set_row _ _ _ h, lget_lset h]
theorem cut_size_eq {k : List UInt8} {t : Tr} (h : Rises t.row) : (t.cut k).size = if (t.get k).isSome = true then t.size - 1 else t.size := by
 rw [← row_len, ← row_len, cut_row _ _ h, lcut_length h, get_row _ _ h]
theorem set_rises {k v : List UInt8} {t : Tr} (h : Rises t.row) : Rises (t.set k v).row := by rw [set_row _ _ _ h]; exact lset_rises h
theorem cut_rises {k : List UInt8} {t : Tr} (h : Rises t.row) : Rises (t.cut k).row := by rw [cut_row _ _ h]; exact lcut_rises h
end Tr
end Go.Proofs.YtdkegmmigongoaaGreatDoor
namespace Go.Proofs.YtdkegmmigongoaaGreatDoor
set_option maxRecDepth 20000
open Go.Awp
def hpk (σ : List Nat) : Hd → Hd
 | .o j => .o j
 | .l i => match σ[i]? with
  | some k => .l k
  | none => .l i
def tpk (σ : List Nat) : TV → TV
 | .p x => .p x
 | .ad h off => .ad (hpk σ h) off
 | .sl h a b c => .sl (hpk σ h) a b c
 | .el s e i off => .el (tpk σ s) e i off
 | .agg l => .agg (pkL σ l)
 | .tup l => .tup (pkL σ l)
 | .fn f l => .fn f (pkL σ l)
 | .opt c x => .opt c (tpk σ x)
where pkL (σ : List Nat) : List TV → List TV
 | [] => []
 | x :: r => tpk σ x :: pkL σ r
def opk (σ : List Nat) : AObj → AObj
 | .box T cells => .box T (tpk.pkL σ cells)
 | o => o
def Pk (L : List AObj) (σ0 : List Nat) : List Nat → List AObj → Prop
 | [], [] => True
 | k :: r, ob :: obs => (L[k]? = some (opk σ0 ob) ∧ ob.okL σ0.length = true) ∧ Pk L σ0 r obs
 | _, _ => False
theorem Pk.len {L : List AObj} {σ0 : List Nat} : ∀ {σ : List Nat} {L2 : List AObj}, Pk L σ0 σ L2 → L2.length = σ.length
 | [], [], _ => rfl
 | _ :: _, _ :: _, h => by simp [Pk.len h.2]
theorem Pk.get {L : List AObj} {σ0 : List Nat} : ∀ {σ : List Nat} {L2 : List AObj}, Pk L σ0 σ L2 → ∀ {j : Nat} {ob : AObj}, L2[j]? = some ob → ∃ k, σ[j]? = some k ∧ L[k]? = some (opk σ0 ob) ∧ ob.okL σ0.length = true
 | [], [], _, j, ob, hj => by simp at hj
 | k :: r, o :: obs, hl, 0, ob, hj => by
  obtain rfl : o = ob := by simpa using hj
  exact ⟨k, by simp, hl.1.1, hl.1.2⟩
 | k :: r, o :: obs, hl, j + 1, ob, hj => by
  obtain ⟨k', h1, h2⟩ := Pk.get hl.2 (show obs[j]? = some ob by simpa using hj)
  exact ⟨k', by simpa using h1, h2⟩
section
variable {w : World} {β : Hd → Nat} {H L L2 : List AObj} {F : Nat → Prop} {σ : List Nat}
end
theorem opr_app_lz {P : Program} {T : Tab} {env : Env} {H L : List AObj} {o : Oper} {t tx : TypeId} {y z : Operand} {e : Nat} {te : TyI} {b : Bool} {rows : List AV} {s : TV} {d : AV} (hT : TabOk P T) (ho : o.op = .call { callee := .builtin .append, args := #[y, z], argTypes := #[t, tx] })
  (ht : appT T t tx = some (e, te, b)) (hd : d = .nils ∨ d = .cz) (hy : evA env y = .p d) (hz : evA env z = s) (hs : SrcA H L s rows) (hbs : b = true ↔ ∃ l, s = .p (.str l)) (hc : clR rows) (he : ∀ r ∈ rows, (cellsOf r).length = te.size) (hpos : 0 < te.size) (hb0 : 0 < te.bytes)
  (hfit : rows.length * te.bytes ≤ 140737488355328) : OpR P o env H L (.sl (.l L.length) rows.length 0 rows.length) H (L ++ [.arr e true te.size rows]) := by
 cases rows with
 | nil =>
  have := opr_app_nothing (P := P) (env := env) hT ho ht hd hy hz hs hbs
  intro F w β a next Q hS hE hn
  exact this F w β a next Q hS hE fun w' β' u s1 s2 s3 => by
   obtain ⟨k1, k2⟩ := sim_lazy e hpos s1
   exact hn w' β' u k1 (s2.trans k2) (rep_lazy e te.size hd s3)
 | cons r rs =>
  exact opr_app_new hT ho ht (by rcases hd with rfl | rfl; exact .inl hy; exact .inr hy) hz hs hbs hc he hpos hb0 (by simp) hfit
end Go.Proofs.YtdkegmmigongoaaGreatDoor

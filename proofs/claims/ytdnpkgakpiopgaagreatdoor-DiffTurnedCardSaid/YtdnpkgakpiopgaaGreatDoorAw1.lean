import Derived.WalkKit
import Derived.LoopN
import Derived.Orders
import Derived.Laws.Tables
namespace Go.Awp
open Go.RowKit
inductive AV where
 | int (k : IntKind) (n : Int)
 | bool (b : Bool)
 | str (l : List UInt8)
 | nilp
 | pp (cells : List AV)
 | nils
 | cz
 | ps (rows : List AV)
 | agg (cells : List AV)
 | cell (x : AV)
 | top
 deriving Inhabited
inductive Hd where
 | o (h : Nat)
 | l (i : Nat)
 deriving DecidableEq, Inhabited
inductive TV where
 | p (x : AV)
 | ad (h : Hd) (off : Nat)
 | sl (h : Hd) (n st len : Nat)
 | el (s : TV) (e i off : Nat)
 | agg (l : List TV)
 | tup (l : List TV)
 | fn (f : Nat) (caps : List TV)
 | opt (g : Bool) (x : TV)
 deriving Inhabited
inductive AObj where
 | dead
 | box (T : TypeId) (cells : List TV)
 | arr (T : TypeId) (app : Bool) (esz : Nat) (rows : List AV)
 | raw (x : Obj)
 deriving Inhabited
abbrev AObj.iter (s : List UInt8) (pos : Nat) : AObj := .raw (.stringIter ⟨s.toArray⟩ pos)
def AObj.isMap : AObj → Bool
 | .raw (.map ..) => true
 | _ => false
def adV (m : Bool) (b off : Nat) : Value := match m with
 | true => .map (some b)
 | false => .pointer (some ⟨b, off, none⟩)
def AObj.isBox : AObj → Bool
 | .box .. | .raw .. => true
 | _ => false
def AObj.off : AObj → Bool
 | .dead => true
 | .arr _ true _ [] => true
 | _ => false
structure Hp where
 o : List AObj
 l : List AObj
 F : Nat → Prop
def Hp.get (G : Hp) : Hd → Option AObj
 | .o h => G.o[h]?
 | .l i => G.l[i]?
def Hp.put (G : Hp) : Hd → AObj → Hp
 | .o h, x => ⟨G.o.set h x, G.l, G.F⟩
 | .l i, x => ⟨G.o, G.l.set i x, G.F⟩
def Hp.live (G : Hp) (h : Hd) : Prop := ∃ o, G.get h = some o ∧ o.off = false
def cellsOf : AV → List AV
 | .agg cs => cs
 | x => [x]
def Free (β : Hd → Nat) (G : Hp) (b : Nat) : Prop := ¬ G.F b ∧ ∀ h, G.live h → β h ≠ b
inductive RepA (w : World) (N : Nat → Prop) : AV → Value → Prop
 | int (k n) : RepA w N (.int k n) (.int k n)
 | bool (b) : RepA w N (.bool b) (.bool b)
 | str (l : List UInt8) : RepA w N (.str l) (.string ⟨l.toArray⟩)
 | nilp : RepA w N .nilp (.pointer none)
 | pp (cells : List AV) (a : Addr) (vs : Nat → Value) (hN : N a.block) (hb : a.block < w.heap.size) (hc : ∀ i, i < cells.length → w.cell? (a.add i) = some (vs i))
   (hr : ∀ (i : Nat) (x : AV), cells[i]? = some x → RepA w N x (vs i)) : RepA w N (.pp cells) (.pointer (some a))
 | nils : RepA w N .nils (.slice none 0 0)
 | cz (ao) : RepA w N .cz (.slice ao 0 0)
 | psE (ao c) : RepA w N (.ps []) (.slice ao 0 c)
 | ps (rows : List AV) (a : Addr) (c e : Nat) (vs : Nat → Nat → Value) (hN : N a.block) (hb : a.block < w.heap.size) (he : ∀ r ∈ rows, (cellsOf r).length = e)
   (hc : ∀ i j, i < rows.length → j < e → w.cell? (a.add (i * e + j)) = some (vs i j))
   (hr : ∀ (i j : Nat) (r x : AV), rows[i]? = some r → (cellsOf r)[j]? = some x → RepA w N x (vs i j)) (hl : rows.length ≤ c) : RepA w N (.ps rows) (.slice (some a) rows.length c)
 | agg (xs : List AV) (vs : List Value) (hl : vs.length = xs.length) (hr : ∀ (i : Nat) (x : AV) (v : Value), xs[i]? = some x → vs[i]? = some v → RepA w N x v) : RepA w N (.agg xs) (.agg vs.toArray)
 | cell (x : AV) (v : Value) (h1 : v.oneCell' = true) (hr : RepA w N x v) : RepA w N (.cell x) v
 | top (v) : RepA w N .top v
def csize (w : World) (b : Nat) : Nat := match w.heap[b]? with
 | some (.cells cs _ _) => cs.size
 | _ => 0
structure SlOk (w : World) (blk : Nat) (b : Bool) (e n st len : Nat) (v : Value) : Prop where
 le : st + len ≤ n
 off : b = true → n = 0 → ∃ ao, v = .slice ao 0 0
 on : (b = true → n ≠ 0) → ∃ ao cap, v = .slice ao len cap ∧ len ≤ cap ∧ cap ≤ maxLen ∧ (st = 0 ∨ 0 < len → ao = some ⟨blk, st * e, none⟩) ∧ (b = true → st = 0 → len = n → cap * e = csize w blk)
theorem SlOk.val {w : World} {blk : Nat} {b : Bool} {e n st len : Nat} {v : Value} (h : SlOk w blk b e n st len v) : ∃ ao cap, v = .slice ao len cap ∧ len ≤ cap ∧ cap ≤ maxLen ∧ (0 < len → ao = some ⟨blk, st * e, none⟩) := by
 by_cases hb : b = true ∧ n = 0
 ·have := h.le
  obtain ⟨ao, hq⟩ := h.off hb.1 hb.2
  refine ⟨ao, 0, ?_, by omega, Nat.zero_le _, fun h => by omega⟩
  rw [hq, show len = 0 by omega]
 ·obtain ⟨ao, cap, h1, h2, h3, h4, _⟩ := h.on fun h1 h2 => hb ⟨h1, h2⟩
  exact ⟨ao, cap, h1, h2, h3, fun h => h4 (.inr h)⟩
inductive RepT (w : World) (β : Hd → Nat) (G : Hp) : TV → Value → Prop
 | p {x v} (h : RepA w (Free β G) x v) : RepT w β G (.p x) v
 | ad (h off v) (h1 : v.oneCell' = true) (hl : ∃ o, G.get h = some o) (hv : ∀ o, G.get h = some o → o.isBox = true → v = adV o.isMap (β h) off) : RepT w β G (.ad h off) v
 | sl (h n st len v) (h1 : v.oneCell' = true) (hl : ∃ o, G.get h = some o ∧ ∀ T b e rows, o = .arr T b e rows → n ≤ rows.length)
   (hv : ∀ T b e rows, G.get h = some (.arr T b e rows) → rows.length = n → SlOk w (β h) b e n st len v) : RepT w β G (.sl h n st len) v
 | el {s} (e i off a len c) (hs : RepT w β G s (.slice (some a) len c)) (hi : i < len) : RepT w β G (.el s e i off) (.pointer (some (a.add (i * e + off))))
 | agg (xs : List TV) (vs : List Value) (hl : vs.length = xs.length) (hr : ∀ (i : Nat) (x : TV) (v : Value), xs[i]? = some x → vs[i]? = some v → RepT w β G x v) : RepT w β G (.agg xs) (.agg vs.toArray)
 | tup (xs : List TV) (vs : List Value) (hl : vs.length = xs.length) (hr : ∀ (i : Nat) (x : TV) (v : Value), xs[i]? = some x → vs[i]? = some v → RepT w β G x v) : RepT w β G (.tup xs) (.tuple vs.toArray)
 | fn (f : Nat) (xs : List TV) (vs : List Value) (hl : vs.length = xs.length) (hr : ∀ (i : Nat) (x : TV) (v : Value), xs[i]? = some x → vs[i]? = some v → RepT w β G x v) : RepT w β G (.fn f xs) (.func (.func f) #[] vs.toArray)
 | opt (g : Bool) (x : TV) (v : Value) (h1 : g = true → RepT w β G x v) (h2 : g = false → v = undef) : RepT w β G (.opt g x) v
def Unfrozen (fr : Nat × Nat) (n : Nat) : Prop := ∀ i, i < n → (decide (fr.1 ≤ i) && decide (i < fr.2)) = false
def ObjOk (w : World) (β : Hd → Nat) (G : Hp) (b : Nat) : AObj → Prop
 | .dead => True
 | .box T cells => ∃ cs, w.heap[b]? = some (.cells cs T (0, 0)) ∧ cs.size = cells.length ∧ ∀ (i : Nat) (x : TV), cells[i]? = some x → ∃ v, cs[i]? = some v ∧ RepT w β G x v
 | .arr T app e rows => 0 < e ∧ ((AObj.arr T app e rows).off = false → ∃ cs fr, w.heap[b]? = some (.cells cs T fr) ∧ rows.length * e ≤ cs.size ∧ Unfrozen fr cs.size ∧ (app = true → fr = (0, 0)) ∧ 0 < e ∧
   (∀ r ∈ rows, (cellsOf r).length = e) ∧ ∀ (i j : Nat) (r x : AV), rows[i]? = some r → (cellsOf r)[j]? = some x → ∃ v, cs[i * e + j]? = some v ∧ RepA w (Free β G) x v)
 | .raw x => w.heap[b]? = some x
def TV.ext : TV → Bool
 | .p _ => true
 | .ad (.o _) _ => true
 | .sl (.o _) _ _ _ => true
 | .agg l => extL l
 | .tup l => extL l
 | .fn _ l => extL l
 | .opt _ x => x.ext
 | _ => false
where extL : List TV → Bool
 | [] => true
 | x :: r => x.ext && extL r
def AObj.ext : AObj → Bool
 | .box _ cells => TV.ext.extL cells
 | _ => true
structure Sim (w : World) (β : Hd → Nat) (G : Hp) : Prop where
 objs : ∀ h o, G.get h = some o → ObjOk w β G (β h) o
 inj : ∀ h k, G.live h → G.live k → β h = β k → h = k
 ext : ∀ o ∈ G.o, o.ext = true
 disj : ∀ h, G.live h → ¬ G.F (β h)
 flt : ∀ b, G.F b → b < w.heap.size
def ObjGo (w w' : World) (b b' : Nat) : AObj → AObj → Prop
 | .dead, x => x = .dead
 | _, .dead => True
 | .box T cs, .box T' cs' => T' = T ∧ cs'.length = cs.length ∧ b' = b
 | .arr T a e rows, .arr T' a' e' rows' => T' = T ∧ a' = a ∧ e' = e ∧ rows.length ≤ rows'.length ∧ ((AObj.arr T a e rows).off = false → rows'.length = rows.length → b' = b ∧ csize w' b = csize w b)
 | .raw x, .raw y => (AObj.raw y).isMap = (AObj.raw x).isMap ∧ b' = b
 | _, _ => False
structure Step (w : World) (β : Hd → Nat) (G : Hp) (w' : World) (β' : Hd → Nat) (G' : Hp) : Prop where
 os : w'.os = w.os
 tape : w'.tape = w.tape
 output : w'.output = w.output
 size : w.heap.size ≤ w'.heap.size
 frame : ∀ b, b < w.heap.size → Free β G b → w'.heap[b]? = w.heap[b]? ∧ Free β' G' b
 fr : ∀ b, G.F b → w'.heap[b]? = w.heap[b]?
 F : G'.F = G.F
 obj : ∀ h o, G.get h = some o → ∃ o', G'.get h = some o' ∧ ObjGo w w' (β h) (β' h) o o'
theorem AObj.off_arr {T e : Nat} {b : Bool} {rows : List AV} : (AObj.arr T b e rows).off = false ↔ (b = true → rows.length ≠ 0) := by
 cases b <;> cases rows <;> simp [AObj.off]
theorem ObjGo.refl (w : World) (b : Nat) (o : AObj) : ObjGo w w b b o o := by cases o <;> simp [ObjGo]
theorem Step.refl (w : World) (β : Hd → Nat) (G : Hp) : Step w β G w β G :=
 ⟨rfl, rfl, rfl, Nat.le_refl _, fun _ _ h => ⟨rfl, h⟩, fun _ _ => rfl, rfl, fun _ o ho => ⟨o, ho, ObjGo.refl _ _ _⟩⟩
theorem ObjGo.trans {w w1 w2 : World} {b b1 b2 : Nat} {o o1 o2 : AObj} (h : ObjGo w w1 b b1 o o1) (k : ObjGo w1 w2 b1 b2 o1 o2) : ObjGo w w2 b b2 o o2 := by
 cases o <;> cases o1 <;> cases o2 <;> simp_all [ObjGo]
 rename_i T a e rows T1 a1 e1 rows1 T2 a2 e2 rows2
 obtain ⟨rfl, rfl, rfl, h1, h2⟩ := h
 obtain ⟨rfl, rfl, rfl, k1, k2⟩ := k
 refine ⟨by omega, fun ho hl => ?_⟩
 have e1 : rows1.length = rows.length := by omega
 obtain ⟨g1, g2⟩ := h2 ho e1
 obtain ⟨g3, g4⟩ := k2 (AObj.off_arr.2 fun hb => by have := AObj.off_arr.1 ho hb; omega) (by omega)
 subst g1
 exact ⟨g3, by rw [g4, g2]⟩
theorem Step.trans {w w1 w2 : World} {β β1 β2 : Hd → Nat} {G G1 G2 : Hp} (h : Step w β G w1 β1 G1) (k : Step w1 β1 G1 w2 β2 G2) : Step w β G w2 β2 G2 :=
  ⟨k.os.trans h.os, k.tape.trans h.tape, k.output.trans h.output, Nat.le_trans h.size k.size,
   fun b hb hf => by
     obtain ⟨h1, h2⟩ := h.frame b hb hf
     obtain ⟨k1, k2⟩ := k.frame b (Nat.lt_of_lt_of_le hb h.size) h2
     exact ⟨k1.trans h1, k2⟩,
   fun b hb => (k.fr b (by rw [h.F]; exact hb)).trans (h.fr b hb), k.F.trans h.F,
   fun hd o ho => by
     obtain ⟨o1, h1, g1⟩ := h.obj hd o ho
     obtain ⟨o2, h2, g2⟩ := k.obj hd o1 h1
     exact ⟨o2, h2, g1.trans g2⟩⟩
theorem ObjOk.of_off {w w' : World} {β β' : Hd → Nat} {G G' : Hp} {b b' : Nat} {o : AObj} (hk : ObjOk w β G b o) (h : o.off = true) : ObjOk w' β' G' b' o := by
 cases o with
 | dead => trivial
 | arr => exact ⟨hk.1, fun h' => by rw [h] at h'; cases h'⟩
 | box => cases h
 | raw => cases h
theorem ObjGo.of_off {w w' : World} {b b' : Nat} {o : AObj} (h : o.off = true) : ObjGo w w' b b' o o := by
 cases o with
 | dead => rfl
 | arr => exact ⟨rfl, rfl, rfl, Nat.le_refl _, fun h' => by rw [h] at h'; cases h'⟩
 | box => cases h
 | raw => cases h
theorem qS (o : AObj) : o.off = true ∨ o.off = false := by cases o.off <;> simp
theorem jU (a : Addr) (n : Nat) : (a.add n).block = a.block := by unfold Addr.add; split <;> rfl
theorem RepA.mono {w w' : World} {N N' : Nat → Prop} (hs : w.heap.size ≤ w'.heap.size) (hN : ∀ b, b < w.heap.size → N b → w'.heap[b]? = w.heap[b]? ∧ N' b) {x : AV} {v : Value} (h : RepA w N x v) : RepA w' N' x v := by
 have hcell : ∀ (a : Addr) u, a.block < w.heap.size → N a.block → ∀ i, w.cell? (a.add i) = some u → w'.cell? (a.add i) = some u := by
  intro a u hlt hb i hc
  exact (World.cell?_of_block (by rw [jU]; exact (hN _ hlt hb).1)).trans hc
 induction h with
 | int => exact .int ..
 | bool => exact .bool ..
 | str => exact .str ..
 | nilp => exact .nilp
 | nils => exact .nils
 | cz => exact .cz ..
 | psE => exact .psE ..
 | top => exact .top ..
 | pp cells a vs hn hb hc hr ih => exact .pp cells a vs (hN _ hb hn).2 (Nat.lt_of_lt_of_le hb hs) (fun i hi => hcell a _ hb hn i (hc i hi)) ih
 | ps rows a c e vs hn hb he hc hr hl ih => exact .ps rows a c e vs (hN _ hb hn).2 (Nat.lt_of_lt_of_le hb hs) he (fun i j hi hj => hcell a _ hb hn _ (hc i j hi hj)) ih hl
 | agg xs vs hl hr ih => exact .agg xs vs hl ih
 | cell x v h1 _ ih => exact .cell x v h1 ih
theorem ObjGo.box_of {w w' : World} {b b' : Nat} {o o' : AObj} (h : ObjGo w w' b b' o o') (hb : o'.isBox = true) : o.isBox = true ∧ b' = b ∧ o'.isMap = o.isMap := by
 cases o <;> cases o' <;> simp_all [ObjGo, AObj.isBox]
 rfl
theorem RepT.mono {w w' : World} {β β' : Hd → Nat} {G G' : Hp} (hs : Step w β G w' β' G') {x : TV} {v : Value} (h : RepT w β G x v) : RepT w' β' G' x v := by
 induction h with
 | p h => exact .p (h.mono hs.size hs.frame)
 | ad h off v h1 hl hv =>
  obtain ⟨o, ho⟩ := hl
  obtain ⟨o', ho', hg⟩ := hs.obj h o ho
  refine .ad h off v h1 ⟨o', ho'⟩ fun o2 h2 hb => ?_
  obtain rfl : o' = o2 := by rw [ho'] at h2; exact Option.some.inj h2
  obtain ⟨h3, h4, h5⟩ := hg.box_of hb
  rw [h4, h5]
  exact hv o ho h3
 | sl h n st len v h1 hl hv =>
  obtain ⟨o, ho, hn⟩ := hl
  obtain ⟨o', ho', hg⟩ := hs.obj h o ho
  refine .sl h n st len v h1 ⟨o', ho', fun T b e rows hr => ?_⟩ fun T b e rows hr hlen => ?_
  ·subst hr
   cases o <;> simp [ObjGo] at hg
   have := hn _ _ _ _ rfl
   omega
  ·obtain rfl : o' = .arr T b e rows := by rw [ho'] at hr; exact Option.some.inj hr
   cases o <;> simp [ObjGo] at hg
   rename_i T1 b1 e1 rows1
   obtain ⟨rfl, rfl, rfl, g1, h2⟩ := hg
   have := hn _ _ _ _ rfl
   have hl1 : rows.length = rows1.length := by omega
   have hq := hv _ _ _ _ ho (by omega)
   refine ⟨hq.le, hq.off, fun hon => ?_⟩
   obtain ⟨hb, hc⟩ := h2 (AObj.off_arr.2 fun h => by have := hon h; omega) hl1
   rw [hb, hc]
   exact hq.on hon
 | el e i off ao len c _ hi ih => exact .el e i off ao len c ih hi
 | agg xs vs hl _ ih => exact .agg xs vs hl ih
 | tup xs vs hl _ ih => exact .tup xs vs hl ih
 | fn f xs vs hl _ ih => exact .fn f xs vs hl ih
 | opt g x v _ h2 ih => exact .opt g x v ih h2
theorem ObjOk.mono {w w' : World} {β β' : Hd → Nat} {G G' : Hp} (hs : Step w β G w' β' G') {b : Nat} {o : AObj} (hb : w'.heap[b]? = w.heap[b]?) (h : ObjOk w β G b o) : ObjOk w' β' G' b o := by
 cases o with
 | dead => trivial
 | box T cells =>
  obtain ⟨cs, h1, h2, h4⟩ := h
  exact ⟨cs, hb.trans h1, h2, fun i x hx => let ⟨v, hv, hr⟩ := h4 i x hx; ⟨v, hv, hr.mono hs⟩⟩
 | arr T app e rows =>
  refine ⟨h.1, fun hoff => ?_⟩
  obtain ⟨cs, fr, h1, h2, h3, h4, h5, h6, h7⟩ := h.2 hoff
  exact ⟨cs, fr, hb.trans h1, h2, h3, h4, h5, h6, fun i j r x hr hx => let ⟨v, hv, hr'⟩ := h7 i j r x hr hx; ⟨v, hv, hr'.mono hs.size hs.frame⟩⟩
 | raw x => exact hb.trans h
theorem Sim.lt {w : World} {β : Hd → Nat} {G : Hp} (h : Sim w β G) {k : Hd} (hk : G.live k) : β k < w.heap.size := by
 obtain ⟨o, ho, hne⟩ := hk
 have hb : ∃ x, w.heap[β k]? = some x := by
  have := h.objs k o ho
  cases o with
  | dead => cases hne
  | box => obtain ⟨_, h1, _⟩ := this; exact ⟨_, h1⟩
  | arr => obtain ⟨_, _, h1, _⟩ := this.2 hne; exact ⟨_, h1⟩
  | raw => exact ⟨_, this⟩
 obtain ⟨x, hx⟩ := hb
 exact (Array.getElem?_eq_some_iff.1 hx).1
theorem upd {w w' : World} {β : Hd → Nat} {G G' : Hp} {h : Hd} {o o' : AObj} {b' : Nat} (hS : Sim w β G) (hg : G.get h = some o)
  (hos : w'.os = w.os) (htape : w'.tape = w.tape) (hout : w'.output = w.output) (hsize : w.heap.size ≤ w'.heap.size)
  (hblk : ∀ b, b < w.heap.size → b ≠ β h → w'.heap[b]? = w.heap[b]?) (hlive : o.off = false)
  (hb' : b' = β h ∨ w.heap.size ≤ b') (hgo : ObjGo w w' (β h) b' o o')
  (hG : ∀ k, G'.get k = if k = h then some o' else G.get k) (hF : G'.F = G.F) (hext : ∀ o ∈ G'.o, o.ext = true) :
  let β' : Hd → Nat := fun k => if k = h then b' else β k
  Step w β G w' β' G' ∧ (ObjOk w' β' G' b' o' → Sim w' β' G') := by
 intro β'
 have hlv : ∀ k, G'.live k → G.live k := by
  intro k hk
  by_cases e : k = h
  ·subst e; exact ⟨o, hg, hlive⟩
  ·obtain ⟨x, hx, hn⟩ := hk
   rw [hG, if_neg e] at hx
   exact ⟨x, hx, hn⟩
 have hstep : Step w β G w' β' G' := by
  refine ⟨hos, htape, hout, hsize, fun b hb hf => ⟨hblk b hb fun e => hf.2 h ⟨o, hg, hlive⟩ e.symm, by rw [hF]; exact hf.1, fun k hk => ?_⟩,
   fun b hb => hblk b (hS.flt b hb) fun e => hS.disj h ⟨o, hg, hlive⟩ (e ▸ hb), hF, fun k x hx => ?_⟩
  ·by_cases e : k = h
   ·subst e
    simp only [β', if_true]
    rcases hb' with e | e
    ·rw [e]; exact hf.2 _ ⟨o, hg, hlive⟩
    ·omega
   ·simp only [β', e, if_false]
    exact hf.2 k (hlv k hk)
  ·by_cases e : k = h
   ·subst e
    obtain rfl : o = x := by rw [hg] at hx; exact Option.some.inj hx
    exact ⟨o', by rw [hG, if_pos rfl], by simpa [β'] using hgo⟩
   ·refine ⟨x, by rw [hG, if_neg e]; exact hx, ?_⟩
    simp only [β', e, if_false]
    have hsame : x.off = true ∨ csize w' (β k) = csize w (β k) := by
     rcases qS x with hd | hd
     ·exact .inl hd
     ·refine .inr ?_
      have hkl : G.live k := ⟨x, hx, hd⟩
      unfold csize
      rw [hblk _ (hS.lt hkl) fun hbe => e (hS.inj k h hkl ⟨o, hg, hlive⟩ hbe)]
    rcases hsame with hd | hd
    ·exact ObjGo.of_off hd
    ·cases x <;> simp_all [ObjGo]
 refine ⟨hstep, fun hok => ⟨fun k x hx => ?_, fun k1 k2 h1 h2 he => ?_, hext, fun k hk => ?_, fun b hb => Nat.lt_of_lt_of_le (hS.flt b (by rw [← hF]; exact hb)) hsize⟩⟩
 ·by_cases e : k = h
  ·subst e
   rw [hG, if_pos rfl] at hx
   obtain rfl := Option.some.inj hx
   simpa [β'] using hok
  ·rw [hG, if_neg e] at hx
   simp only [β', e, if_false]
   rcases qS x with hd | hd
   ·exact (hS.objs k x hx).of_off hd
   ·have hkl : G.live k := ⟨x, hx, hd⟩
    exact (hS.objs k x hx).mono hstep (hblk _ (hS.lt hkl) fun hbe => e (hS.inj k h hkl ⟨o, hg, hlive⟩ hbe))
 ·by_cases e1 : k1 = h <;> by_cases e2 : k2 = h
  ·rw [e1, e2]
  ·subst e1
   simp only [β', if_true, e2, if_false] at he
   have l2 := hlv k2 h2
   rcases hb' with e | e
   ·exact absurd (hS.inj _ _ ⟨o, hg, hlive⟩ l2 (e ▸ he)) (fun q => e2 q.symm)
   ·have := hS.lt l2; omega
  ·subst e2
   simp only [β', if_true, e1, if_false] at he
   have l1 := hlv k1 h1
   rcases hb' with e | e
   ·exact absurd (hS.inj _ _ l1 ⟨o, hg, hlive⟩ (e ▸ he)) e1
   ·have := hS.lt l1; omega
  ·simp only [β', e1, e2, if_false] at he
   exact hS.inj _ _ (hlv _ h1) (hlv _ h2) he
 ·rw [hF]
  by_cases e : k = h
  ·subst e
   simp only [β', if_true]
   rcases hb' with e | e
   ·rw [e]; exact hS.disj _ ⟨o, hg, hlive⟩
   ·intro hb; have := hS.flt _ hb; omega
  ·simp only [β', e, if_false]
   exact hS.disj k (hlv k hk)
theorem new {w w' : World} {β : Hd → Nat} {H L : List AObj} {F : Nat → Prop} {o' : AObj} (hS : Sim w β ⟨H, L, F⟩)
  (hos : w'.os = w.os) (htape : w'.tape = w.tape) (hout : w'.output = w.output) (hsize : w.heap.size ≤ w'.heap.size)
  (hblk : ∀ b, b < w.heap.size → w'.heap[b]? = w.heap[b]?) {b' : Nat} (hb' : w.heap.size ≤ b') :
  let β' : Hd → Nat := fun k => if k = .l L.length then b' else β k
  Step w β ⟨H, L, F⟩ w' β' ⟨H, L ++ [o'], F⟩ ∧ (ObjOk w' β' ⟨H, L ++ [o'], F⟩ b' o' → Sim w' β' ⟨H, L ++ [o'], F⟩) := by
 intro β'
 have hget : ∀ k, (⟨H, L ++ [o'], F⟩ : Hp).get k = if k = .l L.length then some o' else (⟨H, L, F⟩ : Hp).get k := by
  intro k
  cases k with
  | o h => simp [Hp.get]
  | l i =>
   simp only [Hp.get, Hd.l.injEq]
   by_cases e : i = L.length
   ·simp [e]
   ·rw [if_neg e, List.getElem?_append]
    split
    ·rfl
    ·rw [List.getElem?_eq_none (by simp; omega), List.getElem?_eq_none (by omega)]
 have hold : ∀ k x, (⟨H, L, F⟩ : Hp).get k = some x → k ≠ .l L.length := by
  intro k x hx e
  subst e
  simp [Hp.get] at hx
 have hlv : ∀ k, k ≠ .l L.length → (⟨H, L ++ [o'], F⟩ : Hp).live k → (⟨H, L, F⟩ : Hp).live k := by
  rintro k hk ⟨x, hx, hn⟩
  rw [hget, if_neg hk] at hx
  exact ⟨x, hx, hn⟩
 have hstep : Step w β ⟨H, L, F⟩ w' β' ⟨H, L ++ [o'], F⟩ := by
  refine ⟨hos, htape, hout, hsize, fun b hb hf => ⟨hblk b hb, hf.1, fun k hk => ?_⟩, fun b hb => hblk b (hS.flt b hb), rfl, fun k x hx => ?_⟩
  ·by_cases e : k = .l L.length
   ·subst e; simp only [β', if_true]; omega
   ·simp only [β', e, if_false]; exact hf.2 k (hlv k e hk)
  ·have e := hold k x hx
   refine ⟨x, by rw [hget, if_neg e]; exact hx, ?_⟩
   simp only [β', e, if_false]
   have hsame : x.off = true ∨ csize w' (β k) = csize w (β k) := by
    rcases qS x with hd | hd
    ·exact .inl hd
    ·refine .inr ?_
     unfold csize
     rw [hblk _ (hS.lt ⟨x, hx, hd⟩)]
   rcases hsame with hd | hd
   ·exact ObjGo.of_off hd
   ·cases x <;> simp_all [ObjGo]
 refine ⟨hstep, fun hok => ⟨fun k x hx => ?_, fun k1 k2 h1 h2 he => ?_, hS.ext, fun k hk => ?_, fun b hb => Nat.lt_of_lt_of_le (hS.flt b hb) hsize⟩⟩
 ·by_cases e : k = .l L.length
  ·subst e
   rw [hget, if_pos rfl] at hx
   obtain rfl := Option.some.inj hx
   simpa [β'] using hok
  ·rw [hget, if_neg e] at hx
   simp only [β', e, if_false]
   rcases qS x with hd | hd
   ·exact (hS.objs k x hx).of_off hd
   ·exact (hS.objs k x hx).mono hstep (hblk _ (hS.lt ⟨x, hx, hd⟩))
 ·by_cases e1 : k1 = .l L.length <;> by_cases e2 : k2 = .l L.length
  ·rw [e1, e2]
  ·simp only [β', e1, e2, if_true, if_false] at he
   have := hS.lt (hlv k2 e2 h2); omega
  ·simp only [β', e1, e2, if_true, if_false] at he
   have := hS.lt (hlv k1 e1 h1); omega
  ·simp only [β', e1, e2, if_false] at he
   exact hS.inj _ _ (hlv _ e1 h1) (hlv _ e2 h2) he
 ·by_cases e : k = .l L.length
  ·subst e; simp only [β', if_true]
   intro hb; have := hS.flt _ hb; omega
  ·simp only [β', e, if_false]; exact hS.disj k (hlv k e hk)
abbrev Env := List (Nat × TV)
def lk : Env → Nat → TV
 | [], _ => .p .top
 | (t, v) :: r, s => match Nat.beq t s with
  | true => v
  | false => lk r s
theorem y4 (t : Nat) (v : TV) (r : Env) (s : Nat) : lk ((t, v) :: r) s = if s = t then v else lk r s := by
 simp only [lk]
 cases h : Nat.beq t s with
 | true => rw [Nat.eq_of_beq_eq_true h]; simp
 | false => have := Nat.ne_of_beq_eq_false h; simp [Ne.symm this]
structure Ctx where
 N : Nat
 w0 : World
 β0 : Hd → Nat
 H0 : List AObj
 F : Nat → Prop
def EnvR (w : World) (β : Hd → Nat) (G : Hp) (env : Env) (a : Act) : Prop := ∀ t, RepT w β G (lk env t) (a.tmps.getD t undef)
structure St (Γ : Ctx) (env : Env) (H L : List AObj) (a : Act) (w : World) (β : Hd → Nat) : Prop where
 sim : Sim w β ⟨H, L, Γ.F⟩
 step : Step Γ.w0 Γ.β0 ⟨Γ.H0, [], Γ.F⟩ w β ⟨H, L, Γ.F⟩
 env : EnvR w β ⟨H, L, Γ.F⟩ env a
 size : a.tmps.size = Γ.N
 defers : a.defers = []
def J (Γ : Ctx) (env : Env) (H L : List AObj) (Φ : Act → World → Prop) : Prop := ∀ a w β, St Γ env H L a w β → Φ a w
theorem EnvR.mono {w w' : World} {β β' : Hd → Nat} {G G' : Hp} {env : Env} {a : Act} (hs : Step w β G w' β' G') (h : EnvR w β G env a) : EnvR w' β' G' env a := fun t => (h t).mono hs
theorem EnvR.put {w : World} {β : Hd → Nat} {G : Hp} {env : Env} {a : Act} (h : EnvR w β G env a) {d : Nat} {x : TV} {v : Value} (hd : d < a.tmps.size) (hx : RepT w β G x v) : EnvR w β G ((d, x) :: env) (a.put (some d) v) := by
 intro t
 rw [y4]
 by_cases e : t = d
 ·subst e
  simpa [Act.put, Array.getD, hd] using hx
 ·rw [if_neg e]
  have := h t
  simpa [Act.put, Array.getD_eq_getD_getElem?, Array.getElem?_setIfInBounds_ne (Ne.symm e)] using this
def putE (env : Env) : Option Nat → TV → Env
 | some d, x => (d, x) :: env
 | none, _ => env
def dstOk (N : Nat) : Option Nat → Bool
 | some d => Nat.blt d N
 | none => true
theorem EnvR.putE {w : World} {β : Hd → Nat} {G : Hp} {env : Env} {a : Act} (h : EnvR w β G env a) {d : Option Nat} {x : TV} {v : Value} (hd : dstOk a.tmps.size d = true) (hx : RepT w β G x v) : EnvR w β G (putE env d x) (a.put d v) := by
 cases d with
 | none => exact h
 | some d => exact h.put (by simpa [dstOk, Nat.blt_eq] using hd) hx
theorem zBk (a : Act) (d : Option Nat) (v : Value) : (a.put d v).tmps.size = a.tmps.size := by cases d <;> simp [Act.put]
theorem qL (a : Act) (d : Option Nat) (v : Value) : (a.put d v).defers = a.defers := by cases d <;> rfl
def Sub (env env' : Env) : Prop := ∀ t, lk env' t = lk env t ∨ lk env' t = .p .top
def AllLk (env : Env) : Env → Prop
 | [] => True
 | (t, v) :: r => lk env t = v ∧ AllLk env r
theorem jE {env : Env} : ∀ {env' : Env}, AllLk env env' → Sub env env'
 | [], _ => fun _ => .inr rfl
 | (t, v) :: r, h => fun s => by
  rw [y4]
  by_cases e : s = t
  ·subst e; simp [h.1]
  ·rw [if_neg e]; exact jE h.2 s
theorem EnvR.sub {w : World} {β : Hd → Nat} {G : Hp} {env env' : Env} {a : Act} (hs : Sub env env') (h : EnvR w β G env a) : EnvR w β G env' a := fun t => by
 rcases hs t with e | e
 ·rw [e]; exact h t
 ·rw [e]; exact .p (.top _)
theorem zH7 {Γ : Ctx} {env : Env} {H L : List AObj} {Φ : Act → World → Prop} (env' : Env) (hs : AllLk env env') (h : J Γ env' H L Φ) : J Γ env H L Φ :=
 fun a w β s => h a w β ⟨s.sim, s.step, s.env.sub (jE hs), s.size, s.defers⟩
theorem zFf {Γ : Ctx} {env : Env} {H L : List AObj} {Φ Ψ : Act → World → Prop} (h : J Γ env H L Φ) (hi : ∀ a w, Φ a w → Ψ a w) : J Γ env H L Ψ := fun a w β s => hi _ _ (h a w β s)
section
variable {P : Program} {Γ : Ctx} {env : Env} {H L : List AObj} {Q : Exit → Act → World → Prop}
theorem zHm {x y : Code} (h : J Γ env H L (x.wp P (Exit.then (y.wp P Q) Q))) : J Γ env H L ((Code.seq x y).wp P Q) := zFf h fun _ _ => wp_seq
theorem zH2 (h : J Γ env H L (Q .normal)) : J Γ env H L (Code.skip.wp P Q) := zFf h fun _ _ => wp_skip
theorem zRr (h : J Γ env H L (Q .ret)) : J Γ env H L (Code.ret.wp P Q) := zFf h fun _ _ => wp_ret
theorem zHv {i : Nat} (h : J Γ env H L (Q (.exit i))) : J Γ env H L ((Code.exit i).wp P Q) := zFf h fun _ _ => wp_exit
theorem zE1 {i : Nat} {c : Code} (h : J Γ env H L (c.wp P (Exit.inBlock i Q))) : J Γ env H L ((Code.block i c).wp P Q) := zFf h fun _ _ => wp_block
theorem jT {n : Act → World → Prop} (h : J Γ env H L n) : J Γ env H L (Exit.then n Q .normal) := h
theorem j8 {n : Act → World → Prop} (h : J Γ env H L (Q .ret)) : J Γ env H L (Exit.then n Q .ret) := h
theorem jA {n : Act → World → Prop} {i : Nat} (h : J Γ env H L (Q (.exit i))) : J Γ env H L (Exit.then n Q (.exit i)) := h
theorem zQ0 {i : Nat} (h : J Γ env H L (Q .normal)) : J Γ env H L (Exit.inBlock i Q .normal) := h
theorem zBc {i : Nat} (h : J Γ env H L (Q .ret)) : J Γ env H L (Exit.inBlock i Q .ret) := h
theorem j9 {i : Nat} (h : J Γ env H L (Q .normal)) : J Γ env H L (Exit.inBlock i Q (.exit i)) := by
 intro a w β s; simp only [Exit.inBlock, if_true]; exact h a w β s
theorem qB {i j : Nat} (hne : Nat.beq j i = false) (h : J Γ env H L (Q (.exit j))) : J Γ env H L (Exit.inBlock i Q (.exit j)) := by
 intro a w β s; simp only [Exit.inBlock, if_neg (Nat.ne_of_beq_eq_false hne)]; exact h a w β s
def evA (env : Env) : Operand → TV
 | .tmp t => lk env t
 | .const v => match v with
  | .int k n => .p (.int k n)
  | .bool b => .p (.bool b)
  | .string s => .p (.str s.data.toList)
  | .pointer none => .p .nilp
  | .slice none 0 0 => .p .nils
  | _ => .p .top
 | .global _ => .p .top
 | .func f => .fn f []
theorem zL {w : World} {β : Hd → Nat} {G : Hp} {a : Act} (he : EnvR w β G env a) (x : Operand) : RepT w β G (evA env x) (a.eval x) := by
 cases x with
 | tmp t => exact he t
 | const v =>
  simp only [evA, Act.eval]
  split
  ·exact .p (.int ..)
  ·exact .p (.bool ..)
  ·rename_i s
   have : (⟨s.data.toList.toArray⟩ : ByteArray) = s := by cases s; simp
   have h := RepA.str (w := w) (N := Free β G) s.data.toList
   rw [this] at h
   exact .p h
  ·exact .p .nilp
  ·exact .p .nils
  ·exact .p (.top _)
 | global g => exact .p (.top _)
 | func f => exact .fn f [] [] rfl (by simp)
theorem RepT.bool_inv {w : World} {β : Hd → Nat} {G : Hp} {b : Bool} {v : Value} (h : RepT w β G (.p (.bool b)) v) : v = .bool b := by
 cases h with | p h => cases h; rfl
theorem RepT.int_inv {w : World} {β : Hd → Nat} {G : Hp} {k : IntKind} {n : Int} {v : Value} (h : RepT w β G (.p (.int k n)) v) : v = .int k n := by
 cases h with | p h => cases h; rfl
theorem RepT.str_inv {w : World} {β : Hd → Nat} {G : Hp} {l : List UInt8} {v : Value} (h : RepT w β G (.p (.str l)) v) : v = .string ⟨l.toArray⟩ := by
 cases h with | p h => cases h; rfl
theorem yU {c : Operand} {x y : Code} {b : Bool} (hc : evA env c = .p (.bool b)) (ht : b = true → J Γ env H L (x.wp P Q)) (hf : b = false → J Γ env H L (y.wp P Q)) : J Γ env H L ((Code.cond c x y).wp P Q) := by
 intro a w β s
 have hv := zL s.env c
 rw [hc] at hv
 exact wp_cond_split hv.bool_inv (fun h => ht h a w β s) (fun h => hf h a w β s)
def OpR (P : Program) (o : Oper) (env : Env) (H L : List AObj) (x : TV) (H' L' : List AObj) : Prop :=
 ∀ F w β a next (Q : Exit → Act → World → Prop), Sim w β ⟨H, L, F⟩ → EnvR w β ⟨H, L, F⟩ env a →
  (∀ w' β' u, Sim w' β' ⟨H', L', F⟩ → Step w β ⟨H, L, F⟩ w' β' ⟨H', L', F⟩ → RepT w' β' ⟨H', L', F⟩ x u → next (a.put o.dst u) w') → o.wp P a w next Q
theorem St.next {a : Act} {w w' : World} {β β' : Hd → Nat} {H' L' : List AObj} {d : Option Nat} {x : TV} {u : Value} (s : St Γ env H L a w β) (hd : dstOk Γ.N d = true)
  (hS : Sim w' β' ⟨H', L', Γ.F⟩) (hst : Step w β ⟨H, L, Γ.F⟩ w' β' ⟨H', L', Γ.F⟩) (hx : RepT w' β' ⟨H', L', Γ.F⟩ x u) : St Γ (putE env d x) H' L' (a.put d u) w' β' :=
 ⟨hS, s.step.trans hst, (s.env.mono hst).putE (by rw [s.size]; exact hd) hx, by rw [zBk]; exact s.size, by rw [qL]; exact s.defers⟩
variable {ops : Array Oper} {rest : List Oper} {o : Oper}
theorem zLy (h : J Γ env H L (Q .normal)) : J Γ env H L (wpList P ops Q []) := h
theorem zBv {x : TV} {H' L' : List AObj} (hg : o.guard = none) (hd : dstOk Γ.N o.dst = true) (h : OpR P o env H L x H' L') (k : J Γ (putE env o.dst x) H' L' (wpList P ops Q rest)) : J Γ env H L (wpList P ops Q (o :: rest)) := by
 intro a w β s
 unfold wpList
 rw [if_pos (by simp [Region.wanted, hg])]
 exact .inl (h Γ.F w β a _ Q s.sim s.env fun w' β' u hS hst hx => k _ _ _ (s.next hd hS hst hx))
def gA (ops : Array Oper) (env : Env) (j : Nat) : Option Bool :=
 match (ops[j]?).bind (·.dst) with
 | some d => match lk env d with
  | .p (.bool b) => some b
  | _ => none
 | none => none
theorem zUz {w : World} {β : Hd → Nat} {G : Hp} {a : Act} {j : Nat} {b : Bool} (he : EnvR w β G env a) (h : gA ops env j = some b) : yielded ops a.tmps j = some b := by
 unfold gA at h
 unfold yielded
 split at h
 ·rename_i d hd
  rw [hd]
  split at h
  ·rename_i b' hb
   obtain rfl : b' = b := by simpa using h
   have := he d
   rw [hb] at this
   have hv := this.bool_inv
   have hlt : d < a.tmps.size := by
    rcases Nat.lt_or_ge d a.tmps.size with h | h
    ·exact h
    ·simp [Array.getD, Nat.not_lt.2 h, undef] at hv
   have h2 : a.tmps[d]? = some (.bool b') := by
    rw [Array.getElem?_eq_getElem hlt]
    simpa [Array.getD, hlt] using hv
   simp [h2]
  ·cases h
 ·cases h
theorem zF2 {x : TV} {H' L' : List AObj} {j : Nat} {b : Bool} (hg : o.guard = some (j, b)) (hb : gA ops env j = some b) (hd : dstOk Γ.N o.dst = true) (h : OpR P o env H L x H' L') (k : J Γ (putE env o.dst x) H' L' (wpList P ops Q rest)) : J Γ env H L (wpList P ops Q (o :: rest)) := by
 intro a w β s
 unfold wpList
 rw [if_pos (by simp [Region.wanted, hg, zUz s.env hb])]
 exact .inl (h Γ.F w β a _ Q s.sim s.env fun w' β' u hS hst hx => k _ _ _ (s.next hd hS hst hx))
theorem J_no {j : Nat} {b : Bool} (hg : o.guard = some (j, b)) (hb : gA ops env j = some (!b)) (hd : dstOk Γ.N o.dst = true) (k : J Γ (putE env o.dst (.p .top)) H L (wpList P ops Q rest)) : J Γ env H L (wpList P ops Q (o :: rest)) := by
 intro a w β s
 unfold wpList
 rw [if_neg (by simp [Region.wanted, hg, zUz s.env hb])]
 exact k _ _ _ (s.next hd s.sim (Step.refl ..) (.p (.top _)))
theorem zAp {Φ : Act → World → Prop} (d : Nat) {b : Bool} (hb : lk env d = .p (.bool b)) (ht : b = true → J Γ ((d, .p (.bool true)) :: env) H L Φ) (hf : b = false → J Γ ((d, .p (.bool false)) :: env) H L Φ) : J Γ env H L Φ := by
 intro a w β s
 cases hc : b with
 | true =>
  refine ht hc a w β ⟨s.sim, s.step, fun t => ?_, s.size, s.defers⟩
  rw [y4]
  split
  ·rename_i e; subst e; rw [← hc, ← hb]; exact s.env t
  ·exact s.env t
 | false =>
  refine hf hc a w β ⟨s.sim, s.step, fun t => ?_, s.size, s.defers⟩
  rw [y4]
  split
  ·rename_i e; subst e; rw [← hc, ← hb]; exact s.env t
  ·exact s.env t
theorem zCx {id : Nat} {l : List Oper} (h : J Γ env H L (wpList P l.toArray Q l)) : J Γ env H L ((Code.region id l.toArray false).wp P Q) := zFf h fun _ _ => wp_region_lit
theorem z9 {ι : Type} (ei : ι → Env) (Hi Li : ι → List AObj) (m : ι → Nat) (i0 : ι) {c : Code} (hs : AllLk env (ei i0)) (hH : Hi i0 = H) (hL : Li i0 = L)
  (round : ∀ i, J Γ (ei i) (Hi i) (Li i) (c.wp P (Exit.then (fun a w => ∃ j β, m j < m i ∧ St Γ (ei j) (Hi j) (Li j) a w β) Q))) : J Γ env H L ((Code.loop c).wp P Q) := by
 subst hH hL
 refine zH7 (ei i0) hs ?_
 have key : ∀ n i, m i < n → J Γ (ei i) (Hi i) (Li i) (Code.rounds P c Q n) := by
  intro n
  induction n with
  | zero => intro i h; omega
  | succ n ih =>
   intro i hi a w β s
   rw [rounds_succ]
   refine wp_mono (round i a w β s) fun e a w he => ?_
   cases e with
   | normal =>
    obtain ⟨j, β', hj, s'⟩ := he
    exact ih j (by omega) a w β' s'
   | _ => exact he
 exact zFf (key (m i0 + 1) i0 (by omega)) fun _ _ => wp_loop_rounds _
end
def RepL (w : World) (β : Hd → Nat) (G : Hp) (xs : List TV) (vs : List Value) : Prop := vs.length = xs.length ∧ ∀ (i : Nat) (x : TV) (v : Value), xs[i]? = some x → vs[i]? = some v → RepT w β G x v
def callable (P : Program) (f : FuncId) : Bool := match P.funcs[f]? with
 | some fn => fn.name != "runtime.NumGoroutine" && fn.body.isSome
 | none => false
structure Con (P : Program) (f : FuncId) (args : List TV) (H : List AObj) (r : TV) (H' news : List AObj) : Prop where
 can : callable P f = true
 run : ∀ F w β vs, Sim w β ⟨H, [], F⟩ → RepL w β ⟨H, [], F⟩ args vs → Calls P f vs.toArray w fun e w' =>
  ∃ β' v, e = .returned v ∧ Sim w' β' ⟨H', news, F⟩ ∧ Step w β ⟨H, [], F⟩ w' β' ⟨H', news, F⟩ ∧ RepT w' β' ⟨H', news, F⟩ r v
def TV.shift (n : Nat) : TV → TV
 | .p x => .p x
 | .ad (.l i) off => .ad (.l (n + i)) off
 | .ad h off => .ad h off
 | .sl (.l i) a b c => .sl (.l (n + i)) a b c
 | .sl h a b c => .sl h a b c
 | .el s e i off => .el (s.shift n) e i off
 | .agg l => .agg (shiftL n l)
 | .tup l => .tup (shiftL n l)
 | .fn f l => .fn f (shiftL n l)
 | .opt g x => .opt g (x.shift n)
where shiftL (n : Nat) : List TV → List TV
 | [] => []
 | x :: r => x.shift n :: shiftL n r
def AObj.shift (n : Nat) : AObj → AObj
 | .box T cells => .box T (TV.shift.shiftL n cells)
 | o => o
mutual
theorem ext_shift (n : Nat) : ∀ (x : TV), x.ext = true → x.shift n = x
 | .p _, _ => rfl
 | .ad (.o _) _, _ => rfl
 | .ad (.l _) _, h => by simp [TV.ext] at h
 | .sl (.o _) _ _ _, _ => rfl
 | .sl (.l _) _ _ _, h => by simp [TV.ext] at h
 | .el .., h => by simp [TV.ext] at h
 | .agg l, h => by simp only [TV.shift]; rw [zA1 n l (by simpa [TV.ext] using h)]
 | .tup l, h => by simp only [TV.shift]; rw [zA1 n l (by simpa [TV.ext] using h)]
 | .fn f l, h => by simp only [TV.shift]; rw [zA1 n l (by simpa [TV.ext] using h)]
 | .opt g x, h => by simp only [TV.shift]; rw [ext_shift n x (by simpa [TV.ext] using h)]
theorem zA1 (n : Nat) : ∀ (l : List TV), TV.ext.extL l = true → TV.shift.shiftL n l = l
 | [], _ => rfl
 | x :: r, h => by
  simp only [TV.ext.extL, Bool.and_eq_true] at h
  simp only [TV.shift.shiftL]
  rw [ext_shift n x h.1, zA1 n r h.2]
end
theorem zAw (n : Nat) : ∀ (l : List TV) (i : Nat), (TV.shift.shiftL n l)[i]? = (l[i]?).map (TV.shift n)
 | [], i => by simp [TV.shift.shiftL]
 | x :: r, 0 => by simp [TV.shift.shiftL]
 | x :: r, i + 1 => by simpa [TV.shift.shiftL] using zAw n r i
theorem qU (n : Nat) : ∀ (l : List TV), (TV.shift.shiftL n l).length = l.length
 | [] => rfl
 | x :: r => by simp [TV.shift.shiftL, qU n r]
theorem jI : ∀ {l : List TV} {i : Nat} {x : TV}, TV.ext.extL l = true → l[i]? = some x → x.ext = true
 | [], i, x, _, h => by simp at h
 | y :: r, 0, x, h, hx => by
  simp only [TV.ext.extL, Bool.and_eq_true] at h
  obtain rfl : y = x := by simpa using hx
  exact h.1
 | y :: r, i + 1, x, h, hx => by
  simp only [TV.ext.extL, Bool.and_eq_true] at h
  exact jI h.2 (by simpa using hx)
theorem AObj.shift_off (n : Nat) (o : AObj) : (o.shift n).off = false ↔ o.off = false := by cases o <;> simp [AObj.shift, AObj.off]
theorem AObj.shift_isBox (n : Nat) (o : AObj) : (o.shift n).isBox = o.isBox := by cases o <;> rfl
theorem AObj.shift_isMap (n : Nat) (o : AObj) : (o.shift n).isMap = o.isMap := by cases o <;> rfl
theorem AObj.ext_shift (n : Nat) (o : AObj) (h : o.ext = true) : o.shift n = o := by
 cases o <;> simp only [AObj.shift]
 rw [zA1 n _ h]
section
variable {w : World} {β : Hd → Nat} {H L : List AObj} {F : Nat → Prop}
def lendF (β : Hd → Nat) (L : List AObj) (F : Nat → Prop) (b : Nat) : Prop := F b ∨ ∃ i o, L[i]? = some o ∧ o.off = false ∧ β (.l i) = b
theorem zGd (b : Nat) (h : Free β ⟨H, L, F⟩ b) : Free β ⟨H, [], lendF β L F⟩ b := by
 obtain ⟨h1, h2⟩ := h
 refine ⟨fun hb => ?_, fun k hk => ?_⟩
 ·rcases hb with hb | ⟨i, o, hi, hne, rfl⟩
  ·exact h1 hb
  ·exact h2 (.l i) ⟨o, hi, hne⟩ rfl
 ·cases k with
  | o k => exact h2 _ hk
  | l i => obtain ⟨o, ho, _⟩ := hk; simp [Hp.get] at ho
theorem RepT.lend {x : TV} {v : Value} (h : RepT w β ⟨H, L, F⟩ x v) (hx : x.ext = true) : RepT w β ⟨H, [], lendF β L F⟩ x v := by
 induction h with
 | p h => exact .p (h.mono (Nat.le_refl _) fun b _ hb => ⟨rfl, zGd b hb⟩)
 | ad h off v h1 hl hv => cases h with
  | o k => exact .ad _ off v h1 hl hv
  | l i => simp [TV.ext] at hx
 | sl h n st len v h1 hl hv => cases h with
  | o k => exact .sl _ n st len v h1 hl hv
  | l i => simp [TV.ext] at hx
 | el => simp [TV.ext] at hx
 | agg xs vs hl hr ih => exact .agg xs vs hl fun i x v h1 h2 => ih i x v h1 h2 (jI (by simpa [TV.ext] using hx) h1)
 | tup xs vs hl hr ih => exact .tup xs vs hl fun i x v h1 h2 => ih i x v h1 h2 (jI (by simpa [TV.ext] using hx) h1)
 | fn f xs vs hl hr ih => exact .fn f xs vs hl fun i x v h1 h2 => ih i x v h1 h2 (jI (by simpa [TV.ext] using hx) h1)
 | opt g x v h1 h2 ih => exact .opt g x v (fun hg => ih hg (by simpa [TV.ext] using hx)) h2
theorem Sim.lend (h : Sim w β ⟨H, L, F⟩) : Sim w β ⟨H, [], lendF β L F⟩ := by
 refine ⟨fun k o ho => ?_, fun k j hk hj => ?_, h.ext, fun k hk hb => ?_, fun b hb => ?_⟩
 ·cases k with
  | l i => simp [Hp.get] at ho
  | o k =>
   have hx : o.ext = true := h.ext o (List.mem_of_getElem? ho)
   have := h.objs (.o k) o ho
   cases o with
   | dead => trivial
   | box T cells =>
    obtain ⟨cs, h1, h2, h4⟩ := this
    exact ⟨cs, h1, h2, fun i x hi => let ⟨v, hv, hr⟩ := h4 i x hi; ⟨v, hv, hr.lend (jI (by simpa [AObj.ext] using hx) hi)⟩⟩
   | arr T app e rows =>
    refine ⟨this.1, fun hoff => ?_⟩
    obtain ⟨cs, fr, h1, h2, h3, h4, h5, h6, h7⟩ := this.2 hoff
    exact ⟨cs, fr, h1, h2, h3, h4, h5, h6, fun i j r x hr hx => let ⟨v, hv, hr'⟩ := h7 i j r x hr hx; ⟨v, hv, hr'.mono (Nat.le_refl _) fun b _ hb => ⟨rfl, zGd b hb⟩⟩⟩
   | raw x => exact this
 ·cases k with
  | l i => obtain ⟨o, ho, _⟩ := hk; simp [Hp.get] at ho
  | o k => cases j with
   | l i => obtain ⟨o, ho, _⟩ := hj; simp [Hp.get] at ho
   | o j => exact h.inj (.o k) (.o j) hk hj
 ·cases k with
  | l i => obtain ⟨o, ho, _⟩ := hk; simp [Hp.get] at ho
  | o k =>
   rcases hb with hb | ⟨i, o, hi, hne, he⟩
   ·exact h.disj (.o k) hk hb
   ·have := h.inj (.l i) (.o k) ⟨o, hi, hne⟩ hk he
    cases this
 ·rcases hb with hb | ⟨i, o, hi, hne, rfl⟩
  ·exact h.flt b hb
  ·exact h.lt ⟨o, hi, hne⟩
variable {w' : World} {β1 : Hd → Nat} {H' news : List AObj}
def joinβ (β β1 : Hd → Nat) (n : Nat) : Hd → Nat
 | .o h => β1 (.o h)
 | .l i => if i < n then β (.l i) else β1 (.l (i - n))
theorem qO (i : Nat) : (⟨H', L ++ news.map (AObj.shift L.length), F⟩ : Hp).get (.l (L.length + i)) = (news[i]?).map (AObj.shift L.length) := by
 simp only [Hp.get, List.getElem?_append, if_neg (show ¬ L.length + i < L.length by omega), Nat.add_sub_cancel_left, List.getElem?_map]
theorem zB8 {i : Nat} (h : i < L.length) : (⟨H', L ++ news.map (AObj.shift L.length), F⟩ : Hp).get (.l i) = L[i]? := by
 simp [Hp.get, List.getElem?_append, h]
theorem zEg {k : Hd} (h : (⟨H', L ++ news.map (AObj.shift L.length), F⟩ : Hp).live k) :
  (∃ j, k = .o j ∧ (⟨H', news, F⟩ : Hp).live (.o j)) ∨ (∃ i o, k = .l i ∧ i < L.length ∧ L[i]? = some o ∧ o.off = false) ∨ (∃ i, k = .l (L.length + i) ∧ (⟨H', news, F⟩ : Hp).live (.l i)) := by
 obtain ⟨o, ho, hne⟩ := h
 cases k with
 | o j => exact .inl ⟨j, rfl, o, ho, hne⟩
 | l i =>
  by_cases hi : i < L.length
  ·rw [zB8 hi] at ho
   exact .inr (.inl ⟨i, o, rfl, hi, ho, hne⟩)
  ·obtain ⟨j, rfl⟩ : ∃ j, i = L.length + j := ⟨i - L.length, by omega⟩
   rw [qO] at ho
   obtain ⟨o1, h1, rfl⟩ := Option.map_eq_some_iff.1 ho
   exact .inr (.inr ⟨j, rfl, o1, h1, (AObj.shift_off _ _).1 hne⟩)
theorem zHb {b : Nat} (h : Free β1 ⟨H', news, lendF β L F⟩ b) : Free (joinβ β β1 L.length) ⟨H', L ++ news.map (AObj.shift L.length), F⟩ b := by
 obtain ⟨h1, h2⟩ := h
 refine ⟨fun hb => h1 (.inl hb), fun k hk => ?_⟩
 rcases zEg hk with ⟨j, rfl, hj⟩ | ⟨i, o, rfl, hi, ho, hne⟩ | ⟨i, rfl, hi⟩
 ·exact h2 (.o j) hj
 ·simp only [joinβ, if_pos hi]
  exact fun e => h1 (.inr ⟨i, o, ho, hne, e⟩)
 ·simp only [joinβ, if_neg (show ¬ L.length + i < L.length by omega), Nat.add_sub_cancel_left]
  exact h2 (.l i) hi
theorem RepT.join {x : TV} {v : Value} (h : RepT w' β1 ⟨H', news, lendF β L F⟩ x v) : RepT w' (joinβ β β1 L.length) ⟨H', L ++ news.map (AObj.shift L.length), F⟩ (x.shift L.length) v := by
 induction h with
 | p h => exact .p (h.mono (Nat.le_refl _) fun b _ hb => ⟨rfl, zHb hb⟩)
 | ad h off v h1 hl hv => cases h with
  | o k => exact .ad _ off v h1 hl hv
  | l i =>
   obtain ⟨o, ho⟩ := hl
   refine .ad _ off v h1 ⟨o.shift L.length, by rw [qO]; simpa using ⟨o, ho, rfl⟩⟩ fun o2 h2 hb => ?_
   rw [qO] at h2
   obtain ⟨o1, g1, rfl⟩ := Option.map_eq_some_iff.1 h2
   simp only [joinβ, if_neg (show ¬ L.length + i < L.length by omega), Nat.add_sub_cancel_left]
   rw [AObj.shift_isMap]
   exact hv o1 g1 (by rwa [AObj.shift_isBox] at hb)
 | sl h n st len v h1 hl hv => cases h with
  | o k => exact .sl _ n st len v h1 hl hv
  | l i =>
   obtain ⟨o, ho, hn⟩ := hl
   refine .sl _ n st len v h1 ⟨o.shift L.length, by rw [qO]; simpa using ⟨o, ho, rfl⟩, fun T b e rows hr => ?_⟩ fun T b e rows hr hlen => ?_
   ·cases o <;> simp [AObj.shift] at hr
    obtain ⟨rfl, rfl, rfl, rfl⟩ := hr
    exact hn _ _ _ _ rfl
   ·rw [qO] at hr
    obtain ⟨o1, g1, h2⟩ := Option.map_eq_some_iff.1 hr
    cases o1 <;> simp [AObj.shift] at h2
    obtain ⟨rfl, rfl, rfl, rfl⟩ := h2
    simp only [joinβ, if_neg (show ¬ L.length + i < L.length by omega), Nat.add_sub_cancel_left]
    exact hv _ _ _ _ g1 hlen
 | el e i off ao len c _ hi ih => exact .el e i off ao len c ih hi
 | agg xs vs hl _ ih =>
  refine .agg _ vs (by rw [qU]; exact hl) fun i x v h1 h2 => ?_
  rw [zAw] at h1
  obtain ⟨y, hy, rfl⟩ := Option.map_eq_some_iff.1 h1
  exact ih i y v hy h2
 | tup xs vs hl _ ih =>
  refine .tup _ vs (by rw [qU]; exact hl) fun i x v h1 h2 => ?_
  rw [zAw] at h1
  obtain ⟨y, hy, rfl⟩ := Option.map_eq_some_iff.1 h1
  exact ih i y v hy h2
 | fn f xs vs hl _ ih =>
  refine .fn f _ vs (by rw [qU]; exact hl) fun i x v h1 h2 => ?_
  rw [zAw] at h1
  obtain ⟨y, hy, rfl⟩ := Option.map_eq_some_iff.1 h1
  exact ih i y v hy h2
 | opt g x v _ h2 ih => exact .opt g _ v ih h2
theorem ObjGo.same {b : Nat} {o : AObj} (h : o.off = false → w'.heap[b]? = w.heap[b]?) : ObjGo w w' b b o o := by
 cases o with
 | dead => simp [ObjGo]
 | box => simp [ObjGo]
 | raw => simp [ObjGo]
 | arr => exact ⟨rfl, rfl, rfl, Nat.le_refl _, fun ho _ => ⟨rfl, by unfold csize; rw [h ho]⟩⟩
theorem back (hS : Sim w β ⟨H, L, F⟩) (hS1 : Sim w' β1 ⟨H', news, lendF β L F⟩) (hst : Step w β ⟨H, [], lendF β L F⟩ w' β1 ⟨H', news, lendF β L F⟩) :
  Sim w' (joinβ β β1 L.length) ⟨H', L ++ news.map (AObj.shift L.length), F⟩ ∧ Step w β ⟨H, L, F⟩ w' (joinβ β β1 L.length) ⟨H', L ++ news.map (AObj.shift L.length), F⟩ := by
 have hLb : ∀ i o, L[i]? = some o → o.off = false → w'.heap[β (.l i)]? = w.heap[β (.l i)]? := fun i o hi hne => hst.fr _ (.inr ⟨i, o, hi, hne, rfl⟩)
 have hstep : Step w β ⟨H, L, F⟩ w' (joinβ β β1 L.length) ⟨H', L ++ news.map (AObj.shift L.length), F⟩ := by
  refine ⟨hst.os, hst.tape, hst.output, hst.size, fun b hb hf => ?_, fun b hb => hst.fr b (.inl hb), rfl, fun k o ho => ?_⟩
  ·obtain ⟨h1, h2⟩ := hst.frame b hb (zGd b hf)
   exact ⟨h1, zHb h2⟩
  ·cases k with
   | o k => exact hst.obj (.o k) o ho
   | l i =>
    have hi : i < L.length := by
     rcases Nat.lt_or_ge i L.length with h | h
     ·exact h
     ·simp [Hp.get, List.getElem?_eq_none h] at ho
    refine ⟨o, by rw [zB8 hi]; exact ho, ?_⟩
    simp only [joinβ, if_pos hi]
    exact ObjGo.same (hLb i o ho)
 refine ⟨⟨fun k o ho => ?_, fun k j hk hj he => ?_, fun o ho => hS1.ext o ho, fun k hk hb => ?_, fun b hb => Nat.lt_of_lt_of_le (hS.flt b hb) hst.size⟩, hstep⟩
 ·have shifted : ∀ k1 o1, (⟨H', news, lendF β L F⟩ : Hp).get k1 = some o1 → ObjOk w' (joinβ β β1 L.length) ⟨H', L ++ news.map (AObj.shift L.length), F⟩ (β1 k1) (o1.shift L.length) := by
   intro k1 o1 h1
   have := hS1.objs k1 o1 h1
   cases o1 with
   | dead => trivial
   | box T cells =>
    obtain ⟨cs, h1, h2, h4⟩ := this
    refine ⟨cs, h1, by rw [qU]; exact h2, fun i x hx => ?_⟩
    rw [zAw] at hx
    obtain ⟨y, hy, rfl⟩ := Option.map_eq_some_iff.1 hx
    obtain ⟨v, hv, hr⟩ := h4 i y hy
    exact ⟨v, hv, hr.join⟩
   | arr T app e rows =>
    refine ⟨this.1, fun hoff => ?_⟩
    obtain ⟨cs, fr, h1, h2, h3, h4, h5, h6, h7⟩ := this.2 hoff
    exact ⟨cs, fr, h1, h2, h3, h4, h5, h6, fun i j r x hr hx => let ⟨v, hv, hr'⟩ := h7 i j r x hr hx; ⟨v, hv, hr'.mono (Nat.le_refl _) fun b _ hb => ⟨rfl, zHb hb⟩⟩⟩
   | raw x => exact this
  cases k with
  | o k =>
   have := shifted (.o k) o ho
   rwa [AObj.ext_shift _ _ (hS1.ext o (List.mem_of_getElem? ho))] at this
  | l i =>
   by_cases hi : i < L.length
   ·rw [zB8 hi] at ho
    simp only [joinβ, if_pos hi]
    rcases qS o with hd | hd
    ·exact (hS.objs (.l i) o ho).of_off hd
    ·exact (hS.objs (.l i) o ho).mono hstep (hLb i o ho hd)
   ·obtain ⟨j, rfl⟩ : ∃ j, i = L.length + j := ⟨i - L.length, by omega⟩
    rw [qO] at ho
    obtain ⟨o1, h1, rfl⟩ := Option.map_eq_some_iff.1 ho
    simp only [joinβ, if_neg (show ¬ L.length + j < L.length by omega), Nat.add_sub_cancel_left]
    exact shifted (.l j) o1 h1
 ·have cross : ∀ k1 i o, (⟨H', news, lendF β L F⟩ : Hp).live k1 → L[i]? = some o → o.off = false → β1 k1 ≠ β (.l i) :=
   fun k1 i o hk ho hne e => hS1.disj k1 hk (.inr ⟨i, o, ho, hne, e.symm⟩)
  rcases zEg hk with ⟨a, rfl, ha⟩ | ⟨a, o, rfl, hal, ho, hne⟩ | ⟨a, rfl, ha⟩ <;> rcases zEg hj with ⟨c, rfl, hc⟩ | ⟨c, o', rfl, hcl, ho', hne'⟩ | ⟨c, rfl, hc⟩
  ·simp only [joinβ] at he
   exact hS1.inj (.o a) (.o c) ha hc he
  ·simp only [joinβ, if_pos hcl] at he
   exact absurd he (cross _ _ _ ha ho' hne')
  ·simp only [joinβ, if_neg (show ¬ L.length + c < L.length by omega), Nat.add_sub_cancel_left] at he
   have := hS1.inj (.o a) (.l c) ha hc he
   cases this
  ·simp only [joinβ, if_pos hal] at he
   exact absurd he.symm (cross _ _ _ hc ho hne)
  ·simp only [joinβ, if_pos hal, if_pos hcl] at he
   exact hS.inj (.l a) (.l c) ⟨o, ho, hne⟩ ⟨o', ho', hne'⟩ he
  ·simp only [joinβ, if_pos hal, if_neg (show ¬ L.length + c < L.length by omega), Nat.add_sub_cancel_left] at he
   exact absurd he.symm (cross _ _ _ hc ho hne)
  ·simp only [joinβ, if_neg (show ¬ L.length + a < L.length by omega), Nat.add_sub_cancel_left] at he
   have := hS1.inj (.l a) (.o c) ha hc he
   cases this
  ·simp only [joinβ, if_neg (show ¬ L.length + a < L.length by omega), Nat.add_sub_cancel_left, if_pos hcl] at he
   exact absurd he (cross _ _ _ ha ho' hne')
  ·simp only [joinβ, if_neg (show ¬ L.length + a < L.length by omega), if_neg (show ¬ L.length + c < L.length by omega), Nat.add_sub_cancel_left] at he
   have := hS1.inj (.l a) (.l c) ha hc he
   injection this with this
   rw [this]
 ·rcases zEg hk with ⟨a, rfl, ha⟩ | ⟨a, o, rfl, hal, ho, hne⟩ | ⟨a, rfl, ha⟩
  ·exact hS1.disj (.o a) ha (.inl hb)
  ·simp only [joinβ, if_pos hal] at hb
   exact hS.disj (.l a) ⟨o, ho, hne⟩ hb
  ·simp only [joinβ, if_neg (show ¬ L.length + a < L.length by omega), Nat.add_sub_cancel_left] at hb
   exact hS1.disj (.l a) ha (.inl hb)
end
def evL (env : Env) : List Operand → List TV
 | [] => []
 | x :: r => evA env x :: evL env r
theorem zLk {w : World} {β : Hd → Nat} {G : Hp} {env : Env} {a : Act} (he : EnvR w β G env a) : ∀ (l : List Operand), RepL w β G (evL env l) (l.map a.eval)
 | [] => ⟨rfl, by simp [evL]⟩
 | x :: r => by
  obtain ⟨h1, h2⟩ := zLk he r
  refine ⟨by simp [evL, h1], fun i y v hy hv => ?_⟩
  cases i with
  | zero => simp [evL] at hy hv; subst hy hv; exact zL he x
  | succ i => exact h2 i y v (by simpa [evL] using hy) (by simpa using hv)
theorem RepL.append {w : World} {β : Hd → Nat} {G : Hp} {xs ys : List TV} {vs us : List Value} (h : RepL w β G xs vs) (k : RepL w β G ys us) : RepL w β G (xs ++ ys) (vs ++ us) := by
 obtain ⟨h1, h2⟩ := h
 obtain ⟨k1, k2⟩ := k
 refine ⟨by simp [h1, k1], fun i x v hx hv => ?_⟩
 rw [List.getElem?_append] at hx hv
 rw [h1] at hv
 split at hx
 ·rename_i h; rw [if_pos h] at hv; exact h2 i x v hx hv
 ·rename_i h; rw [if_neg h] at hv; exact k2 _ x v hx hv
theorem RepL.lend {w : World} {β : Hd → Nat} {H L : List AObj} {F : Nat → Prop} {xs : List TV} {vs : List Value} (h : RepL w β ⟨H, L, F⟩ xs vs) (hx : TV.ext.extL xs = true) : RepL w β ⟨H, [], lendF β L F⟩ xs vs :=
 ⟨h.1, fun i x v h1 h2 => (h.2 i x v h1 h2).lend (jI hx h1)⟩
section
variable {P : Program} {env : Env} {H L : List AObj} {o : Oper}
theorem zDy {f : FuncId} {args : Array Value} {w : World} (h : callable P f = true) : (callFunc f args).run P w = .ok (.enter f args) w := by
 unfold callable at h
 split at h
 ·rename_i fn hf
  simp only [Bool.and_eq_true, bne_iff_ne, ne_eq] at h
  obtain ⟨h1, h2⟩ := h
  obtain ⟨b, hb⟩ := Option.isSome_iff_exists.1 h2
  simp [callFunc, hf, h1, hb]
 ·cases h
theorem zQd {fo : Operand} {as : List Operand} {ts : Array TypeId} {f : FuncId} {caps args : List TV} {r : TV} {H' news : List AObj}
  (ho : o.op = .call { callee := .value fo, args := as.toArray, argTypes := ts }) (hf : evA env fo = .fn f caps) (ha : evL env as ++ caps = args) (hx : TV.ext.extL args = true) (sp : Con P f args H r H' news) :
  OpR P o env H L (r.shift L.length) H' (L ++ news.map (AObj.shift L.length)) := by
 intro F w β a next Q hS he hn
 have hfo := zL he fo
 rw [hf] at hfo
 obtain ⟨vs, hvs, hc⟩ : ∃ vs : List Value, a.eval fo = .func (.func f) #[] vs.toArray ∧ RepL w β ⟨H, L, F⟩ caps vs := by
  generalize hv : a.eval fo = v at hfo
  cases hfo with | fn _ _ vs hl hr => exact ⟨vs, rfl, hl, hr⟩
 have hargs := (zLk he as).append hc
 rw [ha] at hargs
 have hcall := sp.run (lendF β L F) w β (as.map a.eval ++ vs) hS.lend (hargs.lend hx)
 unfold Oper.wp execOp
 simp only [ho, resolve, invoke, Deferred.ofValue, hvs, Sem.run_bind, Sem.run_pure, Result.andThen_ok, List.map_toArray, List.nil_append, List.append_toArray, zDy sp.can, Oper.upon]
 refine hcall.mono ?_
 rintro e w' ⟨β1, v, rfl, hS1, hst, hr⟩
 obtain ⟨h1, h2⟩ := back hS hS1 hst
 exact hn w' _ v h1 h2 hr.join
theorem jP {fo : Operand} {as : List Operand} {ts : Array TypeId} {f : FuncId} {caps args : List TV} {r : TV} {H' : List AObj}
  (ho : o.op = .call { callee := .value fo, args := as.toArray, argTypes := ts }) (hf : evA env fo = .fn f caps) (ha : evL env as ++ caps = args) (hx : TV.ext.extL args = true) (hr : r.ext = true) (sp : Con P f args H r H' []) :
  OpR P o env H L r H' L := by
 have h := zQd (L := L) ho hf ha hx sp
 rwa [ext_shift _ _ hr, List.map_nil, List.append_nil] at h
end
inductive TyD where
 | int (k : IntKind)
 | bool
 | str
 | ptr
 | slice (e : Nat)
 | array (n e : Nat)
 | struct (fs : List (Nat × Nat))
 | other
structure TyI where
 d : TyD
 size : Nat
 bytes : Nat
 zero : List AV
abbrev Tab := List (Nat × TyI)
def tlk : Tab → Nat → Option TyI
 | [], _ => none
 | (t, i) :: r, s => match Nat.beq t s with
  | true => some i
  | false => tlk r s
def isAggD : TyD → Option Bool
 | .struct _ | .array .. => some true
 | .other => none
 | _ => some false
def chkV : AV → Value → Bool
 | .int k n, .int k' n' => k == k' && n == n'
 | .bool b, .bool b' => b == b'
 | .str [], .string s => s.data.toList.isEmpty
 | .nilp, .pointer none => true
 | .nils, .slice none 0 0 => true
 | .top, _ => true
 | _, _ => false
theorem chkV_ok {x : AV} {v : Value} (h : chkV x v = true) (w : World) (N : Nat → Prop) : RepA w N x v := by
 unfold chkV at h
 split at h
 ·simp at h; obtain ⟨rfl, rfl⟩ := h; exact .int ..
 ·simp at h; subst h; exact .bool ..
 ·rename_i s
  have hd : s = ⟨#[]⟩ := by
   cases s with | mk d =>
   simp at h
   subst h; rfl
  subst hd
  exact .str []
 ·exact .nilp
 ·exact .nils
 ·exact .top _
 ·cases h
def chkZ : List AV → List Value → Bool
 | [], [] => true
 | x :: xs, v :: vs => chkV x v && chkZ xs vs
 | _, _ => false
theorem zF9 : ∀ {xs : List AV} {vs : List Value}, chkZ xs vs = true → vs.length = xs.length ∧ ∀ (w : World) (N : Nat → Prop) (i : Nat) (x : AV) (v : Value), xs[i]? = some x → vs[i]? = some v → RepA w N x v
 | [], [], _ => ⟨rfl, by simp⟩
 | x :: xs, v :: vs, h => by
  simp only [chkZ, Bool.and_eq_true] at h
  obtain ⟨h1, h2⟩ := zF9 h.2
  refine ⟨by simp [h1], fun w N i y u hy hu => ?_⟩
  cases i with
  | zero => simp at hy hu; subst hy hu; exact chkV_ok h.1 w N
  | succ i => exact h2 w N i y u (by simpa using hy) (by simpa using hu)
 | [], _ :: _, h => by simp [chkZ] at h
 | _ :: _, [], h => by simp [chkZ] at h
def chkF : List (Nat × Nat) → List Field → Bool
 | [], [] => true
 | (a, b) :: r, f :: fs => a == f.offset && b == f.type && chkF r fs
 | _, _ => false
theorem zVa : ∀ {r : List (Nat × Nat)} {fs : List Field}, chkF r fs = true → r = fs.map fun f => (f.offset, f.type)
 | [], [], _ => rfl
 | (a, b) :: r, f :: fs, h => by
  simp only [chkF, Bool.and_eq_true, beq_iff_eq] at h
  obtain ⟨⟨rfl, rfl⟩, h⟩ := h
  simp [← zVa h]
 | [], _ :: _, h => by simp [chkF] at h
 | _ :: _, [], h => by simp [chkF] at h
def chkD : TyD → TypeDesc → Bool
 | .int k, .int k' => k == k'
 | .bool, .bool => true
 | .str, .string => true
 | .ptr, .pointer _ => true
 | .slice e, .slice e' => e == e'
 | .array n e, .array n' e' => n == n' && e == e'
 | .struct fs, .struct gs => chkF fs gs.toList
 | .other, _ => true
 | _, _ => false
theorem zBf {fs : List (Nat × Nat)} {u : TypeDesc} (h : chkD (.struct fs) u = true) : ∃ gs, u = .struct gs ∧ fs = gs.toList.map fun f => (f.offset, f.type) := by
 cases u <;> simp only [chkD, Bool.false_eq_true] at h
 exact ⟨_, rfl, zVa h⟩
theorem yB {e : Nat} {u : TypeDesc} (h : chkD (.slice e) u = true) : u = .slice e := by
 cases u <;> simp only [chkD, Bool.false_eq_true] at h
 rw [eq_of_beq h]
theorem jC {n e : Nat} {u : TypeDesc} (h : chkD (.array n e) u = true) : u = .array n e := by
 cases u <;> simp only [chkD, Bool.false_eq_true, Bool.and_eq_true] at h
 rw [eq_of_beq h.1, eq_of_beq h.2]
theorem zBo {k : IntKind} {u : TypeDesc} (h : chkD (.int k) u = true) : u = .int k := by
 cases u <;> simp only [chkD, Bool.false_eq_true] at h
 rw [eq_of_beq h]
theorem qZ {u : TypeDesc} (h : chkD .str u = true) : u = .string := by
 cases u <;> simp only [chkD, Bool.false_eq_true] at h
 rfl
def chkTy (P : Program) (t : Nat) (i : TyI) : Bool :=
 match P.info? t, P.underlying t with
 | some info, some u => info.size == i.size && info.bytes == i.bytes && (match info.zero with
   | some z => chkZ i.zero z.cells.toList && Nat.beq i.zero.length i.size
   | none => false) && chkD i.d u && (match isAggD i.d with
   | some false => Nat.beq i.size 1
   | _ => true)
 | _, _ => false
def chkTab (P : Program) : Tab → Bool
 | [] => true
 | (t, i) :: r => chkTy P t i && chkTab P r
def TabOk (P : Program) (T : Tab) : Prop := ∀ t i, tlk T t = some i → chkTy P t i = true
theorem tabOk {P : Program} : ∀ {T : Tab}, chkTab P T = true → TabOk P T
 | [], _ => fun t i h => by simp [tlk] at h
 | (s, j) :: r, h => by
  simp only [chkTab, Bool.and_eq_true] at h
  intro t i ht
  simp only [tlk] at ht
  split at ht
  ·rename_i e
   obtain rfl := Nat.eq_of_beq_eq_true e
   obtain rfl := Option.some.inj ht
   exact h.1
  ·exact tabOk h.2 t i ht
structure TyOk (P : Program) (t : Nat) (i : TyI) (inf : TypeInfo) (u : TypeDesc) : Prop where
 info : P.info? t = some inf
 und : P.underlying t = some u
 size : inf.size = i.size
 bytes : inf.bytes = i.bytes
 zero : ∃ z, inf.zero = some z ∧ chkZ i.zero z.cells.toList = true
 zlen : i.zero.length = i.size
 d : chkD i.d u = true
 one : isAggD i.d = some false → i.size = 1
theorem TabOk.get {P : Program} {T : Tab} (h : TabOk P T) {t : Nat} {i : TyI} (ht : tlk T t = some i) : ∃ info u, TyOk P t i info u := by
 have := h t i ht
 unfold chkTy at this
 split at this
 ·rename_i info u hi hu
  simp only [Bool.and_eq_true, beq_iff_eq] at this
  obtain ⟨⟨⟨⟨h1, h2⟩, h3⟩, h4⟩, h5⟩ := this
  split at h3
  ·rename_i z hz
   simp only [Bool.and_eq_true] at h3
   exact ⟨info, u, hi, hu, h1, h2, ⟨z, hz, h3.1⟩, Nat.eq_of_beq_eq_true h3.2, h4, fun hf => by rw [hf] at h5; exact Nat.eq_of_beq_eq_true h5⟩
  ·cases h3
 ·cases this
section
variable {P : Program} {t : Nat} {i : TyI} {info : TypeInfo} {u : TypeDesc} (h : TyOk P t i info u) (w : World)
include h
theorem TyOk.run_und : (underlying t).run P w = .ok u w := run_underlying h.und w
theorem TyOk.run_info : (typeInfo t).run P w = .ok info w := by simp [typeInfo, h.info]
theorem TyOk.run_size : (sizeOf t).run P w = .ok i.size w := by simp [sizeOf, h.run_info, h.size]
theorem TyOk.run_agg {b : Bool} (hb : isAggD i.d = some b) : (isAgg t).run P w = .ok b w := by
 have hd := h.d
 unfold chkD at hd
 split at hd <;> simp [isAgg, h.run_und] <;> simp_all [isAggD]
theorem TyOk.run_zero : ∃ z, (zeroValue t).run P w = .ok z w ∧ chkZ i.zero z.cells.toList = true := by
 obtain ⟨z, h1, h2⟩ := h.zero
 exact ⟨z, by simp [zeroValue, h.run_info, h1], h2⟩
end
theorem zBw (a : Addr) (i j : Nat) : (a.add i).add j = a.add (i + j) := by
 unfold Addr.add
 by_cases hi : i = 0 <;> by_cases hj : j = 0 <;> simp_all [Nat.add_assoc]
section
variable {P : Program} {w : World} {β : Hd → Nat} {G : Hp}
def Cells (w : World) (β : Hd → Nat) (G : Hp) (a : Addr) (cs : List TV) : Prop := ∀ (i : Nat) (x : TV), cs[i]? = some x → ∃ v, w.cell? (a.add i) = some v ∧ RepT w β G x v
theorem Cells.drop {a : Addr} {cs : List TV} (h : Cells w β G a cs) (k : Nat) : Cells w β G (a.add k) (cs.drop k) := by
 intro i x hx
 rw [List.getElem?_drop] at hx
 rw [zBw]
 exact h _ x hx
theorem Cells.vals {a : Addr} {cs : List TV} (h : Cells w β G a cs) : ∃ vs : List Value, vs.length = cs.length ∧ (∀ (i : Nat) (v : Value), vs[i]? = some v → w.cell? (a.add i) = some v) ∧ ∀ (i : Nat) (x : TV) (v : Value), cs[i]? = some x → vs[i]? = some v → RepT w β G x v := by
 refine ⟨(List.range cs.length).map fun i => (w.cell? (a.add i)).getD undef, by simp, fun i v hv => ?_, fun i x v hx hv => ?_⟩
 ·simp only [List.getElem?_map, Option.map_eq_some_iff] at hv
  obtain ⟨j, hj, rfl⟩ := hv
  have hlt : i < cs.length := by
   rcases Nat.lt_or_ge i cs.length with h | h
   ·exact h
   ·simp [List.getElem?_eq_none (show (List.range cs.length).length ≤ i by simpa using h)] at hj
  obtain rfl : j = i := by simpa [hlt] using hj.symm
  obtain ⟨u, hu, _⟩ := h j _ (List.getElem?_eq_getElem hlt)
  simp [hu]
 ·have hlt : i < cs.length := (List.getElem?_eq_some_iff.1 hx).1
  obtain ⟨u, hu, hr⟩ := h i x hx
  simp [hlt, hu] at hv
  subst hv
  exact hr
def loadC (T : Tab) (t : Nat) (cs : List TV) : Option TV :=
 match tlk T t with
 | some i => match isAggD i.d with
  | some true => match Nat.ble i.size cs.length with
   | true => some (.agg (cs.take i.size))
   | false => none
  | some false => match cs with
   | c :: _ => some c
   | [] => none
  | none => none
 | none => none
theorem zFs {T : Tab} (hT : TabOk P T) {t : Nat} {cs : List TV} {x : TV} {a : Addr} (hc : Cells w β G a cs) (h : loadC T t cs = some x) : ∃ u, (loadVar t a).run P w = .ok u w ∧ RepT w β G x u := by
 unfold loadC at h
 split at h
 ·rename_i i hi
  obtain ⟨info, u, ok⟩ := hT.get hi
  split at h
  ·rename_i hb
   split at h
   ·rename_i hle
    obtain rfl := Option.some.inj h
    have hle := Nat.le_of_ble_eq_true hle
    obtain ⟨vs, h1, h2, h3⟩ := hc.vals
    have hl := run_loadCells_list (P := P) w a (vs.take i.size) (fun j v hv => h2 j v (by
     rw [List.getElem?_take] at hv
     split at hv
     ·exact hv
     ·cases hv))
    have hlen : (vs.take i.size).length = i.size := by simp; omega
    rw [hlen] at hl
    refine ⟨.agg (vs.take i.size).toArray, by simp [loadVar, ok.run_agg w hb, ok.run_size, hl], .agg _ _ (by simp; omega) fun j y v hy hv => ?_⟩
    rw [List.getElem?_take] at hy hv
    split at hy
    ·rename_i hj; rw [if_pos hj] at hv; exact h3 j y v hy hv
    ·cases hy
   ·cases h
  ·rename_i hb
   split at h
   ·rename_i c cs'
    obtain rfl := Option.some.inj h
    obtain ⟨v, hv, hr⟩ := hc 0 c rfl
    rw [Addr.add_zero'] at hv
    exact ⟨v, by simp [loadVar, ok.run_agg w hb, hv], hr⟩
   ·cases h
  ·cases h
 ·cases h
def cellLike : TV → Bool
 | .p (.agg _) => false
 | .p .top => false
 | .agg _ => false
 | .tup _ => false
 | .opt _ _ => false
 | _ => true
theorem zGn {x : TV} {v : Value} (h : RepT w β G x v) (hx : cellLike x = true) : v.oneCell' = true := by
 cases h with
 | p h => cases h <;> simp_all [cellLike, Value.oneCell']
 | ad h off v h1 => exact h1
 | sl h n st len v h1 => exact h1
 | el => rfl
 | fn => rfl
 | _ => simp [cellLike] at hx
end
section
variable {P : Program} {env : Env} {H L : List AObj} {o : Oper} {x : TV}
theorem zQ (h : ∀ F w β a, Sim w β ⟨H, L, F⟩ → EnvR w β ⟨H, L, F⟩ env a → ∃ u, (execOp a.eval o).run P w = .ok (.value u) w ∧ RepT w β ⟨H, L, F⟩ x u) : OpR P o env H L x H L := by
 intro F w β a next Q hS he hn
 obtain ⟨u, h1, h2⟩ := h F w β a hS he
 unfold Oper.wp
 rw [h1]
 exact hn w β u hS (Step.refl ..) h2
theorem zAe (w : World) (ob : Obj) (b : Nat) (hb : b < w.heap.size) : (w.alloc ob).heap[b]? = w.heap[b]? := by
 show (w.heap.push ob)[b]? = _
 rw [Array.getElem?_push, if_neg (by omega)]
theorem yP (w : World) (ob : Obj) : (w.alloc ob).heap[w.heap.size]? = some ob := by
 show (w.heap.push ob)[_]? = _
 simp
theorem zJw {w : World} {β : Hd → Nat} {G : Hp} (hS : Sim w β G) : Free β G w.heap.size :=
 ⟨fun hb => Nat.lt_irrefl _ (hS.flt _ hb), fun _ hk e => Nat.lt_irrefl _ (e ▸ hS.lt hk)⟩
theorem zH3 {w : World} {β : Hd → Nat} {G : Hp} (hS : Sim w β G) (ob : Obj) : Step w β G (w.alloc ob) β G ∧ Sim (w.alloc ob) β G := by
 have hb : ∀ b, b < w.heap.size → (w.alloc ob).heap[b]? = w.heap[b]? := fun b hb => zAe w ob b hb
 have hst : Step w β G (w.alloc ob) β G := ⟨rfl, rfl, rfl, by simp, fun b h hf => ⟨hb b h, hf⟩, fun b h => hb b (hS.flt b h), rfl,
  fun k o ho => ⟨o, ho, ObjGo.same fun hne => hb _ (hS.lt ⟨o, ho, hne⟩)⟩⟩
 exact ⟨hst, fun k o ho => by
  rcases qS o with hd | hd
  ·exact (hS.objs k o ho).of_off hd
  ·exact (hS.objs k o ho).mono hst (hb _ (hS.lt ⟨o, ho, hd⟩)), hS.inj, hS.ext, hS.disj, fun b h => by have := hS.flt b h; simp; omega⟩
theorem zHg (h : ∀ F w β a, Sim w β ⟨H, L, F⟩ → EnvR w β ⟨H, L, F⟩ env a → ∃ u ob, (execOp a.eval o).run P w = .ok (.value u) (w.alloc ob) ∧
  (Step w β ⟨H, L, F⟩ (w.alloc ob) β ⟨H, L, F⟩ → RepT (w.alloc ob) β ⟨H, L, F⟩ x u)) : OpR P o env H L x H L := by
 intro F w β a next Q hS he hn
 obtain ⟨u, ob, h1, h2⟩ := h F w β a hS he
 obtain ⟨s1, s2⟩ := zH3 hS ob
 unfold Oper.wp
 rw [h1]
 exact hn _ β u s2 s1 (h2 s1)
theorem unfrozen0 (n : Nat) : Unfrozen (0, 0) n := fun i _ => by simp
theorem zNx {ob' : AObj} (h : ∀ F w β a, Sim w β ⟨H, L, F⟩ → EnvR w β ⟨H, L, F⟩ env a → ∃ u ob, (execOp a.eval o).run P w = .ok (.value u) (w.alloc ob) ∧
  ∀ β', (∀ k, β' k = if k = .l L.length then w.heap.size else β k) → Step w β ⟨H, L, F⟩ (w.alloc ob) β' ⟨H, L ++ [ob'], F⟩ →
   ObjOk (w.alloc ob) β' ⟨H, L ++ [ob'], F⟩ w.heap.size ob' ∧ RepT (w.alloc ob) β' ⟨H, L ++ [ob'], F⟩ x u) : OpR P o env H L x H (L ++ [ob']) := by
 intro F w β a next Q hS he hn
 obtain ⟨u, ob, h1, h2⟩ := h F w β a hS he
 obtain ⟨s1, s2⟩ := new (o' := ob') (w' := w.alloc ob) (b' := w.heap.size) hS rfl rfl rfl (by simp) (fun b hb => zAe w ob b hb) (Nat.le_refl _)
 obtain ⟨h3, h4⟩ := h2 _ (fun _ => rfl) s1
 unfold Oper.wp
 rw [h1]
 exact hn _ _ u (s2 h3) s1 h4
theorem zEx {i : Nat} {ob ob' : AObj} (hi : L[i]? = some ob) (hne : ob.off = false) (h : ∀ F w β a, Sim w β ⟨H, L, F⟩ → EnvR w β ⟨H, L, F⟩ env a → ∃ u w', ((execOp a.eval o).run P w = .ok (.value u) w' ∨ (execOp a.eval o).run P w = .ok .skip w' ∧ u = undef) ∧
  w'.os = w.os ∧ w'.tape = w.tape ∧ w'.output = w.output ∧ w'.heap.size = w.heap.size ∧ (∀ b, b ≠ β (.l i) → w'.heap[b]? = w.heap[b]?) ∧ ObjGo w w' (β (.l i)) (β (.l i)) ob ob' ∧
   (Step w β ⟨H, L, F⟩ w' β ⟨H, L.set i ob', F⟩ → ObjOk w' β ⟨H, L.set i ob', F⟩ (β (.l i)) ob' ∧ RepT w' β ⟨H, L.set i ob', F⟩ x u)) : OpR P o env H L x H (L.set i ob') := by
 intro F w β a next Q hS he hn
 obtain ⟨u, w', h1, h2, h3, h4, h5, h6, h7, h8⟩ := h F w β a hS he
 have hlt : i < L.length := (List.getElem?_eq_some_iff.1 hi).1
 obtain ⟨s1, s2⟩ := upd (w' := w') (G' := ⟨H, L.set i ob', F⟩) (h := .l i) (o' := ob') (b' := β (.l i)) hS hi h2 h3 h4 (by omega) (fun b _ hb => h6 b hb) hne (.inl rfl) h7
  (fun k => by
   cases k with
   | o k => simp [Hp.get]
   | l j =>
    simp only [Hp.get, List.getElem?_set, Hd.l.injEq]
    by_cases e : i = j
    ·subst e; simp [hlt]
    ·rw [if_neg e, if_neg (fun q => e q.symm)]) rfl hS.ext
 have eβ : (fun k => if k = Hd.l i then β (.l i) else β k) = β := by
  funext k
  split
  ·rename_i e; rw [e]
  ·rfl
 rw [eβ] at s1 s2
 obtain ⟨h9, h10⟩ := h8 s1
 unfold Oper.wp
 rcases h1 with h1 | ⟨h1, rfl⟩
 ·rw [h1]; exact hn _ _ u (s2 h9) s1 h10
 ·rw [h1]; exact hn _ _ undef (s2 h9) s1 h10
end
def tcells : TV → Option (List TV)
 | .agg l => some l
 | .p (.agg l) => some (l.map .p)
 | .p .top => none
 | .tup _ => none
 | .opt _ _ => none
 | x => some [x]
theorem zAd {w : World} {β : Hd → Nat} {G : Hp} {x : TV} {v : Value} {cs : List TV} (h : RepT w β G x v) (hc : tcells x = some cs) : RepL w β G cs v.cells.toList := by
 have one : v.cells = #[v] → RepL w β G [x] v.cells.toList := by
  intro e
  rw [e]
  refine ⟨rfl, fun i y u hy hu => ?_⟩
  cases i with
  | zero => simp at hy hu; subst hy hu; exact h
  | succ i => simp at hy
 have cell : v.oneCell' = true → v.cells = #[v] := by intro hv; cases v <;> first | rfl | (simp [Value.oneCell'] at hv)
 cases h with
 | p h =>
  cases h with
  | agg xs vs hl hr =>
   simp [tcells] at hc; subst hc
   refine ⟨by simp [Value.cells, hl], fun i y u hy hu => ?_⟩
   simp only [List.getElem?_map, Option.map_eq_some_iff] at hy
   obtain ⟨z, hz, rfl⟩ := hy
   exact .p (hr i z u hz (by simpa [Value.cells] using hu))
  | top => simp [tcells] at hc
  | cell _ _ h1 _ => simp [tcells] at hc; subst hc; exact one (cell h1)
  | _ => simp [tcells] at hc; subst hc; exact one rfl
 | agg xs vs hl hr =>
  simp [tcells] at hc; subst hc
  exact ⟨by simp [Value.cells, hl], fun i y u hy hu => hr i y u hy (by simpa [Value.cells] using hu)⟩
 | tup => simp [tcells] at hc
 | ad h off v h1 => simp [tcells] at hc; subst hc; exact one (cell h1)
 | sl h n st len v h1 => simp [tcells] at hc; subst hc; exact one (cell h1)
 | el => simp [tcells] at hc; subst hc; exact one rfl
 | fn => simp [tcells] at hc; subst hc; exact one rfl
 | opt => simp [tcells] at hc
def allCell : List TV → Bool
 | [] => true
 | x :: r => cellLike x && allCell r
theorem zDb : ∀ {l : List TV} {i : Nat} {x : TV}, allCell l = true → l[i]? = some x → cellLike x = true
 | [], i, x, _, h => by simp at h
 | y :: r, 0, x, h, hx => by
  simp only [allCell, Bool.and_eq_true] at h
  obtain rfl : y = x := by simpa using hx
  exact h.1
 | y :: r, i + 1, x, h, hx => by
  simp only [allCell, Bool.and_eq_true] at h
  exact zDb h.2 (by simpa using hx)
def intA (op : BinOp) (k : IntKind) (a b : Int) : Option TV :=
 match op with
 | .add => some (.p (.int k (k.wrap (a + b))))
 | .sub => some (.p (.int k (k.wrap (a - b))))
 | .mul => some (.p (.int k (k.wrap (a * b))))
 | .quo => match decide (b = 0) with
  | true => none
  | false => some (.p (.int k (k.wrap (a.tdiv b))))
 | .rem => match decide (b = 0) with
  | true => none
  | false => some (.p (.int k (a.tmod b)))
 | .and => some (.p (.int k (k.wrap (BitVec.ofInt k.bits a &&& BitVec.ofInt k.bits b).toNat)))
 | .or => some (.p (.int k (k.wrap (BitVec.ofInt k.bits a ||| BitVec.ofInt k.bits b).toNat)))
 | .eql => some (.p (.bool (a == b)))
 | .neq => some (.p (.bool (a != b)))
 | .lss => some (.p (.bool (decide (a < b))))
 | .leq => some (.p (.bool (decide (a ≤ b))))
 | .gtr => some (.p (.bool (decide (a > b))))
 | .geq => some (.p (.bool (decide (a ≥ b))))
 | _ => none
def shiftA (op : BinOp) (k : IntKind) (a b : Int) : Option TV :=
 match b with
 | .ofNat n => match op with
  | .shl => some (.p (.int k (k.wrap (a * 2 ^ min n k.bits))))
  | .shr => some (.p (.int k (a.fdiv (2 ^ min n k.bits))))
  | _ => none
 | .negSucc _ => none
def isShift : BinOp → Bool
 | .shl | .shr => true
 | _ => false
def strA (op : BinOp) (a b : List UInt8) : Option TV :=
 match op with
 | .eql => some (.p (.bool (a == b)))
 | .neq => some (.p (.bool !(a == b)))
 | .lss => some (.p (.bool (Op.bytesLess a b)))
 | .leq => some (.p (.bool (Op.bytesLess a b || a == b)))
 | .gtr => some (.p (.bool !(Op.bytesLess a b || a == b)))
 | .geq => some (.p (.bool !(Op.bytesLess a b)))
 | _ => none
def eqA (op : BinOp) (b : Bool) : Option TV :=
 match op with
 | .eql => some (.p (.bool b))
 | .neq => some (.p (.bool !b))
 | _ => none
def kEq (k k' : IntKind) : Bool := match decide (k = k') with
 | true => true
 | false => false
def binA (L : List AObj) (op : BinOp) (x y : TV) (d : TyD) : Option TV :=
 match x, y with
 | .p (.int k a), .p (.int k' b) => match isShift op with
  | true => shiftA op k a b
  | false => match kEq k k' with
   | true => intA op k a b
   | false => none
 | .p (.str a), .p (.str b) => strA op a b
 | .p (.bool a), .p (.bool b) => match d with
  | .bool => eqA op (a == b)
  | _ => none
 | .p .nilp, .p .nilp => match d with
  | .ptr => eqA op true
  | _ => none
 | .p (.pp _), .p .nilp => match d with
  | .ptr => eqA op false
  | _ => none
 | .ad (.l i) _, .p .nilp => match d, L[i]? with
  | .ptr, some (.box ..) => eqA op false
  | _, _ => none
 | .p .nils, .p .nils => match d with
  | .slice _ => eqA op true
  | _ => none
 | _, _ => none
theorem zQ6 (P : Program) (w : World) (t : TypeId) {op : BinOp} {k : IntKind} {a b : Int} {x : TV} (hs : isShift op = false) (h : intA op k a b = some x) :
    ∃ y, x = .p y ∧ ∃ u, (Go.binOp op t (.int k a) (.int k b)).run P w = .ok u w ∧ ∀ N, RepA w N y u := by
  cases op <;> simp only [isShift, intA, Option.some.injEq, reduceCtorEq] at hs h
  all_goals first
    | (subst h; exact ⟨_, rfl, _, by simp only [binOp_add, binOp_sub, binOp_mul, Op.intArith, Sem.run_pure], fun _ => .int ..⟩)
    | (subst h; exact ⟨_, rfl, _, by simp only [binOp_and, binOp_or, Op.intBits, Sem.run_pure], fun _ => .int ..⟩)
    | (subst h; exact ⟨_, rfl, _, by simp only [binOp_eql, binOp_neq, binOp_lss, binOp_leq, binOp_gtr, binOp_geq, Sem.run_pure], fun _ => .bool ..⟩)
    | (by_cases hb : b = 0
       · simp [hb] at h
       · rw [decide_eq_false hb] at h
         simp only [Option.some.injEq] at h
         subst h
         exact ⟨_, rfl, _, by simp only [binOp_quo, binOp_rem, Op.intDiv, if_neg hb, Sem.run_pure], fun _ => .int ..⟩)
theorem zSx (P : Program) (w : World) (t : TypeId) {op : BinOp} {k k' : IntKind} {a b : Int} {x : TV} (h : shiftA op k a b = some x) :
  ∃ y, x = .p y ∧ ∃ u, (Go.binOp op t (.int k a) (.int k' b)).run P w = .ok u w ∧ ∀ N, RepA w N y u := by
 unfold shiftA at h
 split at h
 ·rename_i n
  split at h
  ·obtain rfl := Option.some.inj h
   refine ⟨_, rfl, .int k (k.wrap (a * 2 ^ min n k.bits)), ?_, fun _ => .int ..⟩
   have : ¬ ((n : Int) < 0) := by omega
   simp only [binOp_shl, Op.shift, Int.ofNat_eq_natCast, Int.toNat_natCast, if_neg this, Sem.run_pure]
  ·obtain rfl := Option.some.inj h
   refine ⟨_, rfl, .int k (a.fdiv (2 ^ min n k.bits)), ?_, fun _ => .int ..⟩
   have : ¬ ((n : Int) < 0) := by omega
   simp only [binOp_shr, Op.shift, Int.ofNat_eq_natCast, Int.toNat_natCast, if_neg this, Sem.run_pure]
  ·cases h
 ·cases h
theorem zRt (P : Program) (w : World) (t : TypeId) {op : BinOp} {a b : List UInt8} {x : TV} (h : strA op a b = some x) :
  ∃ c, x = .p (.bool c) ∧ (Go.binOp op t (.string ⟨a.toArray⟩) (.string ⟨b.toArray⟩)).run P w = .ok (.bool c) w := by
 unfold strA at h
 cases op <;> simp at h <;> subst h <;> exact ⟨_, rfl, by simp [Go.binOp, Op.stringOp]⟩
mutual
def unp : TV → Option AV
 | .p x => some x
 | .agg l => match unpL l with
  | some xs => some (.agg xs)
  | none => none
 | _ => none
def unpL : List TV → Option (List AV)
 | [] => some []
 | x :: r => match unp x, unpL r with
  | some y, some ys => some (y :: ys)
  | _, _ => none
end
mutual
theorem unp_ok {w : World} {β : Hd → Nat} {G : Hp} : ∀ (x : TV) {y : AV} {v : Value}, unp x = some y → RepT w β G x v → RepA w (Free β G) y v
 | .p x, y, v, h, hr => by
  simp only [unp, Option.some.injEq] at h
  subst h
  cases hr with | p h => exact h
 | .agg l, y, v, h, hr => by
  simp only [unp] at h
  split at h
  ·rename_i xs hxs
   obtain rfl := Option.some.inj h
   cases hr with | agg _ vs hl hr =>
   obtain ⟨h1, h2⟩ := zB9 l hxs
   exact .agg xs vs (by omega) fun i x v hx hv => by
    obtain ⟨z, hz, hz2⟩ := h2 i x hx
    exact hz2 v (hr i z v hz hv)
  ·cases h
 | .ad .., _, _, h, _ => by simp [unp] at h
 | .sl .., _, _, h, _ => by simp [unp] at h
 | .el .., _, _, h, _ => by simp [unp] at h
 | .tup .., _, _, h, _ => by simp [unp] at h
 | .fn .., _, _, h, _ => by simp [unp] at h
theorem zB9 {w : World} {β : Hd → Nat} {G : Hp} : ∀ (l : List TV) {xs : List AV}, unpL l = some xs → xs.length = l.length ∧ ∀ (i : Nat) (x : AV), xs[i]? = some x → ∃ z, l[i]? = some z ∧ ∀ v, RepT w β G z v → RepA w (Free β G) x v
 | [], xs, h => by simp [unpL] at h; subst h; simp
 | z :: r, xs, h => by
  simp only [unpL] at h
  split at h
  ·rename_i y ys hy hys
   obtain rfl := Option.some.inj h
   obtain ⟨h1, h2⟩ := zB9 (w := w) (β := β) (G := G) r hys
   refine ⟨by simp [h1], fun i x hx => ?_⟩
   cases i with
   | zero =>
    simp at hx; subst hx
    exact ⟨z, rfl, fun v hv => unp_ok z hy hv⟩
   | succ i =>
    obtain ⟨u, hu, hu2⟩ := h2 i x (by simpa using hx)
    exact ⟨u, by simpa using hu, hu2⟩
  ·cases h
end
def spl (cs : List TV) (off : Nat) (ns : List TV) : List TV := cs.take off ++ (ns ++ cs.drop (off + ns.length))
theorem zNk {w : World} {β : Hd → Nat} {G : Hp} {cs ns : List TV} {vs us : List Value} (off : Nat) (h : RepL w β G cs vs) (k : RepL w β G ns us) : RepL w β G (spl cs off ns) (vs.take off ++ (us ++ vs.drop (off + us.length))) := by
 have ht : RepL w β G (cs.take off) (vs.take off) := ⟨by simp [h.1], fun i x v hx hv => by
  rw [List.getElem?_take] at hx hv
  split at hx
  ·rename_i e; rw [if_pos e] at hv; exact h.2 i x v hx hv
  ·cases hx⟩
 have hd : RepL w β G (cs.drop (off + ns.length)) (vs.drop (off + us.length)) := by
  rw [k.1]
  exact ⟨by simp [h.1], fun i x v hx hv => by
   rw [List.getElem?_drop] at hx hv
   exact h.2 _ x v hx hv⟩
 exact ht.append (k.append hd)
def fillA (place : Nat → Option (Nat × Nat)) (cells : List TV) : List (Nat × TV) → Option (List TV)
 | [] => some cells
 | (i, v) :: rest => match place i with
  | none => none
  | some (off, size) => match tcells v with
   | none => none
   | some ns => match Nat.beq ns.length size, Nat.ble (off + ns.length) cells.length with
    | true, true => fillA place (spl cells off ns) rest
    | _, _ => none
theorem zKe (off : Nat) : ∀ (vs : List Value) (j : Nat) (c : Array Value), off + j + vs.length ≤ c.size →
  ((vs.zipIdx j).foldl (fun cs (x : Value × Nat) => cs.setIfInBounds (off + x.2) x.1) c).toList = c.toList.take (off + j) ++ (vs ++ c.toList.drop (off + j + vs.length))
 | [], j, c, _ => by simp
 | v :: r, j, c, h => by
  simp only [List.length_cons] at h
  have ih := zKe off r (j + 1) (c.setIfInBounds (off + j) v) (by simp; omega)
  simp only [List.zipIdx_cons, List.foldl_cons, ih]
  simp only [Array.toList_setIfInBounds, List.length_cons]
  have hlt : off + j < c.toList.length := by simp; omega
  rw [show off + (j + 1) = off + j + 1 by omega, List.take_succ_eq_append_getElem (by simpa using hlt), List.drop_set_of_lt (by omega)]
  simp [show off + j + 1 + r.length = off + j + (r.length + 1) by omega, List.take_set_of_le]
theorem zNj {w : World} {β : Hd → Nat} {G : Hp} (place : Nat → Option (Nat × Nat)) : ∀ (parts : List (Nat × TV)) (cparts : List (Nat × Value)) (cells : List TV) (cs : Array Value) {res : List TV},
  cparts.length = parts.length → (∀ (i : Nat) (p : Nat × TV) (q : Nat × Value), parts[i]? = some p → cparts[i]? = some q → q.1 = p.1 ∧ RepT w β G p.2 q.2) →
  RepL w β G cells cs.toList → fillA place cells parts = some res → ∃ out, Instr.fill place cs cparts = some out ∧ RepL w β G res out.toList
 | [], [], cells, cs, res, _, _, hc, h => by
  simp only [fillA, Option.some.injEq] at h
  subst h
  exact ⟨cs, rfl, hc⟩
 | (i, x) :: parts, (j, v) :: cparts, cells, cs, res, hl, hp, hc, h => by
  obtain ⟨h1, h2⟩ := hp 0 _ _ rfl rfl
  simp only at h1 h2
  subst h1
  simp only [fillA] at h
  split at h
  ·cases h
  ·rename_i off size hpl
   split at h
   ·cases h
   ·rename_i ns hns
    split at h
    ·rename_i e1 e2
     have e1 := Nat.eq_of_beq_eq_true e1
     have e2 := Nat.le_of_ble_eq_true e2
     have hv := zAd h2 hns
     have hsz : v.cells.size = ns.length := by rw [← hv.1]; simp
     have hcs : cs.size = cells.length := by rw [← hc.1]; simp
     have hf := zKe off v.cells.toList 0 cs (by simp; omega)
     simp only [Nat.add_zero] at hf
     obtain ⟨out, ho, hr⟩ := zNj place parts cparts (spl cells off ns) (v.cells.zipIdx.foldl (fun cs x => cs.setIfInBounds (off + x.2) x.1) cs) (by simpa using hl)
      (fun i p q h1 h2 => hp (i + 1) p q (by simpa using h1) (by simpa using h2)) (by
       rw [← Array.foldl_toList, Array.toList_zipIdx, hf]
       exact zNk off hc hv) h
     refine ⟨out, ?_, hr⟩
     simp only [Instr.fill, hpl]
     rw [if_neg (by simp; omega)]
     exact ho
    ·cases h
 | [], _ :: _, _, _, _, hl, _, _, _ => by simp at hl
 | _ :: _, [], _, _, _, hl, _, _, _ => by simp at hl
section
variable {P : Program} {T : Tab} {env : Env} {H L : List AObj} {o : Oper} {x : TV}
def cells? (L : List AObj) : TV → Option (List TV)
 | .ad (.l i) off => match L[i]? with
  | some (.box _ cs) => some (cs.drop off)
  | _ => none
 | .p (.pp cs) => some (cs.map .p)
 | _ => none
theorem cells?_ok {w : World} {β : Hd → Nat} {F : Nat → Prop} {y : TV} {v : Value} {cs : List TV} (hS : Sim w β ⟨H, L, F⟩) (h : RepT w β ⟨H, L, F⟩ y v) (hc : cells? L y = some cs) : ∃ a, v = .pointer (some a) ∧ Cells w β ⟨H, L, F⟩ a cs := by
 unfold cells? at hc
 split at hc
 ·rename_i i off
  split at hc
  ·rename_i T cs' hi
   obtain rfl := Option.some.inj hc
   cases h with | ad _ _ _ _ hl hv =>
   have hv := hv _ hi rfl
   obtain ⟨arr, h1, h2, h3⟩ := hS.objs (.l i) _ hi
   refine ⟨_, hv, fun j y hj => ?_⟩
   rw [List.getElem?_drop] at hj
   obtain ⟨u, hu, hr⟩ := h3 _ y hj
   exact ⟨u, by rw [Addr.add_lit, cell_of_row w _ _ _ _ _ h1]; exact hu, hr⟩
  ·cases hc
 ·rename_i cs'
  obtain rfl := Option.some.inj hc
  cases h with | p h =>
  cases h with | pp _ a vs hN hb hcl hr =>
  refine ⟨a, rfl, fun j y hj => ?_⟩
  simp only [List.getElem?_map, Option.map_eq_some_iff] at hj
  obtain ⟨z, hz, rfl⟩ := hj
  exact ⟨vs j, hcl j (List.getElem?_eq_some_iff.1 hz).1, .p (hr j z hz)⟩
 ·cases hc
theorem zKa {x : Operand} (ho : o.op = .move x ∨ o.op = .assign x) : OpR P o env H L (evA env x) H L :=
 zQ fun F w β a _ he => ⟨a.eval x, by rcases ho with ho | ho <;> simp [execOp, ho], zL he x⟩
def pickA (v : Bool) (x y : TV) : TV := match x, y with
 | .p (.bool p), .p (.bool q) => .p (.bool (cond v p q))
 | x, y => cond v x y
theorem opr_pick {c a b : Operand} {v : Bool} (ho : o.op = .pick c a b) (hc : evA env c = .p (.bool v)) : OpR P o env H L (pickA v (evA env a) (evA env b)) H L :=
 zQ fun F w β ac _ he => by
  have h := zL he c
  rw [hc] at h
  refine ⟨if v then ac.eval a else ac.eval b, by cases v <;> simp [execOp, ho, h.bool_inv, asBool], ?_⟩
  have ha := zL he a
  have hb := zL he b
  unfold pickA
  split
  ·rename_i p q hp hq
   rw [hp] at ha
   rw [hq] at hb
   cases v
   ·simpa using hb
   ·simpa using ha
  ·cases v
   ·simpa using hb
   ·simpa using ha
theorem zDw {w : World} {β : Hd → Nat} {G : Hp} {b : Nat} {t : TypeId} {cs : List TV} {vs : List Value} (hb : w.heap[b]? = some (.cells vs.toArray t (0, 0))) (h : RepL w β G cs vs) : ObjOk w β G b (.box t cs) :=
 ⟨vs.toArray, hb, by simp [h.1], fun i x hx => by
  have hlt : i < vs.length := by rw [h.1]; exact (List.getElem?_eq_some_iff.1 hx).1
  exact ⟨vs[i], by simp [hlt], h.2 i x _ hx (List.getElem?_eq_getElem hlt)⟩⟩
theorem RepL.mono {w w' : World} {β β' : Hd → Nat} {G G' : Hp} (hs : Step w β G w' β' G') {cs : List TV} {vs : List Value} (h : RepL w β G cs vs) : RepL w' β' G' cs vs := ⟨h.1, fun i x v h1 h2 => (h.2 i x v h1 h2).mono hs⟩
theorem zVz {w : World} {β : Hd → Nat} {F : Nat → Prop} {ob : AObj} {n : Nat} (off : Nat) (hβ : β (.l L.length) = n) (hm : ob.isMap = false := by rfl) : RepT w β ⟨H, L ++ [ob], F⟩ (.ad (.l L.length) off) (.pointer (some ⟨n, off, none⟩)) :=
 .ad _ _ _ rfl ⟨ob, by simp [Hp.get]⟩ fun o2 h2 _ => by
  obtain rfl : ob = o2 := by simpa [Hp.get] using h2
  rw [hβ, hm]; rfl
theorem opr_box {t : TypeId} {y : Operand} {cs : List TV} (ho : o.op = .box t y) (hc : tcells (evA env y) = some cs) : OpR P o env H L (.ad (.l L.length) 0) H (L ++ [.box t cs]) :=
 zNx fun F w β a _ he => by
  have hv := zAd (zL he y) hc
  refine ⟨.pointer (some ⟨w.heap.size, 0, none⟩), .cells (a.eval y).cells t, by simp [execOp, ho, Instr.box, newVar, newRow], fun β' hβ hst => ⟨?_, zVz 0 (by rw [hβ]; simp)⟩⟩
  refine zDw ?_ (hv.mono hst)
  rw [yP]
theorem zD7 {w : World} {β : Hd → Nat} {G : Hp} {xs : List AV} {vs : List Value} (h : chkZ xs vs = true) : RepL w β G (xs.map .p) vs := by
 obtain ⟨h1, h2⟩ := zF9 h
 refine ⟨by simp [h1], fun i x v hx hv => ?_⟩
 simp only [List.getElem?_map, Option.map_eq_some_iff] at hx
 obtain ⟨y, hy, rfl⟩ := hx
 exact .p (h2 w _ i y v hy hv)
theorem opr_zero {t : TypeId} {i : TyI} (hT : TabOk P T) (ho : o.op = .alloc t) (hi : tlk T t = some i) : OpR P o env H L (.ad (.l L.length) 0) H (L ++ [.box t (i.zero.map .p)]) :=
 zNx fun F w β a _ he => by
  obtain ⟨inf, u, ok⟩ := hT.get hi
  obtain ⟨z, hz, hzz⟩ := ok.run_zero w
  refine ⟨.pointer (some ⟨w.heap.size, 0, none⟩), .cells z.cells t, by simp [execOp, ho, Instr.alloc, hz, newVar, newRow], fun β' hβ hst => ⟨?_, zVz 0 (by rw [hβ]; simp)⟩⟩
  refine zDw ?_ (zD7 hzz)
  rw [yP]
theorem opr_load {t : TypeId} {y : Operand} {cs : List TV} (hT : TabOk P T) (ho : o.op = .load t y) (hc : cells? L (evA env y) = some cs) (hl : loadC T t cs = some x) : OpR P o env H L x H L :=
 zQ fun F w β a hS he => by
  obtain ⟨ad, hv, hcs⟩ := cells?_ok hS (zL he y) hc
  obtain ⟨u, hu, hr⟩ := zFs (P := P) hT hcs hl
  exact ⟨u, by simp [execOp, ho, Instr.loadAt, Instr.sureAddr, hv, hu], hr⟩
theorem zAn {w : World} {t : TypeId} {i : TyI} {inf : TypeInfo} {u : TypeDesc} (ok : TyOk P t i inf u) {g off : Nat} {cur : Array Value} {bt : TypeId} {v : Value} (hg : w.heap[g]? = some (.cells cur bt (0, 0))) (hsz : v.cells.size = i.size) (hfit : off + i.size ≤ cur.size) (h1 : ∀ c ∈ v.cells.toList, c.oneCell' = true) :
  (storeVar t ⟨g, off, none⟩ v).run P w = .ok () (w.setRow g (cur.toList.take off ++ v.cells.toList ++ cur.toList.drop (off + v.cells.toList.length)).toArray) := by
 have hst := run_storeCells_at P g off bt v.cells.toList 0 cur w hg (by simp; omega) h1
 simp only [Nat.add_zero] at hst
 simp [storeVar, ok.run_size, hsz, hst]
theorem zSg {t : TypeId} {y z : Operand} {i off : Nat} {b : TypeId} {cs ns : List TV} {ti : TyI} (hT : TabOk P T) (ho : o.op = .store t y z) (hy : evA env y = .ad (.l i) off) (hi : L[i]? = some (.box b cs)) (ht : tlk T t = some ti)
  (hz : tcells (evA env z) = some ns) (hn : Nat.beq ns.length ti.size = true) (hf : Nat.ble (off + ns.length) cs.length = true) (ha : allCell ns = true) : OpR P o env H L (.p .top) H (L.set i (.box b (spl cs off ns))) :=
 zEx hi rfl fun F w β a hS he => by
  obtain ⟨inf, u, ok⟩ := hT.get ht
  have hn := Nat.eq_of_beq_eq_true hn
  have hf := Nat.le_of_ble_eq_true hf
  have hv := zAd (zL he z) hz
  have hp := zL he y
  rw [hy] at hp
  obtain ⟨arr, h1, h2, h3⟩ := hS.objs (.l i) _ hi
  have hpv : a.eval y = .pointer (some ⟨β (.l i), off, none⟩) := by
   generalize hu : a.eval y = u at hp
   cases hp with | ad _ _ _ _ _ hvv => exact hvv _ hi rfl
  have hsz : (a.eval z).cells.size = ns.length := by rw [← hv.1]; simp
  have hrun := zAn (w := w) (off := off) ok h1 (v := a.eval z) (by omega) (by omega) (fun c hc => by
   obtain ⟨j, hj⟩ := List.getElem?_of_mem hc
   have hlt : j < ns.length := by rw [← hv.1]; exact (List.getElem?_eq_some_iff.1 hj).1
   exact zGn (hv.2 j _ c (List.getElem?_eq_getElem hlt) hj) (zDb ha (List.getElem?_eq_getElem hlt)))
  refine ⟨undef, w.setRow (β (.l i)) (arr.toList.take off ++ (a.eval z).cells.toList ++ arr.toList.drop (off + (a.eval z).cells.toList.length)).toArray, .inr ⟨by simp only [execOp, ho, Instr.storeAt, Instr.sureAddr, hpv, Sem.run_bind, Sem.run_pure, Result.andThen_ok]; rw [hrun]; rfl, rfl⟩, rfl, rfl, rfl, by simp, fun b hb => setRow_other w _ b _ hb, ?_, fun hst => ⟨?_, .p (.top _)⟩⟩
  ·simp [ObjGo, spl]; omega
  ·have hcs : RepL w β ⟨H, L, F⟩ cs arr.toList := ⟨by simp [h2], fun j x v hx hv => by
    obtain ⟨v', hv', hr⟩ := h3 j x hx
    simp at hv
    rw [hv] at hv'
    obtain rfl := Option.some.inj hv'
    exact hr⟩
   have := (zNk off hcs hv).mono hst
   refine zDw (vs := arr.toList.take off ++ ((a.eval z).cells.toList ++ arr.toList.drop (off + (a.eval z).cells.toList.length))) ?_ this
   rw [setRow_heap w _ _ _ _ _ h1]
   simp
end
section
variable {P : Program} {T : Tab} {env : Env} {H L : List AObj} {o : Oper} {x : TV}
def nilA (L : List AObj) : TV → Option TV
 | .p (.pp cs) => some (.p (.pp cs))
 | .ad (.l i) off => match L[i]? with
  | some (.box ..) => some (.ad (.l i) off)
  | _ => none
 | .el s e i off => some (.el s e i off)
 | .fn f l => some (.fn f l)
 | _ => none
theorem nilA_ok {w : World} {β : Hd → Nat} {F : Nat → Prop} {y : TV} {v : Value} (h : RepT w β ⟨H, L, F⟩ y v) (hc : nilA L y = some x) : x = y ∧ ((∃ a, v = .pointer (some a)) ∨ ∃ f vs, v = .func (.func f) #[] vs) := by
 unfold nilA at hc
 split at hc
 ·obtain rfl := Option.some.inj hc
  cases h with | p h => cases h with | pp _ a => exact ⟨rfl, .inl ⟨a, rfl⟩⟩
 ·split at hc
  ·rename_i hi
   obtain rfl := Option.some.inj hc
   cases h with | ad _ _ _ _ _ hv => exact ⟨rfl, .inl ⟨_, hv _ hi rfl⟩⟩
  ·cases hc
 ·obtain rfl := Option.some.inj hc
  cases h with | el => exact ⟨rfl, .inl ⟨_, rfl⟩⟩
 ·obtain rfl := Option.some.inj hc
  cases h with | fn f xs vs => exact ⟨rfl, .inr ⟨_, vs.toArray, rfl⟩⟩
 ·cases hc
theorem opr_nil {y : Operand} (ho : o.op = .nilCheck y) (hc : nilA L (evA env y) = some x) : OpR P o env H L x H L :=
 zQ fun F w β a _ he => by
  have h := zL he y
  obtain ⟨rfl, h2⟩ := nilA_ok h hc
  refine ⟨a.eval y, ?_, h⟩
  rcases h2 with ⟨ad, hv⟩ | ⟨f, vs, hv⟩ <;> simp [execOp, ho, hv]
def tyD (T : Tab) (t : Nat) : TyD := match tlk T t with
 | some i => i.d
 | none => .other
theorem zV (hT : TabOk P T) {t : Nat} (h : tyD T t ≠ .other) : ∃ u, P.underlying t = some u ∧ chkD (tyD T t) u = true := by
 unfold tyD at h ⊢
 split
 ·rename_i i hi
  obtain ⟨inf, u, ok⟩ := hT.get hi
  exact ⟨u, ok.und, ok.d⟩
 ·rename_i hi; rw [hi] at h; simp at h
theorem zGu (hT : TabOk P T) {t : Nat} (h : tyD T t = .ptr) : ∃ e, P.underlying t = some (.pointer e) := by
 obtain ⟨ud, h1, h2⟩ := zV hT (t := t) (by rw [h]; simp)
 rw [h] at h2
 cases ud <;> simp_all [chkD]
theorem zB2 {w : World} {t : TypeId} {e : TypeId} (hu : P.underlying t = some (.pointer e)) {a b : Option Addr} (h : a = none ∨ b = none) : (Op.equal t (.pointer a) (.pointer b)).run P w = .ok (a.isNone && b.isNone) w := by
 have key : ∀ d, (Op.equalIn (d + 1) t (.pointer a) (.pointer b)).run P w = .ok (a.isNone && b.isNone) w := by
  intro d
  rcases h with rfl | rfl
  ·cases b <;> simp [Op.equalIn, run_underlying hu]
  ·cases a <;> simp [Op.equalIn, run_underlying hu]
 exact key 9999
theorem zRk {w : World} {t : TypeId} (hu : P.underlying t = some .bool) (a b : Bool) : (Op.equal t (.bool a) (.bool b)).run P w = .ok (a == b) w := by
 have key : ∀ d, (Op.equalIn (d + 1) t (.bool a) (.bool b)).run P w = .ok (a == b) w := by
  intro d; simp [Op.equalIn, run_underlying hu]
 exact key 9999
theorem run_eqSl {w : World} {t : TypeId} {e : TypeId} (hu : P.underlying t = some (.slice e)) (b : Option Addr) (n c m k : Nat) : (Op.equal t (.slice none n c) (.slice b m k)).run P w = .ok b.isNone w := by
 have key : ∀ d, (Op.equalIn (d + 1) t (.slice none n c) (.slice b m k)).run P w = .ok b.isNone w := by
  intro d; simp [Op.equalIn, run_underlying hu]
 exact key 9999
theorem eqA_ok {op : BinOp} {b : Bool} {x : TV} (h : eqA op b = some x) : (op = .eql ∧ x = .p (.bool b)) ∨ (op = .neq ∧ x = .p (.bool !b)) := by
 unfold eqA at h
 split at h
 ·exact .inl ⟨rfl, (Option.some.inj h).symm⟩
 ·exact .inr ⟨rfl, (Option.some.inj h).symm⟩
 ·cases h
theorem jR {w : World} {t : TypeId} {op : BinOp} {b : Bool} {u v : Value} (h : eqA op b = some x) (hr : (Op.equal t u v).run P w = .ok b w) (he : Go.binOp .eql t u v = (do pure (.bool (← Op.equal t u v)))) (hn : Go.binOp .neq t u v = (do pure (.bool (!(← Op.equal t u v))))) :
  ∃ c, x = .p (.bool c) ∧ (Go.binOp op t u v).run P w = .ok (.bool c) w := by
 rcases eqA_ok h with ⟨rfl, rfl⟩ | ⟨rfl, rfl⟩
 ·exact ⟨b, rfl, by rw [he]; simp [hr]⟩
 ·exact ⟨!b, rfl, by rw [hn]; simp [hr]⟩
theorem zTi {k k' : IntKind} (h : kEq k k' = true) : k = k' := by
 unfold kEq at h
 by_cases e : k = k'
 ·exact e
 ·simp [e] at h
theorem zAa (t : TypeId) (a b : Option Addr) : Go.binOp .eql t (.pointer a) (.pointer b) = (do pure (.bool (← Op.equal t (.pointer a) (.pointer b)))) := by simp [Go.binOp]
theorem j7 (t : TypeId) (a b : Option Addr) : Go.binOp .neq t (.pointer a) (.pointer b) = (do pure (.bool (!(← Op.equal t (.pointer a) (.pointer b))))) := by simp [Go.binOp]
theorem zNw (t : TypeId) (a b : Bool) : Go.binOp .eql t (.bool a) (.bool b) = (do pure (.bool (← Op.equal t (.bool a) (.bool b)))) := by simp [Go.binOp]
theorem zNq (t : TypeId) (a b : Bool) : Go.binOp .neq t (.bool a) (.bool b) = (do pure (.bool (!(← Op.equal t (.bool a) (.bool b))))) := by simp [Go.binOp]
theorem zSu (t : TypeId) (a b : Option Addr) (n c m k : Nat) : Go.binOp .eql t (.slice a n c) (.slice b m k) = (do pure (.bool (← Op.equal t (.slice a n c) (.slice b m k)))) := by simp [Go.binOp]
theorem zUb (t : TypeId) (a b : Option Addr) (n c m k : Nat) : Go.binOp .neq t (.slice a n c) (.slice b m k) = (do pure (.bool (!(← Op.equal t (.slice a n c) (.slice b m k))))) := by simp [Go.binOp]
theorem opr_bin {op : BinOp} {t t2 : TypeId} {y z : Operand} (hT : TabOk P T) (ho : o.op = .binOp op t y z t2) (hb : binA L op (evA env y) (evA env z) (tyD T t) = some x) : OpR P o env H L x H L :=
 zQ fun F w β a hS he => by
  have hy := zL he y
  have hz := zL he z
  generalize hev : a.eval y = u at hy
  generalize hev2 : a.eval z = v at hz
  have fin : ∀ r, (eqGuard op t y z u v).run P w = .ok () w → (Go.binOp op t u v).run P w = .ok r w → (execOp a.eval o).run P w = .ok (.value r) w := by
   intro r h1 h2
   simp only [execOp, ho, hev, hev2, Sem.run_bind, h1, h2, Result.andThen_ok, Sem.run_pure]
  generalize hx1 : evA env y = x1 at hb hy
  generalize hx2 : evA env z = x2 at hb hz
  unfold binA at hb
  split at hb
  ·have e1 := hy.int_inv; have e2 := hz.int_inv; subst e1 e2
   split at hb
   ·rename_i k a1 k' b1 _ _
    obtain ⟨q, rfl, r, h1, h2⟩ := zSx P w t (k' := k') hb
    exact ⟨r, fin r (by simp [eqGuard_at_int]) h1, .p (h2 _)⟩
   ·rename_i hs
    split at hb
    ·rename_i hk
     have hk := zTi hk
     subst hk
     obtain ⟨q, rfl, r, h1, h2⟩ := zQ6 P w t hs hb
     exact ⟨r, fin r (by simp [eqGuard_at_int]) h1, .p (h2 _)⟩
    ·cases hb
  ·have e1 := hy.str_inv; have e2 := hz.str_inv; subst e1 e2
   obtain ⟨c, rfl, h1⟩ := zRt P w t hb
   exact ⟨_, fin _ (by simp [eqGuard_at_string]) h1, .p (.bool ..)⟩
  ·have e1 := hy.bool_inv; have e2 := hz.bool_inv; subst e1 e2
   split at hb
   ·rename_i hd
    obtain ⟨ud, h1, h2⟩ := zV hT (t := t) (by rw [hd]; simp)
    rw [hd] at h2
    have : ud = .bool := by cases ud <;> simp_all [chkD]
    subst this
    obtain ⟨c, rfl, h3⟩ := jR (P := P) (w := w) (t := t) hb (zRk h1 _ _) (zNw ..) (zNq ..)
    exact ⟨_, fin _ (by simp [eqGuard_at_bool]) h3, .p (.bool ..)⟩
   ·cases hb
  ·have e1 : u = .pointer none := by cases hy with | p h => cases h; rfl
   have e2 : v = .pointer none := by cases hz with | p h => cases h; rfl
   subst e1 e2
   split at hb
   ·rename_i hd
    obtain ⟨e, h1⟩ := zGu hT hd
    obtain ⟨c, rfl, h3⟩ := jR (P := P) (w := w) (t := t) hb (zB2 h1 (.inl rfl)) (zAa t none none) (j7 ..)
    exact ⟨_, fin _ (by simp [eqGuard_at_pointer]) h3, .p (.bool ..)⟩
   ·cases hb
  ·obtain ⟨ad, e1⟩ : ∃ ad, u = .pointer (some ad) := by cases hy with | p h => cases h; exact ⟨_, rfl⟩
   have e2 : v = .pointer none := by cases hz with | p h => cases h; rfl
   subst e1 e2
   split at hb
   ·rename_i hd
    obtain ⟨e, h1⟩ := zGu hT hd
    obtain ⟨c, rfl, h3⟩ := jR (P := P) (w := w) (t := t) hb (zB2 h1 (.inr rfl)) (zAa t (some ad) none) (j7 ..)
    exact ⟨_, fin _ (by simp [eqGuard_at_pointer]) h3, .p (.bool ..)⟩
   ·cases hb
  ·have e2 : v = .pointer none := by cases hz with | p h => cases h; rfl
   split at hb
   ·rename_i hd hi
    obtain ⟨ad, e1⟩ : ∃ ad, u = .pointer (some ad) := by cases hy with | ad _ _ _ _ _ hv => exact ⟨_, hv _ hi rfl⟩
    subst e1 e2
    obtain ⟨e, h1⟩ := zGu hT hd
    obtain ⟨c, rfl, h3⟩ := jR (P := P) (w := w) (t := t) hb (zB2 h1 (.inr rfl)) (zAa t (some ad) none) (j7 ..)
    exact ⟨_, fin _ (by simp [eqGuard_at_pointer]) h3, .p (.bool ..)⟩
   ·cases hb
  ·have e1 : u = .slice none 0 0 := by cases hy with | p h => cases h; rfl
   have e2 : v = .slice none 0 0 := by cases hz with | p h => cases h; rfl
   subst e1 e2
   split at hb
   ·rename_i hd
    obtain ⟨ud, h1, h2⟩ := zV hT (t := t) (by rw [hd]; simp)
    rw [hd] at h2
    obtain rfl := yB h2
    obtain ⟨c, rfl, h3⟩ := jR (P := P) (w := w) (t := t) hb (run_eqSl h1 none 0 0 0 0) (zSu ..) (zUb ..)
    exact ⟨_, fin _ (by simp [eqGuard_at_slice]) h3, .p (.bool ..)⟩
   ·cases hb
  ·cases hb
def fieldOf (T : Tab) (s f : Nat) : Option (Nat × TyI) := match tlk T s with
 | some i => match i.d with
  | .struct fs => match fs[f]? with
   | some (off, ft) => match tlk T ft with
    | some j => match Nat.beq j.size 0 with
     | true => none
     | false => some (off, j)
    | none => none
   | none => none
  | _ => none
 | none => none
theorem zE3 (hT : TabOk P T) {s f off : Nat} {j : TyI} (h : fieldOf T s f = some (off, j)) :
  ∃ fs fd inf u, P.underlying s = some (.struct fs) ∧ fs[f]? = some fd ∧ fd.offset = off ∧ TyOk P fd.type j inf u ∧ j.size ≠ 0 := by
 unfold fieldOf at h
 split at h
 ·rename_i i hi
  obtain ⟨inf, u, ok⟩ := hT.get hi
  split at h
  ·rename_i fs hd
   have h2 := ok.d
   rw [hd] at h2
   obtain ⟨gs, rfl, h3⟩ := zBf h2
   split at h
   ·rename_i off' ft hf
    split at h
    ·rename_i j' hj
     split at h
     ·cases h
     ·rename_i hz
      simp only [Option.some.injEq, Prod.mk.injEq] at h
      obtain ⟨rfl, rfl⟩ := h
      rw [h3] at hf
      simp only [List.getElem?_map, Option.map_eq_some_iff, Array.getElem?_toList] at hf
      obtain ⟨fd, hfd, he⟩ := hf
      simp only [Prod.mk.injEq] at he
      obtain ⟨rfl, rfl⟩ := he
      obtain ⟨inf', u', ok'⟩ := hT.get hj
      exact ⟨gs, fd, inf', u', ok.und, hfd, rfl, ok', Nat.ne_of_beq_eq_false hz⟩
    ·cases h
   ·cases h
  ·cases h
 ·cases h
def fadA (L : List AObj) (off : Nat) : TV → Option TV
 | .p (.pp cs) => some (.p (.pp (cs.drop off)))
 | .ad (.l i) o => match L[i]? with
  | some (.box ..) => some (.ad (.l i) (o + off))
  | _ => none
 | .el s e i o => some (.el s e i (o + off))
 | _ => none
theorem zIq {s f off : Nat} {j : TyI} {y : Operand} (hT : TabOk P T) (ho : o.op = .fieldAddr s y f) (hf : fieldOf T s f = some (off, j)) (hc : fadA L off (evA env y) = some x) : OpR P o env H L x H L :=
 zQ fun F w β a _ he => by
  obtain ⟨fs, fd, inf, u, h1, h2, rfl, ok, hne⟩ := zE3 hT hf
  have h := zL he y
  have run : ∀ ad : Addr, a.eval y = .pointer (some ad) → (execOp a.eval o).run P w = .ok (.value (.pointer (some (ad.add fd.offset)))) w := by
   intro ad hv
   simp [execOp, ho, Instr.fieldAt, run_underlying h1, h2, Instr.sureAddr, hv, fieldPlace, ok.run_size, hne]
  unfold fadA at hc
  split at hc
  ·rename_i cs hx
   obtain rfl := Option.some.inj hc
   rw [hx] at h
   generalize hv : a.eval y = v at h
   cases h with | p h =>
   cases h with | pp _ ad vs hN hb hcl hr =>
   refine ⟨_, run ad hv, .p (.pp _ _ (fun i => vs (fd.offset + i)) (by rw [jU]; exact hN) (by rw [jU]; exact hb) (fun i hi => ?_) fun i x hx => ?_)⟩
   ·rw [zBw]; exact hcl _ (by simp at hi; omega)
   ·rw [List.getElem?_drop] at hx; exact hr _ x hx
  ·rename_i i o' hx
   split at hc
   ·rename_i hi
    obtain rfl := Option.some.inj hc
    rw [hx] at h
    generalize hv : a.eval y = v at h
    cases h with | ad _ _ _ _ hl hvv =>
    have e : v = .pointer (some ⟨_, _, none⟩) := hvv _ hi rfl
    subst e
    exact ⟨_, run _ hv, .ad _ _ _ rfl hl fun o2 h2 _ => by
     obtain rfl := Option.some.inj (hi.symm.trans h2)
     rw [Addr.add_lit]; rfl⟩
   ·cases hc
  ·rename_i s' e i o' hx
   obtain rfl := Option.some.inj hc
   rw [hx] at h
   generalize hv : a.eval y = v at h
   cases h with | el _ _ _ ad len c hs hi =>
   refine ⟨_, run _ hv, ?_⟩
   rw [zBw, Nat.add_assoc]
   exact .el _ _ _ _ _ _ hs hi
  ·cases hc
def fldA (off : Nat) (j : TyI) : TV → Option TV
 | .agg l => match isAggD j.d with
  | some true => match Nat.ble (off + j.size) l.length with
   | true => some (.agg ((l.drop off).take j.size))
   | false => none
  | some false => l[off]?
  | none => none
 | _ => none
theorem zVr {s f off : Nat} {j : TyI} {y : Operand} (hT : TabOk P T) (ho : o.op = .field s y f) (hf : fieldOf T s f = some (off, j)) (hc : fldA off j (evA env y) = some x) : OpR P o env H L x H L :=
 zQ fun F w β a _ he => by
  obtain ⟨fs, fd, inf, u, h1, h2, rfl, ok, hne⟩ := zE3 hT hf
  have h := zL he y
  unfold fldA at hc
  split at hc
  ·rename_i l hx
   rw [hx] at h
   generalize hv : a.eval y = v at h
   cases h with | agg _ vs hl hr =>
   split at hc
   ·rename_i hb
    split at hc
    ·rename_i hle
     have hle := Nat.le_of_ble_eq_true hle
     obtain rfl := Option.some.inj hc
     refine ⟨.agg ((vs.drop fd.offset).take j.size).toArray, ?_, .agg _ _ (by simp [hl]) fun i x v hx hv => ?_⟩
     ·simp [execOp, ho, Instr.field, run_underlying h1, h2, hv, asAgg, part, ok.run_agg w hb, ok.run_size]
     ·rw [List.getElem?_take] at hx hv
      split at hx
      ·rename_i hi
       rw [if_pos hi] at hv
       rw [List.getElem?_drop] at hx hv
       exact hr _ x v hx hv
      ·cases hx
    ·cases hc
   ·rename_i hb
    have hlt : fd.offset < vs.length := by rw [hl]; exact (List.getElem?_eq_some_iff.1 hc).1
    exact ⟨vs[fd.offset], by simp [execOp, ho, Instr.field, run_underlying h1, h2, hv, asAgg, part, ok.run_agg w hb, hlt], hr _ x _ hc (List.getElem?_eq_getElem hlt)⟩
   ·cases hc
  ·cases hc
theorem zMu {y : Operand} {i : Nat} {l : List TV} (ho : o.op = .extract y i) (hy : evA env y = .tup l) (hx : l[i]? = some x) : OpR P o env H L x H L :=
 zQ fun F w β a _ he => by
  have h := zL he y
  rw [hy] at h
  generalize hv : a.eval y = v at h
  cases h with | tup _ vs hl hr =>
  have hlt : i < vs.length := by rw [hl]; exact (List.getElem?_eq_some_iff.1 hx).1
  exact ⟨vs[i], by simp [execOp, ho, Instr.extract, hv, hlt], hr _ x _ hx (List.getElem?_eq_getElem hlt)⟩
theorem zK0 {s d : TypeId} {y : Operand} {k k' : IntKind} {n : Int} {si : TyI} (hT : TabOk P T) (ho : o.op = .convert s d y) (hs : tlk T s = some si) (hd : tyD T d = .int k) (hy : evA env y = .p (.int k' n)) : OpR P o env H L (.p (.int k (k.wrap n))) H L :=
 zQ fun F w β a _ he => by
  have h := zL he y
  rw [hy] at h
  obtain ⟨inf, us, ok⟩ := hT.get hs
  obtain ⟨u, h1, h2⟩ := zV hT (t := d) (by rw [hd]; simp)
  rw [hd] at h2
  obtain rfl := zBo h2
  refine ⟨.int k (k.wrap n), ?_, .p (.int ..)⟩
  simp only [execOp, ho, h.int_inv, Sem.run_bind, convert, run_underlying ok.und, run_underlying h1, Result.andThen_ok]
  cases us <;> rfl
theorem opr_not {t : TypeId} {y : Operand} {b : Bool} (ho : o.op = .unOp .not t y) (hy : evA env y = .p (.bool b)) : OpR P o env H L (.p (.bool !b)) H L :=
 zQ fun F w β a _ he => by
  have h := zL he y
  rw [hy] at h
  exact ⟨.bool !b, by simp [execOp, ho, h.bool_inv, Op.unary], .p (.bool ..)⟩
theorem opr_neg {t : TypeId} {y : Operand} {k : IntKind} {n : Int} (ho : o.op = .unOp .neg t y) (hy : evA env y = .p (.int k n)) : OpR P o env H L (.p (.int k (k.wrap (0 - n)))) H L :=
 zQ fun F w β a _ he => by
  have h := zL he y
  rw [hy] at h
  exact ⟨.int k (k.wrap (0 - n)), by simp only [execOp, ho, h.int_inv, Op.unary, Op.intArith, Sem.run_bind, Sem.run_pure, Result.andThen_ok], .p (.int ..)⟩
end
section
variable {P : Program} {T : Tab} {env : Env} {H L : List AObj} {o : Oper} {x : TV}
def evP (env : Env) : List (Nat × Operand) → List (Nat × TV)
 | [] => []
 | (i, y) :: r => (i, evA env y) :: evP env r
theorem zS1 {w : World} {β : Hd → Nat} {G : Hp} {a : Act} (he : EnvR w β G env a) : ∀ (l : List (Nat × Operand)),
  (l.map fun p => (p.1, a.eval p.2)).length = (evP env l).length ∧ ∀ (i : Nat) (p : Nat × TV) (q : Nat × Value), (evP env l)[i]? = some p → (l.map fun p => (p.1, a.eval p.2))[i]? = some q → q.1 = p.1 ∧ RepT w β G p.2 q.2
 | [] => by simp [evP]
 | (j, y) :: r => by
  obtain ⟨h1, h2⟩ := zS1 he r
  refine ⟨by simpa [evP] using h1, fun i p q hp hq => ?_⟩
  cases i with
  | zero => simp [evP] at hp hq; subst hp hq; exact ⟨rfl, zL he y⟩
  | succ i => exact h2 i p q (by simpa [evP] using hp) (by simpa using hq)
def plc (T : Tab) : List (Nat × Nat) → Option (List (Nat × Nat))
 | [] => some []
 | (off, t) :: r => match tlk T t, plc T r with
  | some i, some l => some ((off, i.size) :: l)
  | _, _ => none
def lget : List (Nat × Nat) → Nat → Option (Nat × Nat)
 | [], _ => none
 | x :: _, 0 => some x
 | _ :: r, i + 1 => lget r i
theorem zWh : ∀ (l : List (Nat × Nat)) (i : Nat), lget l i = l[i]?
 | [], _ => by simp [lget]
 | _ :: _, 0 => by simp [lget]
 | _ :: r, i + 1 => by simpa [lget] using zWh r i
theorem plc_ok (hT : TabOk P T) : ∀ (fs : List Field) {l : List (Nat × Nat)}, plc T (fs.map fun f => (f.offset, f.type)) = some l → fs.mapM (fun f => (P.info? f.type).map fun i => (f.offset, i.size)) = some l
 | [], l, h => by simp [plc] at h; subst h; rfl
 | f :: fs, l, h => by
  simp only [List.map_cons, plc] at h
  split at h
  ·rename_i i l' hi hl
   obtain rfl := Option.some.inj h
   obtain ⟨inf, u, ok⟩ := hT.get hi
   simp [List.mapM_cons, ok.info, ok.size, plc_ok hT fs hl]
  ·cases h
def buildA (T : Tab) (t : Nat) (parts : List (Nat × TV)) : Option TV :=
 match tlk T t with
 | some i => match i.d with
  | .struct fs => match plc T fs with
   | some l => match fillA (lget l) (i.zero.map .p) parts with
    | some cs => some (.agg cs)
    | none => none
   | none => none
  | .array _ e => match tlk T e with
   | some j => match fillA (fun n => some (n * j.size, j.size)) (i.zero.map .p) parts with
    | some cs => some (.agg cs)
    | none => none
   | none => none
  | _ => none
 | none => none
theorem zSj {t : TypeId} {parts : List (Nat × Operand)} (hT : TabOk P T) (ho : o.op = .build t parts.toArray) (hb : buildA T t (evP env parts) = some x) : OpR P o env H L x H L :=
 zQ fun F w β a _ he => by
  obtain ⟨e1, e2⟩ := zS1 he parts
  have fin : ∀ (place : Nat → Option (Nat × Nat)) (i : TyI) (z : Value) (cs : List TV), chkZ i.zero z.cells.toList = true → fillA place (i.zero.map .p) (evP env parts) = some cs →
    (∀ out, Instr.fill place z.cells (parts.map fun p => (p.1, a.eval p.2)) = some out → P.built t (parts.map fun p => (p.1, a.eval p.2)) = some out) →
    ∃ u, (execOp a.eval o).run P w = .ok (.value u) w ∧ RepT w β ⟨H, L, F⟩ (.agg cs) u := by
   intro place i z cs hz hf hbt
   obtain ⟨out, h1, h2⟩ := zNj (w := w) (β := β) (G := ⟨H, L, F⟩) place (evP env parts) (parts.map fun p => (p.1, a.eval p.2)) (i.zero.map .p) z.cells e1 e2 (zD7 hz) hf
   refine ⟨.agg out, ?_, ?_⟩
   ·have hrun := run_build (P := P) w t (parts.map fun p => (p.1, a.eval p.2)).toArray out (by simpa using hbt out h1)
    simp only [execOp, ho, Sem.run_bind]
    rw [show (parts.toArray.map fun x => match x with | (i, y) => (i, a.eval y)) = (parts.map fun p => (p.1, a.eval p.2)).toArray by simp]
    rw [hrun]
    rfl
   ·have := RepT.agg (w := w) (β := β) (G := ⟨H, L, F⟩) cs out.toList h2.1 h2.2
    simpa using this
  unfold buildA at hb
  split at hb
  ·rename_i i hi
   obtain ⟨inf, u, ok⟩ := hT.get hi
   obtain ⟨z, hz, hzz⟩ := ok.zero
   split at hb
   ·rename_i fs hd
    have h2 := ok.d
    rw [hd] at h2
    obtain ⟨gs, rfl, h3⟩ := zBf h2
    split at hb
    ·rename_i l hl
     split at hb
     ·rename_i cs hf
      obtain rfl := Option.some.inj hb
      rw [h3] at hl
      have hm := plc_ok hT gs.toList hl
      refine fin _ i z cs hzz hf fun out hout => ?_
      have : (fun x => l[x]?) = lget l := funext fun j => (zWh l j).symm
      simp only [Program.built, ok.info, ok.und, hz, hm, List.getElem?_toArray, this, hout]
     ·cases hb
    ·cases hb
   ·rename_i n e hd
    have h2 := ok.d
    rw [hd] at h2
    obtain rfl := jC h2
    split at hb
    ·rename_i j hj
     obtain ⟨inf', u', ok'⟩ := hT.get hj
     split at hb
     ·rename_i cs hf
      obtain rfl := Option.some.inj hb
      refine fin _ i z cs hzz hf fun out hout => ?_
      simp only [Program.built, ok.info, ok.und, hz, ok'.info, ok'.size, hout]
     ·cases hb
    ·cases hb
   ·cases hb
  ·cases hb
def rep {α : Type} (xs : List α) : Nat → List α
 | 0 => []
 | n + 1 => xs ++ rep xs n
def chunk (agg : Bool) (e : Nat) : Nat → List AV → List AV
 | 0, _ => []
 | n + 1, l => (match agg with
  | true => .agg (l.take e)
  | false => l.headD .top) :: chunk agg e n (l.drop e)
def bsl (T : Tab) (t n : Nat) (parts : List (Nat × TV)) : Option (Nat × List TV × List AV) :=
 match tlk T t with
 | some i => match i.d with
  | .slice e => match tlk T e with
   | some j => match isAggD j.d, Nat.ble 1 n && Nat.ble (n * j.size) 65536 && Nat.ble 1 j.size with
    | some ag, true => match fillA (fun m => some (m * j.size, j.size)) (rep (j.zero.map .p) n) parts with
     | some cs => match unpL cs with
      | some ys => some (e, cs, chunk ag j.size n ys)
      | none => none
     | none => none
    | _, _ => none
   | none => none
  | _ => none
 | none => none
theorem zIy {α : Type} (xs : List α) : ∀ n, (rep xs n).length = n * xs.length
 | 0 => by simp [rep]
 | n + 1 => by simp [rep, zIy xs n, Nat.add_mul, Nat.add_comm]
theorem zSm {α : Type} (xs : List α) (hx : 0 < xs.length) : ∀ n i, i < n * xs.length → (rep xs n)[i]? = xs[i % xs.length]?
 | 0, i, h => by simp at h
 | n + 1, i, h => by
  simp only [rep, List.getElem?_append]
  split
  ·rename_i h; rw [Nat.mod_eq_of_lt h]
  ·rename_i h'
   rw [Nat.add_mul, Nat.one_mul] at h
   have e : i % xs.length = (i - xs.length) % xs.length := Nat.mod_eq_sub_mod (by omega)
   rw [zSm xs hx n (i - xs.length) (by omega), e]
theorem zKn (b : Bool) (e : Nat) : ∀ n l, (chunk b e n l).length = n
 | 0, _ => rfl
 | n + 1, l => by simp [chunk, zKn b e n]
theorem zKw (b : Bool) (e : Nat) (he : b = false → e = 1) : ∀ (n : Nat) (l : List AV), n * e ≤ l.length → (b = false → ∀ x ∈ l, ∀ cs, x ≠ .agg cs) →
    ∀ (i : Nat) (r : AV), (chunk b e n l)[i]? = some r → (cellsOf r).length = e ∧ ∀ j, j < e → (cellsOf r)[j]? = l[i * e + j]?
  | 0, l, _, _, i, r, h => by simp [chunk] at h
  | n + 1, l, hl, hb, 0, r, h => by
    rw [Nat.add_mul] at hl
    simp only [chunk, List.getElem?_cons_zero, Option.some.injEq] at h
    subst h
    cases b with
    | true => exact ⟨by simp [cellsOf]; omega, fun j hj => by simp [cellsOf, hj]⟩
    | false =>
      obtain rfl := he rfl
      cases l with
      | nil => simp at hl
      | cons y l =>
        have hy : cellsOf y = [y] := by
          have := hb rfl y (by simp)
          cases y <;> first | rfl | exact absurd rfl (this _)
        exact ⟨by simp [hy], fun j hj => by obtain rfl : j = 0 := by omega
                                            simp [hy]⟩
  | n + 1, l, hl, hb, i + 1, r, h => by
    rw [Nat.add_mul] at hl
    obtain ⟨h1, h2⟩ := zKw b e he n (l.drop e) (by simp; omega) (fun hf x hx => hb hf x (List.mem_of_mem_drop hx)) i r (by simpa [chunk] using h)
    exact ⟨h1, fun j hj => by rw [h2 j hj, List.getElem?_drop, show e + (i * e + j) = (i + 1) * e + j by rw [Nat.add_mul]; omega]⟩
def noAgg : List AV → Bool
 | [] => true
 | .agg _ :: _ => false
 | _ :: r => noAgg r
theorem zIj : ∀ {l : List AV}, noAgg l = true → ∀ x ∈ l, ∀ cs, x ≠ .agg cs
 | x :: r, h, y, hy, cs => by
  rcases List.mem_cons.1 hy with rfl | hy
  ·intro e; subst e; simp [noAgg] at h
  ·refine zIj ?_ y hy cs
   cases x <;> simp_all [noAgg]
theorem spl_len {cs ns : List TV} {off : Nat} (h : off + ns.length ≤ cs.length) : (spl cs off ns).length = cs.length := by simp [spl]; omega
theorem zLs (place : Nat → Option (Nat × Nat)) : ∀ (parts : List (Nat × TV)) (cells : List TV) {res : List TV}, fillA place cells parts = some res → res.length = cells.length
 | [], cells, res, h => by simp only [fillA, Option.some.injEq] at h; rw [h]
 | (i, v) :: rest, cells, res, h => by
  simp only [fillA] at h
  split at h
  ·cases h
  ·split at h
   ·cases h
   ·split at h
    ·rename_i e1 e2
     rw [zLs place rest _ h, spl_len (Nat.le_of_ble_eq_true e2)]
    ·cases h
theorem yS {t n e : Nat} {parts : List (Nat × Operand)} {cs : List TV} {rows ys : List AV} (hT : TabOk P T) (ho : o.op = .buildSlice t n parts.toArray) (hb : bsl T t n (evP env parts) = some (e, cs, rows)) (hu : unpL cs = some ys) (hn : noAgg ys = true) : OpR P o env H L (.p (.ps rows)) H L :=
 zHg fun F w β a hS he => by
  obtain ⟨e1, e2⟩ := zS1 he parts
  unfold bsl at hb
  split at hb
  ·rename_i i hi
   obtain ⟨inf, u, ok⟩ := hT.get hi
   split at hb
   ·rename_i e' hd
    have h2 := ok.d
    rw [hd] at h2
    obtain rfl := yB h2
    split at hb
    ·rename_i j hj
     obtain ⟨inf', u', ok'⟩ := hT.get hj
     split at hb
     ·rename_i ag hag hsz
      simp only [Bool.and_eq_true] at hsz
      obtain ⟨⟨hn1, hsz⟩, hj1⟩ := hsz
      have hn1 := Nat.le_of_ble_eq_true hn1
      have hj1 := Nat.le_of_ble_eq_true hj1
      have hsz := Nat.le_of_ble_eq_true hsz
      split at hb
      ·rename_i cs' hf
       split at hb
       ·rename_i ys' hys
        simp only [Option.some.injEq, Prod.mk.injEq] at hb
        obtain ⟨rfl, rfl, rfl⟩ := hb
        rw [hys] at hu
        obtain rfl := Option.some.inj hu
        obtain ⟨z, hz, hzz⟩ := ok'.run_zero w
        have hzr := zD7 (w := w) (β := β) (G := ⟨H, L, F⟩) hzz
        have hzl : z.cells.size = j.size := by
         have := hzr.1
         simp at this
         rw [this, ok'.zlen]
        have hz0 : RepL w β ⟨H, L, F⟩ (rep (j.zero.map .p) n) ((Array.range (n * j.size)).map (fun k => z.cells[k % z.cells.size]!)).toList := by
         refine ⟨by simp [zIy, ok'.zlen], fun k y v hy hv => ?_⟩
         have hlt : k < n * j.size := by
          have := (List.getElem?_eq_some_iff.1 hy).1
          simpa [zIy, ok'.zlen] using this
         rw [zSm _ (by simp [ok'.zlen]; omega) n k (by simpa [ok'.zlen] using hlt)] at hy
         simp only [List.length_map, ok'.zlen] at hy
         have hm : k % j.size < z.cells.size := by rw [hzl]; exact Nat.mod_lt _ (by omega)
         refine hzr.2 (k % j.size) y v hy ?_
         simp [hlt, hzl] at hv
         rw [← hv]
         rw [hzl] at hm
         simp [hzl, hm]
        obtain ⟨out, ho1, ho2⟩ := zNj (w := w) (β := β) (G := ⟨H, L, F⟩) (fun m => some (m * j.size, j.size)) (evP env parts) (parts.map fun p => (p.1, a.eval p.2)) _ _ e1 e2 hz0 hf
        refine ⟨.slice (some ⟨w.heap.size, 0, none⟩) n n, .cells out e', ?_, fun hst => ?_⟩
        ·simp only [execOp, ho, Sem.run_bind, Instr.buildSlice, run_underlying ok.und, Result.andThen_ok, ok'.run_size]
         rw [if_neg (by omega), if_neg (by rw [Nat.mul_eq_zero]; omega)]
         simp only [Sem.run_bind, hz, Result.andThen_ok, Sem.run_pure]
         rw [show (parts.toArray.map fun x => match x with | (i, y) => (i, a.eval y)).toList = parts.map fun p => (p.1, a.eval p.2) by simp, ho1]
         simp [newRow]
        ·obtain ⟨u1, u2⟩ := zB9 (w := w) (β := β) (G := ⟨H, L, F⟩) cs' hys
         have hclen : cs'.length = n * j.size := by
          have := zLs _ _ _ hf
          rw [this, zIy]; simp [ok'.zlen]
         have h1 : ag = false → j.size = 1 := by
          intro hf
          subst hf
          exact ok'.one hag
         have hlen : (chunk ag j.size n ys').length = n := zKn ..
         have hcg := zKw ag j.size h1 n ys' (by omega) (fun _ => zIj hn)
         have hcell : ∀ (k : Nat) (x : AV), ys'[k]? = some x → ∃ v, out[k]? = some v ∧ RepA w (Free β ⟨H, L, F⟩) x v := by
          intro k x hk
          obtain ⟨zz, h3, h4⟩ := u2 k x hk
          have hlt : k < out.toList.length := by rw [ho2.1]; exact (List.getElem?_eq_some_iff.1 h3).1
          exact ⟨out.toList[k], by simp at hlt; simp [hlt], h4 _ (ho2.2 k zz _ h3 (List.getElem?_eq_getElem hlt))⟩
         have hps := RepA.ps (w := w.alloc (.cells out e')) (N := Free β ⟨H, L, F⟩) (chunk ag j.size n ys') ⟨w.heap.size, 0, none⟩ n j.size (fun p q => out.getD (p * j.size + q) undef) (zJw hS) (by simp)
          (fun r hr => by obtain ⟨p, hp⟩ := List.getElem?_of_mem hr; exact (hcg p r hp).1)
          (fun p q hp hq => by
           rw [hlen] at hp
           have hlt : p * j.size + q < n * j.size := by
            have : (p + 1) * j.size ≤ n * j.size := Nat.mul_le_mul_right _ (by omega)
            rw [Nat.add_mul] at this; omega
           obtain ⟨v, hv, _⟩ := hcell (p * j.size + q) _ (List.getElem?_eq_getElem (by omega))
           rw [Addr.add_lit, cell_of_row _ _ _ _ _ _ (yP w _)]
           simp only [Nat.zero_add, Array.getD_eq_getD_getElem?, hv, Option.getD_some])
          (fun p q r x hp hq => by
           have hq' : q < j.size := by rw [← (hcg p r hp).1]; exact (List.getElem?_eq_some_iff.1 hq).1
           rw [(hcg p r hp).2 q hq'] at hq
           obtain ⟨v, hv, hr⟩ := hcell _ x hq
           simp only [Array.getD_eq_getD_getElem?, hv, Option.getD_some]
           exact hr.mono hst.size hst.frame) (by rw [hlen]; exact Nat.le_refl _)
         rw [hlen] at hps
         exact .p hps
       ·cases hb
      ·cases hb
     ·cases hb
    ·cases hb
   ·cases hb
  ·cases hb
end
section
variable {P : Program} {T : Tab} {env : Env} {H L : List AObj} {o : Oper} {x : TV}
def lenA : TV → Option Int
 | .p (.str l) => some l.length
 | .p (.ps l) => some l.length
 | .p .nils => some 0
 | .p .cz => some 0
 | _ => none
def isSS : TyD → Bool
 | .str => true
 | .slice _ => true
 | _ => false
theorem isSS_or {d : TyD} (h : isSS d = true) : d = .str ∨ ∃ e, d = .slice e := by
 cases d <;> simp [isSS] at h ⊢
theorem zUj {t : TypeId} {y : Operand} {n : Int} (hT : TabOk P T) (ho : o.op = .call { callee := .builtin .len, args := #[y], argTypes := #[t] }) (hs : isSS (tyD T t) = true) (hok : (tyD T t = .str) = (∃ l, evA env y = .p (.str l))) (hy : lenA (evA env y) = some n) : OpR P o env H L (.p (.int .i64 n)) H L :=
 zQ fun F w β a _ he => by
  have h := zL he y
  obtain ⟨u, h1, h2⟩ := zV hT (t := t) (by intro e; rw [e] at hs; cases hs)
  have fin : ∀ v, a.eval y = v → (Builtin.len_ #[t] o.type #[v]).run P w = .ok (.int .i64 n) w → (execOp a.eval o).run P w = .ok (.value (.int .i64 n)) w := by
   intro v hv hr
   simp only [execOp, ho, resolve, invoke, builtin, Sem.run_bind, Sem.run_pure, Result.andThen_ok, List.map_toArray, List.map_cons, List.map_nil, hv, hr]
  refine ⟨_, ?_, .p (.int ..)⟩
  unfold lenA at hy
  split at hy
  ·rename_i l hx
   rw [hx] at h
   have hstr : tyD T t = .str := by rw [hok]; exact ⟨l, hx⟩
   rw [hstr] at h2
   obtain rfl := qZ h2
   obtain rfl := Option.some.inj hy
   exact fin _ h.str_inv (by rw [run_len_string w t _ _ h1]; rfl)
  case h_5 => cases hy
  all_goals
   rename_i hx
   have hns : tyD T t ≠ .str := by rw [ne_eq, hok]; rintro ⟨l, hl⟩; rw [hl] at hx; cases hx
   obtain ⟨e, hd⟩ := (isSS_or hs).resolve_left hns
   rw [hd] at h2
   obtain rfl := yB h2
   obtain rfl := Option.some.inj hy
   rw [hx] at h
   generalize hv : a.eval y = v at h
   cases h with | p h =>
   cases h <;> exact fin _ hv (by simp [Builtin.len_, run_underlying h1, goInt])
def isMM : Builtin → Bool
 | .min | .max => true
 | _ => false
def mmA (b : Builtin) (x y : Int) : Int := match b with
 | .min => if y < x then y else x
 | _ => if y > x then y else x
theorem opr_mm {b : Builtin} {y z : Operand} {ts : Array TypeId} {k k' : IntKind} {m n : Int} (ho : o.op = .call { callee := .builtin b, args := #[y, z], argTypes := ts }) (hb : isMM b = true) (hy : evA env y = .p (.int k m)) (hz : evA env z = .p (.int k' n)) : OpR P o env H L (.p (.int k (mmA b m n))) H L :=
 zQ fun F w β a _ he => by
  have h1 := zL he y
  have h2 := zL he z
  rw [hy] at h1
  rw [hz] at h2
  refine ⟨_, ?_, .p (.int ..)⟩
  cases b <;> simp only [isMM, Bool.false_eq_true] at hb
  ·simp [execOp, ho, resolve, invoke, builtin, h1.int_inv, h2.int_inv, Builtin.max_, Builtin.max2, mmA]
  ·simp [execOp, ho, resolve, invoke, builtin, h1.int_inv, h2.int_inv, Builtin.min_, Builtin.min2, mmA]
def stepB (T : Tab) (env : Env) (b : Builtin) (as : List Operand) (ts : List TypeId) : Option TV :=
 match b, as with
 | .len, [y] => match ts with
  | [t] => match tyD T t, evA env y with
   | .str, .p (.str l) => some (.p (.int .i64 l.length))
   | .slice _, .p (.str _) => none
   | .slice _, v => match lenA v with
    | some n => some (.p (.int .i64 n))
    | none => none
   | _, _ => none
  | _ => none
 | b, [y, z] => match isMM b, evA env y, evA env z with
  | true, .p (.int k m), .p (.int _ n) => some (.p (.int k (mmA b m n)))
  | _, _, _ => none
 | _, _ => none
def stepA (T : Tab) (env : Env) (L : List AObj) : Op → Option (TV × List AObj)
 | .move y => some (evA env y, L)
 | .assign y => some (evA env y, L)
 | .pick c a b => match evA env c with
  | .p (.bool v) => some (pickA v (evA env a) (evA env b), L)
  | _ => none
 | .alloc t => match tlk T t with
  | some i => some (.ad (.l L.length) 0, L ++ [.box t (i.zero.map .p)])
  | none => none
 | .box t y => match tcells (evA env y) with
  | some cs => some (.ad (.l L.length) 0, L ++ [.box t cs])
  | none => none
 | .build t ps => match buildA T t (evP env ps.toList) with
  | some x => some (x, L)
  | none => none
 | .load t y => match cells? L (evA env y) with
  | some cs => match loadC T t cs with
   | some x => some (x, L)
   | none => none
  | none => none
 | .store t y z => match evA env y, tlk T t, tcells (evA env z) with
  | .ad (.l i) off, some ti, some ns => match L[i]? with
   | some (.box b cs) => match Nat.beq ns.length ti.size, Nat.ble (off + ns.length) cs.length, allCell ns with
    | true, true, true => some (.p .top, L.set i (.box b (spl cs off ns)))
    | _, _, _ => none
   | _ => none
  | _, _, _ => none
 | .nilCheck y => match nilA L (evA env y) with
  | some x => some (x, L)
  | none => none
 | .binOp op t y z _ => match binA L op (evA env y) (evA env z) (tyD T t) with
  | some x => some (x, L)
  | none => none
 | .fieldAddr s y f => match fieldOf T s f with
  | some (off, _) => match fadA L off (evA env y) with
   | some x => some (x, L)
   | none => none
  | none => none
 | .field s y f => match fieldOf T s f with
  | some (off, j) => match fldA off j (evA env y) with
   | some x => some (x, L)
   | none => none
  | none => none
 | .extract y i => match evA env y with
  | .tup l => match l[i]? with
   | some x => some (x, L)
   | none => none
  | _ => none
 | .convert s d y => match tyD T d, evA env y, tlk T s with
  | .int k, .p (.int _ n), some _ => some (.p (.int k (k.wrap n)), L)
  | _, _, _ => none
 | .unOp .not _ y => match evA env y with
  | .p (.bool b) => some (.p (.bool !b), L)
  | _ => none
 | .unOp .neg _ y => match evA env y with
  | .p (.int k n) => some (.p (.int k (k.wrap (0 - n))), L)
  | _ => none
 | .call { callee := .builtin b, args := as, argTypes := ts } => match stepB T env b as.toList ts.toList with
  | some x => some (x, L)
  | none => none
 | _ => none
theorem stepB_ok (hT : TabOk P T) {b : Builtin} {as : Array Operand} {ts : Array TypeId} (ho : o.op = .call { callee := .builtin b, args := as, argTypes := ts }) (h : stepB T env b as.toList ts.toList = some x) : OpR P o env H L x H L := by
 obtain ⟨as⟩ := as
 obtain ⟨ts⟩ := ts
 unfold stepB at h
 split at h
 ·rename_i y has
  obtain rfl : as = [y] := has
  split at h
  ·rename_i t hts
   obtain rfl : ts = [t] := hts
   split at h
   ·rename_i l hd hl
    obtain rfl := Option.some.inj h
    exact zUj hT ho (by rw [hd]; rfl) (by rw [hd, hl]; simp) (by rw [hl]; rfl)
   ·cases h
   ·rename_i e v hd hne
    split at h
    ·rename_i n hn
     obtain rfl := Option.some.inj h
     exact zUj hT ho (by rw [hd]; rfl) (by rw [hd]; simp; exact fun l hl => hne l hl) hn
    ·cases h
   ·cases h
  ·cases h
 ·rename_i y z has
  obtain rfl : as = [y, z] := has
  split at h
  ·rename_i hm hy hz
   obtain rfl := Option.some.inj h
   exact opr_mm ho hm hy hz
  ·cases h
 ·cases h
theorem zN (hT : TabOk P T) {L' : List AObj} (h : stepA T env L o.op = some (x, L')) : OpR P o env H L x H L' := by
 have same : ∀ {y : TV}, some (y, L) = some (x, L') → y = x ∧ L = L' := fun h => by simpa using h
 unfold stepA at h
 split at h
 ·rename_i ho; obtain ⟨rfl, rfl⟩ := same h; exact zKa (.inl ho)
 ·rename_i ho; obtain ⟨rfl, rfl⟩ := same h; exact zKa (.inr ho)
 ·rename_i ho
  split at h
  ·rename_i hv; obtain ⟨rfl, rfl⟩ := same h; exact opr_pick ho hv
  ·cases h
 ·rename_i ho
  split at h
  ·rename_i hi
   simp only [Option.some.injEq, Prod.mk.injEq] at h
   obtain ⟨rfl, rfl⟩ := h
   exact opr_zero hT ho hi
  ·cases h
 ·rename_i ho
  split at h
  ·rename_i hi
   simp only [Option.some.injEq, Prod.mk.injEq] at h
   obtain ⟨rfl, rfl⟩ := h
   exact opr_box ho hi
  ·cases h
 ·rename_i t ps ho
  obtain ⟨ps⟩ := ps
  split at h
  ·rename_i hb; obtain ⟨rfl, rfl⟩ := same h; exact zSj hT ho hb
  ·cases h
 ·rename_i ho
  split at h
  ·rename_i hc
   split at h
   ·rename_i hl; obtain ⟨rfl, rfl⟩ := same h; exact opr_load hT ho hc hl
   ·cases h
  ·cases h
 ·rename_i ho
  split at h
  ·rename_i h1 h2 h3
   split at h
   ·rename_i hi
    split at h
    ·rename_i h4 h5 h6
     simp only [Option.some.injEq, Prod.mk.injEq] at h
     obtain ⟨rfl, rfl⟩ := h
     exact zSg hT ho h1 hi h2 h3 h4 h5 h6
    ·cases h
   ·cases h
  ·cases h
 ·rename_i ho
  split at h
  ·rename_i hb; obtain ⟨rfl, rfl⟩ := same h; exact opr_nil ho hb
  ·cases h
 ·rename_i ho
  split at h
  ·rename_i hb; obtain ⟨rfl, rfl⟩ := same h; exact opr_bin hT ho hb
  ·cases h
 ·rename_i ho
  split at h
  ·rename_i hf
   split at h
   ·rename_i hb; obtain ⟨rfl, rfl⟩ := same h; exact zIq hT ho hf hb
   ·cases h
  ·cases h
 ·rename_i ho
  split at h
  ·rename_i hf
   split at h
   ·rename_i hb; obtain ⟨rfl, rfl⟩ := same h; exact zVr hT ho hf hb
   ·cases h
  ·cases h
 ·rename_i ho
  split at h
  ·rename_i hv
   split at h
   ·rename_i hi; obtain ⟨rfl, rfl⟩ := same h; exact zMu ho hv hi
   ·cases h
  ·cases h
 ·rename_i ho
  split at h
  ·rename_i hd hv hs; obtain ⟨rfl, rfl⟩ := same h; exact zK0 hT ho hs hd hv
  ·cases h
 ·rename_i ho
  split at h
  ·rename_i hv; obtain ⟨rfl, rfl⟩ := same h; exact opr_not ho hv
  ·cases h
 ·rename_i ho
  split at h
  ·rename_i hv; obtain ⟨rfl, rfl⟩ := same h; exact opr_neg ho hv
  ·cases h
 ·rename_i ho
  split at h
  ·rename_i hb; obtain ⟨rfl, rfl⟩ := same h; exact stepB_ok hT ho hb
  ·cases h
 ·cases h
end
section
variable {P : Program} {Γ : Ctx} {env : Env} {H L : List AObj} {Φ : Act → World → Prop}
theorem kill {w : World} {β : Hd → Nat} {F : Nat → Prop} (i : Nat) (hS : Sim w β ⟨H, L, F⟩) : Sim w β ⟨H, L.set i .dead, F⟩ ∧ Step w β ⟨H, L, F⟩ w β ⟨H, L.set i .dead, F⟩ := by
 have hget : ∀ k o, (⟨H, L.set i .dead, F⟩ : Hp).get k = some o → o = .dead ∨ (⟨H, L, F⟩ : Hp).get k = some o := by
  intro k o ho
  cases k with
  | o k => exact .inr ho
  | l j =>
   simp only [Hp.get, List.getElem?_set] at ho
   split at ho
   ·split at ho
    ·exact .inl (Option.some.inj ho).symm
    ·cases ho
   ·exact .inr ho
 have hlv : ∀ k, (⟨H, L.set i .dead, F⟩ : Hp).live k → (⟨H, L, F⟩ : Hp).live k := by
  rintro k ⟨o, ho, hne⟩
  rcases hget k o ho with h | h
  ·rw [h] at hne; cases hne
  ·exact ⟨o, h, hne⟩
 have hst : Step w β ⟨H, L, F⟩ w β ⟨H, L.set i .dead, F⟩ := by
  refine ⟨rfl, rfl, rfl, Nat.le_refl _, fun b _ hf => ⟨rfl, hf.1, fun k hk => hf.2 k (hlv k hk)⟩, fun _ _ => rfl, rfl, fun k o ho => ?_⟩
  cases k with
  | o k => exact ⟨o, ho, ObjGo.refl ..⟩
  | l j =>
   by_cases e : i = j
   ·subst e
    have hlt : i < L.length := (List.getElem?_eq_some_iff.1 ho).1
    exact ⟨.dead, by simp [Hp.get, hlt], by cases o <;> simp [ObjGo]⟩
   ·exact ⟨o, by simpa [Hp.get, List.getElem?_set, e] using ho, ObjGo.refl ..⟩
 refine ⟨⟨fun k o ho => ?_, fun k j hk hj => hS.inj k j (hlv k hk) (hlv j hj), hS.ext, fun k hk => hS.disj k (hlv k hk), hS.flt⟩, hst⟩
 rcases hget k o ho with rfl | h
 ·trivial
 ·exact (hS.objs k o h).mono hst rfl
theorem J_freeze (t i : Nat) {Ty : TypeId} {b : Bool} {e n st len : Nat} {rows : List AV} (ht : lk env t = .sl (.l i) n st len) (hi : L[i]? = some (.arr Ty b e rows)) (hn : rows.length = n)
  (k : J Γ ((t, .p (.ps ((rows.drop st).take len))) :: env) H (L.set i .dead) Φ) : J Γ env H L Φ := fun a w β s => by
 obtain ⟨h1, h2⟩ := kill i s.sim
 have he := s.env.mono h2
 refine k a w β ⟨h1, s.step.trans h2, fun q => ?_, s.size, s.defers⟩
 rw [y4]
 split
 ·rename_i hq
  subst hq
  have hr := s.env q
  rw [ht] at hr
  generalize a.tmps.getD q undef = v at hr
  cases hr with | sl _ _ _ _ _ _ _ hv =>
  have hsl := hv _ _ _ _ hi hn
  have hle := hsl.le
  obtain ⟨ao, cap, rfl, hc1, hc2, hao⟩ := hsl.val
  have hlen : ((rows.drop st).take len).length = len := by simp; omega
  by_cases h0 : len = 0
  ·subst h0
   simpa using RepT.p (RepA.psE ao cap)
  ·have hao := hao (by omega)
   subst hao
   have hon : (AObj.arr Ty b e rows).off = false := AObj.off_arr.2 fun _ => by omega
   obtain ⟨cs, fr, g1, g2, g3, g4, g5, g6, g7⟩ := (s.sim.objs (.l i) _ hi).2 hon
   have hlive : (⟨H, L, Γ.F⟩ : Hp).live (.l i) := ⟨_, hi, hon⟩
   have hfree : Free β ⟨H, L.set i .dead, Γ.F⟩ (β (.l i)) := by
    refine ⟨s.sim.disj _ hlive, fun k hk e => ?_⟩
    have hne : k ≠ .l i := by
     rintro rfl
     obtain ⟨o, ho, hd⟩ := hk
     simp only [Hp.get, List.getElem?_set, if_true] at ho
     split at ho
     ·rw [← Option.some.inj ho] at hd; cases hd
     ·cases ho
    have hk' : (⟨H, L, Γ.F⟩ : Hp).live k := by
     obtain ⟨o, ho, hd⟩ := hk
     refine ⟨o, ?_, hd⟩
     cases k with
     | o k => exact ho
     | l j =>
      have : i ≠ j := fun e => hne (by rw [e])
      simpa [Hp.get, List.getElem?_set, this] using ho
    exact hne (s.sim.inj k (.l i) hk' hlive e)
   have key := RepA.ps (w := w) (N := Free β ⟨H, L.set i .dead, Γ.F⟩) ((rows.drop st).take len) ⟨β (.l i), st * e, none⟩ cap e (fun p q => cs.getD ((st + p) * e + q) undef) hfree (s.sim.lt hlive)
    (fun r hr => g6 r (List.mem_of_mem_drop (List.mem_of_mem_take hr)))
    (fun p q hp hq => by
     rw [hlen] at hp
     have hr : (rows[st + p]?) = some rows[st + p] := List.getElem?_eq_getElem (by omega)
     have hq' : q < (cellsOf rows[st + p]).length := by rw [g6 _ (List.getElem_mem _)]; exact hq
     obtain ⟨v, hv, _⟩ := g7 (st + p) q _ _ hr (List.getElem?_eq_getElem hq')
     rw [Addr.add_lit, cell_of_row _ _ _ _ _ _ g1, show st * e + (p * e + q) = (st + p) * e + q by rw [Nat.add_mul]; omega]
     simp only [Array.getD_eq_getD_getElem?, hv, Option.getD_some])
    (fun p q r x hp hq => by
     rw [List.getElem?_take] at hp
     split at hp
     ·rw [List.getElem?_drop] at hp
      obtain ⟨v, hv, hr⟩ := g7 (st + p) q r x hp hq
      simp only [Array.getD_eq_getD_getElem?, hv, Option.getD_some]
      exact hr.mono h2.size h2.frame
     ·cases hp) (by rw [hlen]; exact hc1)
   rw [hlen] at key
   exact .p key
 ·exact he q
theorem zQs {w : World} {β : Hd → Nat} {F : Nat → Prop} {i : Nat} {ob : AObj} (hS : Sim w β ⟨H, L, F⟩) (hi : L[i]? = some ob) (hne : ob.off = false) : Free β ⟨H, L.set i .dead, F⟩ (β (.l i)) := by
 have hlive : (⟨H, L, F⟩ : Hp).live (.l i) := ⟨_, hi, hne⟩
 refine ⟨hS.disj _ hlive, fun k hk e => ?_⟩
 have hne : k ≠ .l i := by
  rintro rfl
  obtain ⟨o, ho, hd⟩ := hk
  simp only [Hp.get, List.getElem?_set, if_true] at ho
  split at ho
  ·rw [← Option.some.inj ho] at hd; cases hd
  ·cases ho
 have hk' : (⟨H, L, F⟩ : Hp).live k := by
  obtain ⟨o, ho, hd⟩ := hk
  refine ⟨o, ?_, hd⟩
  cases k with
  | o k => exact ho
  | l j =>
   have : i ≠ j := fun e => hne (by rw [e])
   simpa [Hp.get, List.getElem?_set, this] using ho
 exact hne (hS.inj k (.l i) hk' hlive e)
theorem zLf (t i : Nat) {Ty : TypeId} {cs : List TV} {xs : List AV} (ht : lk env t = .ad (.l i) 0) (hi : L[i]? = some (.box Ty cs)) (hx : unpL cs = some xs)
  (k : J Γ ((t, .p (.pp xs)) :: env) H (L.set i .dead) Φ) : J Γ env H L Φ := fun a w β s => by
 obtain ⟨h1, h2⟩ := kill i s.sim
 have he := s.env.mono h2
 refine k a w β ⟨h1, s.step.trans h2, fun q => ?_, s.size, s.defers⟩
 rw [y4]
 split
 ·rename_i hq
  subst hq
  have hr := s.env q
  rw [ht] at hr
  generalize a.tmps.getD q undef = v at hr
  cases hr with | ad _ _ _ _ _ hv =>
  have hv := hv _ hi rfl
  subst hv
  obtain ⟨arr, g1, g2, g3⟩ := s.sim.objs (.l i) _ hi
  obtain ⟨u1, u2⟩ := zB9 (w := w) (β := β) (G := ⟨H, L, Γ.F⟩) cs hx
  have hlive : (⟨H, L, Γ.F⟩ : Hp).live (.l i) := ⟨_, hi, rfl⟩
  refine .p (.pp xs _ (fun j => arr.getD j undef) (zQs s.sim hi rfl) (s.sim.lt hlive) (fun j hj => ?_) fun j x hj => ?_)
  ·obtain ⟨z, hz, _⟩ := u2 j _ (List.getElem?_eq_getElem hj)
   obtain ⟨v, hv, _⟩ := g3 j z hz
   rw [Addr.add_lit, cell_of_row _ _ _ _ _ _ g1]
   simp only [Nat.zero_add, Array.getD_eq_getD_getElem?, hv, Option.getD_some]
  ·obtain ⟨z, hz, hz2⟩ := u2 j x hj
   obtain ⟨v, hv, hr⟩ := g3 j z hz
   simp only [Array.getD_eq_getD_getElem?, hv, Option.getD_some]
   exact (hz2 v hr).mono h2.size h2.frame
 ·exact he q
end
section
variable {P : Program} {T : Tab} {Γ : Ctx} {env : Env} {H L : List AObj}
def resOne (T : Tab) (env : Env) (L : List AObj) : ResultVar → Option TV
 | .tmp t => some (lk env t)
 | .cell p t => match cells? L (lk env p) with
  | some cs => loadC T t cs
  | none => none
def resL (T : Tab) (env : Env) (L : List AObj) : List ResultVar → Option (List TV)
 | [] => some []
 | r :: rs => match resOne T env L r, resL T env L rs with
  | some x, some xs => some (x :: xs)
  | _, _ => none
def resA (T : Tab) (env : Env) (L : List AObj) (rs : List ResultVar) : Option TV :=
 match resL T env L rs with
 | some [x] => some x
 | some xs => some (.tup xs)
 | none => none
def Post (w0 : World) (β0 : Hd → Nat) (H0 : List AObj) (F : Nat → Prop) (r : TV) (H' news : List AObj) (e : Ending) (w' : World) : Prop :=
 ∃ β' v, e = .returned v ∧ Sim w' β' ⟨H', news, F⟩ ∧ Step w0 β0 ⟨H0, [], F⟩ w' β' ⟨H', news, F⟩ ∧ RepT w' β' ⟨H', news, F⟩ r v
def rsem (tmps : Array Value) (r : ResultVar) : Sem Value := match r with
 | .tmp t => pure (tmps.getD t undef)
 | .cell p t => do loadVar t (← asAddr (tmps.getD p undef))
theorem zRi (fn : Func) (tmps : Array Value) : results fn tmps = (do
  let vs ← fn.results.mapM (rsem tmps)
  pure (if h : vs.size = 1 then vs[0] else .tuple vs)) := rfl
theorem zMm (hT : TabOk P T) {w : World} {β : Hd → Nat} {F : Nat → Prop} {a : Act} (hS : Sim w β ⟨H, L, F⟩) (he : EnvR w β ⟨H, L, F⟩ env a) : ∀ (rs : List ResultVar) {xs : List TV}, resL T env L rs = some xs →
  ∃ vs : List Value, (rs.mapM (rsem a.tmps)).run P w = .ok vs w ∧ RepL w β ⟨H, L, F⟩ xs vs
 | [], xs, h => by simp [resL] at h; subst h; exact ⟨[], by simp, rfl, by simp⟩
 | r :: rs, xs, h => by
  simp only [resL] at h
  split at h
  ·rename_i x xs' hx hxs
   obtain rfl := Option.some.inj h
   obtain ⟨vs, h1, h2⟩ := zMm hT hS he rs hxs
   have hone : ∃ v, (rsem a.tmps r).run P w = .ok v w ∧ RepT w β ⟨H, L, F⟩ x v := by
    cases r with
    | tmp t => simp only [resOne, Option.some.injEq] at hx; subst hx; exact ⟨_, rfl, he t⟩
    | cell p t =>
     simp only [resOne] at hx
     split at hx
     ·rename_i cs hc
      obtain ⟨ad, hv, hcs⟩ := cells?_ok hS (he p) hc
      obtain ⟨u, hu, hr⟩ := zFs (P := P) hT hcs hx
      exact ⟨u, by simp only [rsem, Sem.run_bind, hv, asAddr, Sem.run_pure, Result.andThen_ok, hu], hr⟩
     ·cases hx
   obtain ⟨v, hv, hr⟩ := hone
   refine ⟨v :: vs, ?_, by simp [h2.1], fun i y u hy hu => ?_⟩
   ·simp only [List.mapM_cons, Sem.run_bind, hv, h1, Result.andThen_ok, Sem.run_pure]
   ·cases i with
    | zero => simp at hy hu; subst hy hu; exact hr
    | succ i => exact h2.2 i y u (by simpa using hy) (by simpa using hu)
  ·cases h
theorem zSr (hT : TabOk P T) {fn : Func} {rs : List ResultVar} (hfn : fn.results = rs.toArray) {w : World} {β : Hd → Nat} {F : Nat → Prop} {a : Act} (hS : Sim w β ⟨H, L, F⟩) (he : EnvR w β ⟨H, L, F⟩ env a) {x : TV} (h : resA T env L rs = some x) :
  ∃ v, (results fn a.tmps).run P w = .ok v w ∧ RepT w β ⟨H, L, F⟩ x v := by
 unfold resA at h
 have run : ∀ vs : List Value, (rs.mapM (rsem a.tmps)).run P w = .ok vs w →
   (results fn a.tmps).run P w = .ok (match vs with | [v] => v | _ => .tuple vs.toArray) w := by
  intro vs hvs
  simp only [zRi, hfn, Array.mapM_eq_mapM_toList, Sem.run_bind, Sem.run_map]
  rw [hvs]
  simp only [Result.andThen_ok, Sem.run_pure]
  congr 1
  match vs with
  | [] => simp
  | [v] => simp
  | _ :: _ :: _ => simp
 split at h
 ·rename_i y hxs
  obtain rfl := Option.some.inj h
  obtain ⟨vs, h1, h2⟩ := zMm hT hS he rs hxs
  obtain ⟨v, rfl⟩ : ∃ v, vs = [v] := by
   match vs, h2.1 with
   | [v], _ => exact ⟨v, rfl⟩
  exact ⟨v, run _ h1, h2.2 0 _ v rfl rfl⟩
 ·rename_i xs hne hxs
  obtain rfl := Option.some.inj h
  obtain ⟨vs, h1, h2⟩ := zMm hT hS he rs hxs
  refine ⟨.tuple vs.toArray, ?_, .tup _ vs h2.1 h2.2⟩
  rw [run _ h1]
  match vs, h2.1 with
  | [], _ => rfl
  | [v], hl =>
   obtain ⟨y, rfl⟩ : ∃ y, xs = [y] := by
    match xs, hl with
    | [y], _ => exact ⟨y, rfl⟩
   exact absurd rfl (hne y)
  | _ :: _ :: _, _ => rfl
 ·cases h
theorem zWf {w : World} {β : Hd → Nat} {F : Nat → Prop} {x : TV} {v : Value} (h : RepT w β ⟨H, L, F⟩ x v) (hx : x.ext = true) : RepT w β ⟨H, [], F⟩ x v := by
 have hfree : ∀ b, Free β ⟨H, L, F⟩ b → Free β ⟨H, [], F⟩ b := fun b hb => ⟨hb.1, fun k hk => by
  cases k with
  | o k => exact hb.2 _ hk
  | l i => obtain ⟨o, ho, _⟩ := hk; simp [Hp.get] at ho⟩
 induction h with
 | p h => exact .p (h.mono (Nat.le_refl _) fun b _ hb => ⟨rfl, hfree b hb⟩)
 | ad h off v h1 hl hv => cases h with
  | o k => exact .ad _ off v h1 hl hv
  | l i => simp [TV.ext] at hx
 | sl h n st len v h1 hl hv => cases h with
  | o k => exact .sl _ n st len v h1 hl hv
  | l i => simp [TV.ext] at hx
 | el => simp [TV.ext] at hx
 | agg xs vs hl hr ih => exact .agg xs vs hl fun i x v h1 h2 => ih i x v h1 h2 (jI (by simpa [TV.ext] using hx) h1)
 | tup xs vs hl hr ih => exact .tup xs vs hl fun i x v h1 h2 => ih i x v h1 h2 (jI (by simpa [TV.ext] using hx) h1)
 | fn f xs vs hl hr ih => exact .fn f xs vs hl fun i x v h1 h2 => ih i x v h1 h2 (jI (by simpa [TV.ext] using hx) h1)
 | opt g x v h1 h2 ih => exact .opt g x v (fun hg => ih hg (by simpa [TV.ext] using hx)) h2
theorem zOg {w : World} {β : Hd → Nat} {F : Nat → Prop} (h : Sim w β ⟨H, L, F⟩) : Sim w β ⟨H, [], F⟩ := by
 have hlv : ∀ k, (⟨H, [], F⟩ : Hp).live k → (⟨H, L, F⟩ : Hp).live k := fun k hk => by
  cases k with
  | o k => exact hk
  | l i => obtain ⟨o, ho, _⟩ := hk; simp [Hp.get] at ho
 refine ⟨fun k o ho => ?_, fun k j hk hj => h.inj k j (hlv k hk) (hlv j hj), h.ext, fun k hk => h.disj k (hlv k hk), h.flt⟩
 cases k with
 | l i => simp [Hp.get] at ho
 | o k =>
  have hx : o.ext = true := h.ext o (List.mem_of_getElem? ho)
  have := h.objs (.o k) o ho
  cases o with
  | dead => trivial
  | box T cells =>
   obtain ⟨cs, h1, h2, h4⟩ := this
   exact ⟨cs, h1, h2, fun i x hi => let ⟨v, hv, hr⟩ := h4 i x hi; ⟨v, hv, zWf hr (jI (by simpa [AObj.ext] using hx) hi)⟩⟩
  | arr T app e rows =>
   refine ⟨this.1, fun hoff => ?_⟩
   obtain ⟨cs, fr, h1, h2, h3, h4, h5, h6, h7⟩ := this.2 hoff
   exact ⟨cs, fr, h1, h2, h3, h4, h5, h6, fun i j r x hr hx => let ⟨v, hv, hr'⟩ := h7 i j r x hr hx; ⟨v, hv, hr'.mono (Nat.le_refl _) fun b _ hb => ⟨rfl, hb.1, fun k hk => hb.2 k (hlv k hk)⟩⟩⟩
  | raw x => exact this
theorem zC {fn : Func} {rs : List ResultVar} {r : TV} (hT : TabOk P T) (hfn : fn.results = rs.toArray) (hr : resA T env L rs = some r) (hx : r.ext = true) : J Γ env H L (bodyPost P fn (Post Γ.w0 Γ.β0 Γ.H0 Γ.F r H []) .ret) := by
 intro a w β s
 obtain ⟨v, h1, h2⟩ := zSr hT hfn s.sim s.env hr
 refine ⟨s.defers, v, h1, β, v, rfl, zOg s.sim, ?_, zWf h2 hx⟩
 have hlv : ∀ k, (⟨H, [], Γ.F⟩ : Hp).live k → (⟨H, L, Γ.F⟩ : Hp).live k := fun k hk => by
  cases k with
  | o k => exact hk
  | l i => obtain ⟨o, ho, _⟩ := hk; simp [Hp.get] at ho
 exact ⟨s.step.os, s.step.tape, s.step.output, s.step.size, fun b hb hf => ⟨(s.step.frame b hb hf).1, (s.step.frame b hb hf).2.1, fun k hk => (s.step.frame b hb hf).2.2 k (hlv k hk)⟩, s.step.fr, rfl, fun k o ho => by
  cases k with
  | o k => exact s.step.obj (.o k) o ho
  | l i => simp [Hp.get] at ho⟩
theorem zBr {fn : Func} {rs : List ResultVar} {r : TV} (hT : TabOk P T) (hfn : fn.results = rs.toArray) (hr : resA T env L rs = some r) : J Γ env H L (bodyPost P fn (Post Γ.w0 Γ.β0 Γ.H0 Γ.F r H L) .ret) := by
 intro a w β s
 obtain ⟨v, h1, h2⟩ := zSr hT hfn s.sim s.env hr
 exact ⟨s.defers, v, h1, β, v, rfl, s.sim, s.step, h2⟩
def argE : Nat → List TV → Env
 | _, [] => []
 | i, x :: r => (i, x) :: argE (i + 1) r
theorem zWb : ∀ (l : List TV) (i t : Nat), lk (argE i l) t = if i ≤ t then (l[t - i]?).getD (.p .top) else .p .top
 | [], i, t => by simp [argE, lk]
 | x :: r, i, t => by
  rw [argE, y4, zWb r (i + 1) t]
  by_cases h : t = i
  ·subst h; simp
  ·rw [if_neg h]
   by_cases h2 : i + 1 ≤ t
   ·rw [if_pos h2, if_pos (by omega), show t - i = (t - (i + 1)) + 1 by omega]; simp
   ·rw [if_neg h2, if_neg (by omega)]
theorem zD {f : FuncId} {fn : Func} {c : Code} {args : List TV} {r : TV} {H' news : List AObj} (hf : P.funcs[f]? = some fn) (hb : fn.body = some c) (hc : callable P f = true) (hn : Nat.ble args.length fn.ntmps = true)
  (h : ∀ F w0 β0, J ⟨fn.ntmps, w0, β0, H, F⟩ (argE 0 args) H [] (c.wp P (bodyPost P fn (Post w0 β0 H F r H' news)))) : Con P f args H r H' news :=
 ⟨hc, fun F w β vs hS ha => by
  refine calls_of_wp hf hb (h F w β _ w β ⟨hS, Step.refl .., fun t => ?_, ?_, rfl⟩)
  ·rw [zWb]
   simp only [Nat.zero_le, if_true, Nat.sub_zero]
   by_cases ht : t < args.length
   ·have hv : t < vs.length := by rw [ha.1]; exact ht
    rw [List.getElem?_eq_getElem ht]
    have := ha.2 t _ _ (List.getElem?_eq_getElem ht) (List.getElem?_eq_getElem hv)
    simpa [Array.getD_eq_getD_getElem?, Array.getElem?_append, hv] using this
   ·rw [List.getElem?_eq_none (by omega)]
    exact .p (.top _)
  ·have := Nat.le_of_ble_eq_true hn
   simp [ha.1]; omega⟩
end
end Go.Awp

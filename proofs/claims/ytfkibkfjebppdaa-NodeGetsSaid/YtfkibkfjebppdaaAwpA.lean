/- The frame of the abstract walk: what an abstract value says of a value in memory, and what stays true of it while a call goes on. No program is named here. -/
import Derived.WalkKit
namespace Go.Awp
open Go.RowKit

/-- A persistent value: what lies in memory that nobody writes any more. -/
inductive AV where
  | int (k : IntKind) (n : Int)
  | bool (b : Bool)
  | str (l : List UInt8)
  | nilp
  | pp (cells : List AV)
  | nils
  | cz
  | ps (rows : List AV)
  | agg (cells : List AV)
  | top
  deriving Inhabited

/-- A handle: an object of the caller's (o), or one that this call made (l). -/
inductive Hd where
  | o (h : Nat)
  | l (i : Nat)
  deriving DecidableEq, Inhabited

/-- A value in a slot: persistent, or leading to an object. -/
inductive TV where
  | p (x : AV)
  | ad (h : Hd) (off : Nat)
  | sl (h : Hd) (n st len : Nat)
  | el (s : TV) (e i off : Nat)
  | agg (l : List TV)
  | tup (l : List TV)
  | fn (f : Nat) (caps : List TV)
  | opt (g : Bool) (x : TV)
  deriving Inhabited

inductive AObj where
  | dead
  | box (T : TypeId) (cells : List TV)
  | arr (T : TypeId) (app : Bool) (esz : Nat) (rows : List AV)
  | iter (s : List UInt8) (pos : Nat)
  deriving Inhabited

def AObj.isBox : AObj → Bool
  | .box .. | .iter .. => true
  | _ => false

/-- The objects: the caller's, this call's; F: blocks of others, which nobody touches. -/
structure Hp where
  o : List AObj
  l : List AObj
  F : Nat → Prop

def Hp.get (G : Hp) : Hd → Option AObj
  | .o h => G.o[h]?
  | .l i => G.l[i]?

def Hp.put (G : Hp) : Hd → AObj → Hp
  | .o h, x => ⟨G.o.set h x, G.l, G.F⟩
  | .l i, x => ⟨G.o, G.l.set i x, G.F⟩

def Hp.live (G : Hp) (h : Hd) : Prop := ∃ o, G.get h = some o ∧ o ≠ .dead

def cellsOf : AV → List AV
  | .agg cs => cs
  | x => [x]

/-- Block b is none of the owned ones. -/
def Free (β : Hd → Nat) (G : Hp) (b : Nat) : Prop := ¬ G.F b ∧ ∀ h, G.live h → β h ≠ b

inductive RepA (w : World) (N : Nat → Prop) : AV → Value → Prop
  | int (k n) : RepA w N (.int k n) (.int k n)
  | bool (b) : RepA w N (.bool b) (.bool b)
  | str (l : List UInt8) : RepA w N (.str l) (.string ⟨l.toArray⟩)
  | nilp : RepA w N .nilp (.pointer none)
  | pp (cells : List AV) (a : Addr) (vs : Nat → Value) (hN : N a.block) (hb : a.block < w.heap.size) (hc : ∀ i, i < cells.length → w.cell? (a.add i) = some (vs i))
      (hr : ∀ (i : Nat) (x : AV), cells[i]? = some x → RepA w N x (vs i)) : RepA w N (.pp cells) (.pointer (some a))
  | nils : RepA w N .nils (.slice none 0 0)
  | cz (ao) : RepA w N .cz (.slice ao 0 0)
  | psE (ao c) : RepA w N (.ps []) (.slice ao 0 c)
  | ps (rows : List AV) (a : Addr) (c e : Nat) (vs : Nat → Nat → Value) (hN : N a.block) (hb : a.block < w.heap.size) (he : ∀ r ∈ rows, (cellsOf r).length = e)
      (hc : ∀ i j, i < rows.length → j < e → w.cell? (a.add (i * e + j)) = some (vs i j))
      (hr : ∀ (i j : Nat) (r x : AV), rows[i]? = some r → (cellsOf r)[j]? = some x → RepA w N x (vs i j)) (hl : rows.length ≤ c) : RepA w N (.ps rows) (.slice (some a) rows.length c)
  | agg (xs : List AV) (vs : List Value) (hl : vs.length = xs.length) (hr : ∀ (i : Nat) (x : AV) (v : Value), xs[i]? = some x → vs[i]? = some v → RepA w N x v) : RepA w N (.agg xs) (.agg vs.toArray)
  | top (v) : RepA w N .top v

def csize (w : World) (b : Nat) : Nat := match w.heap[b]? with
  | some (.cells cs _ _) => cs.size
  | _ => 0

inductive RepT (w : World) (β : Hd → Nat) (G : Hp) : TV → Value → Prop
  | p {x v} (h : RepA w (Free β G) x v) : RepT w β G (.p x) v
  | ad (h off v) (h1 : v.oneCell' = true) (hl : ∃ o, G.get h = some o) (hv : ∀ o, G.get h = some o → o.isBox = true → v = .pointer (some ⟨β h, off, none⟩)) : RepT w β G (.ad h off) v
  | sl (h n st len v) (h1 : v.oneCell' = true) (hl : ∃ o, G.get h = some o ∧ ∀ T b e rows, o = .arr T b e rows → n ≤ rows.length)
      (hv : ∀ T b e rows, G.get h = some (.arr T b e rows) → rows.length = n → st + len ≤ n ∧ ∃ ao cap, v = .slice ao len cap ∧ len ≤ cap ∧ cap ≤ maxLen ∧
        (st = 0 ∨ 0 < len → ao = some ⟨β h, st * e, none⟩) ∧ (b = true → st = 0 → len = n → cap * e = csize w (β h))) : RepT w β G (.sl h n st len) v
  | el {s} (e i off a len c) (hs : RepT w β G s (.slice (some a) len c)) (hi : i < len) : RepT w β G (.el s e i off) (.pointer (some (a.add (i * e + off))))
  | agg (xs : List TV) (vs : List Value) (hl : vs.length = xs.length) (hr : ∀ (i : Nat) (x : TV) (v : Value), xs[i]? = some x → vs[i]? = some v → RepT w β G x v) : RepT w β G (.agg xs) (.agg vs.toArray)
  | tup (xs : List TV) (vs : List Value) (hl : vs.length = xs.length) (hr : ∀ (i : Nat) (x : TV) (v : Value), xs[i]? = some x → vs[i]? = some v → RepT w β G x v) : RepT w β G (.tup xs) (.tuple vs.toArray)
  | fn (f : Nat) (xs : List TV) (vs : List Value) (hl : vs.length = xs.length) (hr : ∀ (i : Nat) (x : TV) (v : Value), xs[i]? = some x → vs[i]? = some v → RepT w β G x v) : RepT w β G (.fn f xs) (.func (.func f) #[] vs.toArray)
  | opt (g : Bool) (x : TV) (v : Value) (h1 : g = true → RepT w β G x v) (h2 : g = false → v = undef) : RepT w β G (.opt g x) v

def Unfrozen (fr : Nat × Nat) (n : Nat) : Prop := ∀ i, i < n → (decide (fr.1 ≤ i) && decide (i < fr.2)) = false

/-- What an object is in memory. -/
def ObjOk (w : World) (β : Hd → Nat) (G : Hp) (b : Nat) : AObj → Prop
  | .dead => True
  | .box T cells => ∃ cs, w.heap[b]? = some (.cells cs T (0, 0)) ∧ cs.size = cells.length ∧ ∀ (i : Nat) (x : TV), cells[i]? = some x → ∃ v, cs[i]? = some v ∧ RepT w β G x v
  | .arr T app e rows => ∃ cs fr, w.heap[b]? = some (.cells cs T fr) ∧ rows.length * e ≤ cs.size ∧ Unfrozen fr cs.size ∧ (app = true → fr = (0, 0)) ∧ 0 < e ∧
      (∀ r ∈ rows, (cellsOf r).length = e) ∧ ∀ (i j : Nat) (r x : AV), rows[i]? = some r → (cellsOf r)[j]? = some x → ∃ v, cs[i * e + j]? = some v ∧ RepA w (Free β G) x v
  | .iter s pos => w.heap[b]? = some (.stringIter ⟨s.toArray⟩ pos)

/-- Without handles of this call's own. -/
def TV.ext : TV → Bool
  | .p _ => true
  | .ad (.o _) _ => true
  | .sl (.o _) _ _ _ => true
  | .agg l => extL l
  | .tup l => extL l
  | .fn _ l => extL l
  | .opt _ x => x.ext
  | _ => false
where extL : List TV → Bool
  | [] => true
  | x :: r => x.ext && extL r
def AObj.ext : AObj → Bool
  | .box _ cells => TV.ext.extL cells
  | _ => true

structure Sim (w : World) (β : Hd → Nat) (G : Hp) : Prop where
  objs : ∀ h o, G.get h = some o → ObjOk w β G (β h) o
  inj : ∀ h k, G.live h → G.live k → β h = β k → h = k
  ext : ∀ o ∈ G.o, o.ext = true
  disj : ∀ h, G.live h → ¬ G.F (β h)
  flt : ∀ b, G.F b → b < w.heap.size

/-- How an object may go on. -/
def ObjGo (w w' : World) (b b' : Nat) : AObj → AObj → Prop
  | .dead, x => x = .dead
  | _, .dead => True
  | .box T cs, .box T' cs' => T' = T ∧ cs'.length = cs.length ∧ b' = b
  | .arr T a e rows, .arr T' a' e' rows' => T' = T ∧ a' = a ∧ e' = e ∧ rows.length ≤ rows'.length ∧ (rows'.length = rows.length → b' = b ∧ csize w' b = csize w b)
  | .iter s _, .iter s' _ => s' = s ∧ b' = b
  | _, _ => False

structure Step (w : World) (β : Hd → Nat) (G : Hp) (w' : World) (β' : Hd → Nat) (G' : Hp) : Prop where
  os : w'.os = w.os
  tape : w'.tape = w.tape
  output : w'.output = w.output
  size : w.heap.size ≤ w'.heap.size
  frame : ∀ b, b < w.heap.size → Free β G b → w'.heap[b]? = w.heap[b]? ∧ Free β' G' b
  fr : ∀ b, G.F b → w'.heap[b]? = w.heap[b]?
  F : G'.F = G.F
  obj : ∀ h o, G.get h = some o → ∃ o', G'.get h = some o' ∧ ObjGo w w' (β h) (β' h) o o'

theorem ObjGo.refl (w : World) (b : Nat) (o : AObj) : ObjGo w w b b o o := by cases o <;> simp [ObjGo]
theorem Step.refl (w : World) (β : Hd → Nat) (G : Hp) : Step w β G w β G :=
  ⟨rfl, rfl, rfl, Nat.le_refl _, fun _ _ h => ⟨rfl, h⟩, fun _ _ => rfl, rfl, fun _ o ho => ⟨o, ho, ObjGo.refl _ _ _⟩⟩

theorem ObjGo.trans {w w1 w2 : World} {b b1 b2 : Nat} {o o1 o2 : AObj} (h : ObjGo w w1 b b1 o o1) (k : ObjGo w1 w2 b1 b2 o1 o2) : ObjGo w w2 b b2 o o2 := by
  cases o <;> cases o1 <;> cases o2 <;> simp_all [ObjGo]
  rename_i T a e rows T1 a1 e1 rows1 T2 a2 e2 rows2
  obtain ⟨_, _, _, h1, h2⟩ := h
  obtain ⟨_, _, _, k1, k2⟩ := k
  refine ⟨by omega, fun hl => ?_⟩
  have e1 : rows1.length = rows.length := by omega
  have := h2 e1
  have := k2 (by omega)
  simp_all

theorem Step.trans {w w1 w2 : World} {β β1 β2 : Hd → Nat} {G G1 G2 : Hp} (h : Step w β G w1 β1 G1) (k : Step w1 β1 G1 w2 β2 G2) : Step w β G w2 β2 G2 :=
  ⟨k.os.trans h.os, k.tape.trans h.tape, k.output.trans h.output, Nat.le_trans h.size k.size,
   fun b hb hf => by
     obtain ⟨h1, h2⟩ := h.frame b hb hf
     obtain ⟨k1, k2⟩ := k.frame b (Nat.lt_of_lt_of_le hb h.size) h2
     exact ⟨k1.trans h1, k2⟩,
   fun b hb => (k.fr b (by rw [h.F]; exact hb)).trans (h.fr b hb), k.F.trans h.F,
   fun hd o ho => by
     obtain ⟨o1, h1, g1⟩ := h.obj hd o ho
     obtain ⟨o2, h2, g2⟩ := k.obj hd o1 h1
     exact ⟨o2, h2, g1.trans g2⟩⟩

theorem add_block (a : Addr) (n : Nat) : (a.add n).block = a.block := by unfold Addr.add; split <;> rfl

/-- Persistent values stay, whatever is done to what is owned. -/
theorem RepA.mono {w w' : World} {N N' : Nat → Prop} (hs : w.heap.size ≤ w'.heap.size) (hN : ∀ b, b < w.heap.size → N b → w'.heap[b]? = w.heap[b]? ∧ N' b) {x : AV} {v : Value} (h : RepA w N x v) : RepA w' N' x v := by
  have hcell : ∀ (a : Addr) u, a.block < w.heap.size → N a.block → ∀ i, w.cell? (a.add i) = some u → w'.cell? (a.add i) = some u := by
    intro a u hlt hb i hc
    exact (World.cell?_of_block (by rw [add_block]; exact (hN _ hlt hb).1)).trans hc
  induction h with
  | int => exact .int ..
  | bool => exact .bool ..
  | str => exact .str ..
  | nilp => exact .nilp
  | nils => exact .nils
  | cz => exact .cz ..
  | psE => exact .psE ..
  | top => exact .top ..
  | pp cells a vs hn hb hc hr ih => exact .pp cells a vs (hN _ hb hn).2 (Nat.lt_of_lt_of_le hb hs) (fun i hi => hcell a _ hb hn i (hc i hi)) ih
  | ps rows a c e vs hn hb he hc hr hl ih => exact .ps rows a c e vs (hN _ hb hn).2 (Nat.lt_of_lt_of_le hb hs) he (fun i j hi hj => hcell a _ hb hn _ (hc i j hi hj)) ih hl
  | agg xs vs hl hr ih => exact .agg xs vs hl ih

theorem ObjGo.box_of {w w' : World} {b b' : Nat} {o o' : AObj} (h : ObjGo w w' b b' o o') (hb : o'.isBox = true) : o.isBox = true ∧ b' = b := by
  cases o <;> cases o' <;> simp_all [ObjGo, AObj.isBox]

theorem RepT.mono {w w' : World} {β β' : Hd → Nat} {G G' : Hp} (hs : Step w β G w' β' G') {x : TV} {v : Value} (h : RepT w β G x v) : RepT w' β' G' x v := by
  induction h with
  | p h => exact .p (h.mono hs.size hs.frame)
  | ad h off v h1 hl hv =>
    obtain ⟨o, ho⟩ := hl
    obtain ⟨o', ho', hg⟩ := hs.obj h o ho
    refine .ad h off v h1 ⟨o', ho'⟩ fun o2 h2 hb => ?_
    obtain rfl : o' = o2 := by rw [ho'] at h2; exact Option.some.inj h2
    obtain ⟨h3, h4⟩ := hg.box_of hb
    rw [h4]
    exact hv o ho h3
  | sl h n st len v h1 hl hv =>
    obtain ⟨o, ho, hn⟩ := hl
    obtain ⟨o', ho', hg⟩ := hs.obj h o ho
    refine .sl h n st len v h1 ⟨o', ho', fun T b e rows hr => ?_⟩ fun T b e rows hr hlen => ?_
    · subst hr
      cases o <;> simp [ObjGo] at hg
      have := hn _ _ _ _ rfl
      omega
    · obtain rfl : o' = .arr T b e rows := by rw [ho'] at hr; exact Option.some.inj hr
      cases o <;> simp [ObjGo] at hg
      rename_i T1 b1 e1 rows1
      obtain ⟨rfl, rfl, rfl, g1, h2⟩ := hg
      have := hn _ _ _ _ rfl
      have hl1 : rows.length = rows1.length := by omega
      obtain ⟨hb, hc⟩ := h2 hl1
      rw [hb, hc]
      exact hv _ _ _ _ ho (by omega)
  | el e i off ao len c _ hi ih => exact .el e i off ao len c ih hi
  | agg xs vs hl _ ih => exact .agg xs vs hl ih
  | tup xs vs hl _ ih => exact .tup xs vs hl ih
  | fn f xs vs hl _ ih => exact .fn f xs vs hl ih
  | opt g x v _ h2 ih => exact .opt g x v ih h2

theorem ObjOk.mono {w w' : World} {β β' : Hd → Nat} {G G' : Hp} (hs : Step w β G w' β' G') {b : Nat} {o : AObj} (hb : w'.heap[b]? = w.heap[b]?) (h : ObjOk w β G b o) : ObjOk w' β' G' b o := by
  cases o with
  | dead => trivial
  | box T cells =>
    obtain ⟨cs, h1, h2, h4⟩ := h
    exact ⟨cs, hb.trans h1, h2, fun i x hx => let ⟨v, hv, hr⟩ := h4 i x hx; ⟨v, hv, hr.mono hs⟩⟩
  | arr T app e rows =>
    obtain ⟨cs, fr, h1, h2, h3, h4, h5, h6, h7⟩ := h
    exact ⟨cs, fr, hb.trans h1, h2, h3, h4, h5, h6, fun i j r x hr hx => let ⟨v, hv, hr'⟩ := h7 i j r x hr hx; ⟨v, hv, hr'.mono hs.size hs.frame⟩⟩
  | iter s pos => exact hb.trans h

theorem Sim.lt {w : World} {β : Hd → Nat} {G : Hp} (h : Sim w β G) {k : Hd} (hk : G.live k) : β k < w.heap.size := by
  obtain ⟨o, ho, hne⟩ := hk
  have hb : ∃ x, w.heap[β k]? = some x := by
    have := h.objs k o ho
    cases o with
    | dead => exact absurd rfl hne
    | box => obtain ⟨_, h1, _⟩ := this; exact ⟨_, h1⟩
    | arr => obtain ⟨_, _, h1, _⟩ := this; exact ⟨_, h1⟩
    | iter => exact ⟨_, this⟩
  obtain ⟨x, hx⟩ := hb
  exact (Array.getElem?_eq_some_iff.1 hx).1

/-- ONE OBJECT IS CHANGED (its block written, or it has moved to a new block); all else stays. -/
theorem upd {w w' : World} {β : Hd → Nat} {G G' : Hp} {h : Hd} {o o' : AObj} {b' : Nat} (hS : Sim w β G) (hg : G.get h = some o)
    (hos : w'.os = w.os) (htape : w'.tape = w.tape) (hout : w'.output = w.output) (hsize : w.heap.size ≤ w'.heap.size)
    (hblk : ∀ b, b < w.heap.size → b ≠ β h → w'.heap[b]? = w.heap[b]?) (hlive : o ≠ .dead)
    (hb' : b' = β h ∨ w.heap.size ≤ b') (hgo : ObjGo w w' (β h) b' o o')
    (hG : ∀ k, G'.get k = if k = h then some o' else G.get k) (hF : G'.F = G.F) (hext : ∀ o ∈ G'.o, o.ext = true) :
    let β' : Hd → Nat := fun k => if k = h then b' else β k
    Step w β G w' β' G' ∧ (ObjOk w' β' G' b' o' → Sim w' β' G') := by
  intro β'
  have hlv : ∀ k, G'.live k → G.live k := by
    intro k hk
    by_cases e : k = h
    · subst e; exact ⟨o, hg, hlive⟩
    · obtain ⟨x, hx, hn⟩ := hk
      rw [hG, if_neg e] at hx
      exact ⟨x, hx, hn⟩
  have hstep : Step w β G w' β' G' := by
    refine ⟨hos, htape, hout, hsize, fun b hb hf => ⟨hblk b hb fun e => hf.2 h ⟨o, hg, hlive⟩ e.symm, by rw [hF]; exact hf.1, fun k hk => ?_⟩,
      fun b hb => hblk b (hS.flt b hb) fun e => hS.disj h ⟨o, hg, hlive⟩ (e ▸ hb), hF, fun k x hx => ?_⟩
    · by_cases e : k = h
      · subst e
        simp only [β', if_true]
        rcases hb' with e | e
        · rw [e]; exact hf.2 _ ⟨o, hg, hlive⟩
        · omega
      · simp only [β', e, if_false]
        exact hf.2 k (hlv k hk)
    · by_cases e : k = h
      · subst e
        obtain rfl : o = x := by rw [hg] at hx; exact Option.some.inj hx
        exact ⟨o', by rw [hG, if_pos rfl], by simpa [β'] using hgo⟩
      · refine ⟨x, by rw [hG, if_neg e]; exact hx, ?_⟩
        simp only [β', e, if_false]
        have hsame : x = .dead ∨ csize w' (β k) = csize w (β k) := by
          by_cases hd : x = .dead
          · exact .inl hd
          · refine .inr ?_
            have hkl : G.live k := ⟨x, hx, hd⟩
            unfold csize
            rw [hblk _ (hS.lt hkl) fun hbe => e (hS.inj k h hkl ⟨o, hg, hlive⟩ hbe)]
        cases x <;> simp_all [ObjGo]
  refine ⟨hstep, fun hok => ⟨fun k x hx => ?_, fun k1 k2 h1 h2 he => ?_, hext, fun k hk => ?_, fun b hb => Nat.lt_of_lt_of_le (hS.flt b (by rw [← hF]; exact hb)) hsize⟩⟩
  · by_cases e : k = h
    · subst e
      rw [hG, if_pos rfl] at hx
      obtain rfl := Option.some.inj hx
      simpa [β'] using hok
    · rw [hG, if_neg e] at hx
      simp only [β', e, if_false]
      by_cases hd : x = .dead
      · subst hd; trivial
      · have hkl : G.live k := ⟨x, hx, hd⟩
        exact (hS.objs k x hx).mono hstep (hblk _ (hS.lt hkl) fun hbe => e (hS.inj k h hkl ⟨o, hg, hlive⟩ hbe))
  · by_cases e1 : k1 = h <;> by_cases e2 : k2 = h
    · rw [e1, e2]
    · subst e1
      simp only [β', if_true, e2, if_false] at he
      have l2 := hlv k2 h2
      rcases hb' with e | e
      · exact absurd (hS.inj _ _ ⟨o, hg, hlive⟩ l2 (e ▸ he)) (fun q => e2 q.symm)
      · have := hS.lt l2; omega
    · subst e2
      simp only [β', if_true, e1, if_false] at he
      have l1 := hlv k1 h1
      rcases hb' with e | e
      · exact absurd (hS.inj _ _ l1 ⟨o, hg, hlive⟩ (e ▸ he)) e1
      · have := hS.lt l1; omega
    · simp only [β', e1, e2, if_false] at he
      exact hS.inj _ _ (hlv _ h1) (hlv _ h2) he
  · rw [hF]
    by_cases e : k = h
    · subst e
      simp only [β', if_true]
      rcases hb' with e | e
      · rw [e]; exact hS.disj _ ⟨o, hg, hlive⟩
      · intro hb; have := hS.flt _ hb; omega
    · simp only [β', e, if_false]
      exact hS.disj k (hlv k hk)

/-- A NEW OBJECT. -/
theorem new {w w' : World} {β : Hd → Nat} {H L : List AObj} {F : Nat → Prop} {o' : AObj} (hS : Sim w β ⟨H, L, F⟩)
    (hos : w'.os = w.os) (htape : w'.tape = w.tape) (hout : w'.output = w.output) (hsize : w.heap.size ≤ w'.heap.size)
    (hblk : ∀ b, b < w.heap.size → w'.heap[b]? = w.heap[b]?) {b' : Nat} (hb' : w.heap.size ≤ b') :
    let β' : Hd → Nat := fun k => if k = .l L.length then b' else β k
    Step w β ⟨H, L, F⟩ w' β' ⟨H, L ++ [o'], F⟩ ∧ (ObjOk w' β' ⟨H, L ++ [o'], F⟩ b' o' → Sim w' β' ⟨H, L ++ [o'], F⟩) := by
  intro β'
  have hget : ∀ k, (⟨H, L ++ [o'], F⟩ : Hp).get k = if k = .l L.length then some o' else (⟨H, L, F⟩ : Hp).get k := by
    intro k
    cases k with
    | o h => simp [Hp.get]
    | l i =>
      simp only [Hp.get, Hd.l.injEq]
      by_cases e : i = L.length
      · simp [e]
      · rw [if_neg e, List.getElem?_append]
        split
        · rfl
        · rw [List.getElem?_eq_none (by simp; omega), List.getElem?_eq_none (by omega)]
  have hold : ∀ k x, (⟨H, L, F⟩ : Hp).get k = some x → k ≠ .l L.length := by
    intro k x hx e
    subst e
    simp [Hp.get] at hx
  have hlv : ∀ k, k ≠ .l L.length → (⟨H, L ++ [o'], F⟩ : Hp).live k → (⟨H, L, F⟩ : Hp).live k := by
    rintro k hk ⟨x, hx, hn⟩
    rw [hget, if_neg hk] at hx
    exact ⟨x, hx, hn⟩
  have hstep : Step w β ⟨H, L, F⟩ w' β' ⟨H, L ++ [o'], F⟩ := by
    refine ⟨hos, htape, hout, hsize, fun b hb hf => ⟨hblk b hb, hf.1, fun k hk => ?_⟩, fun b hb => hblk b (hS.flt b hb), rfl, fun k x hx => ?_⟩
    · by_cases e : k = .l L.length
      · subst e; simp only [β', if_true]; omega
      · simp only [β', e, if_false]; exact hf.2 k (hlv k e hk)
    · have e := hold k x hx
      refine ⟨x, by rw [hget, if_neg e]; exact hx, ?_⟩
      simp only [β', e, if_false]
      have hsame : x = .dead ∨ csize w' (β k) = csize w (β k) := by
        by_cases hd : x = .dead
        · exact .inl hd
        · refine .inr ?_
          unfold csize
          rw [hblk _ (hS.lt ⟨x, hx, hd⟩)]
      cases x <;> simp_all [ObjGo]
  refine ⟨hstep, fun hok => ⟨fun k x hx => ?_, fun k1 k2 h1 h2 he => ?_, hS.ext, fun k hk => ?_, fun b hb => Nat.lt_of_lt_of_le (hS.flt b hb) hsize⟩⟩
  · by_cases e : k = .l L.length
    · subst e
      rw [hget, if_pos rfl] at hx
      obtain rfl := Option.some.inj hx
      simpa [β'] using hok
    · rw [hget, if_neg e] at hx
      simp only [β', e, if_false]
      by_cases hd : x = .dead
      · subst hd; trivial
      · exact (hS.objs k x hx).mono hstep (hblk _ (hS.lt ⟨x, hx, hd⟩))
  · by_cases e1 : k1 = .l L.length <;> by_cases e2 : k2 = .l L.length
    · rw [e1, e2]
    · simp only [β', e1, e2, if_true, if_false] at he
      have := hS.lt (hlv k2 e2 h2); omega
    · simp only [β', e1, e2, if_true, if_false] at he
      have := hS.lt (hlv k1 e1 h1); omega
    · simp only [β', e1, e2, if_false] at he
      exact hS.inj _ _ (hlv _ e1 h1) (hlv _ e2 h2) he
  · by_cases e : k = .l L.length
    · subst e; simp only [β', if_true]
      intro hb; have := hS.flt _ hb; omega
    · simp only [β', e, if_false]; exact hS.disj k (hlv k e hk)
end Go.Awp

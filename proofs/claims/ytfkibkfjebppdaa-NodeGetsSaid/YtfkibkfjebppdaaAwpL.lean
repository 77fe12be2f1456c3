/- What comes from without: an argument, read as the row reads it, is a value that stays. No program is named here. -/
import Derived.Test.YtfkibkfjebppdaaAwpM
import Derived.WalkKit
import Derived.ProofKit
import Derived.OpenShut
import Derived.ShutString
import Derived.ChangeOld
import Derived.Below
import Derived.SizedLaws
namespace Go.Awp
open Go.RowKit Go.ChangeShapes Go.WideShapes Go.ChangeAt
open Go.ChangeMaps (open_string shut_string)

def reach : Nat := 140737488351232

def fieldsG (g : Nat → Option (List Nat)) : Nat → List (Nat × Nat) → Option (List Nat)
  | _, [] => some []
  | off, (o, t) :: r => match Nat.beq off o with
    | true => match g t with
      | some l => (fieldsG g (off + l.length) r).map (l ++ ·)
      | none => none
    | false => none
def arrF (e sz : Nat) : Nat → Nat → List (Nat × Nat)
  | 0, _ => []
  | n + 1, off => (off, e) :: arrF e sz n (off + sz)
def szD (T : Tab) (t : Nat) : Nat := match tlk T t with
  | some i => i.size
  | none => 0
def okLen (n : Nat) : Option (List Nat) → Option (List Nat)
  | some l => match Nat.beq l.length n with
    | true => some l
    | false => none
  | none => none
def leaves (T : Tab) : Nat → Nat → Option (List Nat)
  | 0, _ => none
  | f + 1, t => match tlk T t with
    | none => none
    | some i => match i.d with
      | .bool => some [t]
      | .int _ => some [t]
      | .str => some [t]
      | .slice _ => some [t]
      | .array n e => okLen i.size (fieldsG (leaves T f) 0 (arrF e (szD T e) n 0))
      | .struct fs => okLen i.size (fieldsG (leaves T f) 0 fs)
      | _ => none

def All2 (R : Nat → AV → Prop) : List Nat → List AV → Prop
  | [], [] => True
  | u :: us, x :: xs => R u x ∧ All2 R us xs
  | _, _ => False

/-- What a cell of this type may be. -/
def Shp (T : Tab) : Nat → Nat → AV → Prop
  | 0, _, _ => False
  | f + 1, t, x => match tyD T t with
    | .bool => ∃ b, x = .bool b
    | .int k => ∃ n, x = .int k n ∧ k.min ≤ n ∧ n ≤ k.max
    | .str => ∃ l : List UInt8, x = .str l ∧ l.length ≤ reach
    | .slice e => x = .nils ∨ ∃ rows te ls, x = .ps rows ∧ tlk T e = some te ∧ leaves T f e = some ls ∧ rows.length * te.bytes ≤ reach ∧
        ∀ r ∈ rows, All2 (Shp T f) ls (cellsOf r) ∧ (∀ y, isAggD te.d = some false → cellsOf r = [y] → r = y) ∧ (isAggD te.d = some true → ∃ cs, r = .agg cs)
    | _ => False

theorem all2_len {R : Nat → AV → Prop} : ∀ {us : List Nat} {xs : List AV}, All2 R us xs → us.length = xs.length
  | [], [], _ => rfl
  | _ :: us, _ :: xs, h => by simp [all2_len h.2]
  | [], _ :: _, h => h.elim
  | _ :: _, [], h => h.elim

theorem build2 {R : Nat → AV → Prop} {Q : AV → Value → Prop} : ∀ {ls : List Nat} {cs : List Value}, cs.length = ls.length → (∀ (i : Nat) u v, ls[i]? = some u → cs[i]? = some v → ∃ x, R u x ∧ Q x v) →
    ∃ xs : List AV, All2 R ls xs ∧ xs.length = cs.length ∧ ∀ (i : Nat) x v, xs[i]? = some x → cs[i]? = some v → Q x v
  | [], [], _, _ => ⟨[], trivial, rfl, fun i x v h => by simp at h⟩
  | u :: ls, v :: cs, hl, h => by
    obtain ⟨x, hx1, hx2⟩ := h 0 u v rfl rfl
    obtain ⟨xs, h1, h2, h3⟩ := build2 (R := R) (Q := Q) (ls := ls) (cs := cs) (by simpa using hl) fun i u v hu hv => h (i + 1) u v (by simpa using hu) (by simpa using hv)
    refine ⟨x :: xs, ⟨hx1, h1⟩, by simp [h2], fun i y w hy hw => ?_⟩
    cases i with
    | zero => simp at hy hw; subst hy hw; exact hx2
    | succ i => exact h3 i y w (by simpa using hy) (by simpa using hw)
  | [], _ :: _, hl, _ => by simp at hl
  | _ :: _, [], hl, _ => by simp at hl

theorem choose_list {α : Type} : ∀ {n : Nat} {Q : Nat → α → Prop}, (∀ i, i < n → ∃ r, Q i r) → ∃ rows : List α, rows.length = n ∧ ∀ (i : Nat) r, rows[i]? = some r → Q i r
  | 0, _, _ => ⟨[], rfl, fun i r h => by simp at h⟩
  | n + 1, Q, h => by
    obtain ⟨rows, h1, h2⟩ := choose_list (n := n) (Q := Q) fun i hi => h i (by omega)
    obtain ⟨r, hr⟩ := h n (by omega)
    refine ⟨rows ++ [r], by simp [h1], fun i y hy => ?_⟩
    rcases Nat.lt_trichotomy i n with hlt | heq | hgt
    · rw [List.getElem?_append_left (by omega)] at hy; exact h2 i y hy
    · subst heq
      rw [List.getElem?_append_right (by omega), h1, Nat.sub_self] at hy
      simp at hy; subst hy; exact hr
    · rw [List.getElem?_eq_none (by simp; omega)] at hy; cases hy

section
variable {H : Type} {enc : TypeId × Value → H} {P : Program} {w : World} {sp : Nat → Bool} {held : Bool} {T : Tab} {N : Nat → Prop}

theorem cellsOf_get (hT : TabOk P T) {t : Nat} {i : TyI} (h : tlk T t = some i) : P.cellsOf t = i.size := by
  obtain ⟨inf, u, ok⟩ := hT.get h
  simp [Program.cellsOf, ok.info, ok.size]

theorem okLen_some {n : Nat} {o : Option (List Nat)} {l : List Nat} (h : okLen n o = some l) : o = some l ∧ l.length = n := by
  unfold okLen at h
  split at h
  · split at h
    · rename_i e
      obtain rfl := Option.some.inj h
      exact ⟨rfl, Nat.eq_of_beq_eq_true e⟩
    · cases h
  · cases h
theorem arrF_mem {e sz : Nat} : ∀ {n off o t : Nat}, (o, t) ∈ arrF e sz n off → t = e ∧ ∃ i, i < n ∧ o = off + i * sz
  | 0, _, _, _, h => by simp [arrF] at h
  | n + 1, off, o, t, h => by
    simp only [arrF, List.mem_cons, Prod.mk.injEq] at h
    rcases h with ⟨rfl, rfl⟩ | h
    · exact ⟨rfl, 0, by omega, by simp⟩
    · obtain ⟨h1, i, h2, rfl⟩ := arrF_mem h
      exact ⟨h1, i + 1, by omega, by rw [Nat.add_mul]; omega⟩

/-- What a reading of cells says of each leaf. -/
def LeafOk (enc : TypeId × Value → H) (P : Program) (w : World) (sp : Nat → Bool) (held : Bool) (W : List Nat) (u : Nat) (v : Value) : Prop :=
  ∃ y n, DataW.trod enc P w 0 sp held n u [v] = some y ∧ ∀ k ∈ y.1.weights P u, k ∈ W

theorem fields_ok {f : Nat} {cs : List Value} {W : List Nat} (hT : TabOk P T)
    (ih : ∀ {t : Nat} {ls : List Nat}, leaves T f t = some ls → ∀ (fuel : Nat) (cs : List Value) (x : DataW H × List MemPlace), DataW.trod enc P w 0 sp held fuel t cs = some x → cs.length = ls.length ∧ ∀ (i : Nat) u v, ls[i]? = some u → cs[i]? = some v → LeafOk enc P w sp held (x.1.weights P t) u v) :
    ∀ {fs : List (Nat × Nat)} {off : Nat} {ls : List Nat}, fieldsG (leaves T f) off fs = some ls →
      (∀ o t, (o, t) ∈ fs → ∃ n y, DataW.trod enc P w 0 sp held n t ((cs.drop o).take (P.cellsOf t)) = some y ∧ ∀ k ∈ y.1.weights P t, k ∈ W) →
      ∀ (i : Nat) u v, ls[i]? = some u → cs[off + i]? = some v → LeafOk enc P w sp held W u v
  | [], off, ls, h, _ => by
    simp only [fieldsG, Option.some.injEq] at h
    subst h
    intro i u v hu
    simp at hu
  | (o, t) :: r, off, ls, h, hp => by
    simp only [fieldsG] at h
    split at h
    · rename_i e
      obtain rfl := Nat.eq_of_beq_eq_true e
      split at h
      · rename_i l hl
        simp only [Option.map_eq_some_iff] at h
        obtain ⟨l', hl', rfl⟩ := h
        intro i u v hu hv
        by_cases hi : i < l.length
        · rw [List.getElem?_append_left hi] at hu
          obtain ⟨n, y, hy, hw⟩ := hp off t (by simp)
          obtain ⟨h1, h2⟩ := ih hl _ _ _ hy
          obtain ⟨y', n', h3, h4⟩ := h2 i u v hu (by
            have hs : i < P.cellsOf t := by
              have : ((cs.drop off).take (P.cellsOf t)).length ≤ P.cellsOf t := by simp; omega
              omega
            rw [List.getElem?_take, if_pos hs, List.getElem?_drop]; exact hv)
          exact ⟨y', n', h3, fun k hk => hw k (h4 k hk)⟩
        · rw [List.getElem?_append_right (by omega)] at hu
          exact fields_ok hT ih hl' (fun o t hm => hp o t (by simp [hm])) (i - l.length) u v hu (by rw [← hv]; congr 1; omega)
      · cases h
    · cases h

theorem weightsAll_mem {e : TypeId} : ∀ {l : List (DataW H)} {d : DataW H}, d ∈ l → ∀ k ∈ d.weights P e, k ∈ DataW.weightsAll P e l
  | d0 :: l, d, hd, k, hk => by
    simp only [DataW.weightsAll, List.mem_append]
    rcases List.mem_cons.1 hd with rfl | h
    · exact .inl hk
    · exact .inr (weightsAll_mem h k hk)

/-- A reading of cells is a reading of each leaf. -/
theorem trod_leaves (hT : TabOk P T) : ∀ (f : Nat) {t : Nat} {ls : List Nat}, leaves T f t = some ls → ∀ (fuel : Nat) (cs : List Value) (x : DataW H × List MemPlace), DataW.trod enc P w 0 sp held fuel t cs = some x →
    cs.length = ls.length ∧ ∀ (i : Nat) u v, ls[i]? = some u → cs[i]? = some v → LeafOk enc P w sp held (x.1.weights P t) u v
  | 0, t, ls, h => by simp [leaves] at h
  | f + 1, t, ls, h => by
    intro fuel cs x hx
    have one : ∀ {v : Value}, cs = [v] → ls = [t] → cs.length = ls.length ∧ ∀ (i : Nat) u v, ls[i]? = some u → cs[i]? = some v → LeafOk enc P w sp held (x.1.weights P t) u v := by
      rintro v rfl rfl
      refine ⟨rfl, fun i u v' hu hv => ?_⟩
      cases i with
      | zero => simp at hu hv; subst hu hv; exact ⟨x, fuel, hx, fun k hk => hk⟩
      | succ i => simp at hu
    simp only [leaves] at h
    split at h
    · cases h
    rename_i ti hti
    obtain ⟨inf, u, ok⟩ := hT.get hti
    have h2 := ok.d
    have h1 := ok.und
    have hsz := cellsOf_get hT hti
    split at h
    all_goals rename_i hd
    all_goals try rw [hd] at h2
    · cases u <;> simp only [chkD, Bool.false_eq_true] at h2
      obtain ⟨b, hcs, _⟩ := DataW.trod_bool h1 hx
      exact one hcs (by simpa using h.symm)
    · rename_i k
      obtain rfl := chkD_int h2
      obtain ⟨b, hcs, _⟩ := DataW.trod_int h1 hx
      exact one hcs (by simpa using h.symm)
    · obtain rfl := chkD_str h2
      obtain ⟨b, hcs, _⟩ := DataW.trod_string h1 hx
      exact one hcs (by simpa using h.symm)
    · obtain rfl := chkD_slice h2
      rcases DataW.trod_slice h1 hx with ⟨hcs, _⟩ | ⟨a, l, c, _, _, _, _, hcs, _⟩
      · exact one hcs (by simpa using h.symm)
      · exact one hcs (by simpa using h.symm)
    · rename_i n e
      obtain rfl := chkD_array h2
      obtain ⟨h3, h4⟩ := okLen_some h
      obtain ⟨ys, m, rfl, rfl, hlen, hyl, hy⟩ := DataW.trod_array h1 hx
      refine ⟨by omega, fun i u v hu hv => ?_⟩
      refine fields_ok (cs := cs) hT (trod_leaves hT f) h3 (fun o t' hm => ?_) i u v hu (by simpa using hv)
      obtain ⟨rfl, j, hj, rfl⟩ := arrF_mem hm
      have hs : szD T t' = P.cellsOf t' := by
        unfold szD
        cases hq : tlk T t' with
        | none => 
          exfalso
          have : fieldsG (leaves T f) 0 (arrF t' (szD T t') n 0) = none := by
            cases n with
            | zero => omega
            | succ n =>
              have hl : leaves T f t' = none := by cases f <;> simp [leaves, hq]
              simp [arrF, fieldsG, hl]
          rw [this] at h3; cases h3
        | some i' => simp [cellsOf_get hT hq]
      refine ⟨m, ys[j]'(by omega), ?_, fun k hk => ?_⟩
      · rw [Nat.zero_add, hs, hy j hj, List.getElem?_eq_getElem]
      · simp only [DataW.weights, h1]
        exact weightsAll_mem (List.mem_map_of_mem (List.getElem_mem _)) k hk
    · rename_i fs
      obtain ⟨gs, rfl, hfs⟩ := chkD_struct h2
      obtain ⟨h3, h4⟩ := okLen_some h
      obtain ⟨ys, m, rfl, rfl, hlen, hyl, hy⟩ := DataW.trod_struct h1 hx
      refine ⟨by omega, fun i u v hu hv => ?_⟩
      refine fields_ok (cs := cs) hT (trod_leaves hT f) h3 (fun o t' hm => ?_) i u v hu (by simpa using hv)
      rw [hfs] at hm
      obtain ⟨fl, hfl, he⟩ := List.mem_map.1 hm
      simp only [Prod.mk.injEq] at he
      obtain ⟨rfl, rfl⟩ := he
      obtain ⟨j, hj⟩ := List.getElem?_of_mem hfl
      have hj' : gs[j]? = some fl := by simpa using hj
      have hjl : j < ys.length := by
        have := (List.getElem?_eq_some_iff.1 hj).1
        simp at this; omega
      refine ⟨m, ys[j]'hjl, ?_, fun k hk => ?_⟩
      · rw [hy j fl hj', List.getElem?_eq_getElem]
      · simp only [DataW.weights, h1]
        exact DataW.weights_mem_each (j := j) (t := fl.type) (d := ys[j].1) (by simp [hj]) (by simp [List.getElem?_eq_getElem hjl]) k hk
    · cases h

def suppL (T : Tab) : Nat → Nat → Bool
  | 0, _ => false
  | f + 1, t => match tyD T t with
    | .bool => true
    | .int _ => true
    | .str => true
    | .slice e => match tlk T e, leaves T f e with
      | some te, some ls => Nat.blt 0 te.size && ls.all (suppL T f) && (isAggD te.d).isSome
      | _, _ => false
    | _ => false

theorem leaves_len (hT : TabOk P T) {f t : Nat} {ls : List Nat} {i : TyI} (h : leaves T f t = some ls) (hi : tlk T t = some i) : ls.length = i.size := by
  obtain ⟨inf, u, ok⟩ := hT.get hi
  cases f with
  | zero => simp [leaves] at h
  | succ f =>
    simp only [leaves, hi] at h
    split at h
    all_goals rename_i hd
    · rw [ok.one (by rw [hd]; rfl), ← Option.some.inj h]; rfl
    · rw [ok.one (by rw [hd]; rfl), ← Option.some.inj h]; rfl
    · rw [ok.one (by rw [hd]; rfl), ← Option.some.inj h]; rfl
    · rw [ok.one (by rw [hd]; rfl), ← Option.some.inj h]; rfl
    · exact (okLen_some h).2
    · exact (okLen_some h).2
    · cases h

theorem cell_lt {w : World} {a : Addr} {v : Value} (h : w.cell? a = some v) : a.block < w.heap.size := by
  unfold World.cell? at h
  rcases Nat.lt_or_ge a.block w.heap.size with hl | hl
  · exact hl
  · rw [Array.getElem?_eq_none hl] at h; simp at h

/-- Each leaf is a value that stays, of its shape. -/
theorem trod_shp (hT : TabOk P T) (hN : ∀ b, b < w.heap.size → N b) : ∀ (f : Nat) (u : Nat) (v : Value) (fuel : Nat) (x : DataW H × List MemPlace), suppL T f u = true → DataW.trod enc P w 0 sp held fuel u [v] = some x →
    (∀ k ∈ x.1.weights P u, k ≤ reach) → ∃ a, Shp T f u a ∧ RepA w N a v
  | 0, _, _, _, _, h, _, _ => by simp [suppL] at h
  | f + 1, t, v, fuel, x, h, hx, hw => by
    simp only [suppL] at h
    simp only [Shp]
    split at h
    all_goals rename_i hd
    · obtain ⟨u, h1, h2⟩ := tyD_und hT (t := t) (by rw [hd]; simp)
      rw [hd] at h2
      cases u <;> simp only [chkD, Bool.false_eq_true] at h2
      obtain ⟨b, hcs, _⟩ := DataW.trod_bool h1 hx
      simp at hcs; subst hcs
      exact ⟨.bool b, ⟨b, rfl⟩, .bool b⟩
    · rename_i k
      obtain ⟨u, h1, h2⟩ := tyD_und hT (t := t) (by rw [hd]; simp)
      rw [hd] at h2
      obtain rfl := chkD_int h2
      obtain ⟨n, hcs, _, hwf⟩ := DataW.trod_int h1 hx
      simp at hcs; subst hcs
      simp only [Lit.wf, Bool.and_eq_true, decide_eq_true_eq] at hwf
      exact ⟨.int k n, ⟨n, rfl, hwf⟩, .int k n⟩
    · obtain ⟨u, h1, h2⟩ := tyD_und hT (t := t) (by rw [hd]; simp)
      rw [hd] at h2
      obtain rfl := chkD_str h2
      obtain ⟨s, hcs, rfl, _⟩ := DataW.trod_string h1 hx
      simp at hcs; subst hcs
      have hz := hw s.data.toList.length (by simp [DataW.weights])
      exact ⟨.str s.data.toList, ⟨_, rfl, hz⟩, .str s.data.toList⟩
    · rename_i e
      obtain ⟨u, h1, h2⟩ := tyD_und hT (t := t) (by rw [hd]; simp)
      rw [hd] at h2
      obtain rfl := chkD_slice h2
      split at h
      · rename_i te ls hte hls
        simp only [Bool.and_eq_true, Nat.blt_eq, List.all_eq_true] at h
        obtain ⟨⟨hpos, hall⟩, hagg⟩ := h
        have hce := cellsOf_get hT hte
        have hll := leaves_len hT hls hte
        obtain ⟨inf, ue, ok⟩ := hT.get hte
        have hby : P.bytesOf e = te.bytes := by simp [Program.bytesOf, ok.info, ok.bytes]
        rcases DataW.trod_slice h1 hx with ⟨hcs, rfl⟩ | ⟨a, l, c, elems, rest, n, rfl, hcs, rfl, _, hlc, hcm, hel, hea, _⟩
        · simp at hcs; subst hcs
          exact ⟨.nils, .inl rfl, .nils⟩
        · simp at hcs; subst hcs
          simp only [DataW.weights, h1, List.length_map, List.mem_cons, List.mem_append, hby] at hw
          have key : ∀ i, i < l → ∃ r : AV, (All2 (Shp T f) ls (cellsOf r) ∧ (∀ y, isAggD te.d = some false → cellsOf r = [y] → r = y) ∧ (isAggD te.d = some true → ∃ cs, r = .agg cs)) ∧
              ((cellsOf r).length = te.size ∧ ∀ (j : Nat) (x : AV), (cellsOf r)[j]? = some x → ∃ u, w.cell? (a.add (i * te.size + j)) = some u ∧ RepA w N x u) := by
            intro i hi
            have h3 := hea i hi
            rw [List.getElem?_eq_getElem (by omega), Option.bind_eq_some_iff] at h3
            obtain ⟨cs, h4, h5⟩ := h3
            obtain ⟨_, g2, g3⟩ := World.cells?_some h4
            obtain ⟨g4, g5⟩ := trod_leaves hT f hls _ _ _ h5
            obtain ⟨xs, k1, k2, k3⟩ := build2 (R := Shp T f) (Q := fun x v => RepA w N x v) (ls := ls) (cs := cs) g4 fun j u v hu hv => by
              obtain ⟨y, m, q1, q2⟩ := g5 j u v hu hv
              exact trod_shp hT hN f u v m y (hall u (List.mem_of_getElem? hu)) q1 fun k hk => hw k (.inr (.inl (weightsAll_mem (List.mem_map_of_mem (List.getElem_mem _)) k (q2 k hk))))
            have hcell : ∀ (j : Nat) (x : AV), xs[j]? = some x → ∃ u, w.cell? (a.add (i * te.size + j)) = some u ∧ RepA w N x u := by
              intro j x hj
              have hjl : j < cs.length := by
                have := (List.getElem?_eq_some_iff.1 hj).1
                omega
              refine ⟨cs[j], ?_, k3 j x _ hj (List.getElem?_eq_getElem hjl)⟩
              have := g3 j (by omega)
              rw [add_add, hce, List.getElem?_eq_getElem hjl] at this
              exact this
            cases hag : isAggD te.d with
            | none => simp [hag] at hagg
            | some b =>
              cases b with
              | true => exact ⟨.agg xs, ⟨k1, by simp, fun _ => ⟨xs, rfl⟩⟩, by simp [cellsOf]; omega, hcell⟩
              | false =>
                have h1' := ok.one hag
                match xs, k1, k2, hcell with
                | [y], k1, k2, hcell =>
                  have hy : cellsOf y = [y] := by
                    match ls, k1, hll with
                    | [u'], k1, _ =>
                      have hs := k1.1
                      cases f with
                      | zero => exact hs.elim
                      | succ f =>
                        simp only [Shp] at hs
                        split at hs
                        · obtain ⟨b, rfl⟩ := hs; rfl
                        · obtain ⟨b, rfl, _⟩ := hs; rfl
                        · obtain ⟨b, rfl, _⟩ := hs; rfl
                        · rcases hs with rfl | ⟨_, _, _, rfl, _⟩ <;> rfl
                        · exact hs.elim
                  refine ⟨y, ⟨by rw [hy]; exact k1, fun z _ hz => by rw [hy] at hz; simpa using hz, by simp⟩, by rw [hy, h1']; rfl, by rw [hy]; exact hcell⟩
                | [], k1, k2, _ => simp at k2; omega
                | _ :: _ :: _, k1, k2, _ => simp at k2; omega
          obtain ⟨rows, r1, r2⟩ := choose_list key
          have hmem : ∀ r ∈ rows, ∃ i : Nat, rows[i]? = some r := fun r hr => List.getElem?_of_mem hr
          refine ⟨.ps rows, .inr ⟨rows, te, ls, rfl, hte, hls, ?_, fun r hr => ?_⟩, ?_⟩
          · have := hw _ (.inl rfl)
            have hm : l * te.bytes ≤ (elems.length + rest.length) * te.bytes := Nat.mul_le_mul_right _ (by omega)
            rw [r1]
            omega
          · obtain ⟨i, hi⟩ := hmem r hr
            exact (r2 i r hi).1
          · cases hl0 : l with
            | zero =>
              obtain rfl : rows = [] := List.length_eq_zero_iff.1 (by omega)
              exact .psE ..
            | succ l' =>
              have h0 : rows[0]? = some (rows[0]'(by omega)) := List.getElem?_eq_getElem _
              obtain ⟨z1, z2⟩ := (r2 0 _ h0).2
              obtain ⟨u, z3, _⟩ := z2 0 ((cellsOf (rows[0]'(by omega)))[0]'(by omega)) (List.getElem?_eq_getElem _)
              have hlt := cell_lt z3
              rw [add_block] at hlt
              rw [← hl0, ← r1]
              refine .ps rows a c te.size (fun i j => (w.cell? (a.add (i * te.size + j))).getD undef) (hN _ hlt) hlt (fun r hr => ?_) (fun i j hi hj => ?_) (fun i j r x hi hj => ?_) (by omega)
              · obtain ⟨i, hi⟩ := hmem r hr
                exact (r2 i r hi).2.1
              · have hg : rows[i]? = some rows[i] := List.getElem?_eq_getElem hi
                obtain ⟨q1, q2⟩ := (r2 i _ hg).2
                obtain ⟨u, hu, _⟩ := q2 j ((cellsOf rows[i])[j]'(by omega)) (List.getElem?_eq_getElem _)
                simp [hu]
              · obtain ⟨u, hu, hr⟩ := (r2 i r hi).2.2 j x hj
                simpa [hu] using hr
      · cases h
    · cases h

/-- An argument of one cell. -/
theorem open_leaf (hT : TabOk P T) (hN : ∀ b, b < w.heap.size → N b) (f : Nat) {t : Nat} {v : Value} {d : DataW H} {p : List MemPlace} {r : Reach} {b0 : Nat} (hs : suppL T f t = true) (hval : Value.okWide P w r b0 t v) (hd : DataW.Trod enc P w 0 sp held t v d p)
    (hw : ∀ k ∈ d.weights P t, k ≤ reach) : ∃ a, Shp T f t a ∧ RepA w N a v := by
  obtain ⟨fuel, hx⟩ := hd
  have hc : v.cells.toList = [v] := by
    cases v <;> try rfl
    rename_i cs
    exfalso
    cases f with
    | zero => simp [suppL] at hs
    | succ f =>
      simp only [suppL] at hs
      have h3 : tyD T t ≠ .other := by intro h; rw [h] at hs; simp at hs
      obtain ⟨u, h1, h2⟩ := tyD_und hT h3
      split at hs
      all_goals rename_i hd
      all_goals try (rw [hd] at h2)
      all_goals try (cases hs; done)
      all_goals cases u <;> simp only [chkD, Bool.false_eq_true] at h2
      all_goals simp [Value.okWide, h1, Cell.okWide, Cell.ok] at hval
  rw [hc] at hx
  exact trod_shp hT hN f t v fuel (d, p) hs hx hw

/-- A struct, or an array, as an argument. -/
theorem open_agg (hT : TabOk P T) (hN : ∀ b, b < w.heap.size → N b) (f : Nat) {t : Nat} {v : Value} {d : DataW H} {p : List MemPlace} {r : Reach} {b0 : Nat} {ls : List Nat} (hd' : isAggD (tyD T t) = some true) (hl : leaves T f t = some ls) (hs : ls.all (suppL T f) = true) (hval : Value.okWide P w r b0 t v)
    (hd : DataW.Trod enc P w 0 sp held t v d p) (hw : ∀ k ∈ d.weights P t, k ≤ reach) : ∃ xs, All2 (Shp T f) ls xs ∧ RepA w N (.agg xs) v := by
  obtain ⟨fuel, hx⟩ := hd
  have h3 : tyD T t ≠ .other := by intro h; rw [h] at hd'; simp [isAggD] at hd'
  obtain ⟨u, h1, h2⟩ := tyD_und hT h3
  obtain ⟨cs, rfl⟩ : ∃ cs, v = .agg cs := by
    cases hq : tyD T t <;> rw [hq] at hd' h2 <;> simp [isAggD] at hd' <;> cases u <;> simp only [chkD, Bool.false_eq_true] at h2
    all_goals
      simp only [Value.okWide, h1] at hval
      obtain ⟨cs, h, _⟩ := hval
      exact ⟨cs, h⟩
  obtain ⟨g4, g5⟩ := trod_leaves hT f hl _ _ _ hx
  obtain ⟨xs, k1, k2, k3⟩ := build2 (R := Shp T f) (Q := fun x v => RepA w N x v) (ls := ls) g4 fun j u v hu hv => by
    obtain ⟨y, m, q1, q2⟩ := g5 j u v hu hv
    exact trod_shp hT hN f u v m y (List.all_eq_true.1 hs u (List.mem_of_getElem? hu)) q1 fun k hk => hw k (q2 k hk)
  have hc : (Value.agg cs).cells.toList = cs.toList := rfl
  rw [hc] at k2 k3
  refine ⟨xs, k1, ?_⟩
  have := RepA.agg (w := w) (N := N) xs cs.toList k2.symm k3
  simpa using this

theorem und_bool (hT : TabOk P T) {t : Nat} (h : tyD T t = .bool) : P.underlying t = some .bool := by
  obtain ⟨u, h1, h2⟩ := tyD_und hT (t := t) (by rw [h]; simp)
  rw [h] at h2
  cases u <;> simp only [chkD, Bool.false_eq_true] at h2
  exact h1
theorem Shp.int {f t : Nat} {k : IntKind} {x : AV} (h : Shp T (f + 1) t x) (hd : tyD T t = .int k) : ∃ n, x = .int k n ∧ k.min ≤ n ∧ n ≤ k.max := by
  simp only [Shp, hd] at h; exact h
theorem Shp.bool {f t : Nat} {x : AV} (h : Shp T (f + 1) t x) (hd : tyD T t = .bool) : ∃ b, x = .bool b := by
  simp only [Shp, hd] at h; exact h
theorem Shp.str {f t : Nat} {x : AV} (h : Shp T (f + 1) t x) (hd : tyD T t = .str) : ∃ l : List UInt8, x = .str l ∧ l.length ≤ reach := by
  simp only [Shp, hd] at h; exact h
theorem Shp.slice {f t e : Nat} {x : AV} (h : Shp T (f + 1) t x) (hd : tyD T t = .slice e) : x = .nils ∨ ∃ rows te ls, x = .ps rows ∧ tlk T e = some te ∧ leaves T f e = some ls ∧ rows.length * te.bytes ≤ reach ∧
        ∀ r ∈ rows, All2 (Shp T f) ls (cellsOf r) ∧ (∀ y, isAggD te.d = some false → cellsOf r = [y] → r = y) ∧ (isAggD te.d = some true → ∃ cs, r = .agg cs) := by
  simp only [Shp, hd] at h; exact h

def nF : Nat → Prop := fun _ => False
def β0 : Hd → Nat := fun _ => 0
def freeAll : Nat → Prop := Free β0 ⟨[], [], nF⟩
theorem freeAll_ok (b : Nat) : freeAll b := ⟨fun h => h, fun h hl => by
  obtain ⟨o, ho, _⟩ := hl
  cases h <;> simp [Hp.get] at ho⟩
/-- A law's contract, as the row asks for it. -/
theorem law_calls {f : FuncId} {as : List AV} {vs : List Value} {W : World} (h : Con P f (as.map .p) [] (.p (.bool true)) [] []) (hl : vs.length = as.length) (hr : ∀ (i : Nat) x v, as[i]? = some x → vs[i]? = some v → RepA W freeAll x v) :
    Calls P f vs.toArray W fun e w' => e = .returned (.bool true) ∧ Below W.heap.size W w' := by
  refine (h.run nF W β0 vs ⟨fun h o ho => by cases h <;> simp [Hp.get] at ho, fun h k hl _ _ => by
    obtain ⟨o, ho, _⟩ := hl
    cases h <;> simp [Hp.get] at ho, fun o ho => by simp at ho, fun h hl => by
    obtain ⟨o, ho, _⟩ := hl
    cases h <;> simp [Hp.get] at ho, fun b hb => hb.elim⟩ ⟨by simpa using hl, fun i x v hx hv => ?_⟩).mono fun e w' ⟨β', v, he, hS, hst, hrep⟩ => ?_
  · simp only [List.getElem?_map, Option.map_eq_some_iff] at hx
    obtain ⟨a, ha, rfl⟩ := hx
    exact .p (hr i a v ha hv)
  · cases hrep with | p hb =>
    cases hb
    exact ⟨he, hst.os, hst.tape, hst.output, hst.size, fun k hk => (hst.frame k hk (freeAll_ok k)).1⟩
theorem repv_nil {w : World} {N : Nat → Prop} : ∀ (i : Nat) x v, ([] : List AV)[i]? = some x → ([] : List Value)[i]? = some v → RepA w N x v := fun i x v h => by simp at h
theorem repv_cons {w : World} {N : Nat → Prop} {a : AV} {v : Value} {as : List AV} {vs : List Value} (h : RepA w N a v) (hr : ∀ (i : Nat) x v, as[i]? = some x → vs[i]? = some v → RepA w N x v) : ∀ (i : Nat) x u, (a :: as)[i]? = some x → (v :: vs)[i]? = some u → RepA w N x u
  | 0, x, u, hx, hu => by simp at hx hu; subst hx hu; exact h
  | i + 1, x, u, hx, hu => hr i x u (by simpa using hx) (by simpa using hu)
end
end Go.Awp

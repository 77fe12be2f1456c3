/- A region whose order is drawn: run in the text's order, with what may come between told. No program is named here. -/
import Derived.Test.YtfkibkfjebppdaaAwpU
import Derived.Orders
namespace Go.Awp
open Go.RowKit

def aft (o : Oper) : List Nat := o.after.toList.filterMap fun e => match Region.binds .any e with
  | true => some e.on
  | false => none
def nmem : List Nat → Nat → Bool
  | [], _ => false
  | j :: r, i => match Nat.beq j i with
    | true => true
    | false => nmem r i
theorem nmem_iff : ∀ {l : List Nat} {i : Nat}, nmem l i = true ↔ i ∈ l
  | [], i => by simp [nmem]
  | j :: r, i => by
    simp only [nmem, List.mem_cons]
    cases h : Nat.beq j i with
    | true => simp [(Nat.eq_of_beq_eq_true h).symm]
    | false =>
      have := Nat.ne_of_beq_eq_false h
      simp only [nmem_iff]
      constructor
      · exact .inr
      · rintro (h | h)
        · exact absurd h.symm this
        · exact h
def wrGo : List Oper → Nat → Nat → Option Nat
  | [], _, _ => none
  | o :: r, i, t => match o.dst with
    | some d => match Nat.beq d t with
      | true => some i
      | false => wrGo r (i + 1) t
    | none => wrGo r (i + 1) t
theorem wrGo_spec : ∀ {r : List Oper} {i t j : Nat}, wrGo r i t = some j → i ≤ j ∧ ∃ o, r[j - i]? = some o ∧ o.dst = some t
  | [], _, _, _, h => by simp [wrGo] at h
  | o :: r, i, t, j, h => by
    simp only [wrGo] at h
    have next : wrGo r (i + 1) t = some j → i ≤ j ∧ ∃ o', (o :: r)[j - i]? = some o' ∧ o'.dst = some t := fun h => by
      obtain ⟨h1, o', h2, h3⟩ := wrGo_spec h
      exact ⟨by omega, o', by rw [show j - i = (j - (i + 1)) + 1 by omega]; simpa using h2, h3⟩
    split at h
    · rename_i d hd
      split at h
      · rename_i e
        obtain rfl := Option.some.inj h
        exact ⟨Nat.le_refl _, o, by simp, by rw [hd, Nat.eq_of_beq_eq_true e]⟩
      · exact next h
    · exact next h
theorem wrGo_none : ∀ {r : List Oper} {i t : Nat}, wrGo r i t = none → ∀ o ∈ r, o.dst ≠ some t
  | [], _, _, _, o, ho => by simp at ho
  | o :: r, i, t, h, o', ho => by
    simp only [wrGo] at h
    split at h
    · rename_i d hd
      split at h
      · cases h
      · rename_i e
        have hne := Nat.ne_of_beq_eq_false e
        rcases List.mem_cons.1 ho with rfl | ho
        · rw [hd]; simpa using hne
        · exact wrGo_none h o' ho
    · rename_i hd
      rcases List.mem_cons.1 ho with rfl | ho
      · rw [hd]; simp
      · exact wrGo_none h o' ho

def rdv (ops : List Oper) (env0 : Env) (xs : List TV) (o : Oper) (t : Nat) : TV := match wrGo ops 0 t with
  | some j => match nmem (aft o) j with
    | true => xs.getD j (.p .top)
    | false => lk env0 t
  | none => lk env0 t
def RdE (ops : List Oper) (env0 : Env) (xs : List TV) (o : Oper) : Env := (o.looksAt ops.toArray).map fun t => (t, rdv ops env0 xs o t)
def posn : List Nat → Nat → Nat → Option Nat
  | [], _, _ => none
  | s :: r, p, i => match Nat.beq s i with
    | true => some p
    | false => posn r (p + 1) i
def loK (o : Oper) : List Nat → Nat → Nat → Nat
  | [], _, k => k
  | s :: r, p, k => match nmem (aft o) s with
    | true => loK o r (p + 1) (p + 1)
    | false => loK o r (p + 1) k
def hiK (ops : List Oper) (i : Nat) : List Nat → Nat → Nat
  | [], p => p
  | s :: r, p => match ops[s]? with
    | some o => match nmem (aft o) i with
      | true => p
      | false => hiK ops i r (p + 1)
    | none => p
def allK (f : Nat → Prop) : Nat → Nat → Prop
  | k, 0 => f k
  | k, n + 1 => f k ∧ allK f (k + 1) n
theorem allK_get {f : Nat → Prop} : ∀ {n k : Nat}, allK f k n → ∀ m, k ≤ m → m ≤ k + n → f m
  | 0, k, h, m, h1, h2 => by
    obtain rfl : m = k := by omega
    exact h
  | n + 1, k, h, m, h1, h2 => by
    rcases Nat.lt_or_eq_of_le h1 with h3 | rfl
    · exact allK_get h.2 m h3 (by omega)
    · exact h.1

section
variable (P : Program) (ops : List Oper) (env0 : Env) (H : List AObj) (Ls : List (List AObj)) (ss : List Nat)
def Obl (i : Nat) (o : Oper) (xs : List TV) (x : TV) : Prop := match posn ss 0 i with
  | some p => OpR P o (RdE ops env0 xs o) H (Ls.getD p []) x H (Ls.getD (p + 1) [])
  | none => allK (fun k => OpR P o (RdE ops env0 xs o) H (Ls.getD k []) x H (Ls.getD k [])) (loK o ss 0 0) (hiK ops i ss 0 - loK o ss 0 0)
def OblF (i : Nat) (o : Oper) (xs : List TV) (x : TV) : Prop :=
  ((∀ g b, o.guard = some (g, b) → gA ops.toArray (RdE ops env0 xs o) g = some b) ∧ Obl P ops env0 H Ls ss i o xs x) ∨
  (∃ g b, o.guard = some (g, b) ∧ gA ops.toArray (RdE ops env0 xs o) g = some (!b) ∧ x = .p .top ∧ posn ss 0 i = none)
def Tele (K : List TV → Prop) : List Oper → Nat → List TV → Prop
  | [], _, xs => K xs
  | o :: rest, i, xs => ∃ x, OblF P ops env0 H Ls ss i o xs x ∧ Tele K rest (i + 1) (xs ++ [x])
end

/-- Statically: each slot is written once, and each reader of it lies before or behind; what writes memory goes one behind the other. -/
def regLook (ops : List Oper) (i : Nat) (o : Oper) : List Nat → Bool
  | [] => true
  | t :: r => (match wrGo ops 0 t with
    | some j => nmem (aft o) j || Nat.beq j i || (match ops[j]? with
      | some q => nmem (aft q) i
      | none => false)
    | none => true) && regLook ops i o r
def allLt (i : Nat) : List Nat → Bool
  | [] => true
  | j :: r => Nat.blt j i && allLt i r
def regGo (N : Nat) (ops : List Oper) : List Oper → Nat → Bool
  | [], _ => true
  | o :: r, i => allLt i (aft o) && (match o.dst with
    | some d => Nat.blt d N && (match wrGo ops 0 d with
      | some j => Nat.beq j i
      | none => false)
    | none => true) && regLook ops i o (o.looksAt ops.toArray) && regGo N ops r (i + 1)
def chainOk (ops : List Oper) : List Nat → Bool
  | [] => true
  | [s] => Nat.blt s ops.length
  | s :: s' :: r => Nat.blt s ops.length && (match ops[s']? with
    | some o => nmem (aft o) s
    | none => false) && chainOk ops (s' :: r)
def regOk (N : Nat) (ops : List Oper) (ss : List Nat) : Bool := regGo N ops ops 0 && chainOk ops ss

theorem allLt_get : ∀ {l : List Nat} {i : Nat}, allLt i l = true → ∀ j ∈ l, j < i
  | j :: r, i, h, k, hk => by
    simp only [allLt, Bool.and_eq_true, Nat.blt_eq] at h
    rcases List.mem_cons.1 hk with rfl | hk
    · exact h.1
    · exact allLt_get h.2 k hk
theorem regLook_get {ops : List Oper} {i : Nat} {o : Oper} : ∀ {l : List Nat}, regLook ops i o l = true → ∀ t ∈ l, ∀ j, wrGo ops 0 t = some j → nmem (aft o) j = true ∨ j = i ∨ ∃ q, ops[j]? = some q ∧ nmem (aft q) i = true
  | t :: r, h, t', ht, j, hj => by
    simp only [regLook, Bool.and_eq_true] at h
    rcases List.mem_cons.1 ht with rfl | ht
    · have h1 := h.1
      rw [hj] at h1
      simp only [Bool.or_eq_true] at h1
      rcases h1 with (h1 | h1) | h1
      · exact .inl h1
      · exact .inr (.inl (Nat.eq_of_beq_eq_true h1))
      · split at h1
        · rename_i q hq; exact .inr (.inr ⟨q, hq, h1⟩)
        · cases h1
    · exact regLook_get h.2 t' ht j hj
structure RegI (N : Nat) (ops : List Oper) (i : Nat) (o : Oper) : Prop where
  lt : ∀ j ∈ aft o, j < i
  dst : ∀ d, o.dst = some d → d < N ∧ wrGo ops 0 d = some i
  look : ∀ t ∈ o.looksAt ops.toArray, ∀ j, wrGo ops 0 t = some j → nmem (aft o) j = true ∨ j = i ∨ ∃ q, ops[j]? = some q ∧ nmem (aft q) i = true
theorem regGo_get {N : Nat} {ops : List Oper} : ∀ {r : List Oper} {i0 : Nat}, regGo N ops r i0 = true → ∀ (i : Nat) o, r[i]? = some o → RegI N ops (i0 + i) o
  | [], _, _, i, o, h => by simp at h
  | o :: r, i0, h, i, o', ho => by
    simp only [regGo, Bool.and_eq_true] at h
    obtain ⟨⟨⟨h1, h2⟩, h3⟩, h4⟩ := h
    cases i with
    | zero =>
      simp at ho
      subst ho
      refine ⟨allLt_get h1, fun d hd => ?_, regLook_get h3⟩
      rw [hd] at h2
      simp only [Bool.and_eq_true, Nat.blt_eq] at h2
      obtain ⟨h5, h6⟩ := h2
      split at h6
      · rename_i j hj; exact ⟨h5, by rw [hj, Nat.eq_of_beq_eq_true h6]; rfl⟩
      · cases h6
    | succ i =>
      have := regGo_get h4 i o' (by simpa using ho)
      rwa [show i0 + 1 + i = i0 + (i + 1) by omega] at this

theorem posn_some : ∀ {ss : List Nat} {p0 i p : Nat}, posn ss p0 i = some p → p0 ≤ p ∧ ss[p - p0]? = some i
  | [], _, _, _, h => by simp [posn] at h
  | s :: r, p0, i, p, h => by
    simp only [posn] at h
    split at h
    · rename_i e
      obtain rfl := Option.some.inj h
      exact ⟨Nat.le_refl _, by simp [Nat.eq_of_beq_eq_true e]⟩
    · obtain ⟨h1, h2⟩ := posn_some h
      exact ⟨by omega, by rw [show p - p0 = (p - (p0 + 1)) + 1 by omega]; simpa using h2⟩
theorem posn_none : ∀ {ss : List Nat} {p0 i : Nat}, posn ss p0 i = none → i ∉ ss
  | [], _, _, _ => by simp
  | s :: r, p0, i, h => by
    simp only [posn] at h
    split at h
    · cases h
    · rename_i e
      have := Nat.ne_of_beq_eq_false e
      simp only [List.mem_cons, not_or]
      exact ⟨fun q => this q.symm, posn_none h⟩
theorem chain_get {ops : List Oper} : ∀ {ss : List Nat}, chainOk ops ss = true → ∀ (p : Nat) s, ss[p]? = some s → s < ops.length ∧ ∀ s', ss[p + 1]? = some s' → ∃ o, ops[s']? = some o ∧ s ∈ aft o
  | [], _, p, s, h => by simp at h
  | [s], h, p, s', hs => by
    cases p with
    | zero => simp [chainOk] at h hs; subst hs; exact ⟨h, by simp⟩
    | succ p => simp at hs
  | s :: s' :: r, h, p, q, hq => by
    simp only [chainOk, Bool.and_eq_true] at h
    obtain ⟨⟨h1, h2⟩, h3⟩ := h
    cases p with
    | zero =>
      simp at hq
      subst hq
      refine ⟨by simpa using h1, fun t ht => ?_⟩
      simp at ht
      subst ht
      split at h2
      · rename_i o ho; exact ⟨o, ho, nmem_iff.1 h2⟩
      · cases h2
    | succ p =>
      obtain ⟨h4, h5⟩ := chain_get h3 p q (by simpa using hq)
      exact ⟨h4, fun t ht => h5 t (by simpa using ht)⟩
theorem loK_le {o : Oper} {k : Nat} : ∀ {ss : List Nat} {p k0 : Nat}, k0 ≤ k → (∀ (q : Nat) s, ss[q]? = some s → nmem (aft o) s = true → p + q + 1 ≤ k) → loK o ss p k0 ≤ k
  | [], _, _, h, _ => h
  | s :: r, p, k0, h, hs => by
    simp only [loK]
    split
    · rename_i e
      exact loK_le (hs 0 s rfl e) fun q t ht hm => by have := hs (q + 1) t (by simpa using ht) hm; omega
    · exact loK_le h fun q t ht hm => by have := hs (q + 1) t (by simpa using ht) hm; omega
theorem hiK_spec {ops : List Oper} {i : Nat} : ∀ {ss : List Nat} {p : Nat}, (∀ s ∈ ss, s < ops.length) → hiK ops i ss p = p + ss.length ∨ ∃ q s o, hiK ops i ss p = p + q ∧ ss[q]? = some s ∧ ops[s]? = some o ∧ nmem (aft o) i = true
  | [], p, _ => .inl rfl
  | s :: r, p, h => by
    simp only [hiK]
    have hlt := h s (by simp)
    rw [List.getElem?_eq_getElem hlt]
    simp only
    split
    · rename_i e
      exact .inr ⟨0, s, _, rfl, rfl, List.getElem?_eq_getElem hlt, e⟩
    · rcases hiK_spec (ss := r) (p := p + 1) (fun s hs => h s (by simp [hs])) with h1 | ⟨q, t, o, h1, h2, h3, h4⟩
      · exact .inl (by rw [h1]; simp; omega)
      · exact .inr ⟨q + 1, t, o, by rw [h1]; omega, by simpa using h2, h3, h4⟩

theorem chain_mono {N : Nat} {ops : List Oper} {ss : List Nat} (hr : regGo N ops ops 0 = true) (hc : chainOk ops ss = true) {p q s t : Nat} (hpq : p < q) (hp : ss[p]? = some s) (hq : ss[q]? = some t) : s < t := by
  induction q generalizing t with
  | zero => omega
  | succ q ih =>
    obtain ⟨u, hu⟩ : ∃ u, ss[q]? = some u := ⟨ss[q]'(by have := (List.getElem?_eq_some_iff.1 hq).1; omega), List.getElem?_eq_getElem _⟩
    obtain ⟨o, h1, h2⟩ := (chain_get hc q u hu).2 t hq
    have h3 := (regGo_get hr t o h1).lt u h2
    rcases Nat.lt_or_eq_of_le (Nat.le_of_lt_succ hpq) with h | h
    · have := ih h hu; omega
    · subst h
      rw [hp] at hu
      obtain rfl := Option.some.inj hu
      omega

section
variable {P : Program} {Γ : Ctx} {ops : List Oper} {env0 : Env} {H : List AObj} {Ls : List (List AObj)} {ss : List Nat} {xs : List TV} {Q : Exit → Act → World → Prop}

def valR (ops : List Oper) (env0 : Env) (xs : List TV) (listed : Array Bool) (t : Nat) : TV := match wrGo ops 0 t with
  | some j => if listed.getD j false = true then xs.getD j (.p .top) else lk env0 t
  | none => lk env0 t

structure InvR (Γ : Ctx) (ops : List Oper) (env0 : Env) (H : List AObj) (Ls : List (List AObj)) (ss : List Nat) (xs : List TV) (listed : Array Bool) (a : Act) (w : World) : Prop where
  size : listed.size = ops.length
  closed : ∀ (i : Nat) o, ops[i]? = some o → listed.getD i false = true → ∀ j ∈ aft o, listed.getD j false = true
  st : ∃ k β, k ≤ ss.length ∧ (∀ (p : Nat) s, ss[p]? = some s → (listed.getD s false = true ↔ p < k)) ∧ Sim w β ⟨H, Ls.getD k [], Γ.F⟩ ∧ Step Γ.w0 Γ.β0 ⟨Γ.H0, [], Γ.F⟩ w β ⟨H, Ls.getD k [], Γ.F⟩ ∧
    ∀ t, RepT w β ⟨H, Ls.getD k [], Γ.F⟩ (valR ops env0 xs listed t) (a.tmps.getD t undef)
  tmps : a.tmps.size = Γ.N
  defers : a.defers = []

theorem lk_map {f : Nat → TV} : ∀ {l : List Nat} {t : Nat}, (t ∈ l ∧ lk (l.map fun t => (t, f t)) t = f t) ∨ lk (l.map fun t => (t, f t)) t = .p .top
  | [], t => .inr rfl
  | s :: r, t => by
    simp only [List.map_cons, lk_cons, List.mem_cons]
    by_cases e : t = s
    · subst e; exact .inl ⟨.inl rfl, by simp⟩
    · rw [if_neg e]
      rcases lk_map (f := f) (l := r) (t := t) with ⟨h1, h2⟩ | h
      · exact .inl ⟨.inr h1, h2⟩
      · exact .inr h

/-- One operation, wherever it may be drawn. -/
theorem reg_step (hreg : regOk Γ.N ops ss = true) (hobl : ∀ (i : Nat) o, ops[i]? = some o → OblF P ops env0 H Ls ss i o xs (xs.getD i (.p .top))) {listed : Array Bool} {a : Act} {w : World} (hI : InvR Γ ops env0 H Ls ss xs listed a w) {i : Nat} (hi : i ∈ Region.ready .any ops.toArray listed)
    {K : Act → World → Prop} (hK : ∀ a' w', InvR Γ ops env0 H Ls ss xs (listed.setIfInBounds i true) a' w' → K a' w') : wpOp P ops.toArray Q i K a w := by
  obtain ⟨hun, o, ho, hdep⟩ := mem_ready.1 hi
  have ho' : ops[i]? = some o := by simpa using ho
  unfold regOk at hreg
  simp only [Bool.and_eq_true] at hreg
  have hR := regGo_get hreg.1 i o ho'
  rw [Nat.zero_add] at hR
  have hil : i < ops.length := (List.getElem?_eq_some_iff.1 ho').1
  have hdeps : ∀ j ∈ aft o, listed.getD j false = true := fun j hj => by
    unfold aft at hj
    simp only [List.mem_filterMap] at hj
    obtain ⟨e, he, hb⟩ := hj
    split at hb
    · rename_i hbind
      obtain rfl := Option.some.inj hb
      exact hdep e (by simpa using he) hbind
    · cases hb
  have hun' : ¬ listed.getD i false = true := by
    have hs : i < listed.size := by rw [hI.size]; exact hil
    simp [Array.getD, hs] at hun ⊢
    simp [hun]
  obtain ⟨k, β, hk, hkl, hS, hst, hrep⟩ := hI.st
  have hkl' : ∀ q s o', ss[q]? = some s → ops[s]? = some o' → i ∈ aft o' → k ≤ q := fun q s o' h1 h2 h3 => by
    rcases Nat.lt_or_ge q k with h | h
    · exact absurd (hI.closed s o' h2 ((hkl q s h1).2 h) i h3) hun'
    · exact h
  have hen : EnvR w β ⟨H, Ls.getD k [], Γ.F⟩ (RdE ops env0 xs o) a := fun t => by
    unfold RdE
    rcases lk_map (f := rdv ops env0 xs o) (l := o.looksAt ops.toArray) (t := t) with ⟨hm, h2⟩ | h2
    · rw [h2]
      have hv := hrep t
      unfold valR at hv
      unfold rdv
      cases hw : wrGo ops 0 t with
      | none => rw [hw] at hv; exact hv
      | some j =>
        rw [hw] at hv
        simp only at hv ⊢
        cases hm2 : nmem (aft o) j with
        | true =>
          rw [if_pos (hdeps j (nmem_iff.1 hm2))] at hv
          exact hv
        | false =>
          have hnl : ¬ listed.getD j false = true := by
            rcases hR.look t hm j hw with h | h | ⟨q, hq, h⟩
            · rw [hm2] at h; cases h
            · rw [h]; exact hun'
            · exact fun hl => hun' (hI.closed j q hq hl i (nmem_iff.1 h))
          rw [if_neg hnl] at hv
          exact hv
    · rw [h2]; exact .p (.top _)
  have hclosed : ∀ (j : Nat) o', ops[j]? = some o' → (listed.setIfInBounds i true).getD j false = true → ∀ q ∈ aft o', (listed.setIfInBounds i true).getD q false = true := fun j o' hj hl q hq => by
    by_cases e : j = i
    · subst e
      rw [ho'] at hj
      obtain rfl := Option.some.inj hj
      exact getD_set_true (hdeps q hq)
    · rw [getD_set_ne false (fun h => e h.symm)] at hl
      exact getD_set_true (hI.closed j o' hj hl q hq)
  have hself : (listed.setIfInBounds i true).getD i false = true := by
    have hs : i < listed.size := by rw [hI.size]; exact hil
    simp [hs]
  -- what is known of the slots behind the operation
  have henv : ∀ {w' : World} {β' : Hd → Nat} {L' : List AObj} {u : Value}, Step w β ⟨H, Ls.getD k [], Γ.F⟩ w' β' ⟨H, L', Γ.F⟩ → RepT w' β' ⟨H, L', Γ.F⟩ (xs.getD i (.p .top)) u →
      ∀ t, RepT w' β' ⟨H, L', Γ.F⟩ (valR ops env0 xs (listed.setIfInBounds i true) t) ((a.put o.dst u).tmps.getD t undef) := fun {w'} {β'} {L'} {u} hs hx t => by
    by_cases hd : o.dst = some t
    · obtain ⟨hlt, hwr⟩ := hR.dst t hd
      unfold valR
      rw [hwr]
      simp only [hself, if_true]
      rw [hd]
      have hlt' : t < a.tmps.size := by rw [hI.tmps]; exact hlt
      have : (a.put (some t) u).tmps.getD t undef = u := by simp [Act.put, Array.getD, hlt']
      rw [this]
      exact hx
    · have hold := (hrep t).mono hs
      have hv : valR ops env0 xs (listed.setIfInBounds i true) t = valR ops env0 xs listed t := by
        unfold valR
        cases hw : wrGo ops 0 t with
        | none => rfl
        | some j =>
          have hji : j ≠ i := by
            rintro rfl
            obtain ⟨_, o2, h2, h3⟩ := wrGo_spec hw
            rw [Nat.sub_zero, ho'] at h2
            obtain rfl := Option.some.inj h2
            exact hd h3
          simp only [getD_set_ne false (fun h => hji h.symm)]
      rw [hv]
      have hput : (a.put o.dst u).tmps.getD t undef = a.tmps.getD t undef := by
        cases hdd : o.dst with
        | none => rfl
        | some d =>
          have hne : d ≠ t := fun e => hd (by rw [hdd, e])
          simp only [Act.put, Array.getD_eq_getD_getElem?, Array.getElem?_setIfInBounds_ne hne]
      rw [hput]
      exact hold
  unfold wpOp
  rw [ho]
  simp only
  rcases hobl i o ho' with ⟨hw, hob⟩ | ⟨g, b, hg, hgv, hx, hpn⟩
  · have hwant : Region.wanted o (yielded ops.toArray a.tmps) = true := by
      cases hg : o.guard with
      | none => simp [Region.wanted, hg]
      | some gb =>
        obtain ⟨g, b⟩ := gb
        simp [Region.wanted, hg, gA_ok hen (hw g b hg)]
    rw [if_pos hwant]
    refine .inl ?_
    unfold Obl at hob
    split at hob
    · rename_i p hp
      obtain ⟨_, hsp⟩ := posn_some hp
      rw [Nat.sub_zero] at hsp
      have hkp : k = p := by
        have h1 : ¬ p < k := fun h => hun' ((hkl p i hsp).2 h)
        rcases Nat.eq_zero_or_pos p with h0 | h0
        · omega
        · obtain ⟨s, hs⟩ : ∃ s, ss[p - 1]? = some s := ⟨ss[p - 1]'(by have := (List.getElem?_eq_some_iff.1 hsp).1; omega), List.getElem?_eq_getElem _⟩
          obtain ⟨o2, h2, h3⟩ := (chain_get hreg.2 (p - 1) s hs).2 i (by rw [show p - 1 + 1 = p by omega]; exact hsp)
          rw [ho'] at h2
          obtain rfl := Option.some.inj h2
          have := (hkl (p - 1) s hs).1 (hdeps s h3)
          omega
      subst hkp
      refine hob Γ.F w β a _ _ hS hen fun w' β' u hS' hst' hx => hK _ _ ⟨by simp [hI.size], hclosed, ⟨k + 1, β', ?_, fun q s hq => ?_, hS', hst.trans hst', henv hst' hx⟩, by rw [put_size]; exact hI.tmps, by rw [put_defers']; exact hI.defers⟩
      · have := (List.getElem?_eq_some_iff.1 hsp).1; omega
      · by_cases e : s = i
        · subst e
          simp only [hself, true_iff]
          by_cases hqk : q < k
          · exact absurd ((hkl q s hq).2 hqk) hun'
          · rcases Nat.lt_or_eq_of_le (Nat.le_of_not_lt hqk) with h | h
            · have := chain_mono hreg.1 hreg.2 h hsp hq
              omega
            · omega
        · rw [getD_set_ne false (fun h => e h.symm), hkl q s hq]
          constructor
          · intro h; omega
          · intro h
            rcases Nat.lt_or_eq_of_le (Nat.le_of_lt_succ h) with h | h
            · exact h
            · subst h; rw [hsp] at hq; exact absurd (Option.some.inj hq).symm e
    · rename_i hpn
      have hni := posn_none hpn
      have hlo : loK o ss 0 0 ≤ k := loK_le (Nat.zero_le _) fun q s hq hm => by
        have := (hkl q s hq).1 (hdeps s (nmem_iff.1 hm))
        omega
      have hhi : k ≤ hiK ops i ss 0 := by
        rcases hiK_spec (ops := ops) (i := i) (ss := ss) (p := 0) (fun s hs => by obtain ⟨q, hq⟩ := List.getElem?_of_mem hs; exact (chain_get hreg.2 q s hq).1) with h | ⟨q, s, o2, h1, h2, h3, h4⟩
        · omega
        · have := hkl' q s o2 h2 h3 (nmem_iff.1 h4); omega
      have := allK_get hob k hlo (by omega)
      refine this Γ.F w β a _ _ hS hen fun w' β' u hS' hst' hx => hK _ _ ⟨by simp [hI.size], hclosed, ⟨k, β', hk, fun q s hq => ?_, hS', hst.trans hst', henv hst' hx⟩, by rw [put_size]; exact hI.tmps, by rw [put_defers']; exact hI.defers⟩
      have e : s ≠ i := by rintro rfl; exact hni (List.mem_of_getElem? hq)
      rw [getD_set_ne false (fun h => e h.symm), hkl q s hq]
  · have hnw : ¬ Region.wanted o (yielded ops.toArray a.tmps) = true := by simp [Region.wanted, hg, gA_ok hen hgv]
    rw [if_neg hnw]
    have hni := posn_none hpn
    refine hK _ _ ⟨by simp [hI.size], hclosed, ⟨k, β, hk, fun q s hq => ?_, hS, hst, henv (Step.refl ..) (by rw [hx]; exact .p (.top _))⟩, by rw [put_size]; exact hI.tmps, by rw [put_defers']; exact hI.defers⟩
    have e : s ≠ i := by rintro rfl; exact hni (List.mem_of_getElem? hq)
    rw [getD_set_ne false (fun h => e h.symm), hkl q s hq]

/-- The slots behind the region. -/
def finE : List Oper → List TV → Env → Env
  | o :: r, x :: xs, env => finE r xs (putE env o.dst x)
  | _, _, env => env
def unl (n : Nat) (listed : Array Bool) : Nat := ((List.range n).filter fun i => !listed.getD i false).length
theorem unl_lt {n i : Nat} {listed : Array Bool} (hi : i < n) (hs : listed.size = n) (hu : listed.getD i false = false) : unl n (listed.setIfInBounds i true) < unl n listed := by
  unfold unl
  rw [← List.countP_eq_length_filter, ← List.countP_eq_length_filter]
  have hmono : ∀ l : List Nat, List.countP (fun j => !(listed.setIfInBounds i true).getD j false) l ≤ List.countP (fun j => !listed.getD j false) l := fun l => by
    refine List.countP_mono_left fun j _ hj => ?_
    by_cases e : i = j
    · subst e
      simp [hs, hi] at hj
    · rw [getD_set_ne false e] at hj; exact hj
  have key : ∀ l : List Nat, i ∈ l → List.countP (fun j => !(listed.setIfInBounds i true).getD j false) l < List.countP (fun j => !listed.getD j false) l := by
    intro l
    induction l with
    | nil => simp
    | cons j l ih =>
      intro hm
      rw [List.countP_cons, List.countP_cons]
      by_cases e : i = j
      · subst e
        have h1 : (listed.setIfInBounds i true).getD i false = true := by simp [hs, hi]
        rw [h1, hu]
        have := hmono l
        simp only [Bool.not_true, Bool.false_eq_true, if_false, Bool.not_false, if_true]
        omega
      · have h1 := ih (by rcases List.mem_cons.1 hm with h | h; exact absurd h e; exact h)
        rw [getD_set_ne false e]
        omega
  exact key _ (by simpa using hi)

theorem wpAny_reg (hreg : regOk Γ.N ops ss = true) (hobl : ∀ (i : Nat) o, ops[i]? = some o → OblF P ops env0 H Ls ss i o xs (xs.getD i (.p .top)))
    (hend : ∀ listed a w, InvR Γ ops env0 H Ls ss xs listed a w → (∀ i, i < ops.length → listed.getD i false = true) → Q .normal a w) :
    ∀ (fuel : Nat) (listed : Array Bool) (a : Act) (w : World), unl ops.length listed ≤ fuel → InvR Γ ops env0 H Ls ss xs listed a w → wpAny P .any ops.toArray Q fuel listed a w := by
  have hall : ∀ (listed : Array Bool) (a : Act) (w : World), InvR Γ ops env0 H Ls ss xs listed a w → Region.ready .any ops.toArray listed = [] → ∀ i, i < ops.length → listed.getD i false = true := fun listed a w hI hr i => by
    have hreg1 : regGo Γ.N ops ops 0 = true := by
      unfold regOk at hreg
      simp only [Bool.and_eq_true] at hreg
      exact hreg.1
    induction i using Nat.strongRecOn with
    | ind i ih =>
      intro hi
      cases hq : listed.getD i false with
      | true => rfl
      | false =>
        exfalso
        have ho : ops[i]? = some ops[i] := List.getElem?_eq_getElem hi
        have hR := regGo_get hreg1 i _ ho
        rw [Nat.zero_add] at hR
        have hs : i < listed.size := by rw [hI.size]; exact hi
        have : i ∈ Region.ready .any ops.toArray listed := mem_ready.2 ⟨by simp [Array.getD, hs] at hq ⊢; exact hq, ops[i], by simp [hi], fun e he hb => by
          have hm : e.on ∈ aft ops[i] := by
            unfold aft
            simp only [List.mem_filterMap]
            exact ⟨e, by simpa using he, by rw [hb]⟩
          have hlt := hR.lt _ hm
          exact ih e.on hlt (by omega)⟩
        rw [hr] at this
        cases this
  intro fuel
  induction fuel with
  | zero =>
    intro listed a w hf hI
    have hall' : ∀ i, i < ops.length → listed.getD i false = true := fun i hi => by
      cases hq : listed.getD i false with
      | true => rfl
      | false =>
        exfalso
        have := unl_lt hi hI.size hq
        omega
    refine ⟨?_, hend _ _ _ hI hall'⟩
    apply List.eq_nil_iff_forall_not_mem.2
    intro i hi
    obtain ⟨hun, o, ho, _⟩ := mem_ready.1 hi
    have hil : i < ops.length := (List.getElem?_eq_some_iff.1 (show ops[i]? = some o by simpa using ho)).1
    have h1 := hall' i hil
    have hs : i < listed.size := by rw [hI.size]; exact hil
    simp [Array.getD, hs] at hun h1
    rw [hun] at h1
    cases h1
  | succ fuel ih =>
    intro listed a w hf hI
    refine ⟨fun hr => hend _ _ _ hI (hall _ _ _ hI hr), fun i hi => reg_step hreg hobl hI hi fun a' w' hI' => ?_⟩
    obtain ⟨hun, o, ho, _⟩ := mem_ready.1 hi
    have hil : i < ops.length := (List.getElem?_eq_some_iff.1 (show ops[i]? = some o by simpa using ho)).1
    have hs : i < listed.size := by rw [hI.size]; exact hil
    have hq : listed.getD i false = false := by simp [Array.getD, hs] at hun ⊢; exact hun
    have := unl_lt hil hI.size hq
    exact ih _ _ _ (by omega) hI'

theorem wrGo_last : ∀ {r : List Oper} {i t j : Nat}, wrGo r i t = some j → ∀ k o, r[k]? = some o → o.dst = some t → j ≤ i + k
  | [], _, _, _, h, k, o, hk, _ => by simp at hk
  | o :: r, i, t, j, h, k, o', hk, hd => by
    simp only [wrGo] at h
    cases k with
    | zero =>
      simp at hk
      subst hk
      rw [hd] at h
      simp at h
      omega
    | succ k =>
      have hk' : r[k]? = some o' := by simpa using hk
      have next : wrGo r (i + 1) t = some j → j ≤ i + (k + 1) := fun h => by have := wrGo_last h k o' hk' hd; omega
      split at h
      · split at h
        · obtain rfl := Option.some.inj h; omega
        · exact next h
      · exact next h
theorem finE_lk : ∀ {r : List Oper} {xs : List TV} {env : Env} {t : Nat}, r.length = xs.length → (∀ (i j : Nat) (o o' : Oper), r[i]? = some o → r[j]? = some o' → o.dst = some t → o'.dst = some t → i = j) →
    lk (finE r xs env) t = match wrGo r 0 t with
      | some j => xs.getD j (.p .top)
      | none => lk env t
  | [], [], env, t, _, _ => rfl
  | [], _ :: _, _, _, h, _ => by simp at h
  | _ :: _, [], _, _, h, _ => by simp at h
  | o :: r, x :: xs, env, t, hl, hu => by
    have shift : ∀ {r : List Oper} {i : Nat}, wrGo r (i + 1) t = (wrGo r i t).map (· + 1) := by
      intro r
      induction r with
      | nil => intro i; rfl
      | cons o r ih =>
        intro i
        simp only [wrGo]
        split
        · split
          · rfl
          · exact ih
        · exact ih
    have ih := finE_lk (r := r) (xs := xs) (env := putE env o.dst x) (t := t) (by simpa using hl) fun i j a b h1 h2 h3 h4 => by
      have := hu (i + 1) (j + 1) a b (by simpa using h1) (by simpa using h2) h3 h4
      omega
    simp only [finE, wrGo]
    rw [ih]
    cases hd : o.dst with
    | none =>
      simp only [putE]
      rw [shift]
      cases wrGo r 0 t <;> simp
    | some d =>
      simp only [putE, lk_cons]
      cases hb : Nat.beq d t with
      | true =>
        have hdt := Nat.eq_of_beq_eq_true hb
        subst hdt
        have hn : wrGo r 0 d = none := by
          cases hw : wrGo r 0 d with
          | none => rfl
          | some j =>
            exfalso
            obtain ⟨_, o2, h2, h3⟩ := wrGo_spec hw
            have := hu 0 (j + 1) o o2 rfl (by simpa using h2) hd h3
            omega
        rw [hn]
        simp
      | false =>
        have hne := Nat.ne_of_beq_eq_false hb
        simp only [if_neg (fun e : t = d => hne e.symm)]
        rw [shift]
        cases wrGo r 0 t <;> simp

theorem getD_append_left {l m : List TV} {j : Nat} (h : j < l.length) : (l ++ m).getD j (.p .top) = l.getD j (.p .top) := by
  simp [List.getD, List.getElem?_append_left h]
theorem rdv_prefix {N : Nat} {xs ys : List TV} {i : Nat} {o : Oper} (hR : RegI N ops i o) (hl : i ≤ xs.length) (t : Nat) : rdv ops env0 (xs ++ ys) o t = rdv ops env0 xs o t := by
  unfold rdv
  split
  · split
    · rename_i j hj hm
      have := hR.lt _ (nmem_iff.1 hm)
      exact getD_append_left (by omega)
    · rfl
  · rfl
theorem RdE_prefix {N : Nat} {xs ys : List TV} {i : Nat} {o : Oper} (hR : RegI N ops i o) (hl : i ≤ xs.length) : RdE ops env0 (xs ++ ys) o = RdE ops env0 xs o := by
  unfold RdE
  exact List.map_congr_left fun t _ => by rw [rdv_prefix hR hl]
theorem OblF_prefix {N : Nat} {xs ys : List TV} {i : Nat} {o : Oper} {x : TV} (hR : RegI N ops i o) (hl : i ≤ xs.length) (h : OblF P ops env0 H Ls ss i o xs x) : OblF P ops env0 H Ls ss i o (xs ++ ys) x := by
  unfold OblF Obl at h ⊢
  rw [RdE_prefix hR hl]
  exact h
theorem tele_all {N : Nat} {K : List TV → Prop} (hreg : regGo N ops ops 0 = true) : ∀ {rest : List Oper} {i : Nat} {xs : List TV}, (∀ k, rest[k]? = ops[i + k]?) → i + rest.length = ops.length → xs.length = i → (∀ (j : Nat) o, j < i → ops[j]? = some o → OblF P ops env0 H Ls ss j o xs (xs.getD j (.p .top))) →
    Tele P ops env0 H Ls ss K rest i xs → ∃ ys, ys.length = ops.length ∧ (∀ (j : Nat) o, ops[j]? = some o → OblF P ops env0 H Ls ss j o ys (ys.getD j (.p .top))) ∧ K ys
  | [], i, xs, hr, hn, hl, hall, h => by
    simp at hn
    refine ⟨xs, by omega, fun j o ho => hall j o ?_ ho, h⟩
    have := (List.getElem?_eq_some_iff.1 ho).1
    omega
  | o :: rest, i, xs, hr, hn, hl, hall, h => by
    obtain ⟨x, h1, h2⟩ := h
    have ho : ops[i]? = some o := by have := hr 0; simpa using this.symm
    have hR := regGo_get hreg i o ho
    rw [Nat.zero_add] at hR
    refine tele_all hreg (fun k => ?_) (by simp at hn; omega) (by simp [hl]) (fun j o' hj ho' => ?_) h2
    · have := hr (k + 1)
      rw [show i + 1 + k = i + (k + 1) by omega]
      simpa using this
    · by_cases e : j = i
      · subst e
        rw [ho] at ho'
        obtain rfl := Option.some.inj ho'
        have hx : (xs ++ [x]).getD j (.p .top) = x := by simp [List.getD, hl]
        rw [hx]
        exact OblF_prefix hR (by omega) h1
      · have hR' := regGo_get hreg j o' ho'
        rw [Nat.zero_add] at hR'
        have hji : j < i := by omega
        have hx : (xs ++ [x]).getD j (.p .top) = xs.getD j (.p .top) := getD_append_left (by omega)
        rw [hx]
        have h3 := hall j o' hji ho'
        exact OblF_prefix hR' (by omega) h3

theorem rep_false (n i : Nat) : (Array.replicate n false).getD i false = false := by
  by_cases h : i < n <;> simp [Array.getD, h]

/-- A REGION WHOSE ORDER IS DRAWN. 'Ls': the memory's states, one behind the other; 'ss': which operations go from one to the next. -/
theorem J_draw (Ls : List (List AObj)) (ss : List Nat) {id : Nat} {L : List AObj} {ops : List Oper} (hm : P.follows .mixedOrders = true) (hreg : regOk Γ.N ops ss = true) (hL : Ls.getD 0 [] = L)
    (h : Tele P ops env0 H Ls ss (fun xs => J Γ (finE ops xs env0) H (Ls.getD ss.length []) (Q .normal)) ops 0 []) : J Γ env0 H L ((Code.region id ops.toArray true).wp P Q) := by
  subst hL
  intro a w β s
  have hreg1 : regGo Γ.N ops ops 0 = true := by
    unfold regOk at hreg
    simp only [Bool.and_eq_true] at hreg
    exact hreg.1
  obtain ⟨xs, hxl, hobl, hk⟩ := tele_all hreg1 (rest := ops) (i := 0) (xs := []) (fun k => by rw [Nat.zero_add]) (by simp) rfl (fun j o hj => by omega) h
  refine wp_region_any hm ?_
  have hdrew : Step w β ⟨H, Ls.getD 0 [], Γ.F⟩ w.drew β ⟨H, Ls.getD 0 [], Γ.F⟩ ∧ Sim w.drew β ⟨H, Ls.getD 0 [], Γ.F⟩ := step_same s.sim rfl rfl rfl rfl
  refine wpAny_reg (Γ := Γ) (xs := xs) hreg hobl (fun listed a' w' hI hall => ?_) _ _ a w.drew ?_ ⟨by simp, fun i o _ hl => ?_, ⟨0, β, Nat.zero_le _, fun p q hq => ?_, hdrew.2, s.step.trans hdrew.1, fun t => ?_⟩, s.size, s.defers⟩
  · obtain ⟨k, β', hkk, hkl, hS, hst, hrep⟩ := hI.st
    have hke : k = ss.length := by
      rcases Nat.lt_or_eq_of_le hkk with h | h
      · exfalso
        have hq : ss[k]? = some ss[k] := List.getElem?_eq_getElem h
        have hlt : ss[k] < ops.length := by
          unfold regOk at hreg
          simp only [Bool.and_eq_true] at hreg
          exact (chain_get hreg.2 k _ hq).1
        have := (hkl k _ hq).1 (hall _ hlt)
        omega
      · exact h
    subst hke
    refine hk a' w' β' ⟨hS, hst, fun t => ?_, hI.tmps, hI.defers⟩
    have hv := hrep t
    rw [finE_lk hxl.symm fun i j o o' hi hj hd hd' => by
      have h1 := ((regGo_get hreg1 i o hi).dst t hd).2
      have h2 := ((regGo_get hreg1 j o' hj).dst t hd').2
      rw [h1] at h2
      have := Option.some.inj h2
      omega]
    unfold valR at hv
    cases hw : wrGo ops 0 t with
    | none => rw [hw] at hv; exact hv
    | some j =>
      rw [hw] at hv
      obtain ⟨_, o2, h2, _⟩ := wrGo_spec hw
      simp only at hv ⊢
      rw [if_pos (hall j (by rw [Nat.sub_zero] at h2; exact (List.getElem?_eq_some_iff.1 h2).1))] at hv
      exact hv
  · unfold unl
    exact Nat.le_trans (List.length_filter_le _ _) (by simp)
  · have h0 : (Array.replicate ops.toArray.size false).getD i false = false := rep_false _ _
    rw [h0] at hl; cases hl
  · have h0 : (Array.replicate ops.toArray.size false).getD q false = false := rep_false _ _
    rw [h0]
    simp
  · have hv : valR ops env0 xs (Array.replicate ops.toArray.size false) t = lk env0 t := by
      unfold valR
      cases hw : wrGo ops 0 t with
      | none => rfl
      | some j =>
        have h0 : (Array.replicate ops.toArray.size false).getD j false = false := rep_false _ _
        simp only [h0, Bool.false_eq_true, if_false]
    rw [hv]
    exact (s.env t).mono hdrew.1

/-- Lists told out. -/
def tellL {α : Type} : List TV → (List TV → Option α) → Option α
  | [], k => k []
  | x :: r, k => tellL r fun r' => k (x :: r')
theorem tellL_eq {α : Type} : ∀ (l : List TV) (k : List TV → Option α), tellL l k = k l
  | [], _ => rfl
  | x :: r, k => by simp only [tellL, tellL_eq r]
def snocN (l : List TV) (x : TV) : Option (List TV) := tellL (l ++ [x]) some
def setN (l : List TV) (j : Nat) (x : TV) : Option (List TV) := tellL (l.set j x) some
theorem snocN_eq {l l' : List TV} {x : TV} (h : snocN l x = some l') : l ++ [x] = l' := by
  unfold snocN at h; rw [tellL_eq] at h; exact Option.some.inj h
theorem setN_eq {l l' : List TV} {j : Nat} {x : TV} (h : setN l j x = some l') : l.set j x = l' := by
  unfold setN at h; rw [tellL_eq] at h; exact Option.some.inj h
theorem T_nil {K : List TV → Prop} {i : Nat} (h : K xs) : Tele P ops env0 H Ls ss K [] i xs := h
theorem T_op {K : List TV → Prop} {o : Oper} {rest : List Oper} {i k : Nat} {x : TV} {L : List AObj} (hg : o.guard = none) (hp : posn ss 0 i = none) (hk : loK o ss 0 0 = k) (hk2 : Nat.beq (hiK ops i ss 0 - k) 0 = true) (hL : Ls.getD k [] = L) (h : OpR P o (RdE ops env0 xs o) H L x H L) {xs' : List TV} (hxs : snocN xs x = some xs') (kk : Tele P ops env0 H Ls ss K rest (i + 1) xs') :
    Tele P ops env0 H Ls ss K (o :: rest) i xs :=
  ⟨x, .inl ⟨fun g b hgb => (by rw [hg] at hgb; cases hgb), by
    unfold Obl
    rw [hp]
    simp only
    rw [hk, Nat.eq_of_beq_eq_true hk2]
    show OpR _ _ _ _ _ _ _ _
    rw [hL]
    exact h⟩, by rw [snocN_eq hxs]; exact kk⟩
theorem T_op2 {K : List TV → Prop} {o : Oper} {rest : List Oper} {i k : Nat} {x : TV} {L L2 : List AObj} (hg : o.guard = none) (hp : posn ss 0 i = none) (hk : loK o ss 0 0 = k) (hk2 : Nat.beq (hiK ops i ss 0 - k) 1 = true) (hL : Ls.getD k [] = L) (hL2 : Ls.getD (k + 1) [] = L2) (h : OpR P o (RdE ops env0 xs o) H L x H L) (h2 : OpR P o (RdE ops env0 xs o) H L2 x H L2) {xs' : List TV} (hxs : snocN xs x = some xs') (kk : Tele P ops env0 H Ls ss K rest (i + 1) xs') :
    Tele P ops env0 H Ls ss K (o :: rest) i xs :=
  ⟨x, .inl ⟨fun g b hgb => (by rw [hg] at hgb; cases hgb), by
    unfold Obl
    rw [hp]
    simp only
    rw [hk, Nat.eq_of_beq_eq_true hk2]
    show OpR _ _ _ _ _ _ _ _ ∧ OpR _ _ _ _ _ _ _ _
    rw [hL, hL2]
    exact ⟨h, h2⟩⟩, by rw [snocN_eq hxs]; exact kk⟩
theorem T_yes {K : List TV → Prop} {o : Oper} {rest : List Oper} {i k g : Nat} {b : Bool} {x : TV} {L : List AObj} (hg : o.guard = some (g, b)) (hb : gA ops.toArray (RdE ops env0 xs o) g = some b) (hp : posn ss 0 i = none) (hk : loK o ss 0 0 = k) (hk2 : Nat.beq (hiK ops i ss 0 - k) 0 = true) (hL : Ls.getD k [] = L) (h : OpR P o (RdE ops env0 xs o) H L x H L) {xs' : List TV} (hxs : snocN xs x = some xs') (kk : Tele P ops env0 H Ls ss K rest (i + 1) xs') :
    Tele P ops env0 H Ls ss K (o :: rest) i xs :=
  ⟨x, .inl ⟨fun g' b' hgb => (by rw [hg] at hgb; obtain ⟨rfl, rfl⟩ := Prod.mk.inj (Option.some.inj hgb); exact hb), by
    unfold Obl
    rw [hp]
    simp only
    rw [hk, Nat.eq_of_beq_eq_true hk2]
    show OpR _ _ _ _ _ _ _ _
    rw [hL]
    exact h⟩, by rw [snocN_eq hxs]; exact kk⟩
theorem T_no {K : List TV → Prop} {o : Oper} {rest : List Oper} {i g : Nat} {b : Bool} (hg : o.guard = some (g, b)) (hb : gA ops.toArray (RdE ops env0 xs o) g = some (!b)) (hp : posn ss 0 i = none) {xs' : List TV} (hxs : snocN xs (.p .top) = some xs') (kk : Tele P ops env0 H Ls ss K rest (i + 1) xs') :
    Tele P ops env0 H Ls ss K (o :: rest) i xs := ⟨.p .top, .inr ⟨g, b, hg, hb, rfl, hp⟩, by rw [snocN_eq hxs]; exact kk⟩
theorem T_st {K : List TV → Prop} {o : Oper} {rest : List Oper} {i q : Nat} {x : TV} {L L' : List AObj} (hg : o.guard = none) (hp : posn ss 0 i = some q) (hL : Ls.getD q [] = L) (hL' : Ls.getD (q + 1) [] = L') (h : OpR P o (RdE ops env0 xs o) H L x H L') {xs' : List TV} (hxs : snocN xs x = some xs') (kk : Tele P ops env0 H Ls ss K rest (i + 1) xs') :
    Tele P ops env0 H Ls ss K (o :: rest) i xs :=
  ⟨x, .inl ⟨fun g b hgb => (by rw [hg] at hgb; cases hgb), by
    unfold Obl
    rw [hp]
    simp only
    rw [hL, hL']
    exact h⟩, by rw [snocN_eq hxs]; exact kk⟩
theorem set_self' {l : List TV} {j : Nat} {y : TV} (hy : y ≠ .p .top) (h : l.getD j (.p .top) = y) : l.set j y = l := by
  have hj : j < l.length := by
    rcases Nat.lt_or_ge j l.length with h1 | h1
    · exact h1
    · simp [List.getD, List.getElem?_eq_none h1] at h; exact absurd h.symm hy
  have : l[j] = y := by simpa [List.getD, hj] using h
  rw [← this]
  simp
theorem T_split {K : List TV → Prop} {rest : List Oper} {i : Nat} (j : Nat) {b : Bool} (hx : xs.getD j (.p .top) = .p (.bool b)) (ht : b = true → Tele P ops env0 H Ls ss K rest i (xs.set j (.p (.bool true)))) (hf : b = false → Tele P ops env0 H Ls ss K rest i (xs.set j (.p (.bool false)))) :
    Tele P ops env0 H Ls ss K rest i xs := by
  cases hb : b with
  | true =>
    have := ht hb
    rwa [set_self' (by simp) (by rw [hx, hb])] at this
  | false =>
    have := hf hb
    rwa [set_self' (by simp) (by rw [hx, hb])] at this
theorem T_true {K : List TV → Prop} {rest : List Oper} {i : Nat} (j : Nat) {b : Bool} (hx : xs.getD j (.p .top) = .p (.bool b)) (hb : b = true) {xs' : List TV} (hxs : setN xs j (.p (.bool true)) = some xs') (ht : Tele P ops env0 H Ls ss K rest i xs') : Tele P ops env0 H Ls ss K rest i xs :=
  T_split j hx (fun _ => by rw [setN_eq hxs]; exact ht) fun h => by rw [hb] at h; cases h
theorem T_false {K : List TV → Prop} {rest : List Oper} {i : Nat} (j : Nat) {b : Bool} (hx : xs.getD j (.p .top) = .p (.bool b)) (hb : b = false) {xs' : List TV} (hxs : setN xs j (.p (.bool false)) = some xs') (hf : Tele P ops env0 H Ls ss K rest i xs') : Tele P ops env0 H Ls ss K rest i xs :=
  T_split j hx (fun h => by rw [hb] at h; cases h) fun _ => by rw [setN_eq hxs]; exact hf
end
end Go.Awp

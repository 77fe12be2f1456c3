import Derived.Test.YtdnpkgakpiopgaaGreatDoorM30
import Derived.Test.YtdnpkgakpiopgaaGreatDoorM6
import Derived.Test.YtdnpkgakpiopgaaGreatDoorM24
import Derived.Test.YtdnpkgakpiopgaaGreatDoorM29
namespace Go.Proofs.YtdnpkgakpiopgaaGreatDoor
set_option maxRecDepth 20000
open Go.Awp Go.RowKit
section
variable (P : Program) (ops : List Oper) (env0 : Env) (Hf : Nat → List AObj) (Lf : Bool → Nat → List AObj) (ss : List Nat) (fl : Nat)
def ObG (i : Nat) (o : Oper) (xs : List TV) (x : TV) : Prop := match Nat.beq i fl with
 | true => posn ss 0 i = none ∧ allK (fun k => OpR P o (RdE ops env0 xs o) (Hf k) (Lf false k) x (Hf k) (Lf true k)) (loK o ss 0 0) (hiK ops i ss 0 - loK o ss 0 0)
 | false => match posn ss 0 i with
  | some p => OpR P o (RdE ops env0 xs o) (Hf p) (Lf true p) x (Hf (p + 1)) (Lf true (p + 1)) ∧ (nmem (aft o) fl = true ∨ OpR P o (RdE ops env0 xs o) (Hf p) (Lf false p) x (Hf (p + 1)) (Lf false (p + 1)))
  | none => allK (fun k => OpR P o (RdE ops env0 xs o) (Hf k) (Lf true k) x (Hf k) (Lf true k) ∧ (nmem (aft o) fl = true ∨ OpR P o (RdE ops env0 xs o) (Hf k) (Lf false k) x (Hf k) (Lf false k))) (loK o ss 0 0) (hiK ops i ss 0 - loK o ss 0 0)
def ObGF (i : Nat) (o : Oper) (xs : List TV) (x : TV) : Prop :=
 (∀ g b, o.guard = some (g, b) → gA ops.toArray (RdE ops env0 xs o) g = some b) ∧ ObG P ops env0 Hf Lf ss fl i o xs x
def TelG (K : List TV → Prop) : List Oper → Nat → List TV → Prop
 | [], _, xs => K xs
 | o :: rest, i, xs => ∃ x, ObGF P ops env0 Hf Lf ss fl i o xs x ∧ TelG K rest (i + 1) (xs ++ [x])
end
section
variable {P : Program} {Γ : Ctx} {ops : List Oper} {env0 : Env} {H : List AObj} {Hf : Nat → List AObj} {Lf : Bool → Nat → List AObj} {ss : List Nat} {fl : Nat} {xs : List TV} {Q : Exit → Act → World → Prop}
structure InvG (Γ : Ctx) (ops : List Oper) (env0 : Env) (Hf : Nat → List AObj) (Lf : Bool → Nat → List AObj) (ss : List Nat) (fl : Nat) (xs : List TV) (listed : Array Bool) (a : Act) (w : World) : Prop where
 size : listed.size = ops.length
 closed : ∀ (i : Nat) o, ops[i]? = some o → listed.getD i false = true → ∀ j ∈ aft o, listed.getD j false = true
 st : ∃ k β, k ≤ ss.length ∧ (∀ (p : Nat) s, ss[p]? = some s → (listed.getD s false = true ↔ p < k)) ∧ Sim w β ⟨Hf k, Lf (listed.getD fl false) k, Γ.F⟩ ∧ Step Γ.w0 Γ.β0 ⟨Γ.H0, [], Γ.F⟩ w β ⟨Hf k, Lf (listed.getD fl false) k, Γ.F⟩ ∧
  ∀ t, RepT w β ⟨Hf k, Lf (listed.getD fl false) k, Γ.F⟩ (valR ops env0 xs listed t) (a.tmps.getD t undef)
 tmps : a.tmps.size = Γ.N
 defers : a.defers = []
theorem zSt (hreg : regOk Γ.N ops ss = true) (hobl : ∀ (i : Nat) o, ops[i]? = some o → ObGF P ops env0 Hf Lf ss fl i o xs (xs.getD i (.p .top))) {listed : Array Bool} {a : Act} {w : World} (hI : InvG Γ ops env0 Hf Lf ss fl xs listed a w) {i : Nat} (hi : i ∈ Region.ready .any ops.toArray listed)
  {K : Act → World → Prop} (hK : ∀ a' w', InvG Γ ops env0 Hf Lf ss fl xs (listed.setIfInBounds i true) a' w' → K a' w') : wpOp P ops.toArray Q i K a w := by
 obtain ⟨hun, o, ho, hdep⟩ := mem_ready.1 hi
 have ho' : ops[i]? = some o := by simpa using ho
 unfold regOk at hreg
 simp only [Bool.and_eq_true] at hreg
 have hR := yO hreg.1 i o ho'
 rw [Nat.zero_add] at hR
 have hil : i < ops.length := (List.getElem?_eq_some_iff.1 ho').1
 have hdeps : ∀ j ∈ aft o, listed.getD j false = true := fun j hj => by
  unfold aft at hj
  simp only [List.mem_filterMap] at hj
  obtain ⟨e, he, hb⟩ := hj
  split at hb
  ·rename_i hbind
   obtain rfl := Option.some.inj hb
   exact hdep e (by simpa using he) hbind
  ·cases hb
 have hun' : ¬ listed.getD i false = true := by
  have hs : i < listed.size := by rw [hI.size]; exact hil
  simp [Array.getD, hs] at hun ⊢
  simp [hun]
 obtain ⟨k, β, hk, hkl, hS, hst, hrep⟩ := hI.st
 have hkl' : ∀ q s o', ss[q]? = some s → ops[s]? = some o' → i ∈ aft o' → k ≤ q := fun q s o' h1 h2 h3 => by
  rcases Nat.lt_or_ge q k with h | h
  ·exact absurd (hI.closed s o' h2 ((hkl q s h1).2 h) i h3) hun'
  ·exact h
 have hen : EnvR w β ⟨Hf k, Lf (listed.getD fl false) k, Γ.F⟩ (RdE ops env0 xs o) a := fun t => by
  unfold RdE
  rcases zWd (f := rdv ops env0 xs o) (l := o.looksAt ops.toArray) (t := t) with ⟨hm, h2⟩ | h2
  ·rw [h2]
   have hv := hrep t
   unfold valR at hv
   unfold rdv
   cases hw : wrGo ops 0 t with
   | none => rw [hw] at hv; exact hv
   | some j =>
    rw [hw] at hv
    simp only at hv ⊢
    cases hm2 : nmem (aft o) j with
    | true =>
     rw [if_pos (hdeps j (qJ.1 hm2))] at hv
     exact hv
    | false =>
     have hnl : ¬ listed.getD j false = true := by
      rcases hR.look t hm j hw with h | h | ⟨q, hq, h⟩
      ·rw [hm2] at h; cases h
      ·rw [h]; exact hun'
      ·exact fun hl => hun' (hI.closed j q hq hl i (qJ.1 h))
     rw [if_neg hnl] at hv
     exact hv
  ·rw [h2]; exact .p (.top _)
 have hclosed : ∀ (j : Nat) o', ops[j]? = some o' → (listed.setIfInBounds i true).getD j false = true → ∀ q ∈ aft o', (listed.setIfInBounds i true).getD q false = true := fun j o' hj hl q hq => by
  by_cases e : j = i
  ·subst e
   rw [ho'] at hj
   obtain rfl := Option.some.inj hj
   exact getD_set_true (hdeps q hq)
  ·rw [getD_set_ne false (fun h => e h.symm)] at hl
   exact getD_set_true (hI.closed j o' hj hl q hq)
 have hself : (listed.setIfInBounds i true).getD i false = true := by
  have hs : i < listed.size := by rw [hI.size]; exact hil
  simp [hs]
 have henv : ∀ {w' : World} {β' : Hd → Nat} {H' L' : List AObj} {u : Value}, Step w β ⟨Hf k, Lf (listed.getD fl false) k, Γ.F⟩ w' β' ⟨H', L', Γ.F⟩ → RepT w' β' ⟨H', L', Γ.F⟩ (xs.getD i (.p .top)) u →
   ∀ t, RepT w' β' ⟨H', L', Γ.F⟩ (valR ops env0 xs (listed.setIfInBounds i true) t) ((a.put o.dst u).tmps.getD t undef) := fun {w'} {β'} {H'} {L'} {u} hs hx t => by
  by_cases hd : o.dst = some t
  ·obtain ⟨hlt, hwr⟩ := hR.dst t hd
   unfold valR
   rw [hwr]
   simp only [hself, if_true]
   rw [hd]
   have hlt' : t < a.tmps.size := by rw [hI.tmps]; exact hlt
   have : (a.put (some t) u).tmps.getD t undef = u := by simp [Act.put, Array.getD, hlt']
   rw [this]
   exact hx
  ·have hold := (hrep t).mono hs
   have hv : valR ops env0 xs (listed.setIfInBounds i true) t = valR ops env0 xs listed t := by
    unfold valR
    cases hw : wrGo ops 0 t with
    | none => rfl
    | some j =>
     have hji : j ≠ i := by
      rintro rfl
      obtain ⟨_, o2, h2, h3⟩ := zAz hw
      rw [Nat.sub_zero, ho'] at h2
      obtain rfl := Option.some.inj h2
      exact hd h3
     simp only [getD_set_ne false (fun h => hji h.symm)]
   rw [hv]
   have hput : (a.put o.dst u).tmps.getD t undef = a.tmps.getD t undef := by
    cases hdd : o.dst with
    | none => rfl
    | some d =>
     have hne : d ≠ t := fun e => hd (by rw [hdd, e])
     simp only [Act.put, Array.getD_eq_getD_getElem?, Array.getElem?_setIfInBounds_ne hne]
   rw [hput]
   exact hold
 unfold wpOp
 rw [ho]
 simp only
 obtain ⟨hw, hob⟩ := hobl i o ho'
 have hwant : Region.wanted o (yielded ops.toArray a.tmps) = true := by
  cases hg : o.guard with
  | none => simp [Region.wanted, hg]
  | some gb =>
   obtain ⟨g, b⟩ := gb
   simp [Region.wanted, hg, zUz hen (hw g b hg)]
 rw [if_pos hwant]
 refine .inl ?_
 have hrange : i ∉ ss → loK o ss 0 0 ≤ k ∧ k ≤ hiK ops i ss 0 := fun _ => by
  refine ⟨zPv (Nat.zero_le _) fun q s hq hm => ?_, ?_⟩
  ·have := (hkl q s hq).1 (hdeps s (qJ.1 hm))
   omega
  ·rcases zJq (ops := ops) (i := i) (ss := ss) (p := 0) (fun s hs => by obtain ⟨q, hq⟩ := List.getElem?_of_mem hs; exact (jM hreg.2 q s hq).1) with h | ⟨q, s, o2, h1, h2, h3, h4⟩
   ·omega
   ·have := hkl' q s o2 h2 h3 (qJ.1 h4); omega
 have hoff : i ∉ ss → ∀ (q : Nat) s, ss[q]? = some s → ((listed.setIfInBounds i true).getD s false = true ↔ q < k) := fun hni q s hq => by
  have e : s ≠ i := by rintro rfl; exact hni (List.mem_of_getElem? hq)
  rw [getD_set_ne false (fun h => e h.symm), hkl q s hq]
 unfold ObG at hob
 split at hob
 ·rename_i hbq
  obtain ⟨hpn, hob⟩ := hob
  have hni := zBz hpn
  obtain ⟨hlo, hhi⟩ := hrange hni
  have hif := Nat.eq_of_beq_eq_true hbq
  have hob := zFv hob k hlo (by omega)
  have hbf : listed.getD fl false = false := by
   rw [← hif]
   cases e : listed.getD i false with
   | true => exact absurd e hun'
   | false => rfl
  rw [hbf] at hS hen henv hst
  have hbt : (listed.setIfInBounds i true).getD fl false = true := by rw [← hif]; exact hself
  refine hob Γ.F w β a _ _ hS hen fun w' β' u hS' hst' hx => hK _ _ ⟨by simp [hI.size], hclosed, ⟨k, β', hk, hoff hni, by rw [hbt]; exact hS', by rw [hbt]; exact hst.trans hst', by rw [hbt]; exact henv hst' hx⟩, by rw [zBk]; exact hI.tmps, by rw [qL]; exact hI.defers⟩
 ·rename_i hbq
  have hif := Nat.ne_of_beq_eq_false hbq
  have hbt : (listed.setIfInBounds i true).getD fl false = listed.getD fl false := getD_set_ne false hif
  have pick : ∀ {f : Bool → Prop}, f true ∧ (nmem (aft o) fl = true ∨ f false) → f (listed.getD fl false) := fun {f} hf => by
   cases e : listed.getD fl false with
   | true => exact hf.1
   | false =>
    rcases hf.2 with h | h
    ·have := hdeps fl (qJ.1 h)
     rw [e] at this
     cases this
    ·exact h
  split at hob
  ·rename_i p hp
   obtain ⟨_, hsp⟩ := zHj hp
   rw [Nat.sub_zero] at hsp
   have hkp : k = p := by
    have h1 : ¬ p < k := fun h => hun' ((hkl p i hsp).2 h)
    rcases Nat.eq_zero_or_pos p with h0 | h0
    ·omega
    ·obtain ⟨s, hs⟩ : ∃ s, ss[p - 1]? = some s := ⟨ss[p - 1]'(by have := (List.getElem?_eq_some_iff.1 hsp).1; omega), List.getElem?_eq_getElem _⟩
     obtain ⟨o2, h2, h3⟩ := (jM hreg.2 (p - 1) s hs).2 i (by rw [show p - 1 + 1 = p by omega]; exact hsp)
     rw [ho'] at h2
     obtain rfl := Option.some.inj h2
     have := (hkl (p - 1) s hs).1 (hdeps s h3)
     omega
   subst hkp
   have hob := pick (f := fun b => OpR P o (RdE ops env0 xs o) (Hf k) (Lf b k) (xs.getD i (.p .top)) (Hf (k + 1)) (Lf b (k + 1))) hob
   refine hob Γ.F w β a _ _ hS hen fun w' β' u hS' hst' hx => hK _ _ ⟨by simp [hI.size], hclosed, ⟨k + 1, β', ?_, fun q s hq => ?_, by rw [hbt]; exact hS', by rw [hbt]; exact hst.trans hst', by rw [hbt]; exact henv hst' hx⟩, by rw [zBk]; exact hI.tmps, by rw [qL]; exact hI.defers⟩
   ·have := (List.getElem?_eq_some_iff.1 hsp).1; omega
   ·by_cases e : s = i
    ·subst e
     simp only [hself, true_iff]
     by_cases hqk : q < k
     ·exact absurd ((hkl q s hq).2 hqk) hun'
     ·rcases Nat.lt_or_eq_of_le (Nat.le_of_not_lt hqk) with h | h
      ·have := zHs hreg.1 hreg.2 h hsp hq
       omega
      ·omega
    ·rw [getD_set_ne false (fun h => e h.symm), hkl q s hq]
     constructor
     ·intro h; omega
     ·intro h
      rcases Nat.lt_or_eq_of_le (Nat.le_of_lt_succ h) with h | h
      ·exact h
      ·subst h; rw [hsp] at hq; exact absurd (Option.some.inj hq).symm e
  ·rename_i hpn
   have hni := zBz hpn
   obtain ⟨hlo, hhi⟩ := hrange hni
   have hob := pick (f := fun b => OpR P o (RdE ops env0 xs o) (Hf k) (Lf b k) (xs.getD i (.p .top)) (Hf k) (Lf b k)) (zFv hob k hlo (by omega))
   exact hob Γ.F w β a _ _ hS hen fun w' β' u hS' hst' hx => hK _ _ ⟨by simp [hI.size], hclosed, ⟨k, β', hk, hoff hni, by rw [hbt]; exact hS', by rw [hbt]; exact hst.trans hst', by rw [hbt]; exact henv hst' hx⟩, by rw [zBk]; exact hI.tmps, by rw [qL]; exact hI.defers⟩
theorem zRd (hreg : regOk Γ.N ops ss = true) (hobl : ∀ (i : Nat) o, ops[i]? = some o → ObGF P ops env0 Hf Lf ss fl i o xs (xs.getD i (.p .top)))
  (hend : ∀ listed a w, InvG Γ ops env0 Hf Lf ss fl xs listed a w → (∀ i, i < ops.length → listed.getD i false = true) → Q .normal a w) :
  ∀ (fuel : Nat) (listed : Array Bool) (a : Act) (w : World), unl ops.length listed ≤ fuel → InvG Γ ops env0 Hf Lf ss fl xs listed a w → wpAny P .any ops.toArray Q fuel listed a w := by
 have hall : ∀ (listed : Array Bool) (a : Act) (w : World), InvG Γ ops env0 Hf Lf ss fl xs listed a w → Region.ready .any ops.toArray listed = [] → ∀ i, i < ops.length → listed.getD i false = true := fun listed a w hI hr i => by
  have hreg1 : regGo Γ.N ops ops 0 = true := by
   unfold regOk at hreg
   simp only [Bool.and_eq_true] at hreg
   exact hreg.1
  induction i using Nat.strongRecOn with
  | ind i ih =>
   intro hi
   cases hq : listed.getD i false with
   | true => rfl
   | false =>
    exfalso
    have ho : ops[i]? = some ops[i] := List.getElem?_eq_getElem hi
    have hR := yO hreg1 i _ ho
    rw [Nat.zero_add] at hR
    have hs : i < listed.size := by rw [hI.size]; exact hi
    have : i ∈ Region.ready .any ops.toArray listed := mem_ready.2 ⟨by simp [Array.getD, hs] at hq ⊢; exact hq, ops[i], by simp [hi], fun e he hb => by
     have hm : e.on ∈ aft ops[i] := by
      unfold aft
      simp only [List.mem_filterMap]
      exact ⟨e, by simpa using he, by rw [hb]⟩
     have hlt := hR.lt _ hm
     exact ih e.on hlt (by omega)⟩
    rw [hr] at this
    cases this
 intro fuel
 induction fuel with
 | zero =>
  intro listed a w hf hI
  have hall' : ∀ i, i < ops.length → listed.getD i false = true := fun i hi => by
   cases hq : listed.getD i false with
   | true => rfl
   | false =>
    exfalso
    have := zOi hi hI.size hq
    omega
  refine ⟨?_, hend _ _ _ hI hall'⟩
  apply List.eq_nil_iff_forall_not_mem.2
  intro i hi
  obtain ⟨hun, o, ho, _⟩ := mem_ready.1 hi
  have hil : i < ops.length := (List.getElem?_eq_some_iff.1 (show ops[i]? = some o by simpa using ho)).1
  have h1 := hall' i hil
  have hs : i < listed.size := by rw [hI.size]; exact hil
  simp [Array.getD, hs] at hun h1
  rw [hun] at h1
  cases h1
 | succ fuel ih =>
  intro listed a w hf hI
  refine ⟨fun hr => hend _ _ _ hI (hall _ _ _ hI hr), fun i hi => zSt hreg hobl hI hi fun a' w' hI' => ?_⟩
  obtain ⟨hun, o, ho, _⟩ := mem_ready.1 hi
  have hil : i < ops.length := (List.getElem?_eq_some_iff.1 (show ops[i]? = some o by simpa using ho)).1
  have hs : i < listed.size := by rw [hI.size]; exact hil
  have hq : listed.getD i false = false := by simp [Array.getD, hs] at hun ⊢; exact hun
  have := zOi hil hI.size hq
  exact ih _ _ _ (by omega) hI'
theorem zG7 {N : Nat} {xs ys : List TV} {i : Nat} {o : Oper} {x : TV} (hR : RegI N ops i o) (hl : i ≤ xs.length) (h : ObGF P ops env0 Hf Lf ss fl i o xs x) : ObGF P ops env0 Hf Lf ss fl i o (xs ++ ys) x := by
 unfold ObGF ObG at h ⊢
 rw [zHo hR hl]
 exact h
theorem zLu {N : Nat} {K : List TV → Prop} (hreg : regGo N ops ops 0 = true) : ∀ {rest : List Oper} {i : Nat} {xs : List TV}, (∀ k, rest[k]? = ops[i + k]?) → i + rest.length = ops.length → xs.length = i → (∀ (j : Nat) o, j < i → ops[j]? = some o → ObGF P ops env0 Hf Lf ss fl j o xs (xs.getD j (.p .top))) →
  TelG P ops env0 Hf Lf ss fl K rest i xs → ∃ ys, ys.length = ops.length ∧ (∀ (j : Nat) o, ops[j]? = some o → ObGF P ops env0 Hf Lf ss fl j o ys (ys.getD j (.p .top))) ∧ K ys
 | [], i, xs, hr, hn, hl, hall, h => by
  simp at hn
  refine ⟨xs, by omega, fun j o ho => hall j o ?_ ho, h⟩
  have := (List.getElem?_eq_some_iff.1 ho).1
  omega
 | o :: rest, i, xs, hr, hn, hl, hall, h => by
  obtain ⟨x, h1, h2⟩ := h
  have ho : ops[i]? = some o := by have := hr 0; simpa using this.symm
  have hR := yO hreg i o ho
  rw [Nat.zero_add] at hR
  refine zLu hreg (fun k => ?_) (by simp at hn; omega) (by simp [hl]) (fun j o' hj ho' => ?_) h2
  ·have := hr (k + 1)
   rw [show i + 1 + k = i + (k + 1) by omega]
   simpa using this
  ·by_cases e : j = i
   ·subst e
    rw [ho] at ho'
    obtain rfl := Option.some.inj ho'
    have hx : (xs ++ [x]).getD j (.p .top) = x := by simp [List.getD, hl]
    rw [hx]
    exact zG7 hR (by omega) h1
   ·have hR' := yO hreg j o' ho'
    rw [Nat.zero_add] at hR'
    have hji : j < i := by omega
    have hx : (xs ++ [x]).getD j (.p .top) = xs.getD j (.p .top) := jY (by omega)
    rw [hx]
    have h3 := hall j o' hji ho'
    exact zG7 hR' (by omega) h3
theorem J_drawFl (fl : Nat) (Hf : Nat → List AObj) (Lf : Bool → Nat → List AObj) (ss : List Nat) {id : Nat} {L : List AObj} {ops : List Oper} (hm : P.follows .mixedOrders = true) (hreg : regOk Γ.N ops ss = true) (hfl : Nat.blt fl ops.length = true) (hH : Hf 0 = H) (hL : Lf false 0 = L)
  (h : TelG P ops env0 Hf Lf ss fl (fun xs => J Γ (finE ops xs env0) (Hf ss.length) (Lf true ss.length) (Q .normal)) ops 0 []) : J Γ env0 H L ((Code.region id ops.toArray true).wp P Q) := by
 subst hL hH
 intro a w β s
 have hreg1 : regGo Γ.N ops ops 0 = true := by
  unfold regOk at hreg
  simp only [Bool.and_eq_true] at hreg
  exact hreg.1
 obtain ⟨xs, hxl, hobl, hk⟩ := zLu hreg1 (rest := ops) (i := 0) (xs := []) (fun k => by rw [Nat.zero_add]) (by simp) rfl (fun j o hj => by omega) h
 refine wp_region_any hm ?_
 have hdrew : Step w β ⟨Hf 0, Lf false 0, Γ.F⟩ w.drew β ⟨Hf 0, Lf false 0, Γ.F⟩ ∧ Sim w.drew β ⟨Hf 0, Lf false 0, Γ.F⟩ := zHh s.sim rfl rfl rfl rfl
 refine zRd (Γ := Γ) (xs := xs) hreg hobl (fun listed a' w' hI hall => ?_) _ _ a w.drew ?_ ⟨by simp, fun i o _ hl => ?_, ⟨0, β, Nat.zero_le _, fun p q hq => ?_, by rw [qR]; exact hdrew.2, by rw [qR]; exact s.step.trans hdrew.1, fun t => ?_⟩, s.size, s.defers⟩
 ·obtain ⟨k, β', hkk, hkl, hS, hst, hrep⟩ := hI.st
  have hke : k = ss.length := by
   rcases Nat.lt_or_eq_of_le hkk with h | h
   ·exfalso
    have hq : ss[k]? = some ss[k] := List.getElem?_eq_getElem h
    have hlt : ss[k] < ops.length := by
     unfold regOk at hreg
     simp only [Bool.and_eq_true] at hreg
     exact (jM hreg.2 k _ hq).1
    have := (hkl k _ hq).1 (hall _ hlt)
    omega
   ·exact h
  subst hke
  rw [hall fl (by simpa using hfl)] at hS hst hrep
  refine hk a' w' β' ⟨hS, hst, fun t => ?_, hI.tmps, hI.defers⟩
  have hv := hrep t
  rw [zN5 hxl.symm fun i j o o' hi hj hd hd' => by
   have h1 := ((yO hreg1 i o hi).dst t hd).2
   have h2 := ((yO hreg1 j o' hj).dst t hd').2
   rw [h1] at h2
   have := Option.some.inj h2
   omega]
  unfold valR at hv
  cases hw : wrGo ops 0 t with
  | none => rw [hw] at hv; exact hv
  | some j =>
   rw [hw] at hv
   obtain ⟨_, o2, h2, _⟩ := zAz hw
   simp only at hv ⊢
   rw [if_pos (hall j (by rw [Nat.sub_zero] at h2; exact (List.getElem?_eq_some_iff.1 h2).1))] at hv
   exact hv
 ·unfold unl
  exact Nat.le_trans (List.length_filter_le _ _) (by simp)
 ·have h0 : (Array.replicate ops.toArray.size false).getD i false = false := qR _ _
  rw [h0] at hl; cases hl
 ·have h0 : (Array.replicate ops.toArray.size false).getD q false = false := qR _ _
  rw [h0]
  simp
 ·have hv : valR ops env0 xs (Array.replicate ops.toArray.size false) t = lk env0 t := by
   unfold valR
   cases hw : wrGo ops 0 t with
   | none => rfl
   | some j =>
    have h0 : (Array.replicate ops.toArray.size false).getD j false = false := qR _ _
    simp only [h0, Bool.false_eq_true, if_false]
  rw [hv, qR]
  exact (s.env t).mono hdrew.1
end
section
variable {P : Program} {ops : List Oper} {env0 : Env} {Hs Ls Lt : List (List AObj)} {ss : List Nat} {fl : Nat} {xs : List TV}
def LfB (Ls Lt : List (List AObj)) : Bool → Nat → List AObj
 | false, k => Ls.getD k []
 | true, k => Lt.getD k []
theorem G_nil {Hf : Nat → List AObj} {Lf : Bool → Nat → List AObj} {K : List TV → Prop} {i : Nat} (h : K xs) : TelG P ops env0 Hf Lf ss fl K [] i xs := h
theorem G_op {K : List TV → Prop} {o : Oper} {rest : List Oper} {i k : Nat} {x : TV} {H L : List AObj} (hg : o.guard = none) (hi : Nat.beq i fl = false) (hp : posn ss 0 i = none) (hk : loK o ss 0 0 = k) (hk2 : Nat.beq (hiK ops i ss 0 - k) 0 = true) (hf : nmem (aft o) fl = true) (hH : Hs.getD k [] = H) (hL : Lt.getD k [] = L)
  (h : OpR P o (RdE ops env0 xs o) H L x H L) {xs' : List TV} (hxs : snocD xs x = some xs') (kk : TelG P ops env0 (fun k => Hs.getD k []) (LfB Ls Lt) ss fl K rest (i + 1) xs') : TelG P ops env0 (fun k => Hs.getD k []) (LfB Ls Lt) ss fl K (o :: rest) i xs :=
 ⟨x, ⟨fun g b hgb => (by rw [hg] at hgb; cases hgb), by
  subst hH hL
  unfold ObG
  rw [hi, hp]
  simp only
  rw [hk, Nat.eq_of_beq_eq_true hk2]
  exact ⟨h, .inl hf⟩⟩, by rw [yG (yL hxs)]; exact kk⟩
theorem G_opB {K : List TV → Prop} {o : Oper} {rest : List Oper} {i k : Nat} {x : TV} {H L L2 : List AObj} (hg : o.guard = none) (hi : Nat.beq i fl = false) (hp : posn ss 0 i = none) (hk : loK o ss 0 0 = k) (hk2 : Nat.beq (hiK ops i ss 0 - k) 0 = true) (hH : Hs.getD k [] = H) (hL : Ls.getD k [] = L) (hL2 : Lt.getD k [] = L2)
  (h : OpR P o (RdE ops env0 xs o) H L x H L) (h2 : OpR P o (RdE ops env0 xs o) H L2 x H L2) {xs' : List TV} (hxs : snocD xs x = some xs') (kk : TelG P ops env0 (fun k => Hs.getD k []) (LfB Ls Lt) ss fl K rest (i + 1) xs') : TelG P ops env0 (fun k => Hs.getD k []) (LfB Ls Lt) ss fl K (o :: rest) i xs :=
 ⟨x, ⟨fun g b hgb => (by rw [hg] at hgb; cases hgb), by
  subst hH hL hL2
  unfold ObG
  rw [hi, hp]
  simp only
  rw [hk, Nat.eq_of_beq_eq_true hk2]
  exact ⟨h2, .inr h⟩⟩, by rw [yG (yL hxs)]; exact kk⟩
theorem zTd {K : List TV → Prop} {o : Oper} {rest : List Oper} {i q : Nat} {x : TV} {H L L2 H' L' L2' : List AObj} (hg : o.guard = none) (hi : Nat.beq i fl = false) (hp : posn ss 0 i = some q) (hH : Hs.getD q [] = H) (hL : Ls.getD q [] = L) (hL2 : Lt.getD q [] = L2) (hH' : Hs.getD (q + 1) [] = H') (hL' : Ls.getD (q + 1) [] = L') (hL2' : Lt.getD (q + 1) [] = L2')
  (h : OpR P o (RdE ops env0 xs o) H L x H' L') (h2 : OpR P o (RdE ops env0 xs o) H L2 x H' L2') {xs' : List TV} (hxs : snocD xs x = some xs') (kk : TelG P ops env0 (fun k => Hs.getD k []) (LfB Ls Lt) ss fl K rest (i + 1) xs') : TelG P ops env0 (fun k => Hs.getD k []) (LfB Ls Lt) ss fl K (o :: rest) i xs :=
 ⟨x, ⟨fun g b hgb => (by rw [hg] at hgb; cases hgb), by
  subst hH hL hL2 hH' hL' hL2'
  unfold ObG
  rw [hi, hp]
  exact ⟨h2, .inr h⟩⟩, by rw [yG (yL hxs)]; exact kk⟩
theorem G_st {K : List TV → Prop} {o : Oper} {rest : List Oper} {i q : Nat} {x : TV} {H L H' L' : List AObj} (hg : o.guard = none) (hi : Nat.beq i fl = false) (hp : posn ss 0 i = some q) (hf : nmem (aft o) fl = true) (hH : Hs.getD q [] = H) (hL : Lt.getD q [] = L) (hH' : Hs.getD (q + 1) [] = H') (hL' : Lt.getD (q + 1) [] = L')
  (h : OpR P o (RdE ops env0 xs o) H L x H' L') {xs' : List TV} (hxs : snocD xs x = some xs') (kk : TelG P ops env0 (fun k => Hs.getD k []) (LfB Ls Lt) ss fl K rest (i + 1) xs') : TelG P ops env0 (fun k => Hs.getD k []) (LfB Ls Lt) ss fl K (o :: rest) i xs :=
 ⟨x, ⟨fun g b hgb => (by rw [hg] at hgb; cases hgb), by
  subst hH hL hH' hL'
  unfold ObG
  rw [hi, hp]
  exact ⟨h, .inl hf⟩⟩, by rw [yG (yL hxs)]; exact kk⟩
theorem G_fl {K : List TV → Prop} {o : Oper} {rest : List Oper} {i k : Nat} {x : TV} {H L L' H2 L2 L2' : List AObj} (hg : o.guard = none) (hi : Nat.beq i fl = true) (hp : posn ss 0 i = none) (hk : loK o ss 0 0 = k) (hk2 : Nat.beq (hiK ops i ss 0 - k) 1 = true) (hH : Hs.getD k [] = H) (hL : Ls.getD k [] = L) (hL' : Lt.getD k [] = L') (hH2 : Hs.getD (k + 1) [] = H2) (hL2 : Ls.getD (k + 1) [] = L2) (hL2' : Lt.getD (k + 1) [] = L2')
  (h : OpR P o (RdE ops env0 xs o) H L x H L') (h2 : OpR P o (RdE ops env0 xs o) H2 L2 x H2 L2') {xs' : List TV} (hxs : snocD xs x = some xs') (kk : TelG P ops env0 (fun k => Hs.getD k []) (LfB Ls Lt) ss fl K rest (i + 1) xs') : TelG P ops env0 (fun k => Hs.getD k []) (LfB Ls Lt) ss fl K (o :: rest) i xs :=
 ⟨x, ⟨fun g b hgb => (by rw [hg] at hgb; cases hgb), by
  subst hH hL hL' hH2 hL2 hL2'
  unfold ObG
  rw [hi]
  refine ⟨hp, ?_⟩
  rw [hk, Nat.eq_of_beq_eq_true hk2]
  exact ⟨h, h2⟩⟩, by rw [yG (yL hxs)]; exact kk⟩
theorem zVi {K : List TV → Prop} {o : Oper} {rest : List Oper} {i k : Nat} {x : TV} {H H2 L L2 M M2 : List AObj} (hg : o.guard = none) (hi : Nat.beq i fl = false) (hp : posn ss 0 i = none) (hk : loK o ss 0 0 = k) (hk2 : Nat.beq (hiK ops i ss 0 - k) 1 = true) (hH : Hs.getD k [] = H) (hL : Ls.getD k [] = L) (hM : Lt.getD k [] = M) (hH2 : Hs.getD (k + 1) [] = H2) (hL2 : Ls.getD (k + 1) [] = L2) (hM2 : Lt.getD (k + 1) [] = M2)
  (h : OpR P o (RdE ops env0 xs o) H L x H L) (h1 : OpR P o (RdE ops env0 xs o) H M x H M) (h2 : OpR P o (RdE ops env0 xs o) H2 L2 x H2 L2) (h3 : OpR P o (RdE ops env0 xs o) H2 M2 x H2 M2) {xs' : List TV} (hxs : snocD xs x = some xs') (kk : TelG P ops env0 (fun k => Hs.getD k []) (LfB Ls Lt) ss fl K rest (i + 1) xs') : TelG P ops env0 (fun k => Hs.getD k []) (LfB Ls Lt) ss fl K (o :: rest) i xs :=
 ⟨x, ⟨fun g b hgb => (by rw [hg] at hgb; cases hgb), by
  subst hH hL hM hH2 hL2 hM2
  unfold ObG
  rw [hi, hp]
  simp only
  rw [hk, Nat.eq_of_beq_eq_true hk2]
  exact ⟨⟨h1, .inr h⟩, ⟨h3, .inr h2⟩⟩⟩, by rw [yG (yL hxs)]; exact kk⟩
theorem G_op2 {K : List TV → Prop} {o : Oper} {rest : List Oper} {i k : Nat} {x : TV} {H H2 M M2 : List AObj} (hg : o.guard = none) (hi : Nat.beq i fl = false) (hp : posn ss 0 i = none) (hk : loK o ss 0 0 = k) (hk2 : Nat.beq (hiK ops i ss 0 - k) 1 = true) (hf : nmem (aft o) fl = true) (hH : Hs.getD k [] = H) (hM : Lt.getD k [] = M) (hH2 : Hs.getD (k + 1) [] = H2) (hM2 : Lt.getD (k + 1) [] = M2)
  (h1 : OpR P o (RdE ops env0 xs o) H M x H M) (h3 : OpR P o (RdE ops env0 xs o) H2 M2 x H2 M2) {xs' : List TV} (hxs : snocD xs x = some xs') (kk : TelG P ops env0 (fun k => Hs.getD k []) (LfB Ls Lt) ss fl K rest (i + 1) xs') : TelG P ops env0 (fun k => Hs.getD k []) (LfB Ls Lt) ss fl K (o :: rest) i xs :=
 ⟨x, ⟨fun g b hgb => (by rw [hg] at hgb; cases hgb), by
  subst hH hM hH2 hM2
  unfold ObG
  rw [hi, hp]
  simp only
  rw [hk, Nat.eq_of_beq_eq_true hk2]
  exact ⟨⟨h1, .inl hf⟩, ⟨h3, .inl hf⟩⟩⟩, by rw [yG (yL hxs)]; exact kk⟩
theorem G_opB3 {K : List TV → Prop} {o : Oper} {rest : List Oper} {i k : Nat} {x : TV} {H H2 H3 L L2 L3 M M2 M3 : List AObj} (hg : o.guard = none) (hi : Nat.beq i fl = false) (hp : posn ss 0 i = none) (hk : loK o ss 0 0 = k) (hk2 : Nat.beq (hiK ops i ss 0 - k) 2 = true) (hH : Hs.getD k [] = H) (hL : Ls.getD k [] = L) (hM : Lt.getD k [] = M) (hH2 : Hs.getD (k + 1) [] = H2) (hL2 : Ls.getD (k + 1) [] = L2) (hM2 : Lt.getD (k + 1) [] = M2) (hH3 : Hs.getD (k + 2) [] = H3) (hL3 : Ls.getD (k + 2) [] = L3) (hM3 : Lt.getD (k + 2) [] = M3)
  (h : OpR P o (RdE ops env0 xs o) H L x H L) (h1 : OpR P o (RdE ops env0 xs o) H M x H M) (h2 : OpR P o (RdE ops env0 xs o) H2 L2 x H2 L2) (h3 : OpR P o (RdE ops env0 xs o) H2 M2 x H2 M2) (h4 : OpR P o (RdE ops env0 xs o) H3 L3 x H3 L3) (h5 : OpR P o (RdE ops env0 xs o) H3 M3 x H3 M3) {xs' : List TV} (hxs : snocD xs x = some xs') (kk : TelG P ops env0 (fun k => Hs.getD k []) (LfB Ls Lt) ss fl K rest (i + 1) xs') : TelG P ops env0 (fun k => Hs.getD k []) (LfB Ls Lt) ss fl K (o :: rest) i xs :=
 ⟨x, ⟨fun g b hgb => (by rw [hg] at hgb; cases hgb), by
  subst hH hL hM hH2 hL2 hM2 hH3 hL3 hM3
  unfold ObG
  rw [hi, hp]
  simp only
  rw [hk, Nat.eq_of_beq_eq_true hk2]
  exact ⟨⟨h1, .inr h⟩, ⟨h3, .inr h2⟩, ⟨h5, .inr h4⟩⟩⟩, by rw [yG (yL hxs)]; exact kk⟩
theorem G_gate {Hf : Nat → List AObj} {Lf : Bool → Nat → List AObj} {K : List TV → Prop} {d : Option Nat} {op : Op} {t : TypeId} {pos : String} {af : Array Edge} {rest : List Oper} {i : Nat} (h : TelG P ops env0 Hf Lf ss fl K ({ dst := d, op := op, type := t, pos := pos, after := af, guard := none } :: rest) i xs) : TelG P ops env0 Hf Lf ss fl K ({ dst := d, op := op, type := t, pos := pos, after := af, guard := none } :: rest) i xs := h
theorem zCj {Γ : Ctx} {H L : List AObj} {Q : Exit → Act → World → Prop} {id : Nat} (fl n m : Nat) (H2 : List AObj) (Lz Lx : List AObj) (hm : P.follows .mixedOrders = true) (hreg : regOk Γ.N ops [n, m] = true) (hfl : Nat.blt fl ops.length = true)
  (h : TelG P ops env0 (fun k => [H, H2, H2].getD k []) (LfB [L, L, L] [Lz, Lz, Lx]) [n, m] fl (fun xs => J Γ (finE ops xs env0) H2 Lx (Q .normal)) ops 0 []) : J Γ env0 H L ((Code.region id ops.toArray true).wp P Q) :=
 J_drawFl fl _ _ [n, m] hm hreg hfl rfl rfl h
end
theorem gdG {φ ψ : Prop} (k : ψ) (h : ψ → φ := by
 intro k
 repeat (first
  | with_reducible refine G_nil ?_
  | ((with_reducible refine G_gate ?_); first | refine G_op rfl rfl rfl rfl rfl rfl rfl rfl (zK hT rfl) rfl ?_ | refine G_op rfl rfl rfl rfl rfl rfl rfl rfl (zO hT rfl) rfl ?_ | refine G_op rfl rfl rfl rfl rfl rfl rfl rfl (zN hT rfl) rfl ?_ | refine G_opB rfl rfl rfl rfl rfl rfl rfl rfl (zK hT rfl) (zK hT rfl) rfl ?_ | refine G_opB rfl rfl rfl rfl rfl rfl rfl rfl (zO hT rfl) (zO hT rfl) rfl ?_ | refine G_opB rfl rfl rfl rfl rfl rfl rfl rfl (zN hT rfl) (zN hT rfl) rfl ?_ | refine G_op2 rfl rfl rfl rfl rfl rfl rfl rfl rfl rfl (zK hT rfl) (zK hT rfl) rfl ?_ | refine G_op2 rfl rfl rfl rfl rfl rfl rfl rfl rfl rfl (zO hT rfl) (zO hT rfl) rfl ?_ | refine G_op2 rfl rfl rfl rfl rfl rfl rfl rfl rfl rfl (zN hT rfl) (zN hT rfl) rfl ?_ | refine zVi rfl rfl rfl rfl rfl rfl rfl rfl rfl rfl rfl (zK hT rfl) (zK hT rfl) (zK hT rfl) (zK hT rfl) rfl ?_ | refine zVi rfl rfl rfl rfl rfl rfl rfl rfl rfl rfl rfl (zO hT rfl) (zO hT rfl) (zO hT rfl) (zO hT rfl) rfl ?_ | refine zVi rfl rfl rfl rfl rfl rfl rfl rfl rfl rfl rfl (zN hT rfl) (zN hT rfl) (zN hT rfl) (zN hT rfl) rfl ?_ | refine G_opB3 rfl rfl rfl rfl rfl rfl rfl rfl rfl rfl rfl rfl rfl rfl (zK hT rfl) (zK hT rfl) (zK hT rfl) (zK hT rfl) (zK hT rfl) (zK hT rfl) rfl ?_ | refine G_fl rfl rfl rfl rfl rfl rfl rfl rfl rfl rfl rfl (zK hT rfl) (zK hT rfl) rfl ?_ | refine G_st rfl rfl rfl rfl rfl rfl rfl rfl (zK hT rfl) rfl ?_))
 exact k) : φ := h k
end Go.Proofs.YtdnpkgakpiopgaaGreatDoor
namespace Go.Proofs.YtdnpkgakpiopgaaGreatDoor
set_option maxRecDepth 20000
open Go.Awp Tr
abbrev u32V (x : Int) : AV := .int .u32 x
abbrev deskB (h : Hd) (a : List Int) (f : Int) : AObj := .box 97 (.ad h 0 :: ((a.map fun x => TV.p (u32V x)) ++ [.p (.int .u32 f)]))
abbrev dH (s : VS) (a : List Int) (f : Int) : List AObj := [deskB (.o 1) a f, vB (.o 2) s.base s.shown s.writes s.reads s.ranges.length, vR s.ranges]
abbrev resT (r : RS) (d n : AV) : TV := .agg [.p (.int .i64 r.e), .p (.int .i64 r.n), .p d, .p n, .p (.int .u8 r.st.1), .p (.int .u32 r.st.2.1), .p (.int .u32 r.st.2.2.1), .p (.int .u32 r.st.2.2.2)]
abbrev opT (o : Op20) (d : TV) : TV := .agg [.p (.int .u8 o.kind), .p (.str o.path), .p (.str o.other), .p (.int .i64 o.h), .p (.int .i64 o.from_), .p (.int .i64 o.n), d]
abbrev anyD : TV := .p (.cell .top)
theorem len16 {l : List Int} (h : l.length = 16) : ∃ a0 a1 a2 a3 a4 a5 a6 a7 a8 a9 a10 a11 a12 a13 a14 a15, l = [a0, a1, a2, a3, a4, a5, a6, a7, a8, a9, a10, a11, a12, a13, a14, a15] := by
 match l, h with
 | [a0, a1, a2, a3, a4, a5, a6, a7, a8, a9, a10, a11, a12, a13, a14, a15], _ => exact ⟨_, _, _, _, _, _, _, _, _, _, _, _, _, _, _, _, rfl⟩
theorem TVLe.refl (x : TV) : TVLe x x := fun _ _ _ _ h => h
theorem Con.argT {P : Program} {f : FuncId} {args : List TV} {H H' news : List AObj} {r : TV} {x y : TV} (k : Nat) (h : Con P f args H r H' news) (hk : args[k]? = some y) (hxy : TVLe x y) : Con P f (args.set k x) H r H' news :=
 ⟨h.can, fun F w β vs hS hr => h.run F w β vs hS ⟨by rw [hr.1, List.length_set], fun i z v hz hv => by
  by_cases e : i = k
  ·subst e
   rw [hk] at hz
   obtain rfl := Option.some.inj hz
   have hl := (List.getElem?_eq_some_iff.1 hk).1
   exact hxy _ _ _ _ (hr.2 i x v (by rw [List.getElem?_set_self hl]) hv)
  ·exact hr.2 i z v (by rw [List.getElem?_set_ne (Ne.symm e)]; exact hz) hv⟩⟩
theorem agg_repT {xs : List TV} (i : Nat) {x y : TV} (hi : xs[i]? = some x) (hc : TVLe x y) : TVLe (.agg xs) (.agg (xs.set i y)) := fun w β G v h => by
 cases h with
 | agg _ vs hl hr =>
  refine .agg _ vs (by rw [List.length_set]; exact hl) fun j z u hz hu => ?_
  by_cases e : j = i
  ·subst e
   rw [List.getElem?_set_self (List.getElem?_eq_some_iff.1 hi).1] at hz
   obtain rfl := Option.some.inj hz
   exact hc _ _ _ _ (hr j x u hi hu)
  ·rw [List.getElem?_set_ne (Ne.symm e)] at hz
   exact hr j z u hz hu
theorem sl_any (h : Hd) (n st len : Nat) : TVLe (.sl h n st len) anyD := fun w β G v hr => by
 cases hr with | sl _ _ _ _ _ h1 => exact .p (.cell _ _ h1 (.top _))
theorem opT_any (o : Op20) {d : TV} (h : TVLe d anyD) : TVLe (opT o d) (opT o anyD) := agg_repT 6 rfl h
set_option maxHeartbeats 4000000 in
theorem zHw {s : VS} {m : Nat} (h : VJ s m) (hm : m ≤ 900000) (p : List UInt8) : Con Tryz.prog 125 [vP, .p (.str p)] (vH s) (.tup [.p (.int .u32 (s.lead p).1.1), ndT (s.lead p).1.2, .p (.int .i64 (s.lead p).2)]) (vH (s.rdp p)) [] := by
 have c1 := zAy h hm p
 change Con Tryz.prog _ _ _ _ (vH (s.rdp p)) _ at c1
 unfold VS.lead
 generalize s.rdp p = s1 at c1
 generalize (s.find p).1 = a at c1
 generalize (s.find p).2.1 = e at c1
 by_cases h0 : e ≠ 0
 ·rw [if_pos h0]
  refine zD Tryz.func125 rfl (by kernel_rfl) rfl fun F w0 β0 => ?_
  refine zE rfl ?_
  refine go ?_
  refine zH rfl rfl (zA [.o 0, .o 1] rfl rfl (c1) rfl rfl rfl ⟨⟨rfl, rfl⟩, ⟨rfl, rfl⟩, trivial⟩ rfl rfl rfl rfl) rfl ?_
  refine go ?_
  refine zG rfl (by simp [h0]) ?_
  refine go ?_
  exact zC hT rfl rfl rfl
 rw [if_neg h0]
 obtain rfl : e = 0 := by simpa using h0
 by_cases h1 : a.i = 0
 ·rw [if_pos h1]
  refine zD Tryz.func125 rfl (by kernel_rfl) rfl fun F w0 β0 => ?_
  refine zE rfl ?_
  refine go ?_
  refine zH rfl rfl (zA [.o 0, .o 1] rfl rfl (c1) rfl rfl rfl ⟨⟨rfl, rfl⟩, ⟨rfl, rfl⟩, trivial⟩ rfl rfl rfl rfl) rfl ?_
  refine go ?_
  refine zG rfl (by simp [h1]) ?_
  refine go ?_
  exact zC hT rfl rfl rfl
 rw [if_neg h1]
 refine zD Tryz.func125 rfl (by kernel_rfl) rfl fun F w0 β0 => ?_
 refine zE rfl ?_
 refine go ?_
 refine zH rfl rfl (zA [.o 0, .o 1] rfl rfl (c1) rfl rfl rfl ⟨⟨rfl, rfl⟩, ⟨rfl, rfl⟩, trivial⟩ rfl rfl rfl rfl) rfl ?_
 refine go ?_
 refine zF rfl (by simp [h1]) ?_
 refine go ?_
 refine J_drawS 5 (by kernel_rfl) (by kernel_rfl) ?_
 apply Exists.intro
 refine gdW ?_
 refine go ?_
 exact zC hT rfl rfl rfl
theorem zIb (x : Int) (r : List Int) (i : Nat) : freeH (x :: r) i = if x = 0 then (i : Int) else freeH r (i + 1) := rfl
structure FrI (l : List Int) where
 i : Nat
 h : i ≤ l.length
 e : freeH (l.drop i) i = freeH l 0
set_option maxHeartbeats 4000000 in
theorem zRa (l : List Int) (hl : l.length ≤ 1000000) : Con Tryz.prog 126 [.p (.ps (l.map u32V)), .p (.int .u32 0)] [] (.p (.int .i64 (freeH l 0))) [] [] := by
 have hlen : (l.map u32V).length = l.length := by simp
 refine zD Tryz.func126 rfl (by kernel_rfl) rfl fun F w0 β0 => ?_
 refine zE rfl ?_
 refine go ?_
 rw [hlen]
 refine z9 (fun q : FrI l => [(0, .p (.ps (l.map u32V))), (1, .p (.int .u32 0)), (7, .p (.int .i64 (l.length : Int))), (8, .p (.int .i64 (q.i : Int)))]) (fun _ => []) (fun _ => []) (fun q => l.length - q.i) ⟨0, by omega, rfl⟩ ⟨rfl, rfl, rfl, rfl, trivial⟩ rfl rfl (fun q => ?_)
 have hq := q.h
 have he := q.e
 refine go ?_
 by_cases hlt : q.i < l.length
 ·have hx : l[q.i]? = some l[q.i] := List.getElem?_eq_getElem hlt
  have hd : l.drop q.i = l[q.i] :: l.drop (q.i + 1) := by rw [List.drop_eq_getElem_cons hlt]
  rw [hd] at he
  generalize l[q.i] = x at hx he
  rw [zIb] at he
  have hxm : (l.map u32V)[q.i]? = some (u32V x) := by rw [List.getElem?_map, hx]; rfl
  refine zG rfl (decide_eq_true (by omega)) ?_
  refine go ?_
  refine zH rfl rfl (zJ hT rfl rfl rfl rfl rfl (.ps _) (by omega) (by rw [hlen]; omega)) rfl ?_
  refine go ?_
  refine zH rfl rfl (zI hT rfl rfl (.ps _) hxm rfl rfl) rfl ?_
  refine go ?_
  by_cases h0 : x = 0
  ·rw [if_pos h0] at he
   refine zG rfl (by simp [h0]) ?_
   refine go ?_
   rw [← he]
   exact zC hT rfl rfl rfl
  ·rw [if_neg h0] at he
   refine zF rfl (by simp [Ne.symm h0]) ?_
   refine go ?_
   refine zR ⟨q.i + 1, by omega, he⟩ (by show l.length - (q.i + 1) < l.length - q.i; omega) ⟨rfl, rfl, rfl, congrArg (fun z => TV.p (.int .i64 z)) (by rw [IntWalk.i64_in _ (by omega)]; rfl), trivial⟩ rfl rfl
 ·rw [List.drop_eq_nil_of_le (by omega)] at he
  refine zF rfl (decide_eq_false (by omega)) ?_
  refine go ?_
  rw [← he]
  exact zC hT rfl rfl rfl
theorem cell16 {h : Int} (h0 : 0 ≤ h) (h1 : h < 16) : h = 0 ∨ h = 1 ∨ h = 2 ∨ h = 3 ∨ h = 4 ∨ h = 5 ∨ h = 6 ∨ h = 7 ∨ h = 8 ∨ h = 9 ∨ h = 10 ∨ h = 11 ∨ h = 12 ∨ h = 13 ∨ h = 14 ∨ h = 15 := by omega
set_option maxHeartbeats 16000000 in
theorem zDq (s : VS) (l : List Int) (hl : l.length = 16) (f h : Int) : Con Tryz.prog 127 [vP, .p (.int .i64 h)] (dH s l f) (.p (.int .u32 (heldI l h))) (dH s l f) [] := by
 obtain ⟨a0, a1, a2, a3, a4, a5, a6, a7, a8, a9, a10, a11, a12, a13, a14, a15, rfl⟩ := len16 hl
 unfold heldI
 by_cases h0 : h < 0 ∨ h ≥ 16
 ·rw [if_pos h0]
  refine zD Tryz.func127 rfl (by kernel_rfl) rfl fun F w0 β0 => ?_
  refine zE rfl ?_
  refine go ?_
  refine zG rfl (by rcases h0 with q | q <;> simp [q]) ?_
  refine go ?_
  exact zC hT rfl rfl rfl
 rw [if_neg h0]
 refine zD Tryz.func127 rfl (by kernel_rfl) rfl fun F w0 β0 => ?_
 refine zE rfl ?_
 refine go ?_
 refine zF rfl (by simp; omega) ?_
 rcases cell16 (h := h) (by omega) (by omega) with rfl | rfl | rfl | rfl | rfl | rfl | rfl | rfl | rfl | rfl | rfl | rfl | rfl | rfl | rfl | rfl
 all_goals
  refine go ?_
  exact zC hT rfl rfl rfl
theorem z6 (e : Int) : Con Tryz.prog 40 [.p (.int .i64 e)] [] (resT (rs0 e) .nils .nils) [] [] := by
 refine zD Tryz.func40 rfl (by kernel_rfl) rfl fun F w0 β0 => ?_
 refine zE rfl ?_
 refine go ?_
 exact zC hT rfl rfl rfl
def DoOk (f : Nat) (o : Op20) (d : TV) (s : VS) (l : List Int) (i : Int) : Prop := ∃ x n, Bs x (sdo s l o i).1.data ∧ Sl AV.str n (sdo s l o i).1.names ∧ Con Tryz.prog f [vP, opT o d] (dH s l i) (resT (sdo s l o i).1 x n) (dH (sdo s l o i).2.1 (sdo s l o i).2.2 i) []
end Go.Proofs.YtdnpkgakpiopgaaGreatDoor

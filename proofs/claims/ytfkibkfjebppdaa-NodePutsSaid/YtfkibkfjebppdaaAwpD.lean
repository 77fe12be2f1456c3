/- The operations of the abstract walk that can be reckoned: 'stepA', and that the machine does what it says. No program is named here. -/
import Derived.Test.YtfkibkfjebppdaaAwpC
namespace Go.Awp
open Go.RowKit

/-! ### Types, as a table -/
inductive TyD where
  | int (k : IntKind)
  | bool
  | str
  | ptr
  | slice (e : Nat)
  | array (n e : Nat)
  | struct (fs : List (Nat × Nat))
  | other
structure TyI where
  d : TyD
  size : Nat
  bytes : Nat
  zero : List AV
abbrev Tab := List (Nat × TyI)
def tlk : Tab → Nat → Option TyI
  | [], _ => none
  | (t, i) :: r, s => match Nat.beq t s with
    | true => some i
    | false => tlk r s
def isAggD : TyD → Option Bool
  | .struct _ | .array .. => some true
  | .other => none
  | _ => some false

def chkV : AV → Value → Bool
  | .int k n, .int k' n' => k == k' && n == n'
  | .bool b, .bool b' => b == b'
  | .str [], .string s => s.data.toList.isEmpty
  | .nilp, .pointer none => true
  | .nils, .slice none 0 0 => true
  | .top, _ => true
  | _, _ => false
theorem chkV_ok {x : AV} {v : Value} (h : chkV x v = true) (w : World) (N : Nat → Prop) : RepA w N x v := by
  unfold chkV at h
  split at h
  · simp at h; obtain ⟨rfl, rfl⟩ := h; exact .int ..
  · simp at h; subst h; exact .bool ..
  · rename_i s
    have hd : s = ⟨#[]⟩ := by
      cases s with | mk d =>
      simp at h
      subst h; rfl
    subst hd
    exact .str []
  · exact .nilp
  · exact .nils
  · exact .top _
  · cases h
def chkZ : List AV → List Value → Bool
  | [], [] => true
  | x :: xs, v :: vs => chkV x v && chkZ xs vs
  | _, _ => false
theorem chkZ_ok : ∀ {xs : List AV} {vs : List Value}, chkZ xs vs = true → vs.length = xs.length ∧ ∀ (w : World) (N : Nat → Prop) (i : Nat) (x : AV) (v : Value), xs[i]? = some x → vs[i]? = some v → RepA w N x v
  | [], [], _ => ⟨rfl, by simp⟩
  | x :: xs, v :: vs, h => by
    simp only [chkZ, Bool.and_eq_true] at h
    obtain ⟨h1, h2⟩ := chkZ_ok h.2
    refine ⟨by simp [h1], fun w N i y u hy hu => ?_⟩
    cases i with
    | zero => simp at hy hu; subst hy hu; exact chkV_ok h.1 w N
    | succ i => exact h2 w N i y u (by simpa using hy) (by simpa using hu)
  | [], _ :: _, h => by simp [chkZ] at h
  | _ :: _, [], h => by simp [chkZ] at h

def chkF : List (Nat × Nat) → List Field → Bool
  | [], [] => true
  | (a, b) :: r, f :: fs => a == f.offset && b == f.type && chkF r fs
  | _, _ => false
theorem chkF_ok : ∀ {r : List (Nat × Nat)} {fs : List Field}, chkF r fs = true → r = fs.map fun f => (f.offset, f.type)
  | [], [], _ => rfl
  | (a, b) :: r, f :: fs, h => by
    simp only [chkF, Bool.and_eq_true, beq_iff_eq] at h
    obtain ⟨⟨rfl, rfl⟩, h⟩ := h
    simp [← chkF_ok h]
  | [], _ :: _, h => by simp [chkF] at h
  | _ :: _, [], h => by simp [chkF] at h
def chkD : TyD → TypeDesc → Bool
  | .int k, .int k' => k == k'
  | .bool, .bool => true
  | .str, .string => true
  | .ptr, .pointer _ => true
  | .slice e, .slice e' => e == e'
  | .array n e, .array n' e' => n == n' && e == e'
  | .struct fs, .struct gs => chkF fs gs.toList
  | .other, _ => true
  | _, _ => false
theorem chkD_struct {fs : List (Nat × Nat)} {u : TypeDesc} (h : chkD (.struct fs) u = true) : ∃ gs, u = .struct gs ∧ fs = gs.toList.map fun f => (f.offset, f.type) := by
  cases u <;> simp only [chkD, Bool.false_eq_true] at h
  exact ⟨_, rfl, chkF_ok h⟩
theorem chkD_slice {e : Nat} {u : TypeDesc} (h : chkD (.slice e) u = true) : u = .slice e := by
  cases u <;> simp only [chkD, Bool.false_eq_true] at h
  rw [eq_of_beq h]
theorem chkD_array {n e : Nat} {u : TypeDesc} (h : chkD (.array n e) u = true) : u = .array n e := by
  cases u <;> simp only [chkD, Bool.false_eq_true, Bool.and_eq_true] at h
  rw [eq_of_beq h.1, eq_of_beq h.2]
theorem chkD_int {k : IntKind} {u : TypeDesc} (h : chkD (.int k) u = true) : u = .int k := by
  cases u <;> simp only [chkD, Bool.false_eq_true] at h
  rw [eq_of_beq h]
theorem chkD_str {u : TypeDesc} (h : chkD .str u = true) : u = .string := by
  cases u <;> simp only [chkD, Bool.false_eq_true] at h
  rfl
def chkTy (P : Program) (t : Nat) (i : TyI) : Bool :=
  match P.info? t, P.underlying t with
  | some info, some u => info.size == i.size && info.bytes == i.bytes && (match info.zero with
      | some z => chkZ i.zero z.cells.toList && Nat.beq i.zero.length i.size
      | none => false) && chkD i.d u && (match isAggD i.d with
      | some false => Nat.beq i.size 1
      | _ => true)
  | _, _ => false
def chkTab (P : Program) : Tab → Bool
  | [] => true
  | (t, i) :: r => chkTy P t i && chkTab P r
def TabOk (P : Program) (T : Tab) : Prop := ∀ t i, tlk T t = some i → chkTy P t i = true
theorem tabOk {P : Program} : ∀ {T : Tab}, chkTab P T = true → TabOk P T
  | [], _ => fun t i h => by simp [tlk] at h
  | (s, j) :: r, h => by
    simp only [chkTab, Bool.and_eq_true] at h
    intro t i ht
    simp only [tlk] at ht
    split at ht
    · rename_i e
      obtain rfl := Nat.eq_of_beq_eq_true e
      obtain rfl := Option.some.inj ht
      exact h.1
    · exact tabOk h.2 t i ht

structure TyOk (P : Program) (t : Nat) (i : TyI) (inf : TypeInfo) (u : TypeDesc) : Prop where
  info : P.info? t = some inf
  und : P.underlying t = some u
  size : inf.size = i.size
  bytes : inf.bytes = i.bytes
  zero : ∃ z, inf.zero = some z ∧ chkZ i.zero z.cells.toList = true
  zlen : i.zero.length = i.size
  d : chkD i.d u = true
  one : isAggD i.d = some false → i.size = 1
theorem TabOk.get {P : Program} {T : Tab} (h : TabOk P T) {t : Nat} {i : TyI} (ht : tlk T t = some i) : ∃ info u, TyOk P t i info u := by
  have := h t i ht
  unfold chkTy at this
  split at this
  · rename_i info u hi hu
    simp only [Bool.and_eq_true, beq_iff_eq] at this
    obtain ⟨⟨⟨⟨h1, h2⟩, h3⟩, h4⟩, h5⟩ := this
    split at h3
    · rename_i z hz
      simp only [Bool.and_eq_true] at h3
      exact ⟨info, u, hi, hu, h1, h2, ⟨z, hz, h3.1⟩, Nat.eq_of_beq_eq_true h3.2, h4, fun hf => by rw [hf] at h5; exact Nat.eq_of_beq_eq_true h5⟩
    · cases h3
  · cases this
section
variable {P : Program} {t : Nat} {i : TyI} {info : TypeInfo} {u : TypeDesc} (h : TyOk P t i info u) (w : World)
include h
theorem TyOk.run_und : (underlying t).run P w = .ok u w := run_underlying h.und w
theorem TyOk.run_info : (typeInfo t).run P w = .ok info w := by simp [typeInfo, h.info]
theorem TyOk.run_size : (sizeOf t).run P w = .ok i.size w := by simp [sizeOf, h.run_info, h.size]
theorem TyOk.run_agg {b : Bool} (hb : isAggD i.d = some b) : (isAgg t).run P w = .ok b w := by
  have hd := h.d
  unfold chkD at hd
  split at hd <;> simp [isAgg, h.run_und] <;> simp_all [isAggD]
theorem TyOk.run_zero : ∃ z, (zeroValue t).run P w = .ok z w ∧ chkZ i.zero z.cells.toList = true := by
  obtain ⟨z, h1, h2⟩ := h.zero
  exact ⟨z, by simp [zeroValue, h.run_info, h1], h2⟩
end

theorem add_add (a : Addr) (i j : Nat) : (a.add i).add j = a.add (i + j) := by
  unfold Addr.add
  by_cases hi : i = 0 <;> by_cases hj : j = 0 <;> simp_all [Nat.add_assoc]

/-! ### Loading and storing cells -/
section
variable {P : Program} {w : World} {β : Hd → Nat} {G : Hp}
/-- At this address lie these cells. -/
def Cells (w : World) (β : Hd → Nat) (G : Hp) (a : Addr) (cs : List TV) : Prop := ∀ (i : Nat) (x : TV), cs[i]? = some x → ∃ v, w.cell? (a.add i) = some v ∧ RepT w β G x v

theorem Cells.drop {a : Addr} {cs : List TV} (h : Cells w β G a cs) (k : Nat) : Cells w β G (a.add k) (cs.drop k) := by
  intro i x hx
  rw [List.getElem?_drop] at hx
  rw [add_add]
  exact h _ x hx
theorem Cells.vals {a : Addr} {cs : List TV} (h : Cells w β G a cs) : ∃ vs : List Value, vs.length = cs.length ∧ (∀ (i : Nat) (v : Value), vs[i]? = some v → w.cell? (a.add i) = some v) ∧ ∀ (i : Nat) (x : TV) (v : Value), cs[i]? = some x → vs[i]? = some v → RepT w β G x v := by
  refine ⟨(List.range cs.length).map fun i => (w.cell? (a.add i)).getD undef, by simp, fun i v hv => ?_, fun i x v hx hv => ?_⟩
  · simp only [List.getElem?_map, Option.map_eq_some_iff] at hv
    obtain ⟨j, hj, rfl⟩ := hv
    have hlt : i < cs.length := by
      rcases Nat.lt_or_ge i cs.length with h | h
      · exact h
      · simp [List.getElem?_eq_none (show (List.range cs.length).length ≤ i by simpa using h)] at hj
    obtain rfl : j = i := by simpa [hlt] using hj.symm
    obtain ⟨u, hu, _⟩ := h j _ (List.getElem?_eq_getElem hlt)
    simp [hu]
  · have hlt : i < cs.length := (List.getElem?_eq_some_iff.1 hx).1
    obtain ⟨u, hu, hr⟩ := h i x hx
    simp [hlt, hu] at hv
    subst hv
    exact hr

def loadC (T : Tab) (t : Nat) (cs : List TV) : Option TV :=
  match tlk T t with
  | some i => match isAggD i.d with
    | some true => match Nat.ble i.size cs.length with
      | true => some (.agg (cs.take i.size))
      | false => none
    | some false => match cs with
      | c :: _ => some c
      | [] => none
    | none => none
  | none => none
theorem loadC_ok {T : Tab} (hT : TabOk P T) {t : Nat} {cs : List TV} {x : TV} {a : Addr} (hc : Cells w β G a cs) (h : loadC T t cs = some x) : ∃ u, (loadVar t a).run P w = .ok u w ∧ RepT w β G x u := by
  unfold loadC at h
  split at h
  · rename_i i hi
    obtain ⟨info, u, ok⟩ := hT.get hi
    split at h
    · rename_i hb
      split at h
      · rename_i hle
        obtain rfl := Option.some.inj h
        have hle := Nat.le_of_ble_eq_true hle
        obtain ⟨vs, h1, h2, h3⟩ := hc.vals
        have hl := run_loadCells_list (P := P) w a (vs.take i.size) (fun j v hv => h2 j v (by
          rw [List.getElem?_take] at hv
          split at hv
          · exact hv
          · cases hv))
        have hlen : (vs.take i.size).length = i.size := by simp; omega
        rw [hlen] at hl
        refine ⟨.agg (vs.take i.size).toArray, by simp [loadVar, ok.run_agg w hb, ok.run_size, hl], .agg _ _ (by simp; omega) fun j y v hy hv => ?_⟩
        rw [List.getElem?_take] at hy hv
        split at hy
        · rename_i hj; rw [if_pos hj] at hv; exact h3 j y v hy hv
        · cases hy
      · cases h
    · rename_i hb
      split at h
      · rename_i c cs'
        obtain rfl := Option.some.inj h
        obtain ⟨v, hv, hr⟩ := hc 0 c rfl
        rw [Addr.add_zero'] at hv
        exact ⟨v, by simp [loadVar, ok.run_agg w hb, hv], hr⟩
      · cases h
    · cases h
  · cases h

def cellLike : TV → Bool
  | .p (.agg _) => false
  | .p .top => false
  | .agg _ => false
  | .tup _ => false
  | .opt _ _ => false
  | _ => true
theorem cellLike_ok {x : TV} {v : Value} (h : RepT w β G x v) (hx : cellLike x = true) : v.oneCell' = true := by
  cases h with
  | p h => cases h <;> simp_all [cellLike, Value.oneCell']
  | ad h off v h1 => exact h1
  | sl h n st len v h1 => exact h1
  | el => rfl
  | fn => rfl
  | _ => simp [cellLike] at hx
end
end Go.Awp

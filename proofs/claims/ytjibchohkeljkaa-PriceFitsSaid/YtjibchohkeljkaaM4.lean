/- Contracts and plain laws, several texts joined: F10j, F10k, F10l, F10m, F10n, F10o, F10p, Go3, F10q, F14, F14b, F14c, F14d, F14e, Shp. -/
import Derived.Test.YtjibchohkeljkaaGo
import Derived.Test.YtjibchohkeljkaaM3
import Derived.Test.YtjibchohkeljkaaM2
/- The reference of layer 10: Set. -/
-- @D
namespace Go.Proofs.Ytjibchohkeljkaa
set_option maxRecDepth 20000
open Go.Awp Tr
set_option maxHeartbeats 8000000 in
theorem rset10_rd (s : AV) (l : List KV) (k v : List UInt8) (hrd : ∀ L, Rd [] L (.p s) (kvs l)) (hl : l.length ≤ big40) : Con Try.prog 22 [.p s, .p (.str k), .p (.str v)] [] (accT 0 .cz (kvs (rset k v l))) [] (accL 35 3 (kvs (rset k v l))) := by
  have hlen : (kvs l).length = l.length := by simp
  unfold big40 at hl
  refine con_of Try.func22 rfl (by kernel_rfl) rfl fun F w0 β0 => ?_
  refine K_tell rfl ?_
  refine go ?_
  refine K_opM rfl rfl (opr_len_rd hT rfl rfl (hrd _)) rfl ?_
  rw [hlen]
  refine go ?_
  refine J_loop (fun q : RI l => [(0, .p s), (1, .p (.str k)), (2, .p (.str v)), (7, accT 0 .cz (kvs ((l.take q.i).foldl (stepS k v) ([], false)).1)), (8, .p (.bool ((l.take q.i).foldl (stepS k v) ([], false)).2)), (12, .p (.int .i64 (l.length : Int))), (13, .p (.int .i64 (q.i : Int)))]) (fun _ => []) (fun q => accL 35 3 (kvs ((l.take q.i).foldl (stepS k v) ([], false)).1)) (fun q => l.length - q.i) ⟨0, by omega⟩ ⟨rfl, rfl, rfl, rfl, rfl, rfl, rfl, trivial⟩ rfl rfl (fun q => ?_)
  have hi := q.h
  have hAl := fold_len k v (l.take q.i) ([], false)
  rw [List.length_take, Nat.min_eq_left hi] at hAl
  simp only [List.length_nil, Nat.zero_add] at hAl
  refine go ?_
  by_cases h : q.i < l.length
  · have hx : l[q.i]? = some l[q.i] := List.getElem?_eq_getElem h
    generalize l[q.i] = x at hx
    have hxk : (kvs l)[((q.i : Nat) : Int).toNat]? = some (kvV x) := kvs_get hx
    have hft := fold_take (stepS k v) ([], false) hx
    generalize (l.take q.i).foldl (stepS k v) ([], false) = st at hft hAl
    obtain ⟨A, b⟩ := st
    dsimp only at hAl
    refine K_condT rfl (decide_eq_true (by omega)) ?_
    refine go ?_
    refine K_opt rfl rfl rfl need2 (fun _ => opr_index hT rfl rfl rfl rfl rfl (hrd _) (by omega) (by rw [hlen]; omega)) rfl ?_
    refine go ?_
    refine K_opt rfl rfl rfl need1 (fun _ => opr_load_el hT rfl rfl (hrd _) hxk rfl rfl) rfl ?_
    refine go ?_
    refine J_weak [(0, .p s), (1, .p (.str k)), (2, .p (.str v)), (7, accT 0 .cz (kvs A)), (8, .p (.bool b)), (9, .p (.int .i64 (q.i : Int))), (12, .p (.int .i64 (l.length : Int))), (13, .p (.int .i64 (q.i : Int))), (26, .p (.bool (!b && (Op.bytesLess k x.1 || k == x.1))))] ⟨rfl, rfl, rfl, rfl, rfl, rfl, rfl, rfl, rfl, trivial⟩ ?_
    have e1 : ∃ A1 b1, A1.length ≤ 2 * q.i + 1 ∧ (if (!b && (Op.bytesLess k x.1 || k == x.1)) = true then (A ++ [(k, v)], true) else (A, b)) = (A1, b1) := by
      split
      · exact ⟨_, _, by simp; omega, rfl⟩
      · exact ⟨_, _, by omega, rfl⟩
    obtain ⟨A1, b1, hA1, e1⟩ := e1
    have e2 : (l.take (q.i + 1)).foldl (stepS k v) ([], false) = (if x.1 = k then A1 else A1 ++ [x], b1) := by
      rw [hft]; simp only [stepS]; rw [e1]
    refine J_join [(0, .p s), (1, .p (.str k)), (2, .p (.str v)), (7, accT 0 .cz (kvs A1)), (8, .p (.bool b1)), (9, .p (.int .i64 (q.i : Int))), (12, .p (.int .i64 (l.length : Int))), (13, .p (.int .i64 (q.i : Int)))] [] (accL 35 3 (kvs A1)) ?_ ?_
    · by_cases hb : (!b && (Op.bytesLess k x.1 || k == x.1)) = true
      · rw [if_pos hb] at e1
        obtain ⟨rfl, rfl⟩ := Prod.mk.inj e1
        refine K_condT rfl hb ?_
        refine go ?_
        refine K_opM rfl rfl (opr_mv (accT 0 .cz (kvs A)) (.inl rfl) rfl) rfl ?_
        refine go ?_
        refine K_opM rfl rfl (opr_app_acc (te := pairI) (L0 := []) (acc := kvs A) (rows := [kvV (k, v)]) hT rfl rfl rfl (.inr rfl) rfl rfl (.rd (.ps _)) hbs_ps (kvs_cl [(k, v)]) (kvs_size [(k, v)]) (by decide) (by decide) (by simp; omega)) rfl ?_
        have emap : kvs (A ++ [(k, v)]) = kvs A ++ [kvV (k, v)] := by simp
        refine K_opM rfl rfl (opr_mv (accT 0 .cz (kvs A ++ [kvV (k, v)])) (.inr rfl) rfl) rfl ?_
        refine go ?_
        rw [emap]
        exact J_at ⟨rfl, rfl, rfl, rfl, rfl, rfl, rfl, rfl, trivial⟩ rfl rfl
      · rw [if_neg hb] at e1
        obtain ⟨rfl, rfl⟩ := Prod.mk.inj e1
        refine K_condF rfl (by simpa using hb) ?_
        refine go ?_
        exact J_at ⟨rfl, rfl, rfl, rfl, rfl, rfl, rfl, rfl, trivial⟩ rfl rfl
    refine go ?_
    refine K_op rfl rfl (opr_index hT rfl rfl rfl rfl rfl (hrd _) (by omega) (by rw [hlen]; omega)) rfl ?_
    refine go ?_
    refine K_op rfl rfl (opr_load_el hT rfl rfl (hrd _) hxk rfl rfl) rfl ?_
    refine go ?_
    by_cases hk : x.1 = k
    · rw [if_pos hk] at e2
      refine K_condF rfl (by simp [hk]) ?_
      refine go ?_
      refine J_again ⟨q.i + 1, by omega⟩ (by show l.length - (q.i + 1) < l.length - q.i; omega) ⟨rfl, rfl, rfl, by rw [e2]; rfl, by rw [e2]; rfl, rfl, congrArg (fun z => TV.p (.int .i64 z)) (by rw [IntWalk.i64_in _ (by omega)]; rfl), trivial⟩ rfl (by rw [e2])
    · rw [if_neg hk] at e2
      have emap : kvs (A1 ++ [x]) = kvs A1 ++ [kvV x] := by simp
      refine K_condT rfl (by simp [hk]) ?_
      refine go ?_
      refine K_opM rfl rfl (opr_mv (accT 0 .cz (kvs A1)) (.inl rfl) rfl) rfl ?_
      refine go ?_
      refine K_op rfl rfl (opr_index hT rfl rfl rfl rfl rfl (hrd _) (by omega) (by rw [hlen]; omega)) rfl ?_
      refine K_op rfl rfl (opr_load_el hT rfl rfl (hrd _) hxk rfl rfl) rfl ?_
      refine go ?_
      refine K_opM rfl rfl (opr_app_acc (te := pairI) (L0 := []) (acc := kvs A1) (rows := [kvV x]) hT rfl rfl rfl (.inr rfl) rfl rfl (.rd (.ps _)) hbs_ps (kvs_cl [x]) (kvs_size [x]) (by decide) (by decide) (by simp; omega)) rfl ?_
      refine K_opM rfl rfl (opr_mv (accT 0 .cz (kvs A1 ++ [kvV x])) (.inr rfl) rfl) rfl ?_
      refine go ?_
      refine J_again ⟨q.i + 1, by omega⟩ (by show l.length - (q.i + 1) < l.length - q.i; omega) ⟨rfl, rfl, rfl, by rw [e2, emap]; rfl, by rw [e2]; rfl, rfl, congrArg (fun z => TV.p (.int .i64 z)) (by rw [IntWalk.i64_in _ (by omega)]; rfl), trivial⟩ rfl (by rw [e2, emap]; rfl)
  · have hqi : q.i = l.length := by omega
    have er : rset k v l = endS k v ((l.take q.i).foldl (stepS k v) ([], false)) := by rw [hqi, List.take_length]; rfl
    rw [er]
    generalize (l.take q.i).foldl (stepS k v) ([], false) = st at hAl
    obtain ⟨A, b⟩ := st
    dsimp only at hAl
    refine K_condF rfl (decide_eq_false (by omega)) ?_
    refine go ?_
    cases b
    · refine K_condT rfl rfl ?_
      refine go ?_
      refine K_opM rfl rfl (opr_mv (accT 0 .cz (kvs A)) (.inl rfl) rfl) rfl ?_
      refine go ?_
      refine K_opM rfl rfl (opr_app_acc (te := pairI) (L0 := []) (acc := kvs A) (rows := [kvV (k, v)]) hT rfl rfl rfl (.inr rfl) rfl rfl (.rd (.ps _)) hbs_ps (kvs_cl [(k, v)]) (kvs_size [(k, v)]) (by decide) (by decide) (by simp; omega)) rfl ?_
      have emap : kvs (endS k v (A, false)) = kvs A ++ [kvV (k, v)] := by simp [endS]
      rw [emap]
      refine K_opM rfl rfl (opr_mv (accT 0 .cz (kvs A ++ [kvV (k, v)])) (.inr rfl) rfl) rfl ?_
      refine go ?_
      refine K_opM rfl rfl (opr_mv (accT 0 .cz (kvs A ++ [kvV (k, v)])) (.inl rfl) rfl) rfl ?_
      refine K_opM rfl rfl (opr_mv (accT 0 .cz (kvs A ++ [kvV (k, v)])) (.inr rfl) rfl) rfl ?_
      refine go ?_
      exact J_give hT rfl rfl
    · have emap : kvs (endS k v (A, true)) = kvs A := by simp [endS]
      rw [emap]
      refine K_condF rfl rfl ?_
      refine go ?_
      refine K_opM rfl rfl (opr_mv (accT 0 .cz (kvs A)) (.inl rfl) rfl) rfl ?_
      refine K_opM rfl rfl (opr_mv (accT 0 .cz (kvs A)) (.inr rfl) rfl) rfl ?_
      refine go ?_
      exact J_give hT rfl rfl
theorem rset10_acc (d : AV) (hd : d = .nils ∨ d = .cz) (l : List KV) (k v : List UInt8) (hl : l.length ≤ big40) : Con Try.prog 22 [R d l, .p (.str k), .p (.str v)] [] (accT 0 .cz (kvs (rset k v l))) [] (accL 35 3 (kvs (rset k v l))) :=
  rset10_rd _ l k v (fun _ => accV_rd hd) hl
end Go.Proofs.Ytjibchohkeljkaa

/- The reference of layer 10: Range, Rank. -/
-- @D
namespace Go.Proofs.Ytjibchohkeljkaa
set_option maxRecDepth 20000
open Go.Awp Tr
end Go.Proofs.Ytjibchohkeljkaa

/- The reference of layer 10: Same. -/
-- @D
namespace Go.Proofs.Ytjibchohkeljkaa
set_option maxRecDepth 20000
open Go.Awp Tr
/-- A pair that may be gone. -/
abbrev PW := List UInt8 × List UInt8 × Bool
def pwV (x : PW) : AV := .agg [.str x.1, .str x.2.1, .bool x.2.2]
def kp (x : KV) : PW := (x.1, x.2, false)
theorem kvs_pw (l : List KV) : kvs l = (l.map kp).map pwV := by rw [List.map_map]; rfl
theorem kp_inj {l m : List KV} : l.map kp = m.map kp ↔ l = m := by
  refine ⟨fun h => ?_, fun h => by rw [h]⟩
  have := congrArg (List.map fun x : PW => ((x.1, x.2.1) : KV)) h
  simpa [List.map_map, Function.comp_def, kp] using this
structure SI (l m : List PW) where
  i : Nat
  h : i ≤ l.length
  e : l.take i = m.take i
theorem pair_eq (x y : PW) : (decide (x.1 = y.1) && (decide (x.2.1 = y.2.1) && (decide (x.2.2 = y.2.2) && true))) = decide (x = y) := by
  obtain ⟨a, b, e⟩ := x
  obtain ⟨c, d, f⟩ := y
  by_cases h1 : a = c
  · by_cases h2 : b = d
    · simp [h1, h2]
    · simp [h1, h2]
  · simp [h1]
theorem take_same {α : Type} {l m : List α} {i : Nat} {x y : α} (h : l.take i = m.take i) (hx : l[i]? = some x) (hy : m[i]? = some y) : l.take (i + 1) = m.take (i + 1) ↔ x = y := by
  obtain ⟨h1, rfl⟩ := List.getElem?_eq_some_iff.1 hx
  obtain ⟨h2, rfl⟩ := List.getElem?_eq_some_iff.1 hy
  rw [List.take_succ_eq_append_getElem h1, List.take_succ_eq_append_getElem (l := m) h2, h]
  constructor
  · intro e
    exact (List.cons.inj (List.append_cancel_left e)).1
  · intro e
    rw [e]
end Go.Proofs.Ytjibchohkeljkaa

/- The reference of layer 10: Low. -/
-- @D
namespace Go.Proofs.Ytjibchohkeljkaa
set_option maxRecDepth 20000
open Go.Awp Tr
/-- The greatest k of which 2 to the k is at most the square of n and 1. -/
structure LI (n : Nat) where
  k : Nat
  h : 2 ^ k ≤ (n + 1) * (n + 1)
/-- What Low answers: high is at most two more than that k. -/
def lowB (n high : Nat) : Bool := decide (high ≤ ((n + 1) * (n + 1)).log2 + 2)
theorem log_step {k m : Nat} (h : 2 ^ k ≤ m) : 2 ^ k * 2 ≤ m ∨ k = m.log2 := by
  by_cases h2 : 2 ^ k * 2 ≤ m
  · exact .inl h2
  · refine .inr ?_
    have hm : m ≠ 0 := by have := Nat.two_pow_pos k; omega
    exact ((Nat.log2_eq_iff hm).2 ⟨h, by rw [Nat.pow_succ]; omega⟩).symm
theorem pow_lt {k m : Nat} (h : 2 ^ k ≤ m) : k < m := Nat.lt_of_lt_of_le Nat.lt_two_pow_self h
end Go.Proofs.Ytjibchohkeljkaa

/- The laws of layer 10: fixed. -/
-- @D
namespace Go.Proofs.Ytjibchohkeljkaa
set_option maxRecDepth 20000
open Go.Awp Tr
end Go.Proofs.Ytjibchohkeljkaa

/- The laws of layer 10: operations as they are read, cut. -/
-- @D
namespace Go.Proofs.Ytjibchohkeljkaa
set_option maxRecDepth 20000
open Go.Awp Tr
/-- An operation: what kind, of which version, key, value. -/
structure TOp where
  kind : Int
  ver : Int
  key : List UInt8
  val : List UInt8
def opV (o : TOp) : AV := .agg [.int .i64 o.kind, .int .u16 o.ver, .str o.key, .str o.val]
def TOp.ok (o : TOp) : Prop := (0 ≤ o.ver ∧ o.ver ≤ 65535) ∧ o.key.length ≤ Go.Awp.reach ∧ o.val.length ≤ Go.Awp.reach
inductive Ops : AV → List TOp → Prop
  | nils : Ops .nils []
  | ps (l : List TOp) : Ops (.ps (l.map opV)) l
theorem Ops.rd {s : AV} {l : List TOp} (h : Ops s l) (H L : List AObj) : Rd H L (.p s) (l.map opV) := by
  cases h with
  | nils => exact .nils
  | ps => exact .ps _
/-- How many operations are gone through. -/
def stopAt (i : Nat) (o : TOp) : Bool := decide (200 ≤ i) || (decide (200 < o.key.length) || decide (200 < o.val.length))
def cutN : List TOp → Nat → Nat
  | [], i => i
  | o :: r, i => if stopAt i o = true then i else cutN r (i + 1)
end Go.Proofs.Ytjibchohkeljkaa

/- The laws of layer 10: cut. -/
-- @D
namespace Go.Proofs.Ytjibchohkeljkaa
set_option maxRecDepth 20000
open Go.Awp Tr
theorem cutN_step {l : List TOp} {i : Nat} {o : TOp} (h : l[i]? = some o) : cutN (l.drop i) i = if stopAt i o = true then i else cutN (l.drop (i + 1)) (i + 1) := by
  obtain ⟨h2, rfl⟩ := List.getElem?_eq_some_iff.1 h
  rw [List.drop_eq_getElem_cons h2]
  rfl
theorem stop_eq (i : Nat) (o : TOp) : (decide ((i : Int) ≥ 200) || decide ((o.key.length : Int) > 200) || decide ((o.val.length : Int) > 200)) = stopAt i o := by
  unfold stopAt
  rw [Bool.or_assoc]
  congr 1
  · exact decide_eq_decide.2 (by omega)
  · congr 1 <;> exact decide_eq_decide.2 (by omega)
theorem cutN_end {l : List TOp} {i : Nat} (h : l.length ≤ i) : cutN (l.drop i) i = i := by
  rw [List.drop_eq_nil_of_le h]; rfl
theorem cutN_le : ∀ (l : List TOp) (i : Nat), cutN l i ≤ i + l.length
  | [], i => by simp [cutN]
  | o :: r, i => by
    have := cutN_le r (i + 1)
    unfold cutN
    split
    · simp
    · simp only [List.length_cons]; omega
theorem ops_get {l : List TOp} {i : Nat} {x : TOp} (h : l[i]? = some x) : (l.map opV)[i]? = some (opV x) := by simp [h]
structure CI (l : List TOp) where
  i : Nat
  h : i ≤ l.length
  e : cutN (l.drop i) i = cutN l 0
end Go.Proofs.Ytjibchohkeljkaa

/- More rules of the walk. No program is named here. -/
namespace Go.Awp
open Go.RowKit
/-- The remainder by what isn't 0. -/
theorem remA {L : List AObj} {k : IntKind} {a b : Int} {d : TyD} (h : b ≠ 0) : binA L .rem (.p (.int k a)) (.p (.int k b)) d = some (.p (.int k (a.tmod b))) := by
  have e : kEq k k = true := by unfold kEq; rw [decide_eq_true rfl]
  simp only [binA, isShift, e, intA]
  rw [decide_eq_false h]
theorem quoA {L : List AObj} {k : IntKind} {a b : Int} {d : TyD} (h : b ≠ 0) : binA L .quo (.p (.int k a)) (.p (.int k b)) d = some (.p (.int k (k.wrap (a.tdiv b)))) := by
  have e : kEq k k = true := by unfold kEq; rw [decide_eq_true rfl]
  simp only [binA, isShift, e, intA]
  rw [decide_eq_false h]
/-- A whole number as a byte. -/
theorem u8_byte (n : Int) : ∃ b : UInt8, IntKind.u8.wrap n = (b.toNat : Int) := by
  refine ⟨UInt8.ofNat (IntKind.u8.wrap n).toNat, ?_⟩
  have h : 0 ≤ IntKind.u8.wrap n ∧ IntKind.u8.wrap n < 256 := by
    unfold IntKind.wrap
    simp [IntKind.signed, IntKind.bits]
    omega
  simp
  omega
section
variable {Γ : Ctx} {env : Env} {H L : List AObj} {Φ : Act → World → Prop}
/-- A cell of an own variable, read otherwise. -/
theorem J_recell (i k : Nat) {Tb : Nat} {cs : List TV} {x : TV} (y : TV) (hi : L[i]? = some (.box Tb cs)) (hk : cs[k]? = some x) (hxy : ∀ w β G v, RepT w β G x v → RepT w β G y v) (kk : J Γ env H (L.set i (.box Tb (cs.set k y))) Φ) : J Γ env H L Φ := fun a w β s => by
  have hlt : i < L.length := (List.getElem?_eq_some_iff.1 hi).1
  obtain ⟨s1, s2⟩ := upd (w' := w) (G' := ⟨H, L.set i (.box Tb (cs.set k y)), Γ.F⟩) (h := .l i) (o' := .box Tb (cs.set k y)) (b' := β (.l i)) s.sim hi rfl rfl rfl (Nat.le_refl _) (fun _ _ _ => rfl) rfl (.inl rfl) ⟨rfl, by simp, rfl⟩
    (fun q => by
      cases q with
      | o q => simp [Hp.get]
      | l j =>
        simp only [Hp.get, List.getElem?_set, Hd.l.injEq]
        by_cases e : i = j
        · subst e; simp; omega
        · rw [if_neg e, if_neg (fun q => e q.symm)]) rfl s.sim.ext
  have eβ : (fun q => if q = Hd.l i then β (.l i) else β q) = β := by
    funext q
    split
    · rename_i e; rw [e]
    · rfl
  rw [eβ] at s1 s2
  obtain ⟨arr, g1, g2, g3⟩ := s.sim.objs (.l i) _ hi
  refine kk a w β ⟨s2 ⟨arr, g1, by rw [List.length_set]; exact g2, fun j z hj => ?_⟩, s.step.trans s1, s.env.mono s1, s.size, s.defers⟩
  by_cases e : k = j
  · subst e
    have hkl := (List.getElem?_eq_some_iff.1 hk).1
    rw [List.getElem?_set, if_pos rfl, if_pos hkl] at hj
    obtain rfl := Option.some.inj hj
    obtain ⟨v, hv, hr⟩ := g3 k _ hk
    exact ⟨v, hv, hxy _ _ _ _ (hr.mono s1)⟩
  · rw [List.getElem?_set, if_neg e] at hj
    obtain ⟨v, hv, hr⟩ := g3 j z hj
    exact ⟨v, hv, hr.mono s1⟩
end
section
variable {P : Program} {ops : List Oper} {env0 : Env} {Hs Ls : List (List AObj)} {ss : List Nat} {xs : List TV}
theorem T_opH {K : List TV → Prop} {o : Oper} {rest : List Oper} {i k : Nat} {x : TV} {H L : List AObj} (hg : o.guard = none) (hp : posn ss 0 i = none) (hk : loK o ss 0 0 = k) (hk2 : Nat.beq (hiK ops i ss 0 - k) 0 = true) (hH : Hs.getD k [] = H) (hL : Ls.getD k [] = L)
    (h : OpR P o (RdE ops env0 xs o) H L x H L) {xs' : List TV} (hxs : snocD xs x = some xs') (kk : Tele P ops env0 (fun k => Hs.getD k []) Ls ss K rest (i + 1) xs') : Tele P ops env0 (fun k => Hs.getD k []) Ls ss K (o :: rest) i xs :=
  ⟨x, .inl ⟨fun g b hgb => (by rw [hg] at hgb; cases hgb), by
    subst hH hL
    unfold Obl
    rw [hp]
    simp only
    rw [hk, Nat.eq_of_beq_eq_true hk2]
    exact h⟩, by rw [snocN_eq (snocD_eq hxs)]; exact kk⟩
theorem T_op2H {K : List TV → Prop} {o : Oper} {rest : List Oper} {i k : Nat} {x : TV} {H L H2 L2 : List AObj} (hg : o.guard = none) (hp : posn ss 0 i = none) (hk : loK o ss 0 0 = k) (hk2 : Nat.beq (hiK ops i ss 0 - k) 1 = true) (hH : Hs.getD k [] = H) (hL : Ls.getD k [] = L) (hH2 : Hs.getD (k + 1) [] = H2) (hL2 : Ls.getD (k + 1) [] = L2)
    (h : OpR P o (RdE ops env0 xs o) H L x H L) (h2 : OpR P o (RdE ops env0 xs o) H2 L2 x H2 L2) {xs' : List TV} (hxs : snocD xs x = some xs') (kk : Tele P ops env0 (fun k => Hs.getD k []) Ls ss K rest (i + 1) xs') : Tele P ops env0 (fun k => Hs.getD k []) Ls ss K (o :: rest) i xs :=
  ⟨x, .inl ⟨fun g b hgb => (by rw [hg] at hgb; cases hgb), by
    subst hH hL hH2 hL2
    unfold Obl
    rw [hp]
    simp only
    rw [hk, Nat.eq_of_beq_eq_true hk2]
    exact ⟨h, h2⟩⟩, by rw [snocN_eq (snocD_eq hxs)]; exact kk⟩
theorem T_stH {K : List TV → Prop} {o : Oper} {rest : List Oper} {i q : Nat} {x : TV} {H L H' L' : List AObj} (hg : o.guard = none) (hp : posn ss 0 i = some q) (hH : Hs.getD q [] = H) (hL : Ls.getD q [] = L) (hH' : Hs.getD (q + 1) [] = H') (hL' : Ls.getD (q + 1) [] = L')
    (h : OpR P o (RdE ops env0 xs o) H L x H' L') {xs' : List TV} (hxs : snocD xs x = some xs') (kk : Tele P ops env0 (fun k => Hs.getD k []) Ls ss K rest (i + 1) xs') : Tele P ops env0 (fun k => Hs.getD k []) Ls ss K (o :: rest) i xs :=
  ⟨x, .inl ⟨fun g b hgb => (by rw [hg] at hgb; cases hgb), by
    subst hH hL hH' hL'
    unfold Obl
    rw [hp]
    simp only
    exact h⟩, by rw [snocN_eq (snocD_eq hxs)]; exact kk⟩
end
theorem T_gateF {P : Program} {ops : List Oper} {env0 : Env} {Hf : Nat → List AObj} {Ls : List (List AObj)} {ss : List Nat} {xs : List TV} {K : List TV → Prop} {d : Option Nat} {op : Op} {t : TypeId} {pos : String} {af : Array Edge} {rest : List Oper} {i : Nat} (h : Tele P ops env0 Hf Ls ss K ({ dst := d, op := op, type := t, pos := pos, after := af, guard := none } :: rest) i xs) : Tele P ops env0 Hf Ls ss K ({ dst := d, op := op, type := t, pos := pos, after := af, guard := none } :: rest) i xs := h
theorem T_stD {P : Program} {ops : List Oper} {env0 : Env} {H : List AObj} {Ls : List (List AObj)} {ss : List Nat} {xs : List TV} {K : List TV → Prop} {o : Oper} {rest : List Oper} {i q : Nat} {x : TV} {L L' : List AObj} (hg : o.guard = none) (hp : posn ss 0 i = some q) (hL : Ls.getD q [] = L) (hL' : Ls.getD (q + 1) [] = L') (h : OpR P o (RdE ops env0 xs o) H L x H L') {xs' : List TV} (hxs : snocD xs x = some xs') (kk : Tele P ops env0 (fun _ => H) Ls ss K rest (i + 1) xs') : Tele P ops env0 (fun _ => H) Ls ss K (o :: rest) i xs :=
  T_st hg hp hL hL' h (snocD_eq hxs) kk
/-- A drawn region of which one operation writes. -/
theorem J_drawS {P : Program} {Γ : Ctx} {env0 : Env} {H L : List AObj} {Q : Exit → Act → World → Prop} {id : Nat} {ops : List Oper} (n : Nat) (hm : P.follows .mixedOrders = true) (hreg : regOk Γ.N ops [n] = true)
    (h : ∃ L2, Tele P ops env0 (fun _ => H) [L, L2] [n] (fun xs => J Γ (finE ops xs env0) H L2 (Q .normal)) ops 0 []) : J Γ env0 H L ((Code.region id ops.toArray true).wp P Q) :=
  h.elim fun L2 h => J_draw [L, L2] [n] hm hreg rfl h
/-- A drawn region of which one operation writes the caller's objects, a later one own ones. -/
theorem J_drawH2 {P : Program} {Γ : Ctx} {env0 : Env} {H L : List AObj} {Q : Exit → Act → World → Prop} {id : Nat} {ops : List Oper} (n m : Nat) (H2 : List AObj) (hm : P.follows .mixedOrders = true) (hreg : regOk Γ.N ops [n, m] = true)
    (h : ∃ L2, Tele P ops env0 (fun k => [H, H2, H2].getD k []) [L, L, L2] [n, m] (fun xs => J Γ (finE ops xs env0) H2 L2 (Q .normal)) ops 0 []) : J Γ env0 H L ((Code.region id ops.toArray true).wp P Q) :=
  h.elim fun L2 h => J_drawH [H, H2, H2] [L, L, L2] [n, m] hm hreg rfl rfl h
/-- A drawn region that writes own objects. -/
theorem gdW {φ ψ : Prop} (k : ψ) (h : ψ → φ := by
  intro k
  repeat (first
    | with_reducible refine T_nil ?_
    | ((with_reducible refine T_gateG ?_); first | refine T_no rfl rfl rfl rfl ?_ | refine T_yesD rfl rfl rfl rfl rfl rfl (stepN_ok hT rfl) rfl ?_ | refine T_yesD rfl rfl rfl rfl rfl rfl (stepW_ok hT rfl) rfl ?_ | refine T_yesD rfl rfl rfl rfl rfl rfl (stepG_ok hT rfl) rfl ?_ | refine T_yesD rfl rfl rfl rfl rfl rfl (stepA_ok hT rfl) rfl ?_)
    | ((with_reducible refine T_gate ?_); first | refine T_opD rfl rfl rfl rfl rfl (stepN_ok hT rfl) rfl ?_ | refine T_opD rfl rfl rfl rfl rfl (stepW_ok hT rfl) rfl ?_ | refine T_opD rfl rfl rfl rfl rfl (stepG_ok hT rfl) rfl ?_ | refine T_opD rfl rfl rfl rfl rfl (stepA_ok hT rfl) rfl ?_ | refine T_opD rfl rfl rfl rfl rfl (opr_lit0 hT rfl rfl rfl) rfl ?_ | refine T_stD rfl rfl rfl rfl (stepN_ok hT rfl) rfl ?_ | refine T_op2D rfl rfl rfl rfl rfl rfl (stepN_ok hT rfl) (stepN_ok hT rfl) rfl ?_ | refine T_op2D rfl rfl rfl rfl rfl rfl (stepA_ok hT rfl) (stepA_ok hT rfl) rfl ?_))
  exact k) : φ := h k
/-- A drawn region that writes the caller's objects, as far as the environment tells. -/
theorem gdH {φ ψ : Prop} (k : ψ) (h : ψ → φ := by
  intro k
  repeat (first
    | with_reducible refine T_nil ?_
    | ((with_reducible refine T_gateF ?_); first | refine T_opH rfl rfl rfl rfl rfl rfl (stepN_ok hT rfl) rfl ?_ | refine T_opH rfl rfl rfl rfl rfl rfl (stepG_ok hT rfl) rfl ?_ | refine T_opH rfl rfl rfl rfl rfl rfl (stepA_ok hT rfl) rfl ?_ | refine T_opH rfl rfl rfl rfl rfl rfl (opr_lit hT rfl rfl rfl rfl) rfl ?_ | refine T_op2H rfl rfl rfl rfl rfl rfl rfl rfl (stepN_ok hT rfl) (stepN_ok hT rfl) rfl ?_ | refine T_op2H rfl rfl rfl rfl rfl rfl rfl rfl (stepG_ok hT rfl) (stepG_ok hT rfl) rfl ?_ | refine T_op2H rfl rfl rfl rfl rfl rfl rfl rfl (stepA_ok hT rfl) (stepA_ok hT rfl) rfl ?_ | refine T_stH rfl rfl rfl rfl rfl rfl (stepG_ok hT rfl) rfl ?_ | refine T_stH rfl rfl rfl rfl rfl rfl (stepN_ok hT rfl) rfl ?_))
  exact k) : φ := h k
section
variable {P : Program} {T : Tab} {Γ : Ctx} {env : Env} {H L : List AObj} {Q : Exit → Act → World → Prop} {ops : Array Oper} {rest : List Oper} {o : Oper}
/-- An operation of which not all is known beforehand. -/
theorem J_any {ι : Type} {x : ι → TV} (hg : o.guard = none) (hd : dstOk Γ.N o.dst = true) (h : ∀ F w β a, Sim w β ⟨H, L, F⟩ → EnvR w β ⟨H, L, F⟩ env a → ∃ i u, (execOp a.eval o).run P w = .ok (.value u) w ∧ RepT w β ⟨H, L, F⟩ (x i) u)
    (k : ∀ i, J Γ (putE env o.dst (x i)) H L (wpList P ops Q rest)) : J Γ env H L (wpList P ops Q (o :: rest)) := by
  intro a w β s
  obtain ⟨i, u, hr, hx⟩ := h Γ.F w β a s.sim s.env
  unfold wpList
  rw [if_pos (by simp [Region.wanted, hg])]
  refine .inl ?_
  unfold Oper.wp
  rw [hr]
  exact k i _ _ _ (s.next hd s.sim (Step.refl ..) hx)
theorem run_eqSl2 {w : World} {t : TypeId} {e : TypeId} (hu : P.underlying t = some (.slice e)) (a : Option Addr) (n c m k : Nat) : (Op.equal t (.slice a n c) (.slice none m k)).run P w = .ok a.isNone w := by
  have key : ∀ d, (Op.equalIn (d + 1) t (.slice a n c) (.slice none m k)).run P w = .ok a.isNone w := by
    intro d; cases a <;> simp [Op.equalIn, run_underlying hu]
  exact key 9999
theorem eqSl_val {t t2 : TypeId} {e : TypeId} {y z : Operand} {a : Act} {w : World} {ao : Option Addr} {n c : Nat} (hu : P.underlying t = some (.slice e)) (ho : o.op = .binOp .eql t y z t2) (hy : a.eval y = .slice ao n c) (hz : a.eval z = .slice none 0 0) : (execOp a.eval o).run P w = .ok (.value (.bool ao.isNone)) w := by
  simp only [execOp, ho, hy, hz, Sem.run_bind]
  have := run_eqSl2 (P := P) (w := w) hu ao n c 0 0
  have h2 : (Go.binOp .eql t (.slice ao n c) (.slice none 0 0)).run P w = .ok (.bool ao.isNone) w := by rw [bin_eq_sl]; simp [this]
  simp [eqGuard_at_slice, h2]
end
theorem rep_nil_cell (w : World) (β : Hd → Nat) (G : Hp) (v : Value) (h : RepT w β G (.p .nilp) v) : RepT w β G (.p (.cell .nilp)) v := rep_wrap rfl h
/-! ### What a callee gathered -/
theorem nils_ps : AVLe .nils (.ps []) := fun _ _ _ h => by cases h; exact .psE ..
theorem cz_ps : AVLe .cz (.ps []) := fun _ _ _ h => by cases h; exact .psE ..
theorem Con.le {P : Program} {f : FuncId} {args : List TV} {H H' news : List AObj} {x y : AV} (h : Con P f args H (.p x) H' news) (hxy : AVLe x y) : Con P f args H (.p y) H' news :=
  ⟨h.can, fun F w β vs hS hr => (h.run F w β vs hS hr).mono fun _ _ ⟨β', v, he, hS', hst, hv⟩ => ⟨β', v, he, hS', hst, by cases hv with | p hv => exact .p (hxy _ _ _ hv)⟩⟩
/-- As a value that stays. -/
theorem Con.toPs {P : Program} {f : FuncId} {args : List TV} {H H' : List AObj} {e sz : Nat} {d : AV} {acc : List AV} (hd : d = .nils ∨ d = .cz) (h : Con P f args H (accT 0 d acc) H' (accL e sz acc)) : Con P f args H (.p (.ps acc)) H' [] := by
  cases acc with
  | nil => rcases hd with rfl | rfl; exact h.le nils_ps; exact h.le cz_ps
  | cons r rs => exact Con.freeze h rfl
/-- As an array that may have no element yet. -/
theorem Con.toLz {P : Program} {f : FuncId} {args : List TV} {H H' : List AObj} {e sz : Nat} {d : AV} {acc : List AV} (hd : d = .nils ∨ d = .cz) (h0 : 0 < sz) (h : Con P f args H (accT 0 d acc) H' (accL e sz acc)) : Con P f args H (.sl (.l 0) acc.length 0 acc.length) H' [.arr e true sz acc] := by
  cases acc with
  | cons r rs => exact h
  | nil =>
    exact ⟨h.can, fun F w β vs hS hr => (h.run F w β vs hS hr).mono fun ed w' ⟨β', v, he, hS', hst, hv⟩ => by
      obtain ⟨k1, k2⟩ := sim_lazy e h0 hS'
      exact ⟨β', v, he, k1, hst.trans k2, rep_lazy e sz hd hv⟩⟩
/-- What may have no element, read. -/
theorem Rd.own {H L : List AObj} {i : Nat} {Ty : TypeId} {b : Bool} {e n : Nat} {rows : List AV} (hi : L[i]? = some (.arr Ty b e rows)) (hn : rows.length = n) : Rd H L (.sl (.l i) n 0 n) rows := Rd.full hi hn
/-- A slice that surely is, held against nil. -/
theorem opr_slNe {P : Program} {T : Tab} {env : Env} {H L : List AObj} {o : Oper} {t t2 : TypeId} {y z : Operand} {h : Hd} {n e0 e : Nat} {Ty : TypeId} {b : Bool} {rows : List AV} (hT : TabOk P T) (ho : o.op = .binOp .eql t y z t2) (hd : tyD T t = .slice e0) (hy : evA env y = .sl h n 0 n) (hz : evA env z = .p .nils)
    (hg : (⟨H, L, noF⟩ : Hp).get h = some (.arr Ty b e rows)) (hn : rows.length = n) (h0 : 0 < n) : OpR P o env H L (.p (.bool false)) H L :=
  opr_pure fun F w β a hS he => by
    have hv := evA_ok he y
    rw [hy] at hv
    have hw := evA_ok he z
    rw [hz] at hw
    obtain ⟨u, h1, h2⟩ := tyD_und hT (t := t) (by rw [hd]; simp)
    rw [hd] at h2
    obtain rfl := chkD_slice h2
    have hzv : a.eval z = .slice none 0 0 := by
      generalize a.eval z = q at hw
      cases hw with | p hw => cases hw; rfl
    have hg' : (⟨H, L, F⟩ : Hp).get h = some (.arr Ty b e rows) := by cases h <;> exact hg
    generalize hq : a.eval y = q at hv
    cases hv with | sl _ _ _ _ _ _ _ hv =>
    obtain ⟨ao, cap, rfl, _, _, hao⟩ := (hv _ _ _ _ hg' hn).val
    obtain rfl := hao h0
    exact ⟨_, eqSl_val h1 ho hq hzv, .p (.bool ..)⟩
/-- One that may have no element. -/
theorem J_slNil {P : Program} {T : Tab} {Γ : Ctx} {env : Env} {H L : List AObj} {Q : Exit → Act → World → Prop} {ops : Array Oper} {rest : List Oper} {o : Oper} {t t2 : TypeId} {y z : Operand} {h : Hd} {e0 e : Nat} {Ty : TypeId} (hT : TabOk P T) (hgd : o.guard = none) (hdd : dstOk Γ.N o.dst = true) (ho : o.op = .binOp .eql t y z t2) (hd : tyD T t = .slice e0) (hy : evA env y = .sl h 0 0 0) (hz : evA env z = .p .nils)
    (hg : (⟨H, L, noF⟩ : Hp).get h = some (.arr Ty true e [])) (k : ∀ b, J Γ (putE env o.dst (.p (.bool b))) H L (wpList P ops Q rest)) : J Γ env H L (wpList P ops Q (o :: rest)) :=
  J_any (x := fun b => .p (.bool b)) hgd hdd (fun F w β a hS he => by
    have hv := evA_ok he y
    rw [hy] at hv
    have hw := evA_ok he z
    rw [hz] at hw
    obtain ⟨u, h1, h2⟩ := tyD_und hT (t := t) (by rw [hd]; simp)
    rw [hd] at h2
    obtain rfl := chkD_slice h2
    have hzv : a.eval z = .slice none 0 0 := by
      generalize a.eval z = q at hw
      cases hw with | p hw => cases hw; rfl
    have hg' : (⟨H, L, F⟩ : Hp).get h = some (.arr Ty true e []) := by cases h <;> exact hg
    generalize hq : a.eval y = q at hv
    cases hv with | sl _ _ _ _ _ _ _ hv =>
    obtain ⟨ao, rfl⟩ := (hv _ _ _ _ hg' rfl).off rfl rfl
    exact ⟨ao.isNone, _, eqSl_val h1 ho hq hzv, .p (.bool ..)⟩) k
end Go.Awp

/- The laws of layer 10: same. -/
-- @D
namespace Go.Proofs.Ytjibchohkeljkaa
set_option maxRecDepth 20000
open Go.Awp Tr
theorem lget_at {l : List KV} (h : Rises l) {i : Nat} {x : KV} (hx : l[i]? = some x) : lget x.1 l = some x.2 := by
  induction l generalizing i with
  | nil => simp at hx
  | cons a r ih =>
    have hp := List.pairwise_cons.1 h
    unfold lget
    cases i with
    | zero => simp at hx; subst hx; simp
    | succ i =>
      simp at hx
      rw [if_neg (lt_ne (hp.1 x (List.mem_of_getElem? hx)))]
      exact ih hp.2 hx
theorem lrank_at {l : List KV} (h : Rises l) {i : Nat} {x : KV} (hx : l[i]? = some x) : lrank x.1 l = i := by
  induction l generalizing i with
  | nil => simp at hx
  | cons a r ih =>
    have hp := List.pairwise_cons.1 h
    unfold lrank
    cases i with
    | zero =>
      simp at hx; subst hx
      have : (a :: r).filter (fun y => Op.bytesLess y.1 a.1) = [] := by
        rw [List.filter_eq_nil_iff]
        intro y hy
        rcases List.mem_cons.1 hy with rfl | hy
        · exact lt_irrefl _
        · exact lt_asymm (hp.1 y hy)
      rw [this]; rfl
    | succ i =>
      simp at hx
      have hlt : Op.bytesLess a.1 x.1 = true := hp.1 x (List.mem_of_getElem? hx)
      rw [List.filter_cons, if_pos hlt, List.length_cons]
      have := ih hp.2 hx
      unfold lrank at this
      omega
structure MI (l : List KV) where
  i : Nat
  h : i ≤ l.length
end Go.Proofs.Ytjibchohkeljkaa

/- view: what a view is; New, Look, Get, room, Set, Cut. -/
-- @D
namespace Go.Proofs.Ytjibchohkeljkaa
set_option maxRecDepth 20000
open Go.Awp Tr
abbrev Rg := List UInt8 × List UInt8
/-- A view. -/
structure VS where
  base : Tr
  shown : Tr
  writes : Tr
  reads : Tr
  ranges : List Rg
def rgV (r : Rg) : AV := .agg [.str r.1, .str r.2]
abbrev vR (l : List Rg) : AObj := .arr 53 true 2 (l.map rgV)
abbrev vP : TV := .ad (.o 0) 0
def VS.new (t : Tr) : VS := ⟨t, t, .nil, .nil, []⟩
theorem getT_tup (g : Option (List UInt8)) : getT g = .tup [.p (.str (g.getD [])), .p (.bool g.isSome)] := by cases g <;> rfl
/-- Whether a key may be written. -/
def VS.room (s : VS) (k : List UInt8) : Bool := (s.writes.get k).isSome || decide (s.writes.size < 48)
def VS.set (s : VS) (k v : List UInt8) : VS := { s with writes := s.writes.set k (61 :: v), shown := s.shown.set k v }
def VS.cut (s : VS) (k : List UInt8) : VS := { s with writes := if (s.base.get k).isSome = true then s.writes.set k [] else s.writes.cut k, shown := s.shown.cut k }
end Go.Proofs.Ytjibchohkeljkaa

/- view: ranges: slices.Index, slices.Contains, Range. -/
-- @D
namespace Go.Proofs.Ytjibchohkeljkaa
set_option maxRecDepth 20000
open Go.Awp Tr
def idxR : List Rg → Rg → Nat → Int
  | [], _, _ => -1
  | x :: t, r, i => if x = r then (i : Int) else idxR t r (i + 1)
theorem idxR_mem (r : Rg) : ∀ (l : List Rg) (i : Nat), (0 ≤ idxR l r i ↔ r ∈ l) ∧ -1 ≤ idxR l r i
  | [], i => by simp [idxR]
  | x :: t, i => by
    have := idxR_mem r t (i + 1)
    unfold idxR
    split
    · rename_i e
      exact ⟨by simp [e], by omega⟩
    · rename_i e
      refine ⟨?_, this.2⟩
      rw [this.1, List.mem_cons]
      exact ⟨.inr, fun h => h.resolve_left fun h => e h.symm⟩
structure IxR (l : List Rg) (r : Rg) where
  i : Nat
  h : i ≤ l.length
  e : idxR (l.drop i) r i = idxR l r 0
theorem rg_eq (r x : Rg) : (decide (r.1 = x.1) && (decide (r.2 = x.2) && true)) = decide (x = r) := by
  by_cases h : x = r
  · subst h; simp
  · rw [decide_eq_false h]
    have : ¬ (r.1 = x.1 ∧ r.2 = x.2) := fun ⟨h1, h2⟩ => h (Prod.ext h1.symm h2.symm)
    simp only [Bool.and_true, Bool.and_eq_false_iff, decide_eq_false_iff_not]
    exact Decidable.not_and_iff_or_not.1 this
def VS.range (s : VS) (a b : List UInt8) : VS := if Op.bytesLess a b = true then { s with ranges := if (a, b) ∈ s.ranges then s.ranges else s.ranges ++ [(a, b)] } else s
def VS.rangeR (s : VS) (a b : List UInt8) : List KV := if Op.bytesLess a b = true then s.shown.range a b else []
end Go.Proofs.Ytjibchohkeljkaa

/- view: slices.Clone, Ranges, Copy, all, Reads. -/
-- @D
namespace Go.Proofs.Ytjibchohkeljkaa
set_option maxRecDepth 20000
open Go.Awp Tr
theorem rgV_cl (l : List Rg) : clR (l.map rgV) := by
  intro r hr x hx
  obtain ⟨y, _, rfl⟩ := List.mem_map.1 hr
  simp [cellsOf, rgV] at hx
  rcases hx with rfl | rfl <;> rfl
theorem rgV_size (l : List Rg) : ∀ r ∈ l.map rgV, (cellsOf r).length = 2 := by
  intro r hr
  obtain ⟨y, _, rfl⟩ := List.mem_map.1 hr
  rfl
structure Ix (n : Nat) where
  i : Nat
  h : i ≤ n
theorem map_take1 {α β : Type} (f : α → β) {l : List α} {i : Nat} {x : α} (hx : l[i]? = some x) : (l.take i).map f ++ [f x] = (l.take (i + 1)).map f := by
  obtain ⟨h, rfl⟩ := List.getElem?_eq_some_iff.1 hx
  rw [List.take_succ_eq_append_getElem h, List.map_append]
  rfl
theorem kvs_take {l : List KV} {i : Nat} {x : KV} (hx : l[i]? = some x) : kvs (l.take i) ++ [kvV x] = kvs (l.take (i + 1)) := map_take1 kvV hx
def ksV (l : List KV) : List AV := l.map fun x => .str x.1
theorem ks_cl (l : List KV) : clR (ksV l) := by
  intro r hr x hx
  obtain ⟨y, _, rfl⟩ := List.mem_map.1 hr
  simp [cellsOf] at hx
  subst hx; rfl
theorem ks_size (l : List KV) : ∀ r ∈ ksV l, (cellsOf r).length = 1 := by
  intro r hr
  obtain ⟨y, _, rfl⟩ := List.mem_map.1 hr
  rfl
theorem ks_take {l : List KV} {i : Nat} {x : KV} (hx : l[i]? = some x) : ksV (l.take i) ++ [.str x.1] = ksV (l.take (i + 1)) := map_take1 (fun y : KV => AV.str y.1) hx
end Go.Proofs.Ytjibchohkeljkaa

/- view: Writes. -/
-- @D
namespace Go.Proofs.Ytjibchohkeljkaa
set_option maxRecDepth 20000
open Go.Awp Tr
/-- A write, as it is told: the value stands behind a mark; without one the key is gone. -/
def wr (x : KV) : PW := (x.1, x.2.drop 1, x.2 == [])
theorem set_mid {α : Type} (A : List α) (x y : α) (B : List α) (i : Nat) (h : A.length = i) : (A ++ x :: B).set (0 + i) y = A ++ y :: B := by
  subst h
  rw [Nat.zero_add, List.set_append_right _ _ (Nat.le_refl _), Nat.sub_self]
  rfl
theorem get_mid {α : Type} (A : List α) (x : α) (B : List α) (i : Nat) (h : A.length = i) : (A ++ x :: B)[i]? = some x := by
  subst h
  rw [List.getElem?_append_right (Nat.le_refl _), Nat.sub_self]
  rfl
/-- So far as they are told. -/
def wrS (l : List KV) (i : Nat) : List AV := (l.take i).map (fun x => pwV (wr x)) ++ (l.drop i).map kvV
end Go.Proofs.Ytjibchohkeljkaa

/- The laws of layer 14: fixed. -/
-- @D
namespace Go.Proofs.Ytjibchohkeljkaa
set_option maxRecDepth 20000
open Go.Awp Tr
end Go.Proofs.Ytjibchohkeljkaa

/- Rows as they are read; how far a row is gone through. -/
-- @D
namespace Go.Proofs.Ytjibchohkeljkaa
set_option maxRecDepth 20000
open Go.Awp
/-- A slice that stays, of rows. -/
inductive Sl {α : Type} (mk : α → AV) : AV → List α → Prop
  | nils : Sl mk .nils []
  | ps (l : List α) : Sl mk (.ps (l.map mk)) l
theorem Sl.rd {α : Type} {mk : α → AV} {s : AV} {l : List α} (h : Sl mk s l) (H L : List AObj) : Rd H L (.p s) (l.map mk) := by
  cases h with
  | nils => exact .nils
  | ps => exact .ps _
theorem shp_agg {α : Type} (mk : α → AV) (ok : α → Prop) {t e : Nat} {te : TyI} {ls : List Nat} {a : AV} (h : Shp tab 8 t a) (ht : tyD tab t = .slice e) (hte : tlk tab e = some te) (hls : leaves tab 7 e = some ls) (hag : isAggD te.d = some true) (hb : 0 < te.bytes)
    (hrow : ∀ cs, All2 (Shp tab 7) ls cs → ∃ x, AV.agg cs = mk x ∧ ok x) : ∃ l, Sl mk a l ∧ (∀ x ∈ l, ok x) ∧ l.length ≤ 140737488355328 := by
  rcases h.slice ht with rfl | ⟨rows, te', ls', rfl, hte', hls', hlen, hrows⟩
  · exact ⟨[], .nils, by simp, by simp⟩
  · rw [hte] at hte'
    obtain rfl := Option.some.inj hte'
    rw [hls] at hls'
    obtain rfl := Option.some.inj hls'
    have key : ∀ rows : List AV, (∀ r ∈ rows, All2 (Shp tab 7) ls (cellsOf r) ∧ (∀ y, isAggD te.d = some false → cellsOf r = [y] → r = y) ∧ (isAggD te.d = some true → ∃ cs, r = .agg cs)) → ∃ l : List α, rows = l.map mk ∧ ∀ x ∈ l, ok x := by
      intro rows
      induction rows with
      | nil => intro _; exact ⟨[], rfl, by simp⟩
      | cons r rs ih =>
        intro hr
        obtain ⟨l, hl, hok⟩ := ih fun r' h' => hr r' (by simp [h'])
        obtain ⟨h1, _, h2⟩ := hr r (by simp)
        obtain ⟨cs, rfl⟩ := h2 hag
        obtain ⟨x, hx, hxo⟩ := hrow cs h1
        refine ⟨x :: l, by rw [hl, hx]; rfl, fun o ho => ?_⟩
        rcases List.mem_cons.1 ho with rfl | ho
        · exact hxo
        · exact hok o ho
    obtain ⟨l, rfl, hok⟩ := key rows hrows
    refine ⟨l, .ps l, hok, ?_⟩
    unfold Go.Awp.reach at hlen
    have := Nat.le_mul_of_pos_right (l.map mk).length hb
    simp only [List.length_map] at hlen this
    omega
theorem shp_one {α : Type} (mk : α → AV) (ok : α → Prop) {t e : Nat} {te : TyI} {a : AV} (h : Shp tab 8 t a) (ht : tyD tab t = .slice e) (hte : tlk tab e = some te) (hls : leaves tab 7 e = some [e]) (hag : isAggD te.d = some false) (hb : 0 < te.bytes)
    (hrow : ∀ y, Shp tab 7 e y → ∃ x, y = mk x ∧ ok x) : ∃ l, Sl mk a l ∧ (∀ x ∈ l, ok x) ∧ l.length ≤ 140737488355328 := by
  rcases h.slice ht with rfl | ⟨rows, te', ls', rfl, hte', hls', hlen, hrows⟩
  · exact ⟨[], .nils, by simp, by simp⟩
  · rw [hte] at hte'
    obtain rfl := Option.some.inj hte'
    rw [hls] at hls'
    obtain rfl := Option.some.inj hls'
    have key : ∀ rows : List AV, (∀ r ∈ rows, All2 (Shp tab 7) [e] (cellsOf r) ∧ (∀ y, isAggD te.d = some false → cellsOf r = [y] → r = y) ∧ (isAggD te.d = some true → ∃ cs, r = .agg cs)) → ∃ l : List α, rows = l.map mk ∧ ∀ x ∈ l, ok x := by
      intro rows
      induction rows with
      | nil => intro _; exact ⟨[], rfl, by simp⟩
      | cons r rs ih =>
        intro hr
        obtain ⟨l, hl, hok⟩ := ih fun r' h' => hr r' (by simp [h'])
        obtain ⟨h1, h2, _⟩ := hr r (by simp)
        generalize hT7 : Shp tab 7 = S at h1 hrow
        obtain ⟨y, hy, hys⟩ : ∃ y, cellsOf r = [y] ∧ S e y := by
          match cellsOf r, h1 with
          | [y], h1 => exact ⟨y, rfl, h1.1⟩
        obtain rfl := h2 y hag hy
        obtain ⟨x, hx, hxo⟩ := hrow _ hys
        refine ⟨x :: l, by rw [hl, hx]; rfl, fun o ho => ?_⟩
        rcases List.mem_cons.1 ho with rfl | ho
        · exact hxo
        · exact hok o ho
    obtain ⟨l, rfl, hok⟩ := key rows hrows
    refine ⟨l, .ps l, hok, ?_⟩
    unfold Go.Awp.reach at hlen
    have := Nat.le_mul_of_pos_right (l.map mk).length hb
    simp only [List.length_map] at hlen this
    omega
theorem all2_3 {R : Nat → AV → Prop} {a b c : Nat} {cs : List AV} (h : All2 R [a, b, c] cs) : ∃ x y z, cs = [x, y, z] ∧ R a x ∧ R b y ∧ R c z := by
  match cs, h with
  | [x, y, z], h => exact ⟨x, y, z, rfl, h.1, h.2.1, h.2.2.1⟩
theorem all2_2 {R : Nat → AV → Prop} {a b : Nat} {cs : List AV} (h : All2 R [a, b] cs) : ∃ x y, cs = [x, y] ∧ R a x ∧ R b y := by
  match cs, h with
  | [x, y], h => exact ⟨x, y, rfl, h.1, h.2.1⟩
/-! ### How far a row is gone through -/
section
variable {α : Type} (stop : Nat → α → Bool)
def cutG : List α → Nat → Nat
  | [], i => i
  | o :: r, i => if stop i o = true then i else cutG r (i + 1)
theorem cutG_step {l : List α} {i : Nat} {o : α} (h : l[i]? = some o) : cutG stop (l.drop i) i = if stop i o = true then i else cutG stop (l.drop (i + 1)) (i + 1) := by
  obtain ⟨h2, rfl⟩ := List.getElem?_eq_some_iff.1 h
  rw [List.drop_eq_getElem_cons h2]
  rfl
theorem cutG_end {l : List α} {i : Nat} (h : l.length ≤ i) : cutG stop (l.drop i) i = i := by
  rw [List.drop_eq_nil_of_le h]; rfl
theorem cutG_le : ∀ (l : List α) (i : Nat), cutG stop l i ≤ i + l.length
  | [], i => by simp [cutG]
  | o :: r, i => by
    have := cutG_le r (i + 1)
    unfold cutG
    split
    · simp
    · simp only [List.length_cons]; omega
theorem cutG_max {n : Nat} (hn : ∀ i o, n ≤ i → stop i o = true) : ∀ (l : List α) (i : Nat), i ≤ n → cutG stop l i ≤ n
  | [], _, h => h
  | o :: r, i, h => by
    unfold cutG
    split
    · exact h
    · rename_i hs
      refine cutG_max hn r (i + 1) ?_
      rcases Nat.lt_or_ge i n with h1 | h1
      · omega
      · exact absurd (hn i o h1) hs
theorem cutG_all : ∀ (l : List α) (i : Nat), ∀ x ∈ l.take (cutG stop l i - i), ∃ j, stop j x = false
  | [], i, x, h => by simp [cutG] at h
  | o :: r, i, x, h => by
    unfold cutG at h
    split at h
    · simp at h
    · rename_i hs
      have hle : i + 1 ≤ cutG stop r (i + 1) := by
        have : ∀ (l : List α) (i : Nat), i ≤ cutG stop l i := by
          intro l
          induction l with
          | nil => intro i; exact Nat.le_refl _
          | cons a l ih =>
            intro i
            unfold cutG
            split
            · exact Nat.le_refl _
            · have := ih (i + 1); omega
        exact this r (i + 1)
      rw [show cutG stop r (i + 1) - i = (cutG stop r (i + 1) - (i + 1)) + 1 by omega, List.take_succ_cons, List.mem_cons] at h
      rcases h with rfl | h
      · exact ⟨i, by simpa using hs⟩
      · exact cutG_all r (i + 1) x h
structure CG (l : List α) where
  i : Nat
  h : i ≤ l.length
  e : cutG stop (l.drop i) i = cutG stop l 0
end
end Go.Proofs.Ytjibchohkeljkaa

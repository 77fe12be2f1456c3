/- Contracts and plain laws, several texts joined: F16d, F16e, Join, F16f, F16g, CNamesSplit. -/
import Derived.Test.YtjibchohkeljkaaDoorGo
import Derived.Test.YtjibchohkeljkaaDoorM7
import Derived.Shelf.Strings.OnBuilder
/- names: Under; the reference's Same; the laws' example. -/
-- @D
namespace Go.Proofs.YtjibchohkeljkaaDoor
set_option maxRecDepth 20000
open Go.Awp Tr
structure SmQ (a b : List (List UInt8)) where
  i : Nat
  h : i ≤ a.length
  e : a.take i = b.take i
theorem take_snoc {α : Type} {l : List α} {i : Nat} {x : α} (hx : l[i]? = some x) : l.take (i + 1) = l.take i ++ [x] := by
  obtain ⟨h, rfl⟩ := List.getElem?_eq_some_iff.1 hx
  exact List.take_succ_eq_append_getElem h
set_option maxHeartbeats 4000000 in
theorem same16_spec (s1 s2 : AV) (a b : List (List UInt8)) (h1 : ∀ L, Rd [] L (.p s1) (a.map .str)) (h2 : ∀ L, Rd [] L (.p s2) (b.map .str)) (la : a.length ≤ big40) : Con Tryd.prog 12 [.p s1, .p s2] [] (.p (.bool (decide (a = b)))) [] [] := by
  have n1 : (a.map AV.str).length = a.length := by simp
  have n2 : (b.map AV.str).length = b.length := by simp
  unfold big40 at la
  refine con_of Tryd.func12 rfl (by kernel_rfl) rfl fun F w0 β0 => ?_
  refine K_tell rfl ?_
  refine go ?_
  refine K_op rfl rfl (opr_len_rd hT rfl rfl (h1 _)) rfl ?_
  rw [n1]
  refine go ?_
  refine K_op rfl rfl (opr_len_rd hT rfl rfl (h2 _)) rfl ?_
  rw [n2]
  refine go ?_
  by_cases hl : a.length = b.length
  · refine K_condF rfl (by simp [hl]) ?_
    refine go ?_
    refine K_op rfl rfl (opr_len_rd hT rfl rfl (h1 _)) rfl ?_
    rw [n1]
    refine go ?_
    refine J_loop (fun q : SmQ a b => [(0, .p s1), (1, .p s2), (12, .p (.int .i64 (a.length : Int))), (13, .p (.int .i64 (q.i : Int)))]) (fun _ => []) (fun _ => []) (fun q => a.length - q.i) ⟨0, by omega, rfl⟩ ⟨rfl, rfl, rfl, rfl, trivial⟩ rfl rfl (fun q => ?_)
    have hi := q.h
    have he := q.e
    refine go ?_
    by_cases h : q.i < a.length
    · have hx : a[q.i]? = some a[q.i] := List.getElem?_eq_getElem h
      have hy : b[q.i]? = some (b[q.i]'(by omega)) := List.getElem?_eq_getElem _
      have hta := take_snoc hx
      have htb := take_snoc hy
      generalize a[q.i] = x at hx hta
      generalize b[q.i]'(by omega) = y at hy htb
      have hxk := map_get AV.str hx
      have hyk := map_get AV.str hy
      refine K_condT rfl (decide_eq_true (by omega)) ?_
      refine go ?_
      refine J_draw [_] [] (by kernel_rfl) (by kernel_rfl) rfl ?_
      refine gd ?_
      refine T_opD rfl rfl rfl rfl rfl (opr_index hT rfl rfl rfl rfl rfl (h1 _) (by omega) (by rw [n1]; omega)) rfl ?_
      refine T_opD rfl rfl rfl rfl rfl (opr_load_el hT rfl rfl (h1 _) hxk rfl rfl) rfl ?_
      refine gd ?_
      refine T_opD rfl rfl rfl rfl rfl (opr_index hT rfl rfl rfl rfl rfl (h2 _) (by omega) (by rw [n2]; omega)) rfl ?_
      refine T_opD rfl rfl rfl rfl rfl (opr_load_el hT rfl rfl (h2 _) hyk rfl rfl) rfl ?_
      refine gd ?_
      refine go ?_
      by_cases hk : x = y
      · refine K_condF rfl (by simp [hk]) ?_
        refine go ?_
        refine J_again ⟨q.i + 1, by omega, by rw [hta, htb, he, hk]⟩ (by show a.length - (q.i + 1) < a.length - q.i; omega) ⟨rfl, rfl, rfl, congrArg (fun z => TV.p (.int .i64 z)) (by rw [IntWalk.i64_in _ (by omega)]; rfl), trivial⟩ rfl rfl
      · refine K_condT rfl (by simp [hk]) ?_
        refine go ?_
        rw [show decide (a = b) = false from decide_eq_false fun e => by subst e; rw [hx] at hy; exact hk (Option.some.inj hy)]
        exact J_done hT rfl rfl rfl
    · refine K_condF rfl (decide_eq_false (by omega)) ?_
      refine go ?_
      rw [show decide (a = b) = true from decide_eq_true (by rw [List.take_of_length_le (by omega), List.take_of_length_le (by omega)] at he; exact he)]
      exact J_done hT rfl rfl rfl
  · refine K_condT rfl (by simp; omega) ?_
    refine go ?_
    rw [show decide (a = b) = false from decide_eq_false fun e => hl (by rw [e])]
    exact J_done hT rfl rfl rfl
set_option maxHeartbeats 4000000 in
theorem sEqual_spec (s1 s2 : AV) (a b : List (List UInt8)) (h1 : ∀ L, Rd [] L (.p s1) (a.map .str)) (h2 : ∀ L, Rd [] L (.p s2) (b.map .str)) (la : a.length ≤ big40) : Con Tryd.prog 30 [.p s1, .p s2] [] (.p (.bool (decide (a = b)))) [] [] := by
  have n1 : (a.map AV.str).length = a.length := by simp
  have n2 : (b.map AV.str).length = b.length := by simp
  unfold big40 at la
  refine con_of Tryd.func30 rfl (by kernel_rfl) rfl fun F w0 β0 => ?_
  refine K_tell rfl ?_
  refine go ?_
  refine K_op rfl rfl (opr_len_rd hT rfl rfl (h1 _)) rfl ?_
  rw [n1]
  refine go ?_
  refine K_op rfl rfl (opr_len_rd hT rfl rfl (h2 _)) rfl ?_
  rw [n2]
  refine go ?_
  by_cases hl : a.length = b.length
  · refine K_condF rfl (by simp [hl]) ?_
    refine go ?_
    refine K_op rfl rfl (opr_len_rd hT rfl rfl (h1 _)) rfl ?_
    rw [n1]
    refine go ?_
    refine J_loop (fun q : SmQ a b => [(0, .p s1), (1, .p s2), (12, .p (.int .i64 (a.length : Int))), (13, .p (.int .i64 (q.i : Int)))]) (fun _ => []) (fun _ => []) (fun q => a.length - q.i) ⟨0, by omega, rfl⟩ ⟨rfl, rfl, rfl, rfl, trivial⟩ rfl rfl (fun q => ?_)
    have hi := q.h
    have he := q.e
    refine go ?_
    by_cases h : q.i < a.length
    · have hx : a[q.i]? = some a[q.i] := List.getElem?_eq_getElem h
      have hy : b[q.i]? = some (b[q.i]'(by omega)) := List.getElem?_eq_getElem _
      have hta := take_snoc hx
      have htb := take_snoc hy
      generalize a[q.i] = x at hx hta
      generalize b[q.i]'(by omega) = y at hy htb
      have hxk := map_get AV.str hx
      have hyk := map_get AV.str hy
      refine K_condT rfl (decide_eq_true (by omega)) ?_
      refine go ?_
      refine J_draw [_] [] (by kernel_rfl) (by kernel_rfl) rfl ?_
      refine gd ?_
      refine T_opD rfl rfl rfl rfl rfl (opr_index hT rfl rfl rfl rfl rfl (h1 _) (by omega) (by rw [n1]; omega)) rfl ?_
      refine T_opD rfl rfl rfl rfl rfl (opr_load_el hT rfl rfl (h1 _) hxk rfl rfl) rfl ?_
      refine gd ?_
      refine T_opD rfl rfl rfl rfl rfl (opr_index hT rfl rfl rfl rfl rfl (h2 _) (by omega) (by rw [n2]; omega)) rfl ?_
      refine T_opD rfl rfl rfl rfl rfl (opr_load_el hT rfl rfl (h2 _) hyk rfl rfl) rfl ?_
      refine gd ?_
      refine go ?_
      by_cases hk : x = y
      · refine K_condF rfl (by simp [hk]) ?_
        refine go ?_
        refine J_again ⟨q.i + 1, by omega, by rw [hta, htb, he, hk]⟩ (by show a.length - (q.i + 1) < a.length - q.i; omega) ⟨rfl, rfl, rfl, congrArg (fun z => TV.p (.int .i64 z)) (by rw [IntWalk.i64_in _ (by omega)]; rfl), trivial⟩ rfl rfl
      · refine K_condT rfl (by simp [hk]) ?_
        refine go ?_
        rw [show decide (a = b) = false from decide_eq_false fun e => by subst e; rw [hx] at hy; exact hk (Option.some.inj hy)]
        exact J_done hT rfl rfl rfl
    · refine K_condF rfl (decide_eq_false (by omega)) ?_
      refine go ?_
      rw [show decide (a = b) = true from decide_eq_true (by rw [List.take_of_length_le (by omega), List.take_of_length_le (by omega)] at he; exact he)]
      exact J_done hT rfl rfl rfl
  · refine K_condT rfl (by simp; omega) ?_
    refine go ?_
    rw [show decide (a = b) = false from decide_eq_false fun e => hl (by rw [e])]
    exact J_done hT rfl rfl rfl
/-- Do names begin others? -/
def underB (a b : List (List UInt8)) : Bool := decide ((a.length : Int) < (b.length : Int)) && decide (a = b.take a.length)
set_option maxHeartbeats 4000000 in
theorem under_spec (s1 s2 : AV) (a b : List (List UInt8)) (h1 : Sl .str s1 a) (h2 : Sl .str s2 b) (la : a.length ≤ big40) : Con Tryd.prog 9 [.p s1, .p s2] [] (.p (.bool (underB a b))) [] [] := by
  have n1 : (a.map AV.str).length = a.length := by simp
  have n2 : (b.map AV.str).length = b.length := by simp
  unfold underB
  by_cases h : (a.length : Int) < (b.length : Int)
  · rw [decide_eq_true h, Bool.true_and]
    obtain rfl : s2 = .ps (b.map .str) := by
      cases h2 with
      | nils => simp at h; omega
      | ps => rfl
    have c1 := sEqual_spec s1 (.ps ((b.take a.length).map .str)) a (b.take a.length) (fun _ => h1.rd _ _) (fun _ => .ps _) la
    generalize decide (a = b.take a.length) = e at c1
    have hcut : ((b.map AV.str).drop (0 : Int).toNat).take (((a.length : Int)).toNat - (0 : Int).toNat) = (b.take a.length).map .str := by simp
    refine con_of Tryd.func9 rfl (by kernel_rfl) rfl fun F w0 β0 => ?_
    refine K_tell rfl ?_
    refine go ?_
    refine K_op rfl rfl (opr_len_rd hT rfl rfl (h1.rd _ _)) rfl ?_
    rw [n1]
    refine gx ?_
    rw [n2, show decide ((a.length : Int) < (b.length : Int)) = true from decide_eq_true h]
    refine gx ?_
    refine K_yes rfl rfl rfl (opr_len_rd hT rfl rfl (h1.rd _ _)) rfl ?_
    rw [n1]
    refine gx ?_
    refine K_yes rfl rfl rfl (opr_cut (i := 0) (j := (a.length : Int)) hT rfl rfl rfl rfl (.ps _) rfl rfl (by omega) (by omega) (by rw [n2]; omega) (str_size b)) rfl ?_
    rw [hcut]
    refine K_yes rfl rfl rfl (opr_callP rfl rfl (c1) rfl rfl rfl rfl) rfl ?_
    refine go ?_
    exact J_done hT rfl rfl rfl
  · rw [decide_eq_false h, Bool.false_and]
    refine con_of Tryd.func9 rfl (by kernel_rfl) rfl fun F w0 β0 => ?_
    refine K_tell rfl ?_
    refine go ?_
    refine K_op rfl rfl (opr_len_rd hT rfl rfl (h1.rd _ _)) rfl ?_
    rw [n1]
    refine gx ?_
    refine K_op rfl rfl (opr_len_rd hT rfl rfl (h2.rd _ _)) rfl ?_
    rw [n2]
    refine gx ?_
    rw [show decide ((a.length : Int) < (b.length : Int)) = false from decide_eq_false h]
    refine go ?_
    exact J_done hT rfl rfl rfl
theorem fixed16_spec : Con Tryd.prog 8 [] [] (.p (.bool true)) [] [] := by
  have c1 := nsplit_spec [47, 97, 47, 98, 99]
  rw [show splitN [47, 97, 47, 98, 99] = (.ps [.str [97], .str [98, 99]], 0) by kernel_rfl] at c1
  have c2 := same16_spec (.ps [.str [97], .str [98, 99]]) (.ps [.str [97], .str [98, 99]]) [[97], [98, 99]] [[97], [98, 99]] (fun _ => .ps _) (fun _ => .ps _) (by decide)
  rw [decide_eq_true rfl] at c2
  refine con_of Tryd.func8 rfl (by kernel_rfl) rfl fun F w0 β0 => ?_
  refine K_tell rfl ?_
  refine go ?_
  refine K_op rfl rfl (opr_callP rfl rfl (c1) rfl rfl rfl rfl) rfl ?_
  refine go ?_
  refine K_yes rfl rfl rfl (opr_callP rfl rfl (c2) rfl rfl rfl rfl) rfl ?_
  refine go ?_
  exact J_done hT rfl rfl rfl
end Go.Proofs.YtjibchohkeljkaaDoor

/- names: the reference's Split. -/
-- @D
namespace Go.Proofs.YtjibchohkeljkaaDoor
set_option maxRecDepth 20000
open Go.Awp Tr
theorem spl_cut {c : UInt8} (r : List UInt8) : ∀ {p : List UInt8}, p.count c = 0 → spl c (p ++ c :: r) = p :: spl c r
  | [], _ => by simp [spl]
  | b :: p, h => by
    have hb : b ≠ c := fun e => by subst e; simp at h
    rw [List.count_cons, if_neg (by simp [hb])] at h
    rw [List.cons_append]
    conv => lhs; unfold spl
    rw [if_neg hb, spl_cut r (p := p) (by omega)]
/-- What is left to be cut. -/
def rsR (l : List UInt8) (i f : Nat) : List (List UInt8) := if i ≤ l.length then spl 47 (l.drop f) else []
theorem str_cl16 (l : List (List UInt8)) : clR (l.map AV.str) := by
  intro r hr x hx
  obtain ⟨y, _, rfl⟩ := List.mem_map.1 hr
  simp [cellsOf] at hx
  subst hx
  rfl
/-- The loop's next round, its measure told out. -/
theorem J_next {Γ : Ctx} {env : Env} {H L : List AObj} {ι : Type} {ei : ι → Env} {Hi Li : ι → List AObj} {m : ι → Nat} {mi : Nat} (j : ι) (hm : m j < mi) (hs : AllLk env (ei j)) (hH : Hi j = H) (hL : Li j = L) :
    J Γ env H L (fun a w => ∃ j β, m j < mi ∧ St Γ (ei j) (Hi j) (Li j) a w β) := by
  subst hH hL
  exact fun a w β s => ⟨j, β, hm, s.sim, s.step, s.env.sub (sub_of_all hs), s.size, s.defers⟩
structure RSp (l : List UInt8) where
  i : Nat
  f : Nat
  dn : List (List UInt8)
  h1 : 1 ≤ f
  h : f ≤ i
  h2 : i ≤ l.length + 1
  n : ((l.drop f).take (i - f)).count 47 = 0
  e : dn ++ rsR l i f = spl 47 (l.drop 1)
  ok : ∀ x ∈ dn, nameB x = true
def rsplitN (l : List UInt8) : AV × Int :=
  if l = [] ∨ 255 < l.length then (.cz, 17) else if l.headD 0 ≠ 47 then (.cz, 15) else if l = [47] then (.cz, 0)
  else if mayN (spl 47 (l.drop 1)) = true then (.ps ((spl 47 (l.drop 1)).map .str), 0) else (.cz, 17)
theorem mayN_no {p : List (List UInt8)} {x : List UInt8} (h : x ∈ p) (hx : nameB x = false) : mayN p = false := by
  unfold mayN
  rw [show (p.any fun x => !nameB x) = true from List.any_eq_true.2 ⟨x, h, by rw [hx]; rfl⟩]
  simp
theorem mayN_yes {p : List (List UInt8)} (h : ∀ x ∈ p, nameB x = true) : mayN p = decide ((p.length : Int) ≤ 16) := by
  unfold mayN
  rw [show (p.any fun x => !nameB x) = false from List.any_eq_false.2 fun x hx => by rw [h x hx]; simp]
  simp
set_option maxHeartbeats 8000000 in
theorem rsplit16_spec (l : List UInt8) : Con Tryd.prog 11 [.p (.str l)] [] (.tup [.p (rsplitN l).1, .p (.int .i64 (rsplitN l).2)]) [] [] := by
  unfold rsplitN
  by_cases h1 : l = [] ∨ 255 < l.length
  · rw [if_pos h1]
    refine con_of Tryd.func11 rfl (by kernel_rfl) rfl fun F w0 β0 => ?_
    refine K_tell rfl ?_
    refine go ?_
    refine K_condT rfl (by rcases h1 with h | h <;> simp [h] <;> omega) ?_
    refine go ?_
    exact J_done hT rfl rfl rfl
  · rw [if_neg h1]
    have hne : l ≠ [] := fun e => h1 (.inl e)
    have hlp := List.length_pos_iff.2 hne
    have h0 : l[0]? = some (l.headD 0) := by
      cases l with
      | nil => exact absurd rfl hne
      | cons b r => rfl
    by_cases h2 : l.headD 0 ≠ 47
    · rw [if_pos h2]
      refine con_of Tryd.func11 rfl (by kernel_rfl) rfl fun F w0 β0 => ?_
      refine K_tell rfl ?_
      refine go ?_
      refine K_condF rfl (by simp [hne]; omega) ?_
      refine go ?_
      refine K_op rfl rfl (opr_byte hT rfl rfl rfl rfl (by decide) h0) rfl ?_
      refine go ?_
      refine K_condT rfl (by rw [bne_iff_ne]; intro e; exact h2 (UInt8.toNat_inj.1 (by show (l.headD 0).toNat = 47; omega))) ?_
      refine go ?_
      exact J_done hT rfl rfl rfl
    · rw [if_neg h2]
      simp only [ne_eq, Decidable.not_not] at h2
      by_cases h3 : l = [47]
      · subst h3
        rw [if_pos rfl]
        refine con_of Tryd.func11 rfl (by kernel_rfl) rfl fun F w0 β0 => ?_
        refine K_tell rfl ?_
        refine go ?_
        refine K_op rfl rfl (opr_byte hT rfl rfl rfl rfl (by decide) rfl) rfl ?_
        refine go ?_
        exact J_done hT rfl rfl rfl
      · rw [if_neg h3]
        have h4 : l.length ≠ 1 := fun e => h3 (by
          match l, e, h2 with
          | [b], _, h2 => simp at h2; rw [h2])
        refine con_of Tryd.func11 rfl (by kernel_rfl) rfl fun F w0 β0 => ?_
        refine K_tell rfl ?_
        refine go ?_
        refine K_condF rfl (by simp [hne]; omega) ?_
        refine go ?_
        refine K_op rfl rfl (opr_byte hT rfl rfl rfl rfl (by decide) h0) rfl ?_
        rw [h2]
        refine go ?_
        refine K_condF rfl (by simp; omega) ?_
        refine go ?_
        refine J_lazyE 5 9 (e := 1) rfl rfl (.inr rfl) ?_
        refine J_loop (fun q : RSp l => [(0, .p (.str l)), (4, .p .cz), (5, .sl (.l 0) q.dn.length 0 q.dn.length), (6, .p (.int .i64 (q.f : Int))), (7, .p (.int .i64 (q.i : Int)))]) (fun _ => []) (fun q => [.arr 9 true 1 (q.dn.map .str)]) (fun q => l.length + 1 - q.i) ⟨1, 1, [], by omega, by omega, by omega, by simp, by unfold rsR; rw [if_pos (by omega)]; rfl, by simp⟩ ⟨rfl, rfl, rfl, rfl, rfl, trivial⟩ rfl rfl (fun q => ?_)
        obtain ⟨i, f, dn, f1, fi, i2, hn, he, ok⟩ := q
        dsimp only
        have hdn : dn.length ≤ 300 := by
          have := congrArg List.length he
          rw [List.length_append, spl_len] at this
          have h5 := count_le 47 (l.drop 1)
          have h6 : (l.drop 1).length ≤ l.length := by simp
          omega
        refine go ?_
        by_cases hil : i ≤ l.length
        · refine K_condT rfl (decide_eq_true (by omega)) ?_
          unfold rsR at he
          rw [if_pos hil] at he
          have hpart : ((l.drop ((f : Nat) : Int).toNat).take (((i : Nat) : Int).toNat - ((f : Nat) : Int).toNat)) = (l.drop f).take (i - f) := by simp
          have hdrop : l.drop f = (l.drop f).take (i - f) ++ l.drop i := by
            have := List.take_append_drop (i - f) (l.drop f)
            rw [List.drop_drop, show f + (i - f) = i by omega] at this
            exact this.symm
          have hpl : ((l.drop f).take (i - f)).length ≤ 255 := by simp; omega
          have c1 := rname_spec ((l.drop f).take (i - f)) (by omega)
          generalize hp : (l.drop f).take (i - f) = p at hpart hdrop hpl c1 hn
          by_cases hie : i = l.length
          · have hB : spl 47 (l.drop f) = p :: rsR l (i + 1) (i + 1) := by
              rw [hdrop, List.drop_eq_nil_of_le (by omega), List.append_nil, spl_none hn]
              unfold rsR
              rw [if_neg (by omega)]
            refine gx ?_
            rw [show ((i : Int) == (l.length : Int)) = true from by simp [hie]]
            refine go ?_
            refine K_op rfl rfl (opr_cut_str (i := (f : Int)) (j := (i : Int)) hT rfl rfl rfl rfl rfl (by omega) (by omega) (by omega)) rfl ?_
            rw [hpart]
            refine K_op rfl rfl (opr_callP rfl rfl (c1) rfl rfl rfl rfl) rfl ?_
            refine go ?_
            cases hnm : nameB p with
            | false =>
              have hmm : mayN (spl 47 (l.drop 1)) = false := mayN_no (x := p) (by rw [← he, hB]; simp) hnm
              rw [hmm]
              refine go ?_
              refine J_take 0 [(2, .p .cz), (3, .p (.int .i64 17))] ⟨rfl, rfl, trivial⟩ rfl rfl ?_
              exact J_done hT rfl rfl rfl
            | true =>
              refine go ?_
              refine K_op rfl rfl (opr_cut_str (i := (f : Int)) (j := (i : Int)) hT rfl rfl rfl rfl rfl (by omega) (by omega) (by omega)) rfl ?_
              rw [hpart]
              refine go ?_
              refine K_op rfl rfl (opr_app_own hT rfl rfl rfl rfl (by simp) rfl rfl (.rd (.ps _)) hbs_ps (str_cl16 [p]) (str_size [p]) (by decide) (by show (_ + 1) * 16 ≤ _; omega)) rfl ?_
              refine go ?_
              rw [IntWalk.i64_in ((i : Int) + 1) (by omega)]
              refine J_take 1 [(0, .p (.str l)), (4, .p .cz), (5, .sl (.l 0) (dn.length + 1) 0 (dn.length + 1)), (6, .p (.int .i64 ((i : Int) + 1))), (7, .p (.int .i64 ((i : Int) + 1)))] ⟨rfl, rfl, rfl, rfl, rfl, trivial⟩ rfl rfl ?_
              refine J_next ⟨i + 1, i + 1, dn ++ [p], by omega, by omega, by omega, by simp, by rw [List.append_assoc, List.singleton_append, ← hB]; exact he, fun x hx => by rcases List.mem_append.1 hx with hx | hx; exact ok x hx; rw [List.mem_singleton.1 hx]; exact hnm⟩ (by show l.length + 1 - (i + 1) < l.length + 1 - i; omega) ⟨rfl, rfl, by rw [List.length_append]; rfl, rfl, rfl, trivial⟩ rfl (by rw [List.map_append]; rfl)
          · have hx : l[i]? = some (l[i]'(by omega)) := List.getElem?_eq_getElem _
            have hdi : l.drop i = l[i]'(by omega) :: l.drop (i + 1) := List.drop_eq_getElem_cons (by omega)
            have hta : (l.drop f).take (i + 1 - f) = p ++ [l[i]'(by omega)] := by
              rw [← hp, show i + 1 - f = (i - f) + 1 by omega]
              exact take_snoc (by rw [List.getElem?_drop, show f + (i - f) = i by omega]; exact hx)
            generalize l[i]'(by omega) = b at hx hdi hta
            refine gx ?_
            rw [show ((i : Int) == (l.length : Int)) = false from by rw [beq_eq_false_iff_ne]; omega]
            refine gx ?_
            refine K_yes rfl rfl rfl (opr_byte hT rfl rfl rfl rfl (by omega) (by rw [Int.toNat_natCast]; exact hx)) rfl ?_
            refine go ?_
            by_cases hb : b = 47
            · subst hb
              have hB : spl 47 (l.drop f) = p :: rsR l (i + 1) (i + 1) := by
                rw [hdrop, hdi, spl_cut _ hn]
                unfold rsR
                rw [if_pos (by omega)]
              refine K_condT rfl (by simp) ?_
              refine go ?_
              refine K_op rfl rfl (opr_cut_str (i := (f : Int)) (j := (i : Int)) hT rfl rfl rfl rfl rfl (by omega) (by omega) (by omega)) rfl ?_
              rw [hpart]
              refine K_op rfl rfl (opr_callP rfl rfl (c1) rfl rfl rfl rfl) rfl ?_
              refine go ?_
              cases hnm : nameB p with
              | false =>
                have hmm : mayN (spl 47 (l.drop 1)) = false := mayN_no (x := p) (by rw [← he, hB]; simp) hnm
                rw [hmm]
                refine go ?_
                refine J_take 0 [(2, .p .cz), (3, .p (.int .i64 17))] ⟨rfl, rfl, trivial⟩ rfl rfl ?_
                exact J_done hT rfl rfl rfl
              | true =>
                refine go ?_
                refine K_op rfl rfl (opr_cut_str (i := (f : Int)) (j := (i : Int)) hT rfl rfl rfl rfl rfl (by omega) (by omega) (by omega)) rfl ?_
                rw [hpart]
                refine go ?_
                refine K_op rfl rfl (opr_app_own hT rfl rfl rfl rfl (by simp) rfl rfl (.rd (.ps _)) hbs_ps (str_cl16 [p]) (str_size [p]) (by decide) (by show (_ + 1) * 16 ≤ _; omega)) rfl ?_
                refine go ?_
                rw [IntWalk.i64_in ((i : Int) + 1) (by omega)]
                refine J_take 1 [(0, .p (.str l)), (4, .p .cz), (5, .sl (.l 0) (dn.length + 1) 0 (dn.length + 1)), (6, .p (.int .i64 ((i : Int) + 1))), (7, .p (.int .i64 ((i : Int) + 1)))] ⟨rfl, rfl, rfl, rfl, rfl, trivial⟩ rfl rfl ?_
                refine J_next ⟨i + 1, i + 1, dn ++ [p], by omega, by omega, by omega, by simp, by rw [List.append_assoc, List.singleton_append, ← hB]; exact he, fun x hx => by rcases List.mem_append.1 hx with hx | hx; exact ok x hx; rw [List.mem_singleton.1 hx]; exact hnm⟩ (by show l.length + 1 - (i + 1) < l.length + 1 - i; omega) ⟨rfl, rfl, by rw [List.length_append]; rfl, rfl, rfl, trivial⟩ rfl (by rw [List.map_append]; rfl)
            · refine K_condF rfl (by simp; intro q; exact hb (UInt8.toNat_inj.1 (by show b.toNat = 47; omega))) ?_
              refine go ?_
              rw [IntWalk.i64_in ((i : Int) + 1) (by omega)]
              exact fun a' w' β st => ⟨⟨i + 1, f, dn, f1, by omega, by omega, by rw [hta, List.count_append, hn, List.count_cons, if_neg (by simp [hb])]; rfl, by unfold rsR; rw [if_pos (by omega)]; exact he, ok⟩, β, by show l.length + 1 - (i + 1) < l.length + 1 - i; omega, st.sim, st.step, st.env.sub (sub_of_all ⟨rfl, rfl, rfl, rfl, rfl, trivial⟩), st.size, st.defers⟩
        · refine K_condF rfl (decide_eq_false (by omega)) ?_
          have hid : i = l.length + 1 := by omega
          unfold rsR at he
          rw [if_neg hil, List.append_nil] at he
          rw [← he, mayN_yes ok]
          have hml : (dn.map AV.str).length = dn.length := by simp
          by_cases h16 : (dn.length : Int) ≤ 16
          · rw [decide_eq_true h16, if_pos rfl]
            refine go ?_
            refine K_op rfl rfl (opr_len_rd hT rfl rfl (Rd.full rfl hml)) rfl ?_
            rw [hml]
            refine go ?_
            refine K_condF rfl (decide_eq_false (by omega)) ?_
            refine go ?_
            refine J_freeze_all 2 0 rfl rfl hml ?_
            refine J_take 0 [(2, .p (.ps (dn.map .str))), (3, .p (.int .i64 0))] ⟨rfl, rfl, trivial⟩ rfl rfl ?_
            exact J_done hT rfl rfl rfl
          · rw [decide_eq_false h16, if_neg (by simp)]
            refine go ?_
            refine K_op rfl rfl (opr_len_rd hT rfl rfl (Rd.full rfl hml)) rfl ?_
            rw [hml]
            refine go ?_
            refine K_condT rfl (decide_eq_true (by omega)) ?_
            refine go ?_
            refine J_take 0 [(2, .p .cz), (3, .p (.int .i64 17))] ⟨rfl, rfl, trivial⟩ rfl rfl ?_
            exact J_done hT rfl rfl rfl
end Go.Proofs.YtjibchohkeljkaaDoor

/- The shelf's contract of strings.Join, laid at this seat's dump by the kit's own tools (mkjoin.py calls them). -/
namespace Go.Proofs.YtjibchohkeljkaaDoor
open Go.Shelf
def laysJ_ren : Go.Shelf.Ren := ⟨fun | 156 => 34 | 165 => 56 | 166 => 57 | 169 => 58 | 240 => 82 | 241 => 83 | 276 => 93 | 277 => 94 | n => n, fun | 31 => 22 | 9 => 9 | 3 => 3 | 4 => 4 | 0 => 0 | 20 => 20 | 72 => 99 | 76 => 103 | 70 => 97 | 37 => 83 | 75 => 102 | 127 => 126 | 164 => 138 | 5 => 5 | 80 => 105 | n => n, fun | n => n⟩
theorem laysJ : Go.Proofs.Lays.n156 Tryd.prog laysJ_ren := {
  mixed := by kernel_rfl
  f156 := Tryd.func34.trans (congrArg some (by kernel_rfl))
  f165 := Tryd.func56.trans (congrArg some (by kernel_rfl))
  f166 := Tryd.func57.trans (congrArg some (by kernel_rfl))
  f169 := Tryd.func58.trans (congrArg some (by kernel_rfl))
  f240 := Tryd.func82.trans (congrArg some (by kernel_rfl))
  f241 := Tryd.func83.trans (congrArg some (by kernel_rfl))
  f276 := Tryd.func93.trans (congrArg some (by kernel_rfl))
  f277 := Tryd.func94.trans (congrArg some (by kernel_rfl))
  t0 := Tryd.underlying0
  a0 := Tryd.isAgg0
  z0 := Tryd.sizeOf0
  v0 := Tryd.zeroValue0
  t3 := Tryd.underlying3
  a3 := Tryd.isAgg3
  z3 := Tryd.sizeOf3
  v3 := Tryd.zeroValue3
  t4 := Tryd.underlying4
  a4 := Tryd.isAgg4
  z4 := Tryd.sizeOf4
  v4 := Tryd.zeroValue4
  t9 := Tryd.underlying9
  a9 := Tryd.isAgg9
  z9 := Tryd.sizeOf9
  v9 := Tryd.zeroValue9
  t20 := Tryd.underlying20
  a20 := Tryd.isAgg20
  z20 := Tryd.sizeOf20
  v20 := Tryd.zeroValue20
  t31 := Tryd.underlying22
  a31 := Tryd.isAgg22
  z31 := Tryd.sizeOf22
  v31 := Tryd.zeroValue22
  t37 := Tryd.underlying83
  a37 := Tryd.isAgg83
  z37 := Tryd.sizeOf83
  v37 := Tryd.zeroValue83
  t70 := Tryd.underlying97
  a70 := Tryd.isAgg97
  z70 := Tryd.sizeOf97
  v70 := Tryd.zeroValue97
  t72 := Tryd.underlying99
  a72 := Tryd.isAgg99
  z72 := Tryd.sizeOf99
  v72 := Tryd.zeroValue99
  t75 := Tryd.underlying102
  a75 := Tryd.isAgg102
  z75 := Tryd.sizeOf102
  v75 := Tryd.zeroValue102
  t76 := Tryd.underlying103
  a76 := Tryd.isAgg103
  z76 := Tryd.sizeOf103
  v76 := Tryd.zeroValue103
  t127 := Tryd.underlying126
  a127 := Tryd.isAgg126
  z127 := Tryd.sizeOf126
  v127 := Tryd.zeroValue126
  t164 := Tryd.underlying138
  a164 := Tryd.isAgg138
  z164 := Tryd.sizeOf138
  v164 := Tryd.zeroValue138 }
theorem extraJ : Builder.Extra Tryd.prog laysJ_ren := {
  sizeBuilder := by kernel_rfl
  liesBuilder := by kernel_rfl
  t5 := Tryd.underlying5
  a5 := Tryd.isAgg5
  z5 := Tryd.sizeOf5
  v5 := Tryd.zeroValue5
  infoByte := by kernel_rfl
  cellsByte := by kernel_rfl
  sizeByte := by kernel_rfl
  neB5 := by decide }
open Go.RowKit in
theorem sJoin_none (a : Option Addr) (c : Nat) (sep : ByteArray) (w : World) :
    Calls Tryd.prog 34 #[.slice a 0 c, .string sep] w fun e w' => e = .returned (.string ⟨#[]⟩) ∧ w' = w := Any.strings_Join_none laysJ extraJ a c sep w
open Go.RowKit in
theorem sJoin (bk o c : Nat) (xs : List ByteArray) (sep : ByteArray) (w : World) (hcells : ∀ (j : Nat) x, xs[j]? = some x → w.cell? ⟨bk, o + j, none⟩ = some (.string x)) (hbk : bk < w.heap.size) (hN : xs.length ≤ 140737488355328) (hcap : xs.length ≤ c) (hlen : (Lib.join (xs.map (·.data.toList)) sep.data.toList).length ≤ 140737488355328) :
    Calls Tryd.prog 34 #[.slice (some ⟨bk, o, none⟩) xs.length c, .string sep] w fun e w' => e = .returned (.string ⟨(Lib.join (xs.map (·.data.toList)) sep.data.toList).toArray⟩) ∧ Below w.heap.size w w' := Any.strings_Join laysJ extraJ bk o c xs sep w hcells hbk hN hcap hlen
end Go.Proofs.YtjibchohkeljkaaDoor

/- names: strings.Join, by the shelf's contract. -/
-- @D
namespace Go.Proofs.YtjibchohkeljkaaDoor
set_option maxRecDepth 20000
open Go.Awp Go.RowKit Tr
/-- A contract of the kit's that leaves the world's old part as it was. -/
theorem con_below {P : Program} {f : FuncId} {args : List TV} {x : AV} (hx : ∀ w N v, RepA w N x v → ∀ w' N', RepA w' N' x v) (can : callable P f = true)
    (h : ∀ (F : Nat → Prop) (w : World) (β : Hd → Nat) (vs : List Value), RepL w β ⟨[], [], F⟩ args vs → Calls P f vs.toArray w fun e w' => ∃ v, e = .returned v ∧ Below w.heap.size w w' ∧ RepA w (Free β ⟨[], [], F⟩) x v) : Con P f args [] (.p x) [] [] :=
  ⟨can, fun F w β vs hS hr => (h F w β vs hr).mono fun e w' ⟨v, he, hb, hv⟩ => ⟨β, v, he,
    ⟨fun k o ho => (by cases k <;> simp [Hp.get] at ho), fun k j hk => (by obtain ⟨o, ho, _⟩ := hk; cases k <;> simp [Hp.get] at ho), fun o ho => (by simp at ho), fun k hk => (by obtain ⟨o, ho, _⟩ := hk; cases k <;> simp [Hp.get] at ho), fun b hb' => Nat.lt_of_lt_of_le (hS.flt b hb') hb.size⟩,
    ⟨hb.os, hb.tape, hb.output, hb.size, fun b hlt hf => ⟨hb.block b hlt, hf⟩, fun b hF => hb.block b (hS.flt b hF), rfl, fun k o ho => (by cases k <;> simp [Hp.get] at ho)⟩, .p (hx _ _ _ hv _ _)⟩⟩
theorem join_spec {s : AV} {l : List (List UInt8)} (hs : Sl .str s l) (hl : l.length ≤ 140737488355328) (hj : (Lib.join l [47]).length ≤ 140737488355328) : Con Tryd.prog 34 [.p s, .p (.str [47])] [] (.p (.str (Lib.join l [47]))) [] [] := by
  refine con_below (fun w N v h w' N' => by cases h; exact .str _) (by kernel_rfl) fun F w β vs hr => ?_
  obtain ⟨hlen, hr⟩ := hr
  match vs, hlen with
  | [v1, v2], _ =>
    have h1 := hr 0 _ v1 rfl rfl
    have h2 := hr 1 _ v2 rfl rfl
    cases h2 with | p h2 =>
    cases h2
    cases h1 with | p h1 =>
    cases hs with
    | nils =>
      cases h1
      exact (sJoin_none _ _ _ w).mono fun e w' ⟨he, hw⟩ => ⟨_, he, hw ▸ Below.refl _ _, by simpa [Lib.join] using RepA.str []⟩
    | ps =>
      generalize hq : l.map AV.str = rows at h1
      cases h1 with
      | psE ao c =>
        have : l = [] := List.map_eq_nil_iff.1 hq
        subst this
        exact (sJoin_none _ _ _ w).mono fun e w' ⟨he, hw⟩ => ⟨_, he, hw ▸ Below.refl _ _, by simpa [Lib.join] using RepA.str []⟩
      | ps _ a c e vs hN hb he hc hrr hcl =>
        by_cases h0 : l = []
        · subst h0
          obtain rfl : rows = [] := hq.symm
          exact (sJoin_none _ _ _ w).mono fun e w' ⟨he, hw⟩ => ⟨_, he, hw ▸ Below.refl _ _, by simpa [Lib.join] using RepA.str []⟩
        · have hlr : rows.length = l.length := by rw [← hq]; simp
          have hlp := List.length_pos_iff.2 h0
          have hrow : ∀ (k : Nat) (x : List UInt8), l[k]? = some x → rows[k]? = some (.str x) := fun k x hx => by rw [← hq, List.getElem?_map, hx]; rfl
          obtain ⟨x0, hx0⟩ : ∃ x0, l[0]? = some x0 := ⟨l[0], List.getElem?_eq_getElem hlp⟩
          obtain rfl : 1 = e := he (.str x0) (List.mem_of_getElem? (hrow 0 x0 hx0))
          have h00 := hc 0 0 (by omega) (by omega)
          obtain ⟨bk, o, sp⟩ := a
          have hsp : sp = none := by
            simp only [Nat.zero_mul, Nat.add_zero, Addr.add, if_true] at h00
            unfold World.cell? at h00
            split at h00
            · split at h00
              · cases h00
              · rename_i h; simpa using h
            · cases h00
          subst hsp
          have hcell : ∀ (k : Nat) (x : List UInt8), l[k]? = some x → w.cell? ⟨bk, o + k, none⟩ = some (.string ⟨x.toArray⟩) := fun k x hx => by
            have hk := (List.getElem?_eq_some_iff.1 hx).1
            have h1 := hc k 0 (by omega) (by omega)
            have h2 := hrr k 0 (.str x) (.str x) (hrow k x hx) rfl
            have e1 : (⟨bk, o, none⟩ : Addr).add (k * 1 + 0) = ⟨bk, o + k, none⟩ := by
              unfold Addr.add
              split
              · rename_i h; rw [show k = 0 by omega]; rfl
              · simp
            rw [e1] at h1
            rw [h1]
            generalize vs k 0 = u at h2
            cases h2
            rfl
          have hcall := sJoin bk o c (l.map fun x => ⟨x.toArray⟩) ⟨#[47]⟩ w (fun k x hx => by
            rw [List.getElem?_map] at hx
            cases hy : l[k]? with
            | none => rw [hy] at hx; cases hx
            | some y => rw [hy] at hx; obtain rfl := Option.some.inj hx; exact hcell k y hy) hb (by simpa using hl) (by simp; omega) (by simpa [List.map_map, Function.comp_def] using hj)
          rw [List.length_map, ← hlr] at hcall
          refine hcall.mono fun e w' ⟨he, hw⟩ => ⟨_, he, hw, ?_⟩
          simpa [List.map_map, Function.comp_def] using RepA.str (Lib.join l [47])
end Go.Proofs.YtjibchohkeljkaaDoor

/- names: Join. -/
-- @D
namespace Go.Proofs.YtjibchohkeljkaaDoor
set_option maxRecDepth 20000
open Go.Awp Tr
theorem join_spl (c : UInt8) : ∀ l : List UInt8, Lib.join (spl c l) [c] = l
  | [] => rfl
  | b :: l => by
    have ih := join_spl c l
    have hne := spl_ne c l
    unfold spl
    by_cases h : b = c
    · rw [if_pos h]
      cases hs : spl c l with
      | nil => exact absurd hs hne
      | cons x r => rw [hs] at ih; rw [h]; simpa [Lib.join] using ih
    · rw [if_neg h]
      cases hs : spl c l with
      | nil => exact absurd hs hne
      | cons x r =>
        rw [hs] at ih
        cases r with
        | nil => simpa [Lib.join] using ih
        | cons y r => simpa [Lib.join] using ih
def joinN (l : List (List UInt8)) : List UInt8 × Int := if (!mayN l || decide (((47 :: Lib.join l [47]).length : Int) > 255)) = true then ([], 17) else (47 :: Lib.join l [47], 0)
theorem njoin_spec {s : AV} {l : List (List UInt8)} (hs : Sl .str s l) (hl : l.length ≤ big40) (hj : (Lib.join l [47]).length ≤ 100000) : Con Tryd.prog 13 [.p s] [] (.tup [.p (.str (joinN l).1), .p (.int .i64 (joinN l).2)]) [] [] := by
  unfold joinN
  have c1 := join_spec hs (by unfold big40 at hl; omega) (by omega)
  have c2 := may16_spec s l (fun _ => hs.rd _ _) hl
  generalize Lib.join l [47] = j at c1 hj
  generalize mayN l = m at c2
  refine con_of Tryd.func13 rfl (by kernel_rfl) rfl fun F w0 β0 => ?_
  refine K_tell rfl ?_
  refine go ?_
  refine K_op rfl rfl (opr_callP rfl rfl (c1) rfl rfl rfl rfl) rfl ?_
  refine go ?_
  refine K_op rfl rfl (opr_cat (l := [47]) rfl rfl rfl (by simp; omega)) rfl ?_
  refine go ?_
  refine K_op rfl rfl (opr_callP rfl rfl (c2) rfl rfl rfl rfl) rfl ?_
  refine go ?_
  by_cases h : (!m || decide (((47 :: j).length : Int) > 255)) = true
  · rw [if_pos h]
    refine K_condT rfl h ?_
    refine go ?_
    exact J_done hT rfl rfl rfl
  · rw [if_neg h]
    refine K_condF rfl (by simpa using h) ?_
    refine go ?_
    exact J_done hT rfl rfl rfl
end Go.Proofs.YtjibchohkeljkaaDoor

/- The law NamesSplit: its contract. -/
-- @D
namespace Go.Proofs.YtjibchohkeljkaaDoor
set_option maxRecDepth 20000
open Go.Awp Tr
theorem head_cons {l : List UInt8} (hne : l ≠ []) (h : l.headD 0 = 47) : 47 :: l.drop 1 = l := by
  cases l with
  | nil => exact absurd rfl hne
  | cons b r => simp at h; rw [h]; rfl
/-- What both splits tell. -/
theorem split_both (l : List UInt8) : ∃ (sv rv : AV) (p : List (List UInt8)) (e : Int), splitN l = (sv, e) ∧ rsplitN l = (rv, e) ∧ Sl .str sv p ∧ (∀ L, Rd [] L (.p rv) (p.map .str)) ∧ p.length ≤ 1000 ∧ (e = 0 → joinN p = (l, 0) ∧ (Lib.join p [47]).length ≤ 1000) := by
  unfold splitN rsplitN
  by_cases h1 : l = [] ∨ 255 < l.length
  · rw [if_pos h1, if_pos h1]
    exact ⟨_, _, [], 17, rfl, rfl, .nils, fun _ => .cz, by simp, fun h => by cases h⟩
  rw [if_neg h1, if_neg h1]
  by_cases h2 : l.headD 0 ≠ 47
  · rw [if_pos h2, if_pos h2]
    exact ⟨_, _, [], 15, rfl, rfl, .nils, fun _ => .cz, by simp, fun h => by cases h⟩
  rw [if_neg h2, if_neg h2]
  simp only [ne_eq, Decidable.not_not] at h2
  by_cases h3 : l = [47]
  · rw [if_pos h3, if_pos h3]
    subst h3
    exact ⟨_, _, [], 0, rfl, rfl, .nils, fun _ => .cz, by simp, fun _ => ⟨by rfl, by decide⟩⟩
  rw [if_neg h3, if_neg h3]
  have hbd : (spl 47 (l.drop 1)).length ≤ 1000 := by
    rw [spl_len]
    have h5 := count_le 47 (l.drop 1)
    have h6 : (l.drop 1).length ≤ l.length := by simp
    omega
  by_cases hm : mayN (spl 47 (l.drop 1)) = true
  · rw [if_pos hm, if_pos hm]
    refine ⟨_, _, spl 47 (l.drop 1), 0, rfl, rfl, .ps _, fun _ => .ps _, hbd, fun _ => ?_⟩
    have hh := head_cons (fun e => h1 (.inl e)) h2
    unfold joinN
    rw [join_spl, hh, hm]
    refine ⟨?_, by simp; omega⟩
    rw [if_neg (by simp; omega)]
  · rw [if_neg hm, if_neg hm]
    exact ⟨_, _, [], 17, rfl, rfl, .nils, fun _ => .cz, by simp, fun h => by cases h⟩
namespace namesSplit
set_option maxHeartbeats 8000000 in
theorem con {a0 : AV} (s0 : Shp tab 8 9 a0) : Con Tryd.prog 4 [.p a0] [] (.p (.bool true)) [] [] := by
  obtain ⟨l, rfl, hl⟩ := s0.str rfl
  have c1 := nsplit_spec l
  have c2 := rsplit16_spec l
  obtain ⟨sv, rv, p, e, e1, e2, hsv, hrv, hp, hj⟩ := split_both l
  rw [e1] at c1
  rw [e2] at c2
  have c3 := same16_spec sv rv p p (fun _ => hsv.rd _ _) hrv (by unfold big40; omega)
  rw [decide_eq_true rfl] at c3
  refine con_of Tryd.func4 rfl (by kernel_rfl) rfl fun F w0 β0 => ?_
  refine K_tell rfl ?_
  refine go ?_
  refine J_cond rfl (fun hc => ?_) (fun hc => ?_)
  · refine go ?_
    refine K_op rfl rfl (opr_callP rfl rfl (fixed16_spec) rfl rfl rfl rfl) rfl ?_
    refine go ?_
    exact J_done hT rfl rfl rfl
  refine go ?_
  refine K_op rfl rfl (opr_callP rfl rfl (c1) rfl rfl rfl rfl) rfl ?_
  refine go ?_
  refine K_op rfl rfl (opr_callP rfl rfl (c2) rfl rfl rfl rfl) rfl ?_
  refine go ?_
  refine K_op rfl rfl (opr_callP rfl rfl (fixed16_spec) rfl rfl rfl rfl) rfl ?_
  refine go ?_
  refine K_yes rfl rfl rfl (opr_callP rfl rfl (c3) rfl rfl rfl rfl) rfl ?_
  refine gx ?_
  rw [show (e != e) = false from by simp]
  refine go ?_
  by_cases he : e = 0
  · obtain ⟨hj1, hj2⟩ := hj he
    have c4 := njoin_spec hsv (by unfold big40; omega) (by omega)
    rw [hj1] at c4
    refine K_condF rfl (by simp [he]) ?_
    refine go ?_
    refine K_op rfl rfl (opr_callP rfl rfl (c4) rfl rfl rfl rfl) rfl ?_
    refine gx ?_
    rw [show (l == l) = true from beq_self_eq_true _]
    refine go ?_
    exact J_done hT rfl rfl rfl
  · refine K_condT rfl (by simp [he]) ?_
    refine go ?_
    exact J_done hT rfl rfl rfl
end namesSplit
end Go.Proofs.YtjibchohkeljkaaDoor

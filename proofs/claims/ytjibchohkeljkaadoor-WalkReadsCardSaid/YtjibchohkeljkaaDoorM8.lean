/- Contracts and plain laws, several texts joined: F16d, F16e, Go4, F17. -/
import Derived.Test.YtjibchohkeljkaaDoorGo
import Derived.Test.YtjibchohkeljkaaDoorM7
import Derived.Test.YtjibchohkeljkaaDoorM5
import Derived.Test.YtjibchohkeljkaaDoorM6
import Derived.Test.YtjibchohkeljkaaDoorM2
import Derived.Test.YtjibchohkeljkaaDoorM4
/- names: Under; the reference's Same; the laws' example. -/
-- @D
namespace Go.Proofs.YtjibchohkeljkaaDoor
set_option maxRecDepth 20000
open Go.Awp Tr
structure SmQ (a b : List (List UInt8)) where
  i : Nat
  h : i ≤ a.length
  e : a.take i = b.take i
theorem take_snoc {α : Type} {l : List α} {i : Nat} {x : α} (hx : l[i]? = some x) : l.take (i + 1) = l.take i ++ [x] := by
  obtain ⟨h, rfl⟩ := List.getElem?_eq_some_iff.1 hx
  exact List.take_succ_eq_append_getElem h
set_option maxHeartbeats 4000000 in
theorem same16_spec (s1 s2 : AV) (a b : List (List UInt8)) (h1 : ∀ L, Rd [] L (.p s1) (a.map .str)) (h2 : ∀ L, Rd [] L (.p s2) (b.map .str)) (la : a.length ≤ big40) : Con Tryd.prog 12 [.p s1, .p s2] [] (.p (.bool (decide (a = b)))) [] [] := by
  have n1 : (a.map AV.str).length = a.length := by simp
  have n2 : (b.map AV.str).length = b.length := by simp
  unfold big40 at la
  refine con_of Tryd.func12 rfl (by kernel_rfl) rfl fun F w0 β0 => ?_
  refine K_tell rfl ?_
  refine go ?_
  refine K_op rfl rfl (opr_len_rd hT rfl rfl (h1 _)) rfl ?_
  rw [n1]
  refine go ?_
  refine K_op rfl rfl (opr_len_rd hT rfl rfl (h2 _)) rfl ?_
  rw [n2]
  refine go ?_
  by_cases hl : a.length = b.length
  · refine K_condF rfl (by simp [hl]) ?_
    refine go ?_
    refine K_op rfl rfl (opr_len_rd hT rfl rfl (h1 _)) rfl ?_
    rw [n1]
    refine go ?_
    refine J_loop (fun q : SmQ a b => [(0, .p s1), (1, .p s2), (12, .p (.int .i64 (a.length : Int))), (13, .p (.int .i64 (q.i : Int)))]) (fun _ => []) (fun _ => []) (fun q => a.length - q.i) ⟨0, by omega, rfl⟩ ⟨rfl, rfl, rfl, rfl, trivial⟩ rfl rfl (fun q => ?_)
    have hi := q.h
    have he := q.e
    refine go ?_
    by_cases h : q.i < a.length
    · have hx : a[q.i]? = some a[q.i] := List.getElem?_eq_getElem h
      have hy : b[q.i]? = some (b[q.i]'(by omega)) := List.getElem?_eq_getElem _
      have hta := take_snoc hx
      have htb := take_snoc hy
      generalize a[q.i] = x at hx hta
      generalize b[q.i]'(by omega) = y at hy htb
      have hxk := map_get AV.str hx
      have hyk := map_get AV.str hy
      refine K_condT rfl (decide_eq_true (by omega)) ?_
      refine go ?_
      refine J_draw [_] [] (by kernel_rfl) (by kernel_rfl) rfl ?_
      refine gd ?_
      refine T_opD rfl rfl rfl rfl rfl (opr_index hT rfl rfl rfl rfl rfl (h1 _) (by omega) (by rw [n1]; omega)) rfl ?_
      refine T_opD rfl rfl rfl rfl rfl (opr_load_el hT rfl rfl (h1 _) hxk rfl rfl) rfl ?_
      refine gd ?_
      refine T_opD rfl rfl rfl rfl rfl (opr_index hT rfl rfl rfl rfl rfl (h2 _) (by omega) (by rw [n2]; omega)) rfl ?_
      refine T_opD rfl rfl rfl rfl rfl (opr_load_el hT rfl rfl (h2 _) hyk rfl rfl) rfl ?_
      refine gd ?_
      refine go ?_
      by_cases hk : x = y
      · refine K_condF rfl (by simp [hk]) ?_
        refine go ?_
        refine J_again ⟨q.i + 1, by omega, by rw [hta, htb, he, hk]⟩ (by show a.length - (q.i + 1) < a.length - q.i; omega) ⟨rfl, rfl, rfl, congrArg (fun z => TV.p (.int .i64 z)) (by rw [IntWalk.i64_in _ (by omega)]; rfl), trivial⟩ rfl rfl
      · refine K_condT rfl (by simp [hk]) ?_
        refine go ?_
        rw [show decide (a = b) = false from decide_eq_false fun e => by subst e; rw [hx] at hy; exact hk (Option.some.inj hy)]
        exact J_done hT rfl rfl rfl
    · refine K_condF rfl (decide_eq_false (by omega)) ?_
      refine go ?_
      rw [show decide (a = b) = true from decide_eq_true (by rw [List.take_of_length_le (by omega), List.take_of_length_le (by omega)] at he; exact he)]
      exact J_done hT rfl rfl rfl
  · refine K_condT rfl (by simp; omega) ?_
    refine go ?_
    rw [show decide (a = b) = false from decide_eq_false fun e => hl (by rw [e])]
    exact J_done hT rfl rfl rfl
set_option maxHeartbeats 4000000 in
theorem sEqual_spec (s1 s2 : AV) (a b : List (List UInt8)) (h1 : ∀ L, Rd [] L (.p s1) (a.map .str)) (h2 : ∀ L, Rd [] L (.p s2) (b.map .str)) (la : a.length ≤ big40) : Con Tryd.prog 30 [.p s1, .p s2] [] (.p (.bool (decide (a = b)))) [] [] := by
  have n1 : (a.map AV.str).length = a.length := by simp
  have n2 : (b.map AV.str).length = b.length := by simp
  unfold big40 at la
  refine con_of Tryd.func30 rfl (by kernel_rfl) rfl fun F w0 β0 => ?_
  refine K_tell rfl ?_
  refine go ?_
  refine K_op rfl rfl (opr_len_rd hT rfl rfl (h1 _)) rfl ?_
  rw [n1]
  refine go ?_
  refine K_op rfl rfl (opr_len_rd hT rfl rfl (h2 _)) rfl ?_
  rw [n2]
  refine go ?_
  by_cases hl : a.length = b.length
  · refine K_condF rfl (by simp [hl]) ?_
    refine go ?_
    refine K_op rfl rfl (opr_len_rd hT rfl rfl (h1 _)) rfl ?_
    rw [n1]
    refine go ?_
    refine J_loop (fun q : SmQ a b => [(0, .p s1), (1, .p s2), (12, .p (.int .i64 (a.length : Int))), (13, .p (.int .i64 (q.i : Int)))]) (fun _ => []) (fun _ => []) (fun q => a.length - q.i) ⟨0, by omega, rfl⟩ ⟨rfl, rfl, rfl, rfl, trivial⟩ rfl rfl (fun q => ?_)
    have hi := q.h
    have he := q.e
    refine go ?_
    by_cases h : q.i < a.length
    · have hx : a[q.i]? = some a[q.i] := List.getElem?_eq_getElem h
      have hy : b[q.i]? = some (b[q.i]'(by omega)) := List.getElem?_eq_getElem _
      have hta := take_snoc hx
      have htb := take_snoc hy
      generalize a[q.i] = x at hx hta
      generalize b[q.i]'(by omega) = y at hy htb
      have hxk := map_get AV.str hx
      have hyk := map_get AV.str hy
      refine K_condT rfl (decide_eq_true (by omega)) ?_
      refine go ?_
      refine J_draw [_] [] (by kernel_rfl) (by kernel_rfl) rfl ?_
      refine gd ?_
      refine T_opD rfl rfl rfl rfl rfl (opr_index hT rfl rfl rfl rfl rfl (h1 _) (by omega) (by rw [n1]; omega)) rfl ?_
      refine T_opD rfl rfl rfl rfl rfl (opr_load_el hT rfl rfl (h1 _) hxk rfl rfl) rfl ?_
      refine gd ?_
      refine T_opD rfl rfl rfl rfl rfl (opr_index hT rfl rfl rfl rfl rfl (h2 _) (by omega) (by rw [n2]; omega)) rfl ?_
      refine T_opD rfl rfl rfl rfl rfl (opr_load_el hT rfl rfl (h2 _) hyk rfl rfl) rfl ?_
      refine gd ?_
      refine go ?_
      by_cases hk : x = y
      · refine K_condF rfl (by simp [hk]) ?_
        refine go ?_
        refine J_again ⟨q.i + 1, by omega, by rw [hta, htb, he, hk]⟩ (by show a.length - (q.i + 1) < a.length - q.i; omega) ⟨rfl, rfl, rfl, congrArg (fun z => TV.p (.int .i64 z)) (by rw [IntWalk.i64_in _ (by omega)]; rfl), trivial⟩ rfl rfl
      · refine K_condT rfl (by simp [hk]) ?_
        refine go ?_
        rw [show decide (a = b) = false from decide_eq_false fun e => by subst e; rw [hx] at hy; exact hk (Option.some.inj hy)]
        exact J_done hT rfl rfl rfl
    · refine K_condF rfl (decide_eq_false (by omega)) ?_
      refine go ?_
      rw [show decide (a = b) = true from decide_eq_true (by rw [List.take_of_length_le (by omega), List.take_of_length_le (by omega)] at he; exact he)]
      exact J_done hT rfl rfl rfl
  · refine K_condT rfl (by simp; omega) ?_
    refine go ?_
    rw [show decide (a = b) = false from decide_eq_false fun e => hl (by rw [e])]
    exact J_done hT rfl rfl rfl
/-- Do names begin others? -/
def underB (a b : List (List UInt8)) : Bool := decide ((a.length : Int) < (b.length : Int)) && decide (a = b.take a.length)
set_option maxHeartbeats 4000000 in
theorem under_spec (s1 s2 : AV) (a b : List (List UInt8)) (h1 : Sl .str s1 a) (h2 : Sl .str s2 b) (la : a.length ≤ big40) : Con Tryd.prog 9 [.p s1, .p s2] [] (.p (.bool (underB a b))) [] [] := by
  have n1 : (a.map AV.str).length = a.length := by simp
  have n2 : (b.map AV.str).length = b.length := by simp
  unfold underB
  by_cases h : (a.length : Int) < (b.length : Int)
  · rw [decide_eq_true h, Bool.true_and]
    obtain rfl : s2 = .ps (b.map .str) := by
      cases h2 with
      | nils => simp at h; omega
      | ps => rfl
    have c1 := sEqual_spec s1 (.ps ((b.take a.length).map .str)) a (b.take a.length) (fun _ => h1.rd _ _) (fun _ => .ps _) la
    generalize decide (a = b.take a.length) = e at c1
    have hcut : ((b.map AV.str).drop (0 : Int).toNat).take (((a.length : Int)).toNat - (0 : Int).toNat) = (b.take a.length).map .str := by simp
    refine con_of Tryd.func9 rfl (by kernel_rfl) rfl fun F w0 β0 => ?_
    refine K_tell rfl ?_
    refine go ?_
    refine K_op rfl rfl (opr_len_rd hT rfl rfl (h1.rd _ _)) rfl ?_
    rw [n1]
    refine gx ?_
    rw [n2, show decide ((a.length : Int) < (b.length : Int)) = true from decide_eq_true h]
    refine gx ?_
    refine K_yes rfl rfl rfl (opr_len_rd hT rfl rfl (h1.rd _ _)) rfl ?_
    rw [n1]
    refine gx ?_
    refine K_yes rfl rfl rfl (opr_cut (i := 0) (j := (a.length : Int)) hT rfl rfl rfl rfl (.ps _) rfl rfl (by omega) (by omega) (by rw [n2]; omega) (str_size b)) rfl ?_
    rw [hcut]
    refine K_yes rfl rfl rfl (opr_callP rfl rfl (c1) rfl rfl rfl rfl) rfl ?_
    refine go ?_
    exact J_done hT rfl rfl rfl
  · rw [decide_eq_false h, Bool.false_and]
    refine con_of Tryd.func9 rfl (by kernel_rfl) rfl fun F w0 β0 => ?_
    refine K_tell rfl ?_
    refine go ?_
    refine K_op rfl rfl (opr_len_rd hT rfl rfl (h1.rd _ _)) rfl ?_
    rw [n1]
    refine gx ?_
    refine K_op rfl rfl (opr_len_rd hT rfl rfl (h2.rd _ _)) rfl ?_
    rw [n2]
    refine gx ?_
    rw [show decide ((a.length : Int) < (b.length : Int)) = false from decide_eq_false h]
    refine go ?_
    exact J_done hT rfl rfl rfl
theorem fixed16_spec : Con Tryd.prog 8 [] [] (.p (.bool true)) [] [] := by
  have c1 := nsplit_spec [47, 97, 47, 98, 99]
  rw [show splitN [47, 97, 47, 98, 99] = (.ps [.str [97], .str [98, 99]], 0) by kernel_rfl] at c1
  have c2 := same16_spec (.ps [.str [97], .str [98, 99]]) (.ps [.str [97], .str [98, 99]]) [[97], [98, 99]] [[97], [98, 99]] (fun _ => .ps _) (fun _ => .ps _) (by decide)
  rw [decide_eq_true rfl] at c2
  refine con_of Tryd.func8 rfl (by kernel_rfl) rfl fun F w0 β0 => ?_
  refine K_tell rfl ?_
  refine go ?_
  refine K_op rfl rfl (opr_callP rfl rfl (c1) rfl rfl rfl rfl) rfl ?_
  refine go ?_
  refine K_yes rfl rfl rfl (opr_callP rfl rfl (c2) rfl rfl rfl rfl) rfl ?_
  refine go ?_
  exact J_done hT rfl rfl rfl
end Go.Proofs.YtjibchohkeljkaaDoor

/- names: the reference's Split. -/
-- @D
namespace Go.Proofs.YtjibchohkeljkaaDoor
set_option maxRecDepth 20000
open Go.Awp Tr
theorem spl_cut {c : UInt8} (r : List UInt8) : ∀ {p : List UInt8}, p.count c = 0 → spl c (p ++ c :: r) = p :: spl c r
  | [], _ => by simp [spl]
  | b :: p, h => by
    have hb : b ≠ c := fun e => by subst e; simp at h
    rw [List.count_cons, if_neg (by simp [hb])] at h
    rw [List.cons_append]
    conv => lhs; unfold spl
    rw [if_neg hb, spl_cut r (p := p) (by omega)]
/-- What is left to be cut. -/
def rsR (l : List UInt8) (i f : Nat) : List (List UInt8) := if i ≤ l.length then spl 47 (l.drop f) else []
theorem str_cl16 (l : List (List UInt8)) : clR (l.map AV.str) := by
  intro r hr x hx
  obtain ⟨y, _, rfl⟩ := List.mem_map.1 hr
  simp [cellsOf] at hx
  subst hx
  rfl
/-- The loop's next round, its measure told out. -/
theorem J_next {Γ : Ctx} {env : Env} {H L : List AObj} {ι : Type} {ei : ι → Env} {Hi Li : ι → List AObj} {m : ι → Nat} {mi : Nat} (j : ι) (hm : m j < mi) (hs : AllLk env (ei j)) (hH : Hi j = H) (hL : Li j = L) :
    J Γ env H L (fun a w => ∃ j β, m j < mi ∧ St Γ (ei j) (Hi j) (Li j) a w β) := by
  subst hH hL
  exact fun a w β s => ⟨j, β, hm, s.sim, s.step, s.env.sub (sub_of_all hs), s.size, s.defers⟩
structure RSp (l : List UInt8) where
  i : Nat
  f : Nat
  dn : List (List UInt8)
  h1 : 1 ≤ f
  h : f ≤ i
  h2 : i ≤ l.length + 1
  n : ((l.drop f).take (i - f)).count 47 = 0
  e : dn ++ rsR l i f = spl 47 (l.drop 1)
  ok : ∀ x ∈ dn, nameB x = true
def rsplitN (l : List UInt8) : AV × Int :=
  if l = [] ∨ 255 < l.length then (.cz, 17) else if l.headD 0 ≠ 47 then (.cz, 15) else if l = [47] then (.cz, 0)
  else if mayN (spl 47 (l.drop 1)) = true then (.ps ((spl 47 (l.drop 1)).map .str), 0) else (.cz, 17)
theorem mayN_no {p : List (List UInt8)} {x : List UInt8} (h : x ∈ p) (hx : nameB x = false) : mayN p = false := by
  unfold mayN
  rw [show (p.any fun x => !nameB x) = true from List.any_eq_true.2 ⟨x, h, by rw [hx]; rfl⟩]
  simp
theorem mayN_yes {p : List (List UInt8)} (h : ∀ x ∈ p, nameB x = true) : mayN p = decide ((p.length : Int) ≤ 16) := by
  unfold mayN
  rw [show (p.any fun x => !nameB x) = false from List.any_eq_false.2 fun x hx => by rw [h x hx]; simp]
  simp
set_option maxHeartbeats 8000000 in
theorem rsplit16_spec (l : List UInt8) : Con Tryd.prog 11 [.p (.str l)] [] (.tup [.p (rsplitN l).1, .p (.int .i64 (rsplitN l).2)]) [] [] := by
  unfold rsplitN
  by_cases h1 : l = [] ∨ 255 < l.length
  · rw [if_pos h1]
    refine con_of Tryd.func11 rfl (by kernel_rfl) rfl fun F w0 β0 => ?_
    refine K_tell rfl ?_
    refine go ?_
    refine K_condT rfl (by rcases h1 with h | h <;> simp [h] <;> omega) ?_
    refine go ?_
    exact J_done hT rfl rfl rfl
  · rw [if_neg h1]
    have hne : l ≠ [] := fun e => h1 (.inl e)
    have hlp := List.length_pos_iff.2 hne
    have h0 : l[0]? = some (l.headD 0) := by
      cases l with
      | nil => exact absurd rfl hne
      | cons b r => rfl
    by_cases h2 : l.headD 0 ≠ 47
    · rw [if_pos h2]
      refine con_of Tryd.func11 rfl (by kernel_rfl) rfl fun F w0 β0 => ?_
      refine K_tell rfl ?_
      refine go ?_
      refine K_condF rfl (by simp [hne]; omega) ?_
      refine go ?_
      refine K_op rfl rfl (opr_byte hT rfl rfl rfl rfl (by decide) h0) rfl ?_
      refine go ?_
      refine K_condT rfl (by rw [bne_iff_ne]; intro e; exact h2 (UInt8.toNat_inj.1 (by show (l.headD 0).toNat = 47; omega))) ?_
      refine go ?_
      exact J_done hT rfl rfl rfl
    · rw [if_neg h2]
      simp only [ne_eq, Decidable.not_not] at h2
      by_cases h3 : l = [47]
      · subst h3
        rw [if_pos rfl]
        refine con_of Tryd.func11 rfl (by kernel_rfl) rfl fun F w0 β0 => ?_
        refine K_tell rfl ?_
        refine go ?_
        refine K_op rfl rfl (opr_byte hT rfl rfl rfl rfl (by decide) rfl) rfl ?_
        refine go ?_
        exact J_done hT rfl rfl rfl
      · rw [if_neg h3]
        have h4 : l.length ≠ 1 := fun e => h3 (by
          match l, e, h2 with
          | [b], _, h2 => simp at h2; rw [h2])
        refine con_of Tryd.func11 rfl (by kernel_rfl) rfl fun F w0 β0 => ?_
        refine K_tell rfl ?_
        refine go ?_
        refine K_condF rfl (by simp [hne]; omega) ?_
        refine go ?_
        refine K_op rfl rfl (opr_byte hT rfl rfl rfl rfl (by decide) h0) rfl ?_
        rw [h2]
        refine go ?_
        refine K_condF rfl (by simp; omega) ?_
        refine go ?_
        refine J_lazyE 5 9 (e := 1) rfl rfl (.inr rfl) ?_
        refine J_loop (fun q : RSp l => [(0, .p (.str l)), (4, .p .cz), (5, .sl (.l 0) q.dn.length 0 q.dn.length), (6, .p (.int .i64 (q.f : Int))), (7, .p (.int .i64 (q.i : Int)))]) (fun _ => []) (fun q => [.arr 9 true 1 (q.dn.map .str)]) (fun q => l.length + 1 - q.i) ⟨1, 1, [], by omega, by omega, by omega, by simp, by unfold rsR; rw [if_pos (by omega)]; rfl, by simp⟩ ⟨rfl, rfl, rfl, rfl, rfl, trivial⟩ rfl rfl (fun q => ?_)
        obtain ⟨i, f, dn, f1, fi, i2, hn, he, ok⟩ := q
        dsimp only
        have hdn : dn.length ≤ 300 := by
          have := congrArg List.length he
          rw [List.length_append, spl_len] at this
          have h5 := count_le 47 (l.drop 1)
          have h6 : (l.drop 1).length ≤ l.length := by simp
          omega
        refine go ?_
        by_cases hil : i ≤ l.length
        · refine K_condT rfl (decide_eq_true (by omega)) ?_
          unfold rsR at he
          rw [if_pos hil] at he
          have hpart : ((l.drop ((f : Nat) : Int).toNat).take (((i : Nat) : Int).toNat - ((f : Nat) : Int).toNat)) = (l.drop f).take (i - f) := by simp
          have hdrop : l.drop f = (l.drop f).take (i - f) ++ l.drop i := by
            have := List.take_append_drop (i - f) (l.drop f)
            rw [List.drop_drop, show f + (i - f) = i by omega] at this
            exact this.symm
          have hpl : ((l.drop f).take (i - f)).length ≤ 255 := by simp; omega
          have c1 := rname_spec ((l.drop f).take (i - f)) (by omega)
          generalize hp : (l.drop f).take (i - f) = p at hpart hdrop hpl c1 hn
          by_cases hie : i = l.length
          · have hB : spl 47 (l.drop f) = p :: rsR l (i + 1) (i + 1) := by
              rw [hdrop, List.drop_eq_nil_of_le (by omega), List.append_nil, spl_none hn]
              unfold rsR
              rw [if_neg (by omega)]
            refine gx ?_
            rw [show ((i : Int) == (l.length : Int)) = true from by simp [hie]]
            refine go ?_
            refine K_op rfl rfl (opr_cut_str (i := (f : Int)) (j := (i : Int)) hT rfl rfl rfl rfl rfl (by omega) (by omega) (by omega)) rfl ?_
            rw [hpart]
            refine K_op rfl rfl (opr_callP rfl rfl (c1) rfl rfl rfl rfl) rfl ?_
            refine go ?_
            cases hnm : nameB p with
            | false =>
              have hmm : mayN (spl 47 (l.drop 1)) = false := mayN_no (x := p) (by rw [← he, hB]; simp) hnm
              rw [hmm]
              refine go ?_
              refine J_take 0 [(2, .p .cz), (3, .p (.int .i64 17))] ⟨rfl, rfl, trivial⟩ rfl rfl ?_
              exact J_done hT rfl rfl rfl
            | true =>
              refine go ?_
              refine K_op rfl rfl (opr_cut_str (i := (f : Int)) (j := (i : Int)) hT rfl rfl rfl rfl rfl (by omega) (by omega) (by omega)) rfl ?_
              rw [hpart]
              refine go ?_
              refine K_op rfl rfl (opr_app_own hT rfl rfl rfl rfl (by simp) rfl rfl (.rd (.ps _)) hbs_ps (str_cl16 [p]) (str_size [p]) (by decide) (by show (_ + 1) * 16 ≤ _; omega)) rfl ?_
              refine go ?_
              rw [IntWalk.i64_in ((i : Int) + 1) (by omega)]
              refine J_take 1 [(0, .p (.str l)), (4, .p .cz), (5, .sl (.l 0) (dn.length + 1) 0 (dn.length + 1)), (6, .p (.int .i64 ((i : Int) + 1))), (7, .p (.int .i64 ((i : Int) + 1)))] ⟨rfl, rfl, rfl, rfl, rfl, trivial⟩ rfl rfl ?_
              refine J_next ⟨i + 1, i + 1, dn ++ [p], by omega, by omega, by omega, by simp, by rw [List.append_assoc, List.singleton_append, ← hB]; exact he, fun x hx => by rcases List.mem_append.1 hx with hx | hx; exact ok x hx; rw [List.mem_singleton.1 hx]; exact hnm⟩ (by show l.length + 1 - (i + 1) < l.length + 1 - i; omega) ⟨rfl, rfl, by rw [List.length_append]; rfl, rfl, rfl, trivial⟩ rfl (by rw [List.map_append]; rfl)
          · have hx : l[i]? = some (l[i]'(by omega)) := List.getElem?_eq_getElem _
            have hdi : l.drop i = l[i]'(by omega) :: l.drop (i + 1) := List.drop_eq_getElem_cons (by omega)
            have hta : (l.drop f).take (i + 1 - f) = p ++ [l[i]'(by omega)] := by
              rw [← hp, show i + 1 - f = (i - f) + 1 by omega]
              exact take_snoc (by rw [List.getElem?_drop, show f + (i - f) = i by omega]; exact hx)
            generalize l[i]'(by omega) = b at hx hdi hta
            refine gx ?_
            rw [show ((i : Int) == (l.length : Int)) = false from by rw [beq_eq_false_iff_ne]; omega]
            refine gx ?_
            refine K_yes rfl rfl rfl (opr_byte hT rfl rfl rfl rfl (by omega) (by rw [Int.toNat_natCast]; exact hx)) rfl ?_
            refine go ?_
            by_cases hb : b = 47
            · subst hb
              have hB : spl 47 (l.drop f) = p :: rsR l (i + 1) (i + 1) := by
                rw [hdrop, hdi, spl_cut _ hn]
                unfold rsR
                rw [if_pos (by omega)]
              refine K_condT rfl (by simp) ?_
              refine go ?_
              refine K_op rfl rfl (opr_cut_str (i := (f : Int)) (j := (i : Int)) hT rfl rfl rfl rfl rfl (by omega) (by omega) (by omega)) rfl ?_
              rw [hpart]
              refine K_op rfl rfl (opr_callP rfl rfl (c1) rfl rfl rfl rfl) rfl ?_
              refine go ?_
              cases hnm : nameB p with
              | false =>
                have hmm : mayN (spl 47 (l.drop 1)) = false := mayN_no (x := p) (by rw [← he, hB]; simp) hnm
                rw [hmm]
                refine go ?_
                refine J_take 0 [(2, .p .cz), (3, .p (.int .i64 17))] ⟨rfl, rfl, trivial⟩ rfl rfl ?_
                exact J_done hT rfl rfl rfl
              | true =>
                refine go ?_
                refine K_op rfl rfl (opr_cut_str (i := (f : Int)) (j := (i : Int)) hT rfl rfl rfl rfl rfl (by omega) (by omega) (by omega)) rfl ?_
                rw [hpart]
                refine go ?_
                refine K_op rfl rfl (opr_app_own hT rfl rfl rfl rfl (by simp) rfl rfl (.rd (.ps _)) hbs_ps (str_cl16 [p]) (str_size [p]) (by decide) (by show (_ + 1) * 16 ≤ _; omega)) rfl ?_
                refine go ?_
                rw [IntWalk.i64_in ((i : Int) + 1) (by omega)]
                refine J_take 1 [(0, .p (.str l)), (4, .p .cz), (5, .sl (.l 0) (dn.length + 1) 0 (dn.length + 1)), (6, .p (.int .i64 ((i : Int) + 1))), (7, .p (.int .i64 ((i : Int) + 1)))] ⟨rfl, rfl, rfl, rfl, rfl, trivial⟩ rfl rfl ?_
                refine J_next ⟨i + 1, i + 1, dn ++ [p], by omega, by omega, by omega, by simp, by rw [List.append_assoc, List.singleton_append, ← hB]; exact he, fun x hx => by rcases List.mem_append.1 hx with hx | hx; exact ok x hx; rw [List.mem_singleton.1 hx]; exact hnm⟩ (by show l.length + 1 - (i + 1) < l.length + 1 - i; omega) ⟨rfl, rfl, by rw [List.length_append]; rfl, rfl, rfl, trivial⟩ rfl (by rw [List.map_append]; rfl)
            · refine K_condF rfl (by simp; intro q; exact hb (UInt8.toNat_inj.1 (by show b.toNat = 47; omega))) ?_
              refine go ?_
              rw [IntWalk.i64_in ((i : Int) + 1) (by omega)]
              exact fun a' w' β st => ⟨⟨i + 1, f, dn, f1, by omega, by omega, by rw [hta, List.count_append, hn, List.count_cons, if_neg (by simp [hb])]; rfl, by unfold rsR; rw [if_pos (by omega)]; exact he, ok⟩, β, by show l.length + 1 - (i + 1) < l.length + 1 - i; omega, st.sim, st.step, st.env.sub (sub_of_all ⟨rfl, rfl, rfl, rfl, rfl, trivial⟩), st.size, st.defers⟩
        · refine K_condF rfl (decide_eq_false (by omega)) ?_
          have hid : i = l.length + 1 := by omega
          unfold rsR at he
          rw [if_neg hil, List.append_nil] at he
          rw [← he, mayN_yes ok]
          have hml : (dn.map AV.str).length = dn.length := by simp
          by_cases h16 : (dn.length : Int) ≤ 16
          · rw [decide_eq_true h16, if_pos rfl]
            refine go ?_
            refine K_op rfl rfl (opr_len_rd hT rfl rfl (Rd.full rfl hml)) rfl ?_
            rw [hml]
            refine go ?_
            refine K_condF rfl (decide_eq_false (by omega)) ?_
            refine go ?_
            refine J_freeze_all 2 0 rfl rfl hml ?_
            refine J_take 0 [(2, .p (.ps (dn.map .str))), (3, .p (.int .i64 0))] ⟨rfl, rfl, trivial⟩ rfl rfl ?_
            exact J_done hT rfl rfl rfl
          · rw [decide_eq_false h16, if_neg (by simp)]
            refine go ?_
            refine K_op rfl rfl (opr_len_rd hT rfl rfl (Rd.full rfl hml)) rfl ?_
            rw [hml]
            refine go ?_
            refine K_condT rfl (decide_eq_true (by omega)) ?_
            refine go ?_
            refine J_take 0 [(2, .p .cz), (3, .p (.int .i64 17))] ⟨rfl, rfl, trivial⟩ rfl rfl ?_
            exact J_done hT rfl rfl rfl
end Go.Proofs.YtjibchohkeljkaaDoor

/- More rules of the walk: drawn regions whose calls change the caller's objects. No program is named here. -/
-- @D
namespace Go.Proofs.YtjibchohkeljkaaDoor
set_option maxRecDepth 20000
open Go.Awp Go.RowKit
section
variable {P : Program} {Γ : Ctx} {env0 : Env} {H L : List AObj} {Q : Exit → Act → World → Prop} {id : Nat} {ops : List Oper}
/-- A drawn region of which one operation writes the caller's objects. -/
theorem J_drawH1 (n : Nat) (H2 : List AObj) (hm : P.follows .mixedOrders = true) (hreg : regOk Γ.N ops [n] = true)
    (h : Tele P ops env0 (fun k => [H, H2].getD k []) [L, L] [n] (fun xs => J Γ (finE ops xs env0) H2 L (Q .normal)) ops 0 []) : J Γ env0 H L ((Code.region id ops.toArray true).wp P Q) :=
  J_drawH [H, H2] [L, L] [n] hm hreg rfl rfl h
/-- Of which two do. -/
theorem J_drawHH (n m : Nat) (H2 H3 : List AObj) (hm : P.follows .mixedOrders = true) (hreg : regOk Γ.N ops [n, m] = true)
    (h : Tele P ops env0 (fun k => [H, H2, H3].getD k []) [L, L, L] [n, m] (fun xs => J Γ (finE ops xs env0) H3 L (Q .normal)) ops 0 []) : J Γ env0 H L ((Code.region id ops.toArray true).wp P Q) :=
  J_drawH [H, H2, H3] [L, L, L] [n, m] hm hreg rfl rfl h
/-- Of which three do. -/
theorem J_drawH3 (n m q : Nat) (H2 H3 H4 : List AObj) (hm : P.follows .mixedOrders = true) (hreg : regOk Γ.N ops [n, m, q] = true)
    (h : Tele P ops env0 (fun k => [H, H2, H3, H4].getD k []) [L, L, L, L] [n, m, q] (fun xs => J Γ (finE ops xs env0) H4 L (Q .normal)) ops 0 []) : J Γ env0 H L ((Code.region id ops.toArray true).wp P Q) :=
  J_drawH [H, H2, H3, H4] [L, L, L, L] [n, m, q] hm hreg rfl rfl h
/-- A drawn region of which two operations write own objects. -/
theorem J_drawSS (n m : Nat) (hm : P.follows .mixedOrders = true) (hreg : regOk Γ.N ops [n, m] = true)
    (h : ∃ L2 L3, Tele P ops env0 (fun _ => H) [L, L2, L3] [n, m] (fun xs => J Γ (finE ops xs env0) H L3 (Q .normal)) ops 0 []) : J Γ env0 H L ((Code.region id ops.toArray true).wp P Q) :=
  h.elim fun L2 h => h.elim fun L3 h => J_draw [L, L2, L3] [n, m] hm hreg rfl h
end
end Go.Proofs.YtjibchohkeljkaaDoor

/- walk: what holds of a view; Load, Save, Drop, Child, Hang, Unhang. -/
-- @D
namespace Go.Proofs.YtjibchohkeljkaaDoor
set_option maxRecDepth 20000
open Go.Awp Tr
abbrev Nd := Int × Int × Int × Int
/-- What holds of a view. -/
structure VJ (s : VS) (n : Nat) : Prop where
  rb : Rises s.base.row
  rs : Rises s.shown.row
  rw : Rises s.writes.row
  rr : Rises s.reads.row
  zb : s.base.size ≤ n
  zs : s.shown.size ≤ n
  zw : s.writes.size ≤ n
  zr : s.reads.size ≤ n
  zg : s.ranges.length ≤ n
  val : ∀ x ∈ s.shown.row, x.1.length ≤ 100000 ∧ x.2.length ≤ 100000
/-- A key is read. -/
def VS.rd (s : VS) (k : List UInt8) : VS := { s with reads := s.reads.set k [] }
def VS.rds (s : VS) (ks : List (List UInt8)) : VS := { s with reads := ks.foldl (fun t k => t.set k []) s.reads }
/-- A key is written, if there is room. -/
def VS.put (s : VS) (k v : List UInt8) : VS := if s.room k = true then s.set k v else s
def VS.del (s : VS) (k : List UInt8) : VS := if s.room k = true then s.cut k else s
theorem VJ.new {t : Tr} {n : Nat} (h : Rises t.row) (hz : t.size ≤ n) (hv : ∀ x ∈ t.row, x.1.length ≤ 100000 ∧ x.2.length ≤ 100000) : VJ (VS.new t) n :=
  ⟨h, h, by simp [VS.new, row, Rises], by simp [VS.new, row, Rises], hz, hz, Nat.zero_le _, Nat.zero_le _, Nat.zero_le _, hv⟩
theorem VJ.mono {s : VS} {n m : Nat} (h : VJ s n) (hm : n ≤ m) : VJ s m :=
  ⟨h.rb, h.rs, h.rw, h.rr, by have := h.zb; omega, by have := h.zs; omega, by have := h.zw; omega, by have := h.zr; omega, by have := h.zg; omega, h.val⟩
theorem VJ.rd {s : VS} {n : Nat} (h : VJ s n) (k : List UInt8) : VJ (s.rd k) (n + 1) :=
  ⟨h.rb, h.rs, h.rw, set_rises h.rr, by have := h.zb; unfold VS.rd; dsimp only; omega, by have := h.zs; unfold VS.rd; dsimp only; omega, by have := h.zw; unfold VS.rd; dsimp only; omega, by have := h.zr; have := set_size k [] s.reads; unfold VS.rd; dsimp only; omega, by have := h.zg; unfold VS.rd; dsimp only; omega, h.val⟩
theorem rds_cons (s : VS) (k : List UInt8) (ks : List (List UInt8)) : s.rds (k :: ks) = (s.rd k).rds ks := rfl
theorem rds_app (s : VS) (ks ls : List (List UInt8)) : s.rds (ks ++ ls) = (s.rds ks).rds ls := by unfold VS.rds; rw [List.foldl_append]
theorem VJ.rds {s : VS} {n : Nat} (h : VJ s n) (ks : List (List UInt8)) : VJ (s.rds ks) (n + ks.length) := by
  induction ks generalizing s n with
  | nil => exact h
  | cons k ks ih =>
    rw [rds_cons, List.length_cons]
    exact (ih (h.rd k)).mono (by omega)
theorem VJ.range {s : VS} {n : Nat} (h : VJ s n) (a b : List UInt8) : VJ (s.range a b) (n + 1) := by
  unfold VS.range
  split
  · refine ⟨h.rb, h.rs, h.rw, h.rr, by have := h.zb; dsimp only; omega, by have := h.zs; dsimp only; omega, by have := h.zw; dsimp only; omega, by have := h.zr; dsimp only; omega, ?_, h.val⟩
    have := h.zg
    dsimp only
    split
    · omega
    · rw [List.length_append]; simp; omega
  · exact h.mono (by omega)
theorem VJ.set {s : VS} {n : Nat} (h : VJ s n) (k v : List UInt8) (hk : k.length ≤ 100000) (hv : v.length ≤ 100000) : VJ (s.set k v) (n + 1) := by
  have z1 := set_size k v s.shown
  have z2 := set_size k (61 :: v) s.writes
  refine ⟨h.rb, set_rises h.rs, set_rises h.rw, h.rr, by have := h.zb; unfold VS.set; dsimp only; omega, by have := h.zs; unfold VS.set; dsimp only; omega, by have := h.zw; unfold VS.set; dsimp only; omega, by have := h.zr; unfold VS.set; dsimp only; omega, by have := h.zg; unfold VS.set; dsimp only; omega, fun x hx => ?_⟩
  unfold VS.set at hx
  dsimp only at hx
  rw [set_row _ _ _ h.rs] at hx
  rcases lset_mem hx with rfl | hx
  · exact ⟨hk, hv⟩
  · exact h.val x hx
theorem VJ.cut {s : VS} {n : Nat} (h : VJ s n) (k : List UInt8) : VJ (s.cut k) (n + 1) := by
  have z1 := cut_size s.shown k
  have z2 := cut_size s.writes k
  have z3 := set_size k [] s.writes
  refine ⟨h.rb, cut_rises h.rs, ?_, h.rr, by have := h.zb; unfold VS.cut; dsimp only; omega, by have := h.zs; unfold VS.cut; dsimp only; omega, ?_, by have := h.zr; unfold VS.cut; dsimp only; omega, by have := h.zg; unfold VS.cut; dsimp only; omega, fun x hx => ?_⟩
  · unfold VS.cut
    dsimp only
    split
    · exact set_rises h.rw
    · exact cut_rises h.rw
  · have := h.zw
    unfold VS.cut
    dsimp only
    split <;> omega
  · unfold VS.cut at hx
    dsimp only at hx
    rw [cut_row _ _ h.rs] at hx
    exact h.val x (List.mem_filter.1 hx).1
theorem VJ.put {s : VS} {n : Nat} (h : VJ s n) (k v : List UInt8) (hk : k.length ≤ 100000) (hv : v.length ≤ 100000) : VJ (s.put k v) (n + 1) := by
  unfold VS.put
  split
  · exact h.set k v hk hv
  · exact h.mono (by omega)
theorem VJ.del {s : VS} {n : Nat} (h : VJ s n) (k : List UInt8) : VJ (s.del k) (n + 1) := by
  unfold VS.del
  split
  · exact h.cut k
  · exact h.mono (by omega)
theorem VJ.len {s : VS} {n : Nat} (h : VJ s n) {k v : List UInt8} (hg : s.shown.get k = some v) : v.length ≤ 100000 := by
  rw [get_row _ _ h.rs] at hg
  exact (h.val _ ((lget_some h.rs).1 hg)).2
theorem VJ.len0 {s : VS} {n : Nat} (h : VJ s n) (k : List UInt8) : ((s.shown.get k).getD []).length ≤ 100000 := by
  cases hg : s.shown.get k with
  | none => exact Nat.zero_le _
  | some v => exact h.len hg
/-- What inode a key's value is. -/
def ndOf (n : Int) : Option (List UInt8) → Option Nd
  | none => if n = 1 then some (2, 2, 0, 1) else none
  | some v => getNode v
def VS.load (s : VS) (n : Int) : Option Nd := ndOf n (s.shown.get (keyH 73 n))
abbrev ndT (g : Nd) : TV := .agg [.p (.int .u8 g.1), .p (.int .u32 g.2.1), .p (.int .u32 g.2.2.1), .p (.int .u32 g.2.2.2)]
abbrev ndA (g : Nd) : TV := .p (.agg (nodeV g.1 g.2.1 g.2.2.1 g.2.2.2))
theorem nodeT_tup (g : Option Nd) : nodeT g = .tup [ndT (g.getD (0, 0, 0, 0)), .p (.bool g.isSome)] := by
  cases g with
  | none => rfl
  | some x => obtain ⟨a, b, c, d⟩ := x; rfl
/-- The numbers of an inode are within bounds. -/
def Nd.ok (g : Nd) : Prop := (0 ≤ g.1 ∧ g.1 ≤ 255) ∧ (0 ≤ g.2.1 ∧ g.2.1 ≤ 4294967295) ∧ (0 ≤ g.2.2.1 ∧ g.2.2.1 ≤ 4294967295) ∧ (0 ≤ g.2.2.2 ∧ g.2.2.2 ≤ 4294967295)
theorem b0_bd17 (l : List UInt8) : 0 ≤ b0 l ∧ b0 l ≤ 255 := by
  unfold b0
  have := (l.headD 0).toNat_lt
  omega
theorem getNode_ok {l : List UInt8} {g : Nd} (h : getNode l = some g) : Nd.ok g := by
  unfold getNode at h
  split at h
  · obtain rfl := Option.some.inj h
    exact ⟨b0_bd17 l, gF_bd l 1, gF_bd l 5, gF_bd l 9⟩
  · cases h
theorem ndOf_ok {n : Int} {o : Option (List UInt8)} {g : Nd} (h : ndOf n o = some g) : Nd.ok g := by
  cases o with
  | none =>
    unfold ndOf at h
    dsimp only at h
    split at h
    · obtain rfl := Option.some.inj h
      unfold Nd.ok; decide
    · cases h
  | some v => exact getNode_ok h
def VS.save (s : VS) (n : Int) (g : Nd) : VS := s.put (keyH 73 n) (nodeB g.1 g.2.1 g.2.2.1 g.2.2.2)
theorem nodeB_l13 (a b c d : Int) : (nodeB a b c d).length = 13 := by simp [nodeB, beB_len]
/-- What number an entry's value is. -/
def chOf (g : Option (List UInt8)) : Option Int := if (g.getD []).length = 4 then some (gF (g.getD []) 0) else none
def VS.child (s : VS) (d : Int) (m : List UInt8) : Option Int := chOf (s.shown.get (entryK d m))
abbrev chT (g : Option Int) : TV := .tup [.p (.int .u32 (g.getD 0)), .p (.bool g.isSome)]
theorem chOf_ok {o : Option (List UInt8)} {i : Int} (h : chOf o = some i) : 0 ≤ i ∧ i ≤ 4294967295 := by
  unfold chOf at h
  split at h
  · obtain rfl := Option.some.inj h
    exact gF_bd _ _
  · cases h
set_option maxHeartbeats 4000000 in
theorem wload_spec {s : VS} {m : Nat} (h : VJ s m) (hm : m ≤ 1000000) (n : Int) (hn : 0 ≤ n ∧ n ≤ 4294967295) : Con Tryd.prog 41 [vP, .p (.int .u32 n)] (vH s) (nodeT (s.load n)) (vH (s.rd (keyH 73 n))) [] := by
  have c1 := kinode_spec n hn []
  have c2 := vget_spec s (keyH 73 n) (by have := h.zr; unfold big40; omega)
  have hl := h.len0 (keyH 73 n)
  rw [getT_tup] at c2
  change Con Tryd.prog _ _ _ _ (vH (s.rd (keyH 73 n))) _ at c2
  unfold VS.load
  generalize s.shown.get (keyH 73 n) = g at c2 hl
  generalize s.rd (keyH 73 n) = s' at c2
  cases g with
  | none =>
    by_cases h1 : n = 1
    · subst h1
      have cr := root_spec []
      show Con _ _ _ _ (nodeT (some (2, 2, 0, 1))) _ _
      refine con_of Tryd.func41 rfl (by kernel_rfl) rfl fun F w0 β0 => ?_
      refine K_tell rfl ?_
      refine go ?_
      refine K_op rfl rfl (opr_callP rfl rfl (c1) rfl rfl rfl rfl) rfl ?_
      refine go ?_
      refine K_op rfl rfl (opr_callS [.o 0, .o 1] rfl rfl (c2) rfl rfl rfl ⟨⟨rfl, rfl⟩, ⟨rfl, rfl⟩, trivial⟩ rfl rfl rfl rfl) rfl ?_
      refine go ?_
      refine K_op rfl rfl (opr_callP rfl rfl (cr) rfl rfl rfl rfl) rfl ?_
      refine go ?_
      exact J_done hT rfl rfl rfl
    · have c3 := nget_spec [] (by decide)
      rw [nodeT_tup] at c3
      have e : nodeT (ndOf n none) = .tup [ndT (0, 0, 0, 0), .p (.bool false)] := by
        show nodeT (if n = 1 then _ else _) = _
        rw [if_neg h1]; rfl
      rw [e]
      refine con_of Tryd.func41 rfl (by kernel_rfl) rfl fun F w0 β0 => ?_
      refine K_tell rfl ?_
      refine go ?_
      refine K_op rfl rfl (opr_callP rfl rfl (c1) rfl rfl rfl rfl) rfl ?_
      refine go ?_
      refine K_op rfl rfl (opr_callS [.o 0, .o 1] rfl rfl (c2) rfl rfl rfl ⟨⟨rfl, rfl⟩, ⟨rfl, rfl⟩, trivial⟩ rfl rfl rfl rfl) rfl ?_
      refine go ?_
      refine K_condF rfl (by simp [h1]) ?_
      refine go ?_
      refine K_op rfl rfl (opr_callP rfl rfl (c3) rfl rfl rfl rfl) rfl ?_
      refine go ?_
      exact J_done hT rfl rfl rfl
  | some v =>
    have c3 := nget_spec v (by dsimp only [Option.getD] at hl; omega)
    rw [nodeT_tup] at c3
    show Con _ _ _ _ (nodeT (getNode v)) _ _
    rw [nodeT_tup]
    generalize getNode v = g at c3
    refine con_of Tryd.func41 rfl (by kernel_rfl) rfl fun F w0 β0 => ?_
    refine K_tell rfl ?_
    refine go ?_
    refine K_op rfl rfl (opr_callP rfl rfl (c1) rfl rfl rfl rfl) rfl ?_
    refine go ?_
    refine K_op rfl rfl (opr_callS [.o 0, .o 1] rfl rfl (c2) rfl rfl rfl ⟨⟨rfl, rfl⟩, ⟨rfl, rfl⟩, trivial⟩ rfl rfl rfl rfl) rfl ?_
    refine go ?_
    refine K_op rfl rfl (opr_callP rfl rfl (c3) rfl rfl rfl rfl) rfl ?_
    refine go ?_
    exact J_done hT rfl rfl rfl
theorem wsave_spec {s : VS} {m : Nat} (h : VJ s m) (hm : m ≤ 1000000) (n : Int) (hn : 0 ≤ n ∧ n ≤ 4294967295) (g : Nd) (hg : Nd.ok g) : Con Tryd.prog 35 [vP, .p (.int .u32 n), ndA g] (vH s) (.p (.bool (s.room (keyH 73 n)))) (vH (s.save n g)) [] := by
  have c1 := kinode_spec n hn []
  have c2 := nput_spec g.1 g.2.1 g.2.2.1 g.2.2.2 hg.1 hg.2.1 hg.2.2.1 hg.2.2.2
  have c3 := vset_spec s (keyH 73 n) (nodeB g.1 g.2.1 g.2.2.1 g.2.2.2) (by have := h.zw; unfold big40; omega) (by have := h.zs; unfold big40; omega) (by rw [nodeB_l13]; omega)
  change Con Tryd.prog _ _ _ _ (vH (s.save n g)) _ at c3
  generalize s.save n g = s' at c3
  refine con_of Tryd.func35 rfl (by kernel_rfl) rfl fun F w0 β0 => ?_
  refine K_tell rfl ?_
  refine go ?_
  refine J_drawH1 5 (vH s') (by kernel_rfl) (by kernel_rfl) ?_
  refine gdH ?_
  refine T_opH rfl rfl rfl rfl rfl rfl (opr_call0P rfl rfl (c1) rfl rfl rfl) rfl ?_
  refine gdH ?_
  refine T_opH rfl rfl rfl rfl rfl rfl (opr_call0P rfl rfl (c2) rfl rfl rfl) rfl ?_
  refine gdH ?_
  refine T_stH rfl rfl rfl rfl rfl rfl (opr_callS [.o 0, .o 1] rfl rfl (c3) rfl rfl rfl ⟨⟨rfl, rfl⟩, ⟨rfl, rfl⟩, trivial⟩ rfl rfl rfl rfl) rfl ?_
  refine gdH ?_
  refine go ?_
  exact J_done hT rfl rfl rfl
theorem wdrop_spec {s : VS} {m : Nat} (h : VJ s m) (hm : m ≤ 1000000) (n : Int) (hn : 0 ≤ n ∧ n ≤ 4294967295) : Con Tryd.prog 37 [vP, .p (.int .u32 n)] (vH s) (.p (.bool (s.room (keyH 73 n)))) (vH (s.del (keyH 73 n))) [] := by
  have c1 := kinode_spec n hn []
  have c3 := vcut_spec s (keyH 73 n) (by have := h.zw; unfold big40; omega) (by have := h.zs; unfold big40; omega)
  change Con Tryd.prog _ _ _ _ (vH (s.del (keyH 73 n))) _ at c3
  generalize s.del (keyH 73 n) = s' at c3
  refine con_of Tryd.func37 rfl (by kernel_rfl) rfl fun F w0 β0 => ?_
  refine K_tell rfl ?_
  refine go ?_
  refine K_op rfl rfl (opr_callP rfl rfl (c1) rfl rfl rfl rfl) rfl ?_
  refine go ?_
  refine K_op rfl rfl (opr_callS [.o 0, .o 1] rfl rfl (c3) rfl rfl rfl ⟨⟨rfl, rfl⟩, ⟨rfl, rfl⟩, trivial⟩ rfl rfl rfl rfl) rfl ?_
  refine go ?_
  exact J_done hT rfl rfl rfl
theorem wunhang_spec {s : VS} {m : Nat} (h : VJ s m) (hm : m ≤ 1000000) (n : Int) (hn : 0 ≤ n ∧ n ≤ 4294967295) (x : List UInt8) : Con Tryd.prog 26 [vP, .p (.int .u32 n), .p (.str x)] (vH s) (.p (.bool (s.room (entryK n x)))) (vH (s.del (entryK n x))) [] := by
  have c1 := kentry_spec n x hn []
  have c3 := vcut_spec s (entryK n x) (by have := h.zw; unfold big40; omega) (by have := h.zs; unfold big40; omega)
  change Con Tryd.prog _ _ _ _ (vH (s.del (entryK n x))) _ at c3
  generalize s.del (entryK n x) = s' at c3
  refine con_of Tryd.func26 rfl (by kernel_rfl) rfl fun F w0 β0 => ?_
  refine K_tell rfl ?_
  refine go ?_
  refine K_op rfl rfl (opr_callP rfl rfl (c1) rfl rfl rfl rfl) rfl ?_
  refine go ?_
  refine K_op rfl rfl (opr_callS [.o 0, .o 1] rfl rfl (c3) rfl rfl rfl ⟨⟨rfl, rfl⟩, ⟨rfl, rfl⟩, trivial⟩ rfl rfl rfl rfl) rfl ?_
  refine go ?_
  exact J_done hT rfl rfl rfl
theorem whang_spec {s : VS} {m : Nat} (h : VJ s m) (hm : m ≤ 1000000) (n i : Int) (hn : 0 ≤ n ∧ n ≤ 4294967295) (hi : 0 ≤ i ∧ i ≤ 4294967295) (x : List UInt8) : Con Tryd.prog 24 [vP, .p (.int .u32 n), .p (.str x), .p (.int .u32 i)] (vH s) (.p (.bool (s.room (entryK n x)))) (vH (s.put (entryK n x) (beB 4 i))) [] := by
  have c1 := kentry_spec n x hn []
  have c2 := put4 (s := .nils) (l := []) .nils i hi (by decide)
  rw [List.nil_append] at c2
  have c3 := vset_spec s (entryK n x) (beB 4 i) (by have := h.zw; unfold big40; omega) (by have := h.zs; unfold big40; omega) (by rw [beB_len]; omega)
  change Con Tryd.prog _ _ _ _ (vH (s.put (entryK n x) (beB 4 i))) _ at c3
  generalize s.put (entryK n x) (beB 4 i) = s' at c3
  refine con_of Tryd.func24 rfl (by kernel_rfl) rfl fun F w0 β0 => ?_
  refine K_tell rfl ?_
  refine go ?_
  refine K_op rfl rfl (opr_callP rfl rfl (c1) rfl rfl rfl rfl) rfl ?_
  refine go ?_
  refine J_val 14 _ rfl (congrArg (fun z => TV.p (.int .u64 z)) (u64_in i (by omega))) ?_
  refine K_op rfl rfl (opr_callP rfl rfl (c2) rfl rfl rfl rfl) rfl ?_
  refine go ?_
  refine K_op rfl rfl (opr_callS [.o 0, .o 1] rfl rfl (c3) rfl rfl rfl ⟨⟨rfl, rfl⟩, ⟨rfl, rfl⟩, trivial⟩ rfl rfl rfl rfl) rfl ?_
  refine go ?_
  exact J_done hT rfl rfl rfl
set_option maxHeartbeats 4000000 in
theorem wchild_spec {s : VS} {m : Nat} (h : VJ s m) (hm : m ≤ 1000000) (n : Int) (hn : 0 ≤ n ∧ n ≤ 4294967295) (x : List UInt8) : Con Tryd.prog 25 [vP, .p (.int .u32 n), .p (.str x)] (vH s) (chT (s.child n x)) (vH (s.rd (entryK n x))) [] := by
  have c1 := kentry_spec n x hn []
  have c2 := vget_spec s (entryK n x) (by have := h.zr; unfold big40; omega)
  have hl := h.len0 (entryK n x)
  rw [getT_tup] at c2
  change Con Tryd.prog _ _ _ _ (vH (s.rd (entryK n x))) _ at c2
  unfold VS.child chOf
  generalize s.shown.get (entryK n x) = g at c2 hl
  generalize s.rd (entryK n x) = s' at c2
  generalize g.getD [] = v at c2 hl
  generalize g.isSome = b at c2
  have c3 := get_spec (.ps v) 0 4 (by decide) (by omega) []
  rw [show (wide 4).toNat = 4 by decide] at c3
  by_cases h4 : v.length < 4
  · have e : getR v 0 4 = (0, 0, 3) := by unfold getR; rw [if_neg (by omega), if_pos (by omega)]
    rw [e] at c3
    change Con Tryd.prog _ _ _ (.tup [.p (.int .u64 0), .p (.int .i64 0), .p (.int .i64 3)]) _ _ at c3
    rw [if_neg (by omega)]
    refine con_of Tryd.func25 rfl (by kernel_rfl) rfl fun F w0 β0 => ?_
    refine K_tell rfl ?_
    refine go ?_
    refine K_op rfl rfl (opr_callP rfl rfl (c1) rfl rfl rfl rfl) rfl ?_
    refine go ?_
    refine K_op rfl rfl (opr_callS [.o 0, .o 1] rfl rfl (c2) rfl rfl rfl ⟨⟨rfl, rfl⟩, ⟨rfl, rfl⟩, trivial⟩ rfl rfl rfl rfl) rfl ?_
    refine go ?_
    refine K_op rfl rfl (opr_callP rfl rfl (c3) rfl rfl rfl rfl) rfl ?_
    refine go ?_
    exact J_done hT rfl rfl rfl
  · have e : getR v 0 4 = (gF v 0, 4, 0) := by unfold getR gF; rw [if_neg (by omega), if_neg (by omega)]; rfl
    rw [e] at c3
    change Con Tryd.prog _ _ _ (.tup [.p (.int .u64 (gF v 0)), .p (.int .i64 4), .p (.int .i64 0)]) _ _ at c3
    by_cases h5 : v.length = 4
    · rw [if_pos h5]
      refine con_of Tryd.func25 rfl (by kernel_rfl) rfl fun F w0 β0 => ?_
      refine K_tell rfl ?_
      refine go ?_
      refine K_op rfl rfl (opr_callP rfl rfl (c1) rfl rfl rfl rfl) rfl ?_
      refine go ?_
      refine K_op rfl rfl (opr_callS [.o 0, .o 1] rfl rfl (c2) rfl rfl rfl ⟨⟨rfl, rfl⟩, ⟨rfl, rfl⟩, trivial⟩ rfl rfl rfl rfl) rfl ?_
      refine go ?_
      refine K_op rfl rfl (opr_callP rfl rfl (c3) rfl rfl rfl rfl) rfl ?_
      refine go ?_
      refine K_condF rfl (by simp [h5]) ?_
      refine go ?_
      refine J_val 6 _ rfl (congrArg (fun z => TV.p (.int .u32 z)) (u32_in _ (gF_bd v 0))) ?_
      exact J_done hT rfl rfl rfl
    · rw [if_neg h5]
      refine con_of Tryd.func25 rfl (by kernel_rfl) rfl fun F w0 β0 => ?_
      refine K_tell rfl ?_
      refine go ?_
      refine K_op rfl rfl (opr_callP rfl rfl (c1) rfl rfl rfl rfl) rfl ?_
      refine go ?_
      refine K_op rfl rfl (opr_callS [.o 0, .o 1] rfl rfl (c2) rfl rfl rfl ⟨⟨rfl, rfl⟩, ⟨rfl, rfl⟩, trivial⟩ rfl rfl rfl rfl) rfl ?_
      refine go ?_
      refine K_op rfl rfl (opr_callP rfl rfl (c3) rfl rfl rfl rfl) rfl ?_
      refine go ?_
      refine K_condT rfl (by simp; omega) ?_
      refine go ?_
      exact J_done hT rfl rfl rfl
end Go.Proofs.YtjibchohkeljkaaDoor

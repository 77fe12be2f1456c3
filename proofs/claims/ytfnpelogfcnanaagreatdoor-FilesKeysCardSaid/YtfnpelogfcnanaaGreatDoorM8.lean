/- Contracts and plain laws, several texts joined: F16d, F16e, Go4. -/
import Derived.Test.YtfnpelogfcnanaaGreatDoorGo
import Derived.Test.YtfnpelogfcnanaaGreatDoorM7
import Derived.Test.YtfnpelogfcnanaaGreatDoorM5
/- names: Under; the reference's Same; the laws' example. -/
-- @D
namespace Go.Proofs.YtfnpelogfcnanaaGreatDoor
set_option maxRecDepth 20000
open Go.Awp Tr
structure SmQ (a b : List (List UInt8)) where
  i : Nat
  h : i ≤ a.length
  e : a.take i = b.take i
theorem take_snoc {α : Type} {l : List α} {i : Nat} {x : α} (hx : l[i]? = some x) : l.take (i + 1) = l.take i ++ [x] := by
  obtain ⟨h, rfl⟩ := List.getElem?_eq_some_iff.1 hx
  exact List.take_succ_eq_append_getElem h
/-- Do names begin others? -/
def underB (a b : List (List UInt8)) : Bool := decide ((a.length : Int) < (b.length : Int)) && decide (a = b.take a.length)
end Go.Proofs.YtfnpelogfcnanaaGreatDoor

/- names: the reference's Split. -/
-- @D
namespace Go.Proofs.YtfnpelogfcnanaaGreatDoor
set_option maxRecDepth 20000
open Go.Awp Tr
theorem spl_cut {c : UInt8} (r : List UInt8) : ∀ {p : List UInt8}, p.count c = 0 → spl c (p ++ c :: r) = p :: spl c r
  | [], _ => by simp [spl]
  | b :: p, h => by
    have hb : b ≠ c := fun e => by subst e; simp at h
    rw [List.count_cons, if_neg (by simp [hb])] at h
    rw [List.cons_append]
    conv => lhs; unfold spl
    rw [if_neg hb, spl_cut r (p := p) (by omega)]
/-- What is left to be cut. -/
def rsR (l : List UInt8) (i f : Nat) : List (List UInt8) := if i ≤ l.length then spl 47 (l.drop f) else []
theorem str_cl16 (l : List (List UInt8)) : clR (l.map AV.str) := by
  intro r hr x hx
  obtain ⟨y, _, rfl⟩ := List.mem_map.1 hr
  simp [cellsOf] at hx
  subst hx
  rfl
/-- The loop's next round, its measure told out. -/
theorem J_next {Γ : Ctx} {env : Env} {H L : List AObj} {ι : Type} {ei : ι → Env} {Hi Li : ι → List AObj} {m : ι → Nat} {mi : Nat} (j : ι) (hm : m j < mi) (hs : AllLk env (ei j)) (hH : Hi j = H) (hL : Li j = L) :
    J Γ env H L (fun a w => ∃ j β, m j < mi ∧ St Γ (ei j) (Hi j) (Li j) a w β) := by
  subst hH hL
  exact fun a w β s => ⟨j, β, hm, s.sim, s.step, s.env.sub (sub_of_all hs), s.size, s.defers⟩
structure RSp (l : List UInt8) where
  i : Nat
  f : Nat
  dn : List (List UInt8)
  h1 : 1 ≤ f
  h : f ≤ i
  h2 : i ≤ l.length + 1
  n : ((l.drop f).take (i - f)).count 47 = 0
  e : dn ++ rsR l i f = spl 47 (l.drop 1)
  ok : ∀ x ∈ dn, nameB x = true
def rsplitN (l : List UInt8) : AV × Int :=
  if l = [] ∨ 255 < l.length then (.cz, 17) else if l.headD 0 ≠ 47 then (.cz, 15) else if l = [47] then (.cz, 0)
  else if mayN (spl 47 (l.drop 1)) = true then (.ps ((spl 47 (l.drop 1)).map .str), 0) else (.cz, 17)
theorem mayN_no {p : List (List UInt8)} {x : List UInt8} (h : x ∈ p) (hx : nameB x = false) : mayN p = false := by
  unfold mayN
  rw [show (p.any fun x => !nameB x) = true from List.any_eq_true.2 ⟨x, h, by rw [hx]; rfl⟩]
  simp
theorem mayN_yes {p : List (List UInt8)} (h : ∀ x ∈ p, nameB x = true) : mayN p = decide ((p.length : Int) ≤ 16) := by
  unfold mayN
  rw [show (p.any fun x => !nameB x) = false from List.any_eq_false.2 fun x hx => by rw [h x hx]; simp]
  simp
set_option maxHeartbeats 8000000 in
theorem rsplit16_spec (l : List UInt8) : Con Tryz.prog 120 [.p (.str l)] [] (.tup [.p (rsplitN l).1, .p (.int .i64 (rsplitN l).2)]) [] [] := by
  unfold rsplitN
  by_cases h1 : l = [] ∨ 255 < l.length
  · rw [if_pos h1]
    refine con_of Tryz.func120 rfl (by kernel_rfl) rfl fun F w0 β0 => ?_
    refine K_tell rfl ?_
    refine go ?_
    refine K_condT rfl (by rcases h1 with h | h <;> simp [h] <;> omega) ?_
    refine go ?_
    exact J_done hT rfl rfl rfl
  · rw [if_neg h1]
    have hne : l ≠ [] := fun e => h1 (.inl e)
    have hlp := List.length_pos_iff.2 hne
    have h0 : l[0]? = some (l.headD 0) := by
      cases l with
      | nil => exact absurd rfl hne
      | cons b r => rfl
    by_cases h2 : l.headD 0 ≠ 47
    · rw [if_pos h2]
      refine con_of Tryz.func120 rfl (by kernel_rfl) rfl fun F w0 β0 => ?_
      refine K_tell rfl ?_
      refine go ?_
      refine K_condF rfl (by simp [hne]; omega) ?_
      refine go ?_
      refine K_op rfl rfl (opr_byte hT rfl rfl rfl rfl (by decide) h0) rfl ?_
      refine go ?_
      refine K_condT rfl (by rw [bne_iff_ne]; intro e; exact h2 (UInt8.toNat_inj.1 (by show (l.headD 0).toNat = 47; omega))) ?_
      refine go ?_
      exact J_done hT rfl rfl rfl
    · rw [if_neg h2]
      simp only [ne_eq, Decidable.not_not] at h2
      by_cases h3 : l = [47]
      · subst h3
        rw [if_pos rfl]
        refine con_of Tryz.func120 rfl (by kernel_rfl) rfl fun F w0 β0 => ?_
        refine K_tell rfl ?_
        refine go ?_
        refine K_op rfl rfl (opr_byte hT rfl rfl rfl rfl (by decide) rfl) rfl ?_
        refine go ?_
        exact J_done hT rfl rfl rfl
      · rw [if_neg h3]
        have h4 : l.length ≠ 1 := fun e => h3 (by
          match l, e, h2 with
          | [b], _, h2 => simp at h2; rw [h2])
        refine con_of Tryz.func120 rfl (by kernel_rfl) rfl fun F w0 β0 => ?_
        refine K_tell rfl ?_
        refine go ?_
        refine K_condF rfl (by simp [hne]; omega) ?_
        refine go ?_
        refine K_op rfl rfl (opr_byte hT rfl rfl rfl rfl (by decide) h0) rfl ?_
        rw [h2]
        refine go ?_
        refine K_condF rfl (by simp; omega) ?_
        refine go ?_
        refine J_lazyE 5 9 (e := 1) rfl rfl (.inr rfl) ?_
        refine J_loop (fun q : RSp l => [(0, .p (.str l)), (4, .p .cz), (5, .sl (.l 0) q.dn.length 0 q.dn.length), (6, .p (.int .i64 (q.f : Int))), (7, .p (.int .i64 (q.i : Int)))]) (fun _ => []) (fun q => [.arr 9 true 1 (q.dn.map .str)]) (fun q => l.length + 1 - q.i) ⟨1, 1, [], by omega, by omega, by omega, by simp, by unfold rsR; rw [if_pos (by omega)]; rfl, by simp⟩ ⟨rfl, rfl, rfl, rfl, rfl, trivial⟩ rfl rfl (fun q => ?_)
        obtain ⟨i, f, dn, f1, fi, i2, hn, he, ok⟩ := q
        dsimp only
        have hdn : dn.length ≤ 300 := by
          have := congrArg List.length he
          rw [List.length_append, spl_len] at this
          have h5 := count_le 47 (l.drop 1)
          have h6 : (l.drop 1).length ≤ l.length := by simp
          omega
        refine go ?_
        by_cases hil : i ≤ l.length
        · refine K_condT rfl (decide_eq_true (by omega)) ?_
          unfold rsR at he
          rw [if_pos hil] at he
          have hpart : ((l.drop ((f : Nat) : Int).toNat).take (((i : Nat) : Int).toNat - ((f : Nat) : Int).toNat)) = (l.drop f).take (i - f) := by simp
          have hdrop : l.drop f = (l.drop f).take (i - f) ++ l.drop i := by
            have := List.take_append_drop (i - f) (l.drop f)
            rw [List.drop_drop, show f + (i - f) = i by omega] at this
            exact this.symm
          have hpl : ((l.drop f).take (i - f)).length ≤ 255 := by simp; omega
          have c1 := rname_spec ((l.drop f).take (i - f)) (by omega)
          generalize hp : (l.drop f).take (i - f) = p at hpart hdrop hpl c1 hn
          by_cases hie : i = l.length
          · have hB : spl 47 (l.drop f) = p :: rsR l (i + 1) (i + 1) := by
              rw [hdrop, List.drop_eq_nil_of_le (by omega), List.append_nil, spl_none hn]
              unfold rsR
              rw [if_neg (by omega)]
            refine gx ?_
            rw [show ((i : Int) == (l.length : Int)) = true from by simp [hie]]
            refine go ?_
            refine K_op rfl rfl (opr_cut_str (i := (f : Int)) (j := (i : Int)) hT rfl rfl rfl rfl rfl (by omega) (by omega) (by omega)) rfl ?_
            rw [hpart]
            refine K_op rfl rfl (opr_callP rfl rfl (c1) rfl rfl rfl rfl) rfl ?_
            refine go ?_
            cases hnm : nameB p with
            | false =>
              have hmm : mayN (spl 47 (l.drop 1)) = false := mayN_no (x := p) (by rw [← he, hB]; simp) hnm
              rw [hmm]
              refine go ?_
              refine J_take 0 [(2, .p .cz), (3, .p (.int .i64 17))] ⟨rfl, rfl, trivial⟩ rfl rfl ?_
              exact J_done hT rfl rfl rfl
            | true =>
              refine go ?_
              refine K_op rfl rfl (opr_cut_str (i := (f : Int)) (j := (i : Int)) hT rfl rfl rfl rfl rfl (by omega) (by omega) (by omega)) rfl ?_
              rw [hpart]
              refine go ?_
              refine K_op rfl rfl (opr_app_own hT rfl rfl rfl rfl (by simp) rfl rfl (.rd (.ps _)) hbs_ps (str_cl16 [p]) (str_size [p]) (by decide) (by show (_ + 1) * 16 ≤ _; omega)) rfl ?_
              refine go ?_
              rw [IntWalk.i64_in ((i : Int) + 1) (by omega)]
              refine J_take 1 [(0, .p (.str l)), (4, .p .cz), (5, .sl (.l 0) (dn.length + 1) 0 (dn.length + 1)), (6, .p (.int .i64 ((i : Int) + 1))), (7, .p (.int .i64 ((i : Int) + 1)))] ⟨rfl, rfl, rfl, rfl, rfl, trivial⟩ rfl rfl ?_
              refine J_next ⟨i + 1, i + 1, dn ++ [p], by omega, by omega, by omega, by simp, by rw [List.append_assoc, List.singleton_append, ← hB]; exact he, fun x hx => by rcases List.mem_append.1 hx with hx | hx; exact ok x hx; rw [List.mem_singleton.1 hx]; exact hnm⟩ (by show l.length + 1 - (i + 1) < l.length + 1 - i; omega) ⟨rfl, rfl, by rw [List.length_append]; rfl, rfl, rfl, trivial⟩ rfl (by rw [List.map_append]; rfl)
          · have hx : l[i]? = some (l[i]'(by omega)) := List.getElem?_eq_getElem _
            have hdi : l.drop i = l[i]'(by omega) :: l.drop (i + 1) := List.drop_eq_getElem_cons (by omega)
            have hta : (l.drop f).take (i + 1 - f) = p ++ [l[i]'(by omega)] := by
              rw [← hp, show i + 1 - f = (i - f) + 1 by omega]
              exact take_snoc (by rw [List.getElem?_drop, show f + (i - f) = i by omega]; exact hx)
            generalize l[i]'(by omega) = b at hx hdi hta
            refine gx ?_
            rw [show ((i : Int) == (l.length : Int)) = false from by rw [beq_eq_false_iff_ne]; omega]
            refine gx ?_
            refine K_yes rfl rfl rfl (opr_byte hT rfl rfl rfl rfl (by omega) (by rw [Int.toNat_natCast]; exact hx)) rfl ?_
            refine go ?_
            by_cases hb : b = 47
            · subst hb
              have hB : spl 47 (l.drop f) = p :: rsR l (i + 1) (i + 1) := by
                rw [hdrop, hdi, spl_cut _ hn]
                unfold rsR
                rw [if_pos (by omega)]
              refine K_condT rfl (by simp) ?_
              refine go ?_
              refine K_op rfl rfl (opr_cut_str (i := (f : Int)) (j := (i : Int)) hT rfl rfl rfl rfl rfl (by omega) (by omega) (by omega)) rfl ?_
              rw [hpart]
              refine K_op rfl rfl (opr_callP rfl rfl (c1) rfl rfl rfl rfl) rfl ?_
              refine go ?_
              cases hnm : nameB p with
              | false =>
                have hmm : mayN (spl 47 (l.drop 1)) = false := mayN_no (x := p) (by rw [← he, hB]; simp) hnm
                rw [hmm]
                refine go ?_
                refine J_take 0 [(2, .p .cz), (3, .p (.int .i64 17))] ⟨rfl, rfl, trivial⟩ rfl rfl ?_
                exact J_done hT rfl rfl rfl
              | true =>
                refine go ?_
                refine K_op rfl rfl (opr_cut_str (i := (f : Int)) (j := (i : Int)) hT rfl rfl rfl rfl rfl (by omega) (by omega) (by omega)) rfl ?_
                rw [hpart]
                refine go ?_
                refine K_op rfl rfl (opr_app_own hT rfl rfl rfl rfl (by simp) rfl rfl (.rd (.ps _)) hbs_ps (str_cl16 [p]) (str_size [p]) (by decide) (by show (_ + 1) * 16 ≤ _; omega)) rfl ?_
                refine go ?_
                rw [IntWalk.i64_in ((i : Int) + 1) (by omega)]
                refine J_take 1 [(0, .p (.str l)), (4, .p .cz), (5, .sl (.l 0) (dn.length + 1) 0 (dn.length + 1)), (6, .p (.int .i64 ((i : Int) + 1))), (7, .p (.int .i64 ((i : Int) + 1)))] ⟨rfl, rfl, rfl, rfl, rfl, trivial⟩ rfl rfl ?_
                refine J_next ⟨i + 1, i + 1, dn ++ [p], by omega, by omega, by omega, by simp, by rw [List.append_assoc, List.singleton_append, ← hB]; exact he, fun x hx => by rcases List.mem_append.1 hx with hx | hx; exact ok x hx; rw [List.mem_singleton.1 hx]; exact hnm⟩ (by show l.length + 1 - (i + 1) < l.length + 1 - i; omega) ⟨rfl, rfl, by rw [List.length_append]; rfl, rfl, rfl, trivial⟩ rfl (by rw [List.map_append]; rfl)
            · refine K_condF rfl (by simp; intro q; exact hb (UInt8.toNat_inj.1 (by show b.toNat = 47; omega))) ?_
              refine go ?_
              rw [IntWalk.i64_in ((i : Int) + 1) (by omega)]
              exact fun a' w' β st => ⟨⟨i + 1, f, dn, f1, by omega, by omega, by rw [hta, List.count_append, hn, List.count_cons, if_neg (by simp [hb])]; rfl, by unfold rsR; rw [if_pos (by omega)]; exact he, ok⟩, β, by show l.length + 1 - (i + 1) < l.length + 1 - i; omega, st.sim, st.step, st.env.sub (sub_of_all ⟨rfl, rfl, rfl, rfl, rfl, trivial⟩), st.size, st.defers⟩
        · refine K_condF rfl (decide_eq_false (by omega)) ?_
          have hid : i = l.length + 1 := by omega
          unfold rsR at he
          rw [if_neg hil, List.append_nil] at he
          rw [← he, mayN_yes ok]
          have hml : (dn.map AV.str).length = dn.length := by simp
          by_cases h16 : (dn.length : Int) ≤ 16
          · rw [decide_eq_true h16, if_pos rfl]
            refine go ?_
            refine K_op rfl rfl (opr_len_rd hT rfl rfl (Rd.full rfl hml)) rfl ?_
            rw [hml]
            refine go ?_
            refine K_condF rfl (decide_eq_false (by omega)) ?_
            refine go ?_
            refine J_freeze_all 2 0 rfl rfl hml ?_
            refine J_take 0 [(2, .p (.ps (dn.map .str))), (3, .p (.int .i64 0))] ⟨rfl, rfl, trivial⟩ rfl rfl ?_
            exact J_done hT rfl rfl rfl
          · rw [decide_eq_false h16, if_neg (by simp)]
            refine go ?_
            refine K_op rfl rfl (opr_len_rd hT rfl rfl (Rd.full rfl hml)) rfl ?_
            rw [hml]
            refine go ?_
            refine K_condT rfl (decide_eq_true (by omega)) ?_
            refine go ?_
            refine J_take 0 [(2, .p .cz), (3, .p (.int .i64 17))] ⟨rfl, rfl, trivial⟩ rfl rfl ?_
            exact J_done hT rfl rfl rfl
end Go.Proofs.YtfnpelogfcnanaaGreatDoor

/- More rules of the walk: drawn regions whose calls change the caller's objects. No program is named here. -/
-- @D
namespace Go.Proofs.YtfnpelogfcnanaaGreatDoor
set_option maxRecDepth 20000
open Go.Awp Go.RowKit
section
variable {P : Program} {Γ : Ctx} {env0 : Env} {H L : List AObj} {Q : Exit → Act → World → Prop} {id : Nat} {ops : List Oper}
/-- A drawn region of which one operation writes the caller's objects. -/
theorem J_drawH1 (n : Nat) (H2 : List AObj) (hm : P.follows .mixedOrders = true) (hreg : regOk Γ.N ops [n] = true)
    (h : Tele P ops env0 (fun k => [H, H2].getD k []) [L, L] [n] (fun xs => J Γ (finE ops xs env0) H2 L (Q .normal)) ops 0 []) : J Γ env0 H L ((Code.region id ops.toArray true).wp P Q) :=
  J_drawH [H, H2] [L, L] [n] hm hreg rfl rfl h
/-- Of which two do. -/
theorem J_drawHH (n m : Nat) (H2 H3 : List AObj) (hm : P.follows .mixedOrders = true) (hreg : regOk Γ.N ops [n, m] = true)
    (h : Tele P ops env0 (fun k => [H, H2, H3].getD k []) [L, L, L] [n, m] (fun xs => J Γ (finE ops xs env0) H3 L (Q .normal)) ops 0 []) : J Γ env0 H L ((Code.region id ops.toArray true).wp P Q) :=
  J_drawH [H, H2, H3] [L, L, L] [n, m] hm hreg rfl rfl h
end
section
variable {P : Program} {ops : List Oper} {env0 : Env} {Hs Ls : List (List AObj)} {ss : List Nat} {xs : List TV}
/-- Where up to two operations that write may have come ahead. -/
theorem T_op3H {K : List TV → Prop} {o : Oper} {rest : List Oper} {i k : Nat} {x : TV} {H L H2 L2 H3 L3 : List AObj} (hg : o.guard = none) (hp : posn ss 0 i = none) (hk : loK o ss 0 0 = k) (hk2 : Nat.beq (hiK ops i ss 0 - k) 2 = true) (hH : Hs.getD k [] = H) (hL : Ls.getD k [] = L) (hH2 : Hs.getD (k + 1) [] = H2) (hL2 : Ls.getD (k + 1) [] = L2) (hH3 : Hs.getD (k + 2) [] = H3) (hL3 : Ls.getD (k + 2) [] = L3)
    (h : OpR P o (RdE ops env0 xs o) H L x H L) (h2 : OpR P o (RdE ops env0 xs o) H2 L2 x H2 L2) (h3 : OpR P o (RdE ops env0 xs o) H3 L3 x H3 L3) {xs' : List TV} (hxs : snocD xs x = some xs') (kk : Tele P ops env0 (fun k => Hs.getD k []) Ls ss K rest (i + 1) xs') : Tele P ops env0 (fun k => Hs.getD k []) Ls ss K (o :: rest) i xs :=
  ⟨x, .inl ⟨fun g b hgb => (by rw [hg] at hgb; cases hgb), by
    subst hH hL hH2 hL2 hH3 hL3
    unfold Obl
    rw [hp]
    simp only
    rw [hk, Nat.eq_of_beq_eq_true hk2]
    exact ⟨h, h2, h3⟩⟩, by rw [snocN_eq (snocD_eq hxs)]; exact kk⟩
/-- Where up to three operations that write may have come ahead. -/
theorem T_op4H {K : List TV → Prop} {o : Oper} {rest : List Oper} {i k : Nat} {x : TV} {H L H2 L2 H3 L3 H4 L4 : List AObj} (hg : o.guard = none) (hp : posn ss 0 i = none) (hk : loK o ss 0 0 = k) (hk2 : Nat.beq (hiK ops i ss 0 - k) 3 = true) (hH : Hs.getD k [] = H) (hL : Ls.getD k [] = L) (hH2 : Hs.getD (k + 1) [] = H2) (hL2 : Ls.getD (k + 1) [] = L2) (hH3 : Hs.getD (k + 2) [] = H3) (hL3 : Ls.getD (k + 2) [] = L3) (hH4 : Hs.getD (k + 3) [] = H4) (hL4 : Ls.getD (k + 3) [] = L4)
    (h : OpR P o (RdE ops env0 xs o) H L x H L) (h2 : OpR P o (RdE ops env0 xs o) H2 L2 x H2 L2) (h3 : OpR P o (RdE ops env0 xs o) H3 L3 x H3 L3) (h4 : OpR P o (RdE ops env0 xs o) H4 L4 x H4 L4) {xs' : List TV} (hxs : snocD xs x = some xs') (kk : Tele P ops env0 (fun k => Hs.getD k []) Ls ss K rest (i + 1) xs') : Tele P ops env0 (fun k => Hs.getD k []) Ls ss K (o :: rest) i xs :=
  ⟨x, .inl ⟨fun g b hgb => (by rw [hg] at hgb; cases hgb), by
    subst hH hL hH2 hL2 hH3 hL3 hH4 hL4
    unfold Obl
    rw [hp]
    simp only
    rw [hk, Nat.eq_of_beq_eq_true hk2]
    exact ⟨h, h2, h3, h4⟩⟩, by rw [snocN_eq (snocD_eq hxs)]; exact kk⟩
/-- Where up to four operations that write may have come ahead. -/
theorem T_op5H {K : List TV → Prop} {o : Oper} {rest : List Oper} {i k : Nat} {x : TV} {H L H2 L2 H3 L3 H4 L4 H5 L5 : List AObj} (hg : o.guard = none) (hp : posn ss 0 i = none) (hk : loK o ss 0 0 = k) (hk2 : Nat.beq (hiK ops i ss 0 - k) 4 = true) (hH : Hs.getD k [] = H) (hL : Ls.getD k [] = L) (hH2 : Hs.getD (k + 1) [] = H2) (hL2 : Ls.getD (k + 1) [] = L2) (hH3 : Hs.getD (k + 2) [] = H3) (hL3 : Ls.getD (k + 2) [] = L3) (hH4 : Hs.getD (k + 3) [] = H4) (hL4 : Ls.getD (k + 3) [] = L4) (hH5 : Hs.getD (k + 4) [] = H5) (hL5 : Ls.getD (k + 4) [] = L5)
    (h : OpR P o (RdE ops env0 xs o) H L x H L) (h2 : OpR P o (RdE ops env0 xs o) H2 L2 x H2 L2) (h3 : OpR P o (RdE ops env0 xs o) H3 L3 x H3 L3) (h4 : OpR P o (RdE ops env0 xs o) H4 L4 x H4 L4) (h5 : OpR P o (RdE ops env0 xs o) H5 L5 x H5 L5) {xs' : List TV} (hxs : snocD xs x = some xs') (kk : Tele P ops env0 (fun k => Hs.getD k []) Ls ss K rest (i + 1) xs') : Tele P ops env0 (fun k => Hs.getD k []) Ls ss K (o :: rest) i xs :=
  ⟨x, .inl ⟨fun g b hgb => (by rw [hg] at hgb; cases hgb), by
    subst hH hL hH2 hL2 hH3 hL3 hH4 hL4 hH5 hL5
    unfold Obl
    rw [hp]
    simp only
    rw [hk, Nat.eq_of_beq_eq_true hk2]
    exact ⟨h, h2, h3, h4, h5⟩⟩, by rw [snocN_eq (snocD_eq hxs)]; exact kk⟩
end
/-- A drawn region that writes the caller's objects, as far as the environment tells. -/
theorem gdJ {φ ψ : Prop} (k : ψ) (h : ψ → φ := by
  intro k
  repeat (first
    | with_reducible refine T_nil ?_
    | ((with_reducible refine T_gateF ?_); first | refine T_opH rfl rfl rfl rfl rfl rfl (stepN_ok hT rfl) rfl ?_ | refine T_opH rfl rfl rfl rfl rfl rfl (stepG_ok hT rfl) rfl ?_ | refine T_opH rfl rfl rfl rfl rfl rfl (stepA_ok hT rfl) rfl ?_ | refine T_opH rfl rfl rfl rfl rfl rfl (opr_lit hT rfl rfl rfl rfl) rfl ?_ | refine T_op2H rfl rfl rfl rfl rfl rfl rfl rfl (stepN_ok hT rfl) (stepN_ok hT rfl) rfl ?_ | refine T_op2H rfl rfl rfl rfl rfl rfl rfl rfl (stepG_ok hT rfl) (stepG_ok hT rfl) rfl ?_ | refine T_op2H rfl rfl rfl rfl rfl rfl rfl rfl (stepA_ok hT rfl) (stepA_ok hT rfl) rfl ?_ | refine T_op2H rfl rfl rfl rfl rfl rfl rfl rfl (opr_lit hT rfl rfl rfl rfl) (opr_lit hT rfl rfl rfl rfl) rfl ?_ | refine T_op3H rfl rfl rfl rfl rfl rfl rfl rfl rfl rfl (opr_lit hT rfl rfl rfl rfl) (opr_lit hT rfl rfl rfl rfl) (opr_lit hT rfl rfl rfl rfl) rfl ?_ | refine T_op3H rfl rfl rfl rfl rfl rfl rfl rfl rfl rfl (stepN_ok hT rfl) (stepN_ok hT rfl) (stepN_ok hT rfl) rfl ?_ | refine T_op3H rfl rfl rfl rfl rfl rfl rfl rfl rfl rfl (stepG_ok hT rfl) (stepG_ok hT rfl) (stepG_ok hT rfl) rfl ?_ | refine T_op3H rfl rfl rfl rfl rfl rfl rfl rfl rfl rfl (stepA_ok hT rfl) (stepA_ok hT rfl) (stepA_ok hT rfl) rfl ?_ | refine T_op4H rfl rfl rfl rfl rfl rfl rfl rfl rfl rfl rfl rfl (stepN_ok hT rfl) (stepN_ok hT rfl) (stepN_ok hT rfl) (stepN_ok hT rfl) rfl ?_ | refine T_op4H rfl rfl rfl rfl rfl rfl rfl rfl rfl rfl rfl rfl (stepG_ok hT rfl) (stepG_ok hT rfl) (stepG_ok hT rfl) (stepG_ok hT rfl) rfl ?_ | refine T_op4H rfl rfl rfl rfl rfl rfl rfl rfl rfl rfl rfl rfl (stepA_ok hT rfl) (stepA_ok hT rfl) (stepA_ok hT rfl) (stepA_ok hT rfl) rfl ?_ | refine T_op5H rfl rfl rfl rfl rfl rfl rfl rfl rfl rfl rfl rfl rfl rfl (stepN_ok hT rfl) (stepN_ok hT rfl) (stepN_ok hT rfl) (stepN_ok hT rfl) (stepN_ok hT rfl) rfl ?_ | refine T_op5H rfl rfl rfl rfl rfl rfl rfl rfl rfl rfl rfl rfl rfl rfl (stepG_ok hT rfl) (stepG_ok hT rfl) (stepG_ok hT rfl) (stepG_ok hT rfl) (stepG_ok hT rfl) rfl ?_ | refine T_op5H rfl rfl rfl rfl rfl rfl rfl rfl rfl rfl rfl rfl rfl rfl (stepA_ok hT rfl) (stepA_ok hT rfl) (stepA_ok hT rfl) (stepA_ok hT rfl) (stepA_ok hT rfl) rfl ?_ | refine T_stH rfl rfl rfl rfl rfl rfl (stepG_ok hT rfl) rfl ?_ | refine T_stH rfl rfl rfl rfl rfl rfl (stepN_ok hT rfl) rfl ?_))
  exact k) : φ := h k
end Go.Proofs.YtfnpelogfcnanaaGreatDoor

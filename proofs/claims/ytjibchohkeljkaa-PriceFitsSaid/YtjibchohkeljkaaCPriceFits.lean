/- The law PriceFits: its contract. -/
import Derived.Test.YtjibchohkeljkaaGo
import Derived.Test.YtjibchohkeljkaaM6
-- @D
namespace Go.Proofs.Ytjibchohkeljkaa
set_option maxRecDepth 20000
open Go.Awp Tr
theorem pws_shp {a : AV} (h : Shp tab 8 25 a) : ∃ l : List PW, Sl pwV a l ∧ (∀ x ∈ l, x.1.length ≤ Go.Awp.reach ∧ x.2.1.length ≤ Go.Awp.reach) ∧ l.length ≤ 140737488355328 :=
  shp_agg pwV _ h rfl rfl rfl rfl (by decide) fun cs hc => by
    obtain ⟨x, y, z, rfl, hx, hy, hz⟩ := all2_3 hc
    obtain ⟨k, rfl, hk⟩ := hx.str rfl
    obtain ⟨v, rfl, hv⟩ := hy.str rfl
    obtain ⟨b, rfl⟩ := hz.bool rfl
    exact ⟨(k, v, b), rfl, hk, hv⟩
theorem putB_short (l : List Rg) (h : ∀ r ∈ l, r.1.length ≤ 100 ∧ r.2.length ≤ 100) : ∀ t : Tr, Rises t.row → (∀ x ∈ t.row, x.1.length ≤ 1000 ∧ x.2.length ≤ 1000) → ∀ x ∈ (l.foldl putB t).row, x.1.length ≤ 1000 ∧ x.2.length ≤ 1000 := by
  induction l with
  | nil => intro t _ h2; exact h2
  | cons r l ih =>
    intro t hr h2
    have hr2 : Rises (putB t r).row := by unfold putB; rw [set_row _ _ _ hr]; exact lset_rises hr
    refine ih (fun x hx => h x (List.mem_cons_of_mem _ hx)) _ hr2 fun x hx => ?_
    unfold putB at hx
    rw [set_row _ _ _ hr] at hx
    have := h r (List.mem_cons_self ..)
    rcases lset_mem hx with rfl | hx
    · dsimp only; omega
    · exact h2 x hx
theorem baseT_short (l : List Rg) : ∀ x ∈ (baseT l).row, x.1.length ≤ 1000 ∧ x.2.length ≤ 1000 := by
  refine putB_short _ (fun r hr => ?_) .nil (by simp [row, Rises]) (by simp [row])
  obtain ⟨j, hj⟩ := cutG_all stopB l 0 r (by simpa using hr)
  simp only [stopB, Bool.or_eq_false_iff, decide_eq_false_iff_not] at hj
  omega
set_option maxHeartbeats 4000000 in
theorem fits_spec (s z : Int) (t : Tr) (hz : t.size ≤ 1000) (hb : ∀ x ∈ t.row, x.1.length ≤ 1000 ∧ x.2.length ≤ 1000) {a : AV} {l : List PW} (hs : Sl pwV a l) (hl : l.length ≤ 300) : Con Try.prog 6 [.p (gV s z), W t, .p a] [] (.p (.bool (decide (IntKind.i64.wrap (ptree t.row + psum l) ≤ gCap s z)))) [] [] := by
  have c1 := ptree_spec t hz hb
  have c2 := sprice_spec hs hl
  have c3 := cap_spec s z
  refine con_of Try.func6 rfl (by kernel_rfl) rfl fun F w0 β0 => ?_
  refine K_tell rfl ?_
  refine go ?_
  refine J_draw [_] [] (by kernel_rfl) (by kernel_rfl) rfl ?_
  refine gd ?_
  refine T_opD rfl rfl rfl rfl rfl (opr_call0P rfl rfl c1 rfl rfl rfl) rfl ?_
  refine gd ?_
  refine T_opD rfl rfl rfl rfl rfl (opr_call0P rfl rfl c2 rfl rfl rfl) rfl ?_
  refine gd ?_
  refine T_opD rfl rfl rfl rfl rfl (opr_call0P rfl rfl c3 rfl rfl rfl) rfl ?_
  refine gd ?_
  refine go ?_
  exact J_done hT rfl rfl rfl
namespace priceFits
set_option maxHeartbeats 8000000 in
theorem con {a0 : List AV} {a1 a2 : AV} (s0 : All2 (Shp tab 8) [3, 3] a0) (s1 : Shp tab 8 24 a1) (s2 : Shp tab 8 25 a2) : Con Try.prog 3 [.p (.agg a0), .p a1, .p a2] [] (.p (.bool true)) [] [] := by
  obtain ⟨x, y, rfl, hx, hy⟩ := all2_2 s0
  obtain ⟨s, rfl, hs⟩ := hx.int rfl
  obtain ⟨z, rfl, hz⟩ := hy.int rfl
  obtain ⟨lb, hlb, _, hlb2⟩ := rgs_shp s1
  obtain ⟨l, hl, _, hl2⟩ := pws_shp s2
  have c0 := base14_spec hlb hlb2
  obtain ⟨hb1, hb2⟩ := baseT_ok lb
  have hb3 := baseT_short lb
  generalize baseT lb = t at c0 hb1 hb2 hb3
  have hlen : (l.map pwV).length = l.length := by simp
  have cm := rgmay_spec s z
  have p6 := fixed23_spec []
  have cn := ptree_spec .nil (by simp [Tr.size]) (by simp [row])
  rw [show ptree Tr.nil.row = 50 from rfl] at cn
  have cn := Con.arg1 cn (cell_le (x := .nilp) rfl)
  refine con_of Try.func3 rfl (by kernel_rfl) rfl fun F w0 β0 => ?_
  refine K_tell rfl ?_
  refine go ?_
  refine K_op rfl rfl (opr_len_rd hT rfl rfl (hl.rd _ _)) rfl ?_
  rw [hlen]
  refine gx ?_
  by_cases h3 : (l.length : Int) > 300
  · refine J_true 15 rfl (decide_eq_true h3) ?_
    refine go ?_
    refine J_draw [_] [] (by kernel_rfl) (by kernel_rfl) rfl ?_
    refine gd ?_
    refine T_opD rfl rfl rfl rfl rfl (opr_call0P rfl rfl p6 rfl rfl rfl) rfl ?_
    refine gd ?_
    refine T_yesD rfl rfl rfl rfl rfl rfl (opr_len_rd hT rfl rfl (hl.rd _ _)) rfl ?_
    rw [hlen]
    refine gd ?_
    rw [show decide ((l.length : Int) > 300) = true from decide_eq_true h3]
    refine gd ?_
    refine go ?_
    exact J_done hT rfl rfl rfl
  refine J_false 15 rfl (decide_eq_false h3) ?_
  refine go ?_
  refine K_yes rfl rfl rfl (opr_callP rfl rfl (cm) rfl rfl rfl rfl) rfl ?_
  refine go ?_
  cases hm : gMay s z with
  | false =>
    have c4 := fits_spec s z .nil (by simp [Tr.size]) (by simp [row]) .nils (by simp)
    rw [show ptree Tr.nil.row = 50 from rfl, show psum [] = 0 from rfl, show gCap s z = 0 by unfold gCap; rw [hm]; rfl] at c4
    change Con Try.prog _ _ _ (.p (.bool false)) _ _ at c4
    refine go ?_
    refine J_draw [_] [] (by kernel_rfl) (by kernel_rfl) rfl ?_
    refine gd ?_
    refine T_opD rfl rfl rfl rfl rfl (opr_call0P rfl rfl p6 rfl rfl rfl) rfl ?_
    refine gd ?_
    refine T_yesD rfl rfl rfl rfl rfl rfl (opr_len_rd hT rfl rfl (hl.rd _ _)) rfl ?_
    rw [hlen]
    refine gd ?_
    rw [show decide ((l.length : Int) > 300) = false from decide_eq_false h3]
    refine gd ?_
    refine T_yesD rfl rfl rfl rfl rfl rfl (opr_call0P rfl rfl tnew_spec rfl rfl rfl) rfl ?_
    refine gd ?_
    refine T_yesD rfl rfl rfl rfl rfl rfl (opr_call0P rfl rfl c4 rfl rfl rfl) rfl ?_
    refine gd ?_
    refine T_yesD rfl rfl rfl rfl rfl rfl (opr_call0P rfl rfl cn rfl rfl rfl) rfl ?_
    refine gd ?_
    refine go ?_
    exact J_done hT rfl rfl rfl
  | true =>
    have c4 := fits_spec s z t (by omega) hb3 hl (by omega)
    have c5 := ptree_spec t (by omega) hb3
    have hgc : gCap s z = (s - 4) * (z - 152) := by unfold gCap; rw [hm]; rfl
    have hgb := gmul_b hm
    obtain ⟨g1, g2, g3, g4⟩ := gMay_b hm
    rw [hgc] at c4
    refine go ?_
    refine K_op rfl rfl (opr_callP rfl rfl (c0) rfl rfl rfl rfl) rfl ?_
    refine go ?_
    refine K_op rfl rfl (opr_len_rd hT rfl rfl (hl.rd _ _)) rfl ?_
    rw [hlen]
    refine go ?_
    refine J_loop (fun q : Ix l.length => [(2, .p a2), (3, .ad (.l 0) 0), (7, W t), (9, .p (.int .i64 (psum (l.take q.i)))), (39, .p a2), (40, .p (.int .i64 (l.length : Int))), (41, .p (.int .i64 (q.i : Int)))]) (fun _ => []) (fun _ => [.box 23 [.p (.int .i64 s), .p (.int .i64 z)]]) (fun q => l.length - q.i) ⟨0, by omega⟩ ⟨rfl, rfl, rfl, rfl, rfl, rfl, rfl, trivial⟩ rfl rfl (fun q => ?_)
    have hi := q.h
    refine go ?_
    by_cases h : q.i < l.length
    · have hx : l[q.i]? = some l[q.i] := List.getElem?_eq_getElem h
      generalize l[q.i] = x at hx
      have hxk := map_getP pwV hx
      have hb := psum_b l (q.i + 1) (by omega)
      have hf : psum (l.take (q.i + 1)) = psum (l.take q.i) + isz x.1 x.2.1 := fold_take _ _ hx
      refine K_condT rfl (decide_eq_true (by omega)) ?_
      refine go ?_
      refine K_op rfl rfl (opr_index hT rfl rfl rfl rfl rfl (hl.rd _ _) (by omega) (by rw [hlen]; omega)) rfl ?_
      refine go ?_
      refine K_op rfl rfl (opr_load_el hT rfl rfl (hl.rd _ _) hxk rfl rfl) rfl ?_
      refine go ?_
      refine K_op rfl rfl (opr_callP rfl rfl (rsz_spec x.1 x.2.1) rfl rfl rfl rfl) rfl ?_
      refine go ?_
      rw [← hf, IntWalk.i64_in (psum (l.take (q.i + 1))) (by omega)]
      refine J_take 1 [(2, .p a2), (3, .ad (.l 0) 0), (7, W t), (9, .p (.int .i64 (psum (l.take (q.i + 1))))), (39, .p a2), (40, .p (.int .i64 (l.length : Int))), (41, .p (.int .i64 (IntKind.i64.wrap ((q.i : Int) + 1))))] ⟨rfl, rfl, rfl, rfl, rfl, rfl, rfl, trivial⟩ rfl rfl ?_
      refine J_again ⟨q.i + 1, by omega⟩ (by show l.length - (q.i + 1) < l.length - q.i; omega) ⟨rfl, rfl, rfl, rfl, rfl, rfl, congrArg (fun z => TV.p (.int .i64 z)) (by rw [IntWalk.i64_in _ (by omega)]; rfl), trivial⟩ rfl rfl
    refine K_condF rfl (decide_eq_false (by omega)) ?_
    rw [show q.i = l.length by omega, List.take_length]
    refine go ?_
    refine J_draw [_] [] (by kernel_rfl) (by kernel_rfl) rfl ?_
    refine gd ?_
    refine T_opD rfl rfl rfl rfl rfl (opr_call0P rfl rfl p6 rfl rfl rfl) rfl ?_
    refine gd ?_
    refine T_yesD rfl rfl rfl rfl rfl rfl (opr_call0P rfl rfl c4 rfl rfl rfl) rfl ?_
    refine gd ?_
    refine T_yesD rfl rfl rfl rfl rfl rfl (opr_call0P rfl rfl c5 rfl rfl rfl) rfl ?_
    refine gd ?_
    rw [show IntKind.i64.wrap (IntKind.i64.wrap (s - 4) * IntKind.i64.wrap (z - 152)) = (s - 4) * (z - 152) by rw [IntWalk.i64_in (s - 4) (by omega), IntWalk.i64_in (z - 152) (by omega), IntWalk.i64_in _ (by omega)], beq_self_eq_true]
    refine gd ?_
    refine T_yesD rfl rfl rfl rfl rfl rfl (opr_call0P rfl rfl cn rfl rfl rfl) rfl ?_
    refine gd ?_
    refine go ?_
    exact J_done hT rfl rfl rfl
end priceFits
end Go.Proofs.Ytjibchohkeljkaa

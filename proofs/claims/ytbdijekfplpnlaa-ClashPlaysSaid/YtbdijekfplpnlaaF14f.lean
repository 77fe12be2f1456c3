/- The laws of layer 14: what is read, cut, Base. -/
import Derived.Test.YtbdijekfplpnlaaGo
import Derived.Test.YtbdijekfplpnlaaF14e
import Derived.Test.YtbdijekfplpnlaaShp
-- @D
namespace Go.Proofs.Ytbdijekfplpnlaa
set_option maxRecDepth 20000
open Go.Awp Tr
theorem strs_shp {a : AV} (h : Shp tab 8 41 a) : ∃ l : List (List UInt8), Sl .str a l ∧ (∀ x ∈ l, x.length ≤ Go.Awp.reach) ∧ l.length ≤ 140737488355328 :=
  shp_one .str _ h rfl rfl rfl rfl (by decide) fun y hy => by
    obtain ⟨l, rfl, hl⟩ := hy.str rfl
    exact ⟨l, rfl, hl⟩
theorem rgs_shp {a : AV} (h : Shp tab 8 54 a) : ∃ l : List Rg, Sl rgV a l ∧ (∀ x ∈ l, x.1.length ≤ Go.Awp.reach ∧ x.2.length ≤ Go.Awp.reach) ∧ l.length ≤ 140737488355328 :=
  shp_agg rgV _ h rfl rfl rfl rfl (by decide) fun cs hc => by
    obtain ⟨x, y, rfl, hx, hy⟩ := all2_2 hc
    obtain ⟨k, rfl, hk⟩ := hx.str rfl
    obtain ⟨v, rfl, hv⟩ := hy.str rfl
    exact ⟨(k, v), rfl, hk, hv⟩
/-- An operation of a view. -/
structure VOp where
  kind : Int
  key : List UInt8
  val : List UInt8
def vopV (o : VOp) : AV := .agg [.int .i64 o.kind, .str o.key, .str o.val]
theorem vops_shp {a : AV} (h : Shp tab 8 64 a) : ∃ l : List VOp, Sl vopV a l ∧ (∀ x ∈ l, x.key.length ≤ Go.Awp.reach ∧ x.val.length ≤ Go.Awp.reach) ∧ l.length ≤ 140737488355328 :=
  shp_agg vopV _ h rfl rfl rfl rfl (by decide) fun cs hc => by
    obtain ⟨x, y, z, rfl, hx, hy, hz⟩ := all2_3 hc
    obtain ⟨n, rfl, hn⟩ := hx.int rfl
    obtain ⟨k, rfl, hk⟩ := hy.str rfl
    obtain ⟨v, rfl, hv⟩ := hz.str rfl
    exact ⟨⟨n, k, v⟩, rfl, hk, hv⟩
def stop14 (i : Nat) (o : VOp) : Bool := decide (200 ≤ i) || (decide (100 < o.key.length) || decide (100 < o.val.length))
theorem stop14_eq (i : Nat) (o : VOp) : (decide ((i : Int) ≥ 200) || decide ((o.key.length : Int) > 100) || decide ((o.val.length : Int) > 100)) = stop14 i o := by
  unfold stop14
  rw [Bool.or_assoc]
  congr 1
  · exact decide_eq_decide.2 (by omega)
  · congr 1 <;> exact decide_eq_decide.2 (by omega)
set_option maxHeartbeats 8000000 in
theorem cut14_spec {s : AV} {l : List VOp} (hs : Sl vopV s l) (hl : l.length ≤ 140737488355328) : ∃ s', Sl vopV s' (l.take (cutG stop14 l 0)) ∧ Con Try.prog 40 [.p s] [] (.p s') [] [] := by
  have hrd := hs.rd []
  have hlen : (l.map vopV).length = l.length := by simp
  have hE : ∀ r ∈ l.map vopV, (cellsOf r).length = 3 := by
    intro r hr
    obtain ⟨o, _, rfl⟩ := List.mem_map.1 hr
    rfl
  refine ⟨if cutG stop14 l 0 = l.length then s else .ps ((l.take (cutG stop14 l 0)).map vopV), ?_, ?_⟩
  · split
    · rename_i h; rw [h, List.take_length]; exact hs
    · exact .ps _
  refine con_of Try.func40 rfl (by kernel_rfl) rfl fun F w0 β0 => ?_
  refine K_tell rfl ?_
  refine go ?_
  refine K_op rfl rfl (opr_len_rd hT rfl rfl (hrd _)) rfl ?_
  rw [hlen]
  refine go ?_
  refine J_loop (fun q : CG stop14 l => [(0, .p s), (5, .p s), (6, .p (.int .i64 (l.length : Int))), (7, .p (.int .i64 (q.i : Int)))]) (fun _ => []) (fun _ => []) (fun q => l.length - q.i) ⟨0, by omega, rfl⟩ ⟨rfl, rfl, rfl, rfl, trivial⟩ rfl rfl (fun q => ?_)
  have hi := q.h
  refine go ?_
  by_cases h : q.i < l.length
  · have hx : l[q.i]? = some l[q.i] := List.getElem?_eq_getElem h
    generalize l[q.i] = x at hx
    have hxk : (l.map vopV)[((q.i : Nat) : Int).toNat]? = some (vopV x) := by rw [Int.toNat_natCast, List.getElem?_map, hx]; rfl
    have hst := cutG_step stop14 hx
    rw [q.e] at hst
    refine K_condT rfl (decide_eq_true (by omega)) ?_
    refine go ?_
    refine K_op rfl rfl (opr_index hT rfl rfl rfl rfl rfl (hrd _) (by omega) (by rw [hlen]; omega)) rfl ?_
    refine go ?_
    refine K_op rfl rfl (opr_load_el hT rfl rfl (hrd _) hxk rfl rfl) rfl ?_
    refine go ?_
    refine J_take 0 [(0, .p s), (3, .p (.int .i64 (q.i : Int))), (5, .p s), (6, .p (.int .i64 (l.length : Int))), (7, .p (.int .i64 (q.i : Int))), (25, .p (.bool (stop14 q.i x)))] ⟨rfl, rfl, rfl, rfl, rfl, (by rw [← stop14_eq]; rfl), trivial⟩ rfl rfl ?_
    by_cases hk : stop14 q.i x = true
    · rw [if_pos hk] at hst
      rw [hst, if_neg (by omega)]
      refine K_condT rfl hk ?_
      cases hs with
      | nils => simp at hx
      | ps =>
        have e : ((l.map vopV).drop 0).take (((q.i : Nat) : Int).toNat - 0) = (l.take q.i).map vopV := by simp
        rw [← e]
        refine go ?_
        refine K_op rfl rfl (opr_cut hT rfl rfl rfl rfl (hrd _) rfl rfl (by omega) (by omega) (by rw [hlen]; omega) hE) rfl ?_
        refine go ?_
        exact J_done hT rfl rfl rfl
    · rw [if_neg hk] at hst
      refine K_condF rfl (by simpa using hk) ?_
      refine go ?_
      refine J_again ⟨q.i + 1, by omega, hst.symm⟩ (by show l.length - (q.i + 1) < l.length - q.i; omega) ⟨rfl, rfl, rfl, congrArg (fun z => TV.p (.int .i64 z)) (by rw [IntWalk.i64_in _ (by omega)]; rfl), trivial⟩ rfl rfl
  · refine K_condF rfl (decide_eq_false (by omega)) ?_
    have e : cutG stop14 l 0 = l.length := by rw [← q.e, show q.i = l.length by omega, cutG_end stop14 (Nat.le_refl _)]
    rw [if_pos e]
    refine go ?_
    exact J_done hT rfl rfl rfl
/-! ### Base -/
def stopB (i : Nat) (o : Rg) : Bool := decide (60 ≤ i) || (decide (100 < o.1.length) || decide (100 < o.2.length))
theorem stopB_eq (i : Nat) (o : Rg) : (decide ((i : Int) ≥ 60) || decide ((o.1.length : Int) > 100) || decide ((o.2.length : Int) > 100)) = stopB i o := by
  unfold stopB
  rw [Bool.or_assoc]
  congr 1
  · exact decide_eq_decide.2 (by omega)
  · congr 1 <;> exact decide_eq_decide.2 (by omega)
def putB (t : Tr) (r : Rg) : Tr := t.set r.1 r.2
def baseT (l : List Rg) : Tr := (l.take (cutG stopB l 0)).foldl putB .nil
theorem putB_ok (l : List Rg) : ∀ t : Tr, Rises t.row → Rises (l.foldl putB t).row ∧ (l.foldl putB t).size ≤ t.size + l.length := by
  induction l with
  | nil => intro t h; exact ⟨h, Nat.le_refl _⟩
  | cons r l ih =>
    intro t h
    have h2 : Rises (putB t r).row := by unfold putB; rw [set_row _ _ _ h]; exact lset_rises h
    obtain ⟨a, b⟩ := ih _ h2
    have := set_size r.1 r.2 t
    refine ⟨a, ?_⟩
    rw [List.foldl_cons, List.length_cons]
    unfold putB at b ⊢
    omega
theorem baseT_ok (l : List Rg) : Rises (baseT l).row ∧ (baseT l).size ≤ 60 := by
  have := putB_ok (l.take (cutG stopB l 0)) .nil (by simp [row, Rises])
  have h2 := cutG_max stopB (n := 60) (fun i o h => by unfold stopB; rw [decide_eq_true h]; rfl) l 0 (by omega)
  refine ⟨this.1, Nat.le_trans this.2 ?_⟩
  simp [Tr.size]; omega
set_option maxHeartbeats 8000000 in
theorem base14_spec {s : AV} {l : List Rg} (hs : Sl rgV s l) (hl : l.length ≤ 140737488355328) : Con Try.prog 33 [.p s] [] (.tup [W (baseT l), .p (.ps (kvs (baseT l).row))]) [] [] := by
  have hrd := hs.rd []
  have hlen : (l.map rgV).length = l.length := by simp
  have hmx := cutG_max stopB (n := 60) (fun i o h => by unfold stopB; rw [decide_eq_true h]; rfl) l 0 (by omega)
  refine con_of Try.func33 rfl (by kernel_rfl) rfl fun F w0 β0 => ?_
  refine K_tell rfl ?_
  refine go ?_
  refine K_op rfl rfl (opr_callP rfl rfl (tnew_spec) rfl rfl rfl rfl) rfl ?_
  refine go ?_
  refine J_le 5 (.ps []) rfl nils_ps ?_
  refine K_op rfl rfl (opr_len_rd hT rfl rfl (hrd _)) rfl ?_
  rw [hlen]
  refine go ?_
  refine J_loop (fun q : CG stopB l => [(4, W ((l.take q.i).foldl putB .nil)), (5, .p (.ps (kvs ((l.take q.i).foldl putB .nil).row))), (9, .p s), (10, .p (.int .i64 (l.length : Int))), (11, .p (.int .i64 (q.i : Int)))]) (fun _ => []) (fun _ => []) (fun q => l.length - q.i) ⟨0, by omega, rfl⟩ ⟨rfl, rfl, rfl, rfl, rfl, trivial⟩ rfl rfl (fun q => ?_)
  have hi := q.h
  refine go ?_
  by_cases h : q.i < l.length
  · have hx : l[q.i]? = some l[q.i] := List.getElem?_eq_getElem h
    generalize l[q.i] = x at hx
    have hxk : (l.map rgV)[((q.i : Nat) : Int).toNat]? = some (rgV x) := by rw [Int.toNat_natCast, List.getElem?_map, hx]; rfl
    have hst := cutG_step stopB hx
    rw [q.e] at hst
    refine K_condT rfl (decide_eq_true (by omega)) ?_
    refine go ?_
    refine K_op rfl rfl (opr_index hT rfl rfl rfl rfl rfl (hrd _) (by omega) (by rw [hlen]; omega)) rfl ?_
    refine go ?_
    refine K_op rfl rfl (opr_load_el hT rfl rfl (hrd _) hxk rfl rfl) rfl ?_
    refine go ?_
    refine K_opt rfl rfl rfl trivial (fun _ => opr_idxArr hT rfl rfl rfl rfl rfl) rfl ?_
    refine go ?_
    refine K_opt rfl rfl rfl trivial (fun _ => opr_idxArr hT rfl rfl rfl rfl rfl) rfl ?_
    refine go ?_
    refine J_take 1 [(4, W ((l.take q.i).foldl putB .nil)), (5, .p (.ps (kvs ((l.take q.i).foldl putB .nil).row))), (7, .ad (.l 0) 0), (9, .p s), (10, .p (.int .i64 (l.length : Int))), (11, .p (.int .i64 (q.i : Int))), (29, .p (.bool (stopB q.i x)))] ⟨rfl, rfl, rfl, rfl, rfl, rfl, (by rw [← stopB_eq]; rfl), trivial⟩ rfl rfl ?_
    by_cases hk : stopB q.i x = true
    · rw [if_pos hk] at hst
      unfold baseT
      rw [hst]
      refine K_condT rfl hk ?_
      refine go ?_
      exact J_done hT rfl rfl rfl
    · rw [if_neg hk] at hst
      have h60 : q.i < 60 := by
        simp only [stopB, Bool.or_eq_true, decide_eq_true_eq, not_or] at hk
        omega
      have hpb := putB_ok (l.take q.i) .nil (by simp [row, Rises])
      have hft := fold_take putB .nil hx
      simp only [List.length_take, Tr.size] at hpb
      generalize (l.take q.i).foldl putB .nil = t at hpb hft
      obtain ⟨hri, hsz⟩ := hpb
      have hts : t.size + 2 ≤ big40 := by unfold big40; omega
      have hrl : t.row.length ≤ big40 := by rw [row_len]; omega
      have c1 := tset_spec x.1 x.2 t hts
      have c2 := (rset10_rd (.ps (kvs t.row)) t.row x.1 x.2 (fun L => .ps _) hrl).toPs (.inr rfl)
      rw [rset_row hri, ← set_row _ _ _ hri] at c2
      have hpt : putB t x = t.set x.1 x.2 := rfl
      rw [← hpt] at c1 c2
      refine K_condF rfl (by simpa using hk) ?_
      refine go ?_
      refine K_op rfl rfl (opr_callP rfl rfl (c1) rfl rfl rfl rfl) rfl ?_
      refine go ?_
      refine K_op rfl rfl (opr_callP rfl rfl (c2) rfl rfl rfl rfl) rfl ?_
      refine go ?_
      refine J_take 0 [(4, W (putB t x)), (5, .p (.ps (kvs (putB t x).row))), (9, .p s), (10, .p (.int .i64 (l.length : Int))), (11, .p (.int .i64 (IntKind.i64.wrap ((q.i : Int) + 1))))] ⟨rfl, rfl, rfl, rfl, rfl, trivial⟩ rfl rfl ?_
      refine J_again ⟨q.i + 1, by omega, hst.symm⟩ (by show l.length - (q.i + 1) < l.length - q.i; omega) ⟨by rw [hft]; rfl, by rw [hft]; rfl, rfl, rfl, congrArg (fun z => TV.p (.int .i64 z)) (by rw [IntWalk.i64_in _ (by omega)]; rfl), trivial⟩ rfl rfl
  · have e : cutG stopB l 0 = q.i := by rw [← q.e, cutG_end stopB (by omega)]
    unfold baseT
    rw [e]
    refine K_condF rfl (decide_eq_false (by omega)) ?_
    refine go ?_
    exact J_done hT rfl rfl rfl
end Go.Proofs.Ytbdijekfplpnlaa

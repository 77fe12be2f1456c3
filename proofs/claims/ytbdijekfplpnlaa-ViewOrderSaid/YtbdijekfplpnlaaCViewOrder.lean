/- The law ViewOrder: its contract. -/
import Derived.Test.YtbdijekfplpnlaaGo
import Derived.Test.YtbdijekfplpnlaaF14f
import Derived.Test.YtbdijekfplpnlaaTr7
-- @D
namespace Go.Proofs.Ytbdijekfplpnlaa
set_option maxRecDepth 20000
open Go.Awp Tr
def putF (f : List UInt8 → List UInt8) (t : Tr) (s : List UInt8) : Tr := t.set s (f s)
theorem putF_ok (f : List UInt8 → List UInt8) (l : List (List UInt8)) : ∀ t : Tr, Rises t.row → Rises (l.foldl (putF f) t).row ∧ (l.foldl (putF f) t).size ≤ t.size + l.length ∧ ∀ k, (l.foldl (putF f) t).get k = if k ∈ l then some (f k) else t.get k := by
  induction l with
  | nil => intro t h; exact ⟨h, Nat.le_refl _, fun k => by simp⟩
  | cons s r ih =>
    intro t h
    have h2 : Rises (putF f t s).row := set_rises h
    obtain ⟨a, b, c⟩ := ih _ h2
    have h3 := set_size s (f s) t
    refine ⟨a, ?_, fun k => ?_⟩
    · rw [List.foldl_cons, List.length_cons]
      unfold putF at b ⊢
      omega
    · rw [List.foldl_cons, c]
      by_cases hk : k ∈ r
      · rw [if_pos hk, if_pos (List.mem_cons_of_mem _ hk)]
      · rw [if_neg hk]
        unfold putF
        rw [set_get h]
        by_cases e : k = s
        · rw [if_pos e, if_pos (by rw [e]; simp), e]
        · rw [if_neg e, if_neg (by simp [e, hk])]
theorem putF_same (f : List UInt8 → List UInt8) {l m : List (List UInt8)} (hlm : ∀ k, k ∈ l ↔ k ∈ m) (t : Tr) (h : Rises t.row) : (l.foldl (putF f) t).row = (m.foldl (putF f) t).row := by
  obtain ⟨a1, _, a3⟩ := putF_ok f l t h
  obtain ⟨b1, _, b3⟩ := putF_ok f m t h
  refine lget_ext a1 b1 fun k => ?_
  rw [← get_row _ _ a1, ← get_row _ _ b1, a3, b3]
  by_cases hk : k ∈ l
  · rw [if_pos hk, if_pos ((hlm k).1 hk)]
  · rw [if_neg hk, if_neg fun h => hk ((hlm k).2 h)]
def bang (s : List UInt8) : List UInt8 := s ++ [33]
/-- The view, when these keys were set. -/
def voS (b : Tr) (l : List (List UInt8)) : VS := ⟨b, l.foldl (putF bang) b, l.foldl (putF fun s => 61 :: bang s) .nil, .nil, []⟩
theorem voS_step (b : Tr) (l : List (List UInt8)) (s : List UInt8) : (voS b l).set s (bang s) = voS b (l ++ [s]) := by
  unfold voS VS.set
  rw [List.foldl_append, List.foldl_append]
  rfl
theorem voS_size (b : Tr) (l : List (List UInt8)) (hb : Rises b.row) : (voS b l).writes.size ≤ l.length ∧ (voS b l).shown.size ≤ b.size + l.length := by
  obtain ⟨_, a2, _⟩ := putF_ok (fun s => 61 :: bang s) l .nil (by simp [row, Rises])
  obtain ⟨_, b2, _⟩ := putF_ok bang l b hb
  refine ⟨?_, b2⟩
  simp only [Tr.size, Nat.zero_add] at a2
  exact a2
namespace viewOrder
set_option maxHeartbeats 8000000 in
theorem con {a0 a1 : AV} (s0 : Shp tab 8 54 a0) (s1 : Shp tab 8 41 a1) : Con Try.prog 8 [.p a0, .p a1] [] (.p (.bool true)) [] [] := by
  obtain ⟨lb, hlb, _, hlb2⟩ := rgs_shp s0
  obtain ⟨l, hl, hok, hll⟩ := strs_shp s1
  have hrd := hl.rd []
  have hlen : (l.map AV.str).length = l.length := by simp
  have c0 := base14_spec hlb hlb2
  obtain ⟨hb1, hb2⟩ := baseT_ok lb
  generalize baseT lb = b at c0 hb1 hb2
  have p6 := fixed14_spec
  refine con_of Try.func8 rfl (by kernel_rfl) rfl fun F w0 β0 => ?_
  refine K_tell rfl ?_
  refine go ?_
  refine K_op rfl rfl (opr_len_rd hT rfl rfl (hrd _)) rfl ?_
  rw [hlen]
  refine go ?_
  by_cases h48 : l.length > 48
  · refine K_condT rfl (decide_eq_true (by omega)) ?_
    refine go ?_
    refine K_op rfl rfl (opr_callP rfl rfl (p6) rfl rfl rfl rfl) rfl ?_
    refine go ?_
    exact J_done hT rfl rfl rfl
  refine K_condF rfl (decide_eq_false (by omega)) ?_
  refine go ?_
  refine K_op rfl rfl (opr_callP rfl rfl (c0) rfl rfl rfl rfl) rfl ?_
  refine go ?_
  refine K_op rfl rfl (opr_callP rfl rfl (vnew_spec b) rfl rfl rfl rfl) rfl ?_
  refine go ?_
  refine K_op rfl rfl (opr_callP rfl rfl (vnew_spec b) rfl rfl rfl rfl) rfl ?_
  refine go ?_
  refine K_op rfl rfl (opr_len_rd hT rfl rfl (hrd _)) rfl ?_
  rw [hlen]
  refine go ?_
  refine J_loop (fun q : Ix l.length => [(1, .p a1), (7, .ad (.l 0) 0), (8, .ad (.l 2) 0), (24, .p a1), (25, .p (.int .i64 (l.length : Int))), (26, .p (.int .i64 (q.i : Int)))]) (fun _ => []) (fun q => [vB (.l 1) (voS b (l.take q.i)).base (voS b (l.take q.i)).shown (voS b (l.take q.i)).writes (voS b (l.take q.i)).reads (voS b (l.take q.i)).ranges.length, vR (voS b (l.take q.i)).ranges, vB (.l 3) (voS b (l.reverse.take q.i)).base (voS b (l.reverse.take q.i)).shown (voS b (l.reverse.take q.i)).writes (voS b (l.reverse.take q.i)).reads (voS b (l.reverse.take q.i)).ranges.length, vR (voS b (l.reverse.take q.i)).ranges]) (fun q => l.length - q.i) ⟨0, by omega⟩ ⟨rfl, rfl, rfl, rfl, rfl, rfl, trivial⟩ rfl rfl (fun q => ?_)
  have hi := q.h
  refine go ?_
  by_cases h : q.i < l.length
  · have hx : l[q.i]? = some l[q.i] := List.getElem?_eq_getElem h
    have hxl := hok _ (List.getElem_mem h)
    generalize l[q.i] = x at hx hxl
    have hy : l[l.length - 1 - q.i]? = some (l[l.length - 1 - q.i]'(by omega)) := List.getElem?_eq_getElem _
    have hyl := hok _ (List.getElem_mem (show l.length - 1 - q.i < l.length by omega))
    generalize l[l.length - 1 - q.i]'(by omega) = y at hy hyl
    have hyr : l.reverse[q.i]? = some y := by rw [List.getElem?_reverse h, hy]
    have hxk : (l.map AV.str)[((q.i : Nat) : Int).toNat]? = some (.str x) := by rw [Int.toNat_natCast, List.getElem?_map, hx]; rfl
    have hyk : (l.map AV.str)[((l.length - 1 - q.i : Nat) : Int).toNat]? = some (.str y) := by rw [Int.toNat_natCast, List.getElem?_map, hy]; rfl
    have sa := voS_step b (l.take q.i) x
    have sb := voS_step b (l.reverse.take q.i) y
    obtain ⟨h1, rfl⟩ := List.getElem?_eq_some_iff.1 hx
    obtain ⟨h2, rfl⟩ := List.getElem?_eq_some_iff.1 hyr
    rw [← List.take_succ_eq_append_getElem h1] at sa
    rw [← List.take_succ_eq_append_getElem h2] at sb
    generalize l[q.i] = x at hx hxl hxk sa
    generalize l.reverse[q.i] = y at hy hyl hyk sb
    obtain ⟨za1, za2⟩ := voS_size b (l.take q.i) hb1
    obtain ⟨zb1, zb2⟩ := voS_size b (l.reverse.take q.i) hb1
    simp only [List.length_take, List.length_reverse] at za1 za2 zb1 zb2
    generalize voS b (l.take q.i) = va at sa za1 za2
    generalize voS b (l.reverse.take q.i) = vb at sb zb1 zb2
    refine K_condT rfl (decide_eq_true (by omega)) ?_
    refine go ?_
    refine K_op rfl rfl (opr_index hT rfl rfl rfl rfl rfl (hrd _) (by omega) (by rw [hlen]; omega)) rfl ?_
    refine go ?_
    refine K_op rfl rfl (opr_load_el hT rfl rfl (hrd _) hxk rfl rfl) rfl ?_
    refine go ?_
    by_cases h100 : x.length > 100
    · refine K_condT rfl (decide_eq_true (by omega)) ?_
      refine go ?_
      refine K_op rfl rfl (opr_callP rfl rfl (p6) rfl rfl rfl rfl) rfl ?_
      refine go ?_
      exact J_done hT rfl rfl rfl
    have ra : va.room x = true := by unfold VS.room; rw [decide_eq_true (show va.writes.size < 48 by omega)]; simp
    have rb : vb.room y = true := by unfold VS.room; rw [decide_eq_true (show vb.writes.size < 48 by omega)]; simp
    unfold Go.Awp.reach at hyl hxl
    have c1 := vset_spec va x (bang x) (by unfold big40; omega) (by unfold big40; omega) (by unfold bang; simp; omega)
    have c2 := vset_spec vb y (bang y) (by unfold big40; omega) (by unfold big40; omega) (by unfold bang; simp; omega)
    rw [ra, if_pos rfl, sa] at c1
    rw [rb, if_pos rfl, sb] at c2
    generalize hva : voS b (l.take (q.i + 1)) = va' at c1
    generalize hvb : voS b (l.reverse.take (q.i + 1)) = vb' at c2
    refine K_condF rfl (decide_eq_false (by omega)) ?_
    refine go ?_
    refine K_op rfl rfl (opr_cat rfl rfl rfl (by simp; omega)) rfl ?_
    refine K_op rfl rfl (opr_callS [.l 0, .l 1] rfl rfl (c1) rfl rfl rfl ⟨⟨rfl, rfl⟩, ⟨rfl, rfl⟩, trivial⟩ rfl rfl rfl rfl) rfl ?_
    refine go ?_
    refine K_op rfl rfl (opr_len_rd hT rfl rfl (hrd _)) rfl ?_
    rw [hlen]
    refine go ?_
    have em : IntKind.i64.wrap (IntKind.i64.wrap ((l.length : Int) - 1) - (q.i : Int)) = ((l.length - 1 - q.i : Nat) : Int) := by
      rw [show IntKind.i64.wrap ((l.length : Int) - 1) = (l.length : Int) - 1 from IntWalk.i64_in _ (by omega), IntWalk.i64_in _ (by omega)]; omega
    rw [em]
    refine K_op rfl rfl (opr_index hT rfl rfl rfl rfl rfl (hrd _) (by omega) (by rw [hlen]; omega)) rfl ?_
    refine go ?_
    refine K_op rfl rfl (opr_load_el hT rfl rfl (hrd _) hyk rfl rfl) rfl ?_
    refine go ?_
    refine K_op rfl rfl (opr_cat rfl rfl rfl (by simp; omega)) rfl ?_
    refine K_op rfl rfl (opr_callS [.l 2, .l 3] rfl rfl (c2) rfl rfl rfl ⟨⟨rfl, rfl⟩, ⟨rfl, rfl⟩, trivial⟩ rfl rfl rfl rfl) rfl ?_
    refine go ?_
    refine J_again ⟨q.i + 1, by omega⟩ (by show l.length - (q.i + 1) < l.length - q.i; omega) ⟨rfl, rfl, rfl, rfl, rfl, congrArg (fun z => TV.p (.int .i64 z)) (by rw [IntWalk.i64_in _ (by omega)]; rfl), trivial⟩ rfl (by dsimp only; rw [hva, hvb])
  have e1 : l.take q.i = l := List.take_of_length_le (by omega)
  have e2 : l.reverse.take q.i = l.reverse := List.take_of_length_le (by simp; omega)
  rw [e1, e2]
  obtain ⟨za1, za2⟩ := voS_size b l hb1
  obtain ⟨zb1, zb2⟩ := voS_size b l.reverse hb1
  simp only [List.length_reverse] at zb1 zb2
  have hmem : ∀ k, k ∈ l ↔ k ∈ l.reverse := fun k => by simp
  have hw : (voS b l).writes.row = (voS b l.reverse).writes.row := putF_same (fun s => 61 :: bang s) hmem .nil (by simp [row, Rises])
  have hs : (voS b l).shown.row = (voS b l.reverse).shown.row := putF_same bang hmem b hb1
  have r1 : Rises (voS b l).shown.row := (putF_ok bang l b hb1).1
  have r2 : Rises (voS b l.reverse).shown.row := (putF_ok bang l.reverse b hb1).1
  have q1 : (voS b l).ranges = [] := rfl
  have q2 : (voS b l.reverse).ranges = [] := rfl
  generalize voS b l = va at za1 za2 hw hs r1 q1
  generalize voS b l.reverse = vb at zb1 zb2 hw hs r2 q2
  have hrg : va.rangeR [] [255, 255] = vb.rangeR [] [255, 255] := by
    unfold VS.rangeR
    rw [range_row _ _ _ r1, range_row _ _ _ r2, hs]
  have c1 := Con.freeze (vwrites_spec va (by unfold big40; omega)) (by simp [row_len])
  have c2 := Con.freeze (vwrites_spec vb (by unfold big40; omega)) (by simp [row_len])
  have c3 := (vrange_spec va [] [255, 255] (by unfold big40; omega) (by rw [q1]; decide)).toPs (.inl rfl)
  have c4 := (vrange_spec vb [] [255, 255] (by unfold big40; omega) (by rw [q2]; decide)).toPs (.inl rfl)
  rw [← hw] at c2
  rw [← hrg] at c4
  have hl1 : (va.writes.row.map wr).length ≤ big40 := by rw [List.length_map, row_len]; unfold big40; omega
  have hl2 : ((va.rangeR [] [255, 255]).map kp).length ≤ big40 := by
    rw [List.length_map]
    unfold VS.rangeR
    rw [if_pos (by decide)]
    exact Nat.le_trans (range_len ..) (by unfold big40; omega)
  have c5 := rsame10_rd (.ps (va.writes.row.map fun x => pwV (wr x))) (.ps (va.writes.row.map fun x => pwV (wr x))) (va.writes.row.map wr) (va.writes.row.map wr) (fun L => by rw [List.map_map]; exact .ps _) (fun L => by rw [List.map_map]; exact .ps _) hl1 hl1
  have c6 := rsame10_rd (.ps (kvs (va.rangeR [] [255, 255]))) (.ps (kvs (va.rangeR [] [255, 255]))) ((va.rangeR [] [255, 255]).map kp) ((va.rangeR [] [255, 255]).map kp) (fun L => by rw [← kvs_pw]; exact .ps _) (fun L => by rw [← kvs_pw]; exact .ps _) hl2 hl2
  rw [decide_eq_true rfl] at c5 c6
  clear hl1 hl2
  generalize va.writes.row.map (fun x => pwV (wr x)) = R1 at c1 c2 c5
  generalize kvs (va.rangeR [] [255, 255]) = R2 at c3 c4 c6
  refine K_condF rfl (decide_eq_false (by omega)) ?_
  refine go ?_
  refine K_op rfl rfl (opr_callP rfl rfl (p6) rfl rfl rfl rfl) rfl ?_
  refine go ?_
  refine K_yes rfl rfl rfl (opr_callS [.l 0, .l 1] rfl rfl (c1) rfl rfl rfl ⟨⟨rfl, rfl⟩, ⟨rfl, rfl⟩, trivial⟩ rfl rfl rfl rfl) rfl ?_
  refine go ?_
  refine K_yes rfl rfl rfl (opr_callS [.l 2, .l 3] rfl rfl (c2) rfl rfl rfl ⟨⟨rfl, rfl⟩, ⟨rfl, rfl⟩, trivial⟩ rfl rfl rfl rfl) rfl ?_
  refine go ?_
  refine K_yes rfl rfl rfl (opr_callP rfl rfl (c5) rfl rfl rfl rfl) rfl ?_
  refine go ?_
  refine K_yes rfl rfl rfl (opr_callS [.l 0, .l 1] rfl rfl (c3) rfl rfl rfl ⟨⟨rfl, rfl⟩, ⟨rfl, rfl⟩, trivial⟩ rfl rfl rfl rfl) rfl ?_
  refine go ?_
  refine K_yes rfl rfl rfl (opr_callS [.l 2, .l 3] rfl rfl (c4) rfl rfl rfl ⟨⟨rfl, rfl⟩, ⟨rfl, rfl⟩, trivial⟩ rfl rfl rfl rfl) rfl ?_
  refine go ?_
  refine K_yes rfl rfl rfl (opr_callP rfl rfl (c6) rfl rfl rfl rfl) rfl ?_
  refine go ?_
  exact J_done hT rfl rfl rfl
end viewOrder
end Go.Proofs.Ytbdijekfplpnlaa

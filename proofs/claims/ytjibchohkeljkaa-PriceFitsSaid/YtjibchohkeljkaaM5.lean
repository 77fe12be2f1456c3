/- Contracts and plain laws, several texts joined: F14f, F23b, F23c, Tr6, Tr7. -/
import Derived.Test.YtjibchohkeljkaaGo
import Derived.Test.YtjibchohkeljkaaM4
import Derived.Test.YtjibchohkeljkaaM1
import Derived.Test.YtjibchohkeljkaaM2
import Derived.Test.YtjibchohkeljkaaM3
/- The laws of layer 14: what is read, cut, Base. -/
-- @D
namespace Go.Proofs.Ytjibchohkeljkaa
set_option maxRecDepth 20000
open Go.Awp Tr
theorem rgs_shp {a : AV} (h : Shp tab 8 24 a) : ∃ l : List Rg, Sl rgV a l ∧ (∀ x ∈ l, x.1.length ≤ Go.Awp.reach ∧ x.2.length ≤ Go.Awp.reach) ∧ l.length ≤ 140737488355328 :=
  shp_agg rgV _ h rfl rfl rfl rfl (by decide) fun cs hc => by
    obtain ⟨x, y, rfl, hx, hy⟩ := all2_2 hc
    obtain ⟨k, rfl, hk⟩ := hx.str rfl
    obtain ⟨v, rfl, hv⟩ := hy.str rfl
    exact ⟨(k, v), rfl, hk, hv⟩
/-- An operation of a view. -/
structure VOp where
  kind : Int
  key : List UInt8
  val : List UInt8
def vopV (o : VOp) : AV := .agg [.int .i64 o.kind, .str o.key, .str o.val]
def stop14 (i : Nat) (o : VOp) : Bool := decide (200 ≤ i) || (decide (100 < o.key.length) || decide (100 < o.val.length))
theorem stop14_eq (i : Nat) (o : VOp) : (decide ((i : Int) ≥ 200) || decide ((o.key.length : Int) > 100) || decide ((o.val.length : Int) > 100)) = stop14 i o := by
  unfold stop14
  rw [Bool.or_assoc]
  congr 1
  · exact decide_eq_decide.2 (by omega)
  · congr 1 <;> exact decide_eq_decide.2 (by omega)
/-! ### Base -/
def stopB (i : Nat) (o : Rg) : Bool := decide (60 ≤ i) || (decide (100 < o.1.length) || decide (100 < o.2.length))
theorem stopB_eq (i : Nat) (o : Rg) : (decide ((i : Int) ≥ 60) || decide ((o.1.length : Int) > 100) || decide ((o.2.length : Int) > 100)) = stopB i o := by
  unfold stopB
  rw [Bool.or_assoc]
  congr 1
  · exact decide_eq_decide.2 (by omega)
  · congr 1 <;> exact decide_eq_decide.2 (by omega)
def putB (t : Tr) (r : Rg) : Tr := t.set r.1 r.2
def baseT (l : List Rg) : Tr := (l.take (cutG stopB l 0)).foldl putB .nil
theorem putB_ok (l : List Rg) : ∀ t : Tr, Rises t.row → Rises (l.foldl putB t).row ∧ (l.foldl putB t).size ≤ t.size + l.length := by
  induction l with
  | nil => intro t h; exact ⟨h, Nat.le_refl _⟩
  | cons r l ih =>
    intro t h
    have h2 : Rises (putB t r).row := by unfold putB; rw [set_row _ _ _ h]; exact lset_rises h
    obtain ⟨a, b⟩ := ih _ h2
    have := set_size r.1 r.2 t
    refine ⟨a, ?_⟩
    rw [List.foldl_cons, List.length_cons]
    unfold putB at b ⊢
    omega
theorem baseT_ok (l : List Rg) : Rises (baseT l).row ∧ (baseT l).size ≤ 60 := by
  have := putB_ok (l.take (cutG stopB l 0)) .nil (by simp [row, Rises])
  have h2 := cutG_max stopB (n := 60) (fun i o h => by unfold stopB; rw [decide_eq_true h]; rfl) l 0 (by omega)
  refine ⟨this.1, Nat.le_trans this.2 ?_⟩
  simp [Tr.size]; omega
set_option maxHeartbeats 8000000 in
theorem base14_spec {s : AV} {l : List Rg} (hs : Sl rgV s l) (hl : l.length ≤ 140737488355328) : Con Try.prog 9 [.p s] [] (.tup [W (baseT l), .p (.ps (kvs (baseT l).row))]) [] [] := by
  have hrd := hs.rd []
  have hlen : (l.map rgV).length = l.length := by simp
  have hmx := cutG_max stopB (n := 60) (fun i o h => by unfold stopB; rw [decide_eq_true h]; rfl) l 0 (by omega)
  refine con_of Try.func9 rfl (by kernel_rfl) rfl fun F w0 β0 => ?_
  refine K_tell rfl ?_
  refine go ?_
  refine K_op rfl rfl (opr_callP rfl rfl (tnew_spec) rfl rfl rfl rfl) rfl ?_
  refine go ?_
  refine J_le 5 (.ps []) rfl nils_ps ?_
  refine K_op rfl rfl (opr_len_rd hT rfl rfl (hrd _)) rfl ?_
  rw [hlen]
  refine go ?_
  refine J_loop (fun q : CG stopB l => [(4, W ((l.take q.i).foldl putB .nil)), (5, .p (.ps (kvs ((l.take q.i).foldl putB .nil).row))), (9, .p s), (10, .p (.int .i64 (l.length : Int))), (11, .p (.int .i64 (q.i : Int)))]) (fun _ => []) (fun _ => []) (fun q => l.length - q.i) ⟨0, by omega, rfl⟩ ⟨rfl, rfl, rfl, rfl, rfl, trivial⟩ rfl rfl (fun q => ?_)
  have hi := q.h
  refine go ?_
  by_cases h : q.i < l.length
  · have hx : l[q.i]? = some l[q.i] := List.getElem?_eq_getElem h
    generalize l[q.i] = x at hx
    have hxk : (l.map rgV)[((q.i : Nat) : Int).toNat]? = some (rgV x) := by rw [Int.toNat_natCast, List.getElem?_map, hx]; rfl
    have hst := cutG_step stopB hx
    rw [q.e] at hst
    refine K_condT rfl (decide_eq_true (by omega)) ?_
    refine go ?_
    refine K_op rfl rfl (opr_index hT rfl rfl rfl rfl rfl (hrd _) (by omega) (by rw [hlen]; omega)) rfl ?_
    refine go ?_
    refine K_op rfl rfl (opr_load_el hT rfl rfl (hrd _) hxk rfl rfl) rfl ?_
    refine go ?_
    refine K_opt rfl rfl rfl trivial (fun _ => opr_idxArr hT rfl rfl rfl rfl rfl) rfl ?_
    refine go ?_
    refine K_opt rfl rfl rfl trivial (fun _ => opr_idxArr hT rfl rfl rfl rfl rfl) rfl ?_
    refine go ?_
    refine J_take 1 [(4, W ((l.take q.i).foldl putB .nil)), (5, .p (.ps (kvs ((l.take q.i).foldl putB .nil).row))), (7, .ad (.l 0) 0), (9, .p s), (10, .p (.int .i64 (l.length : Int))), (11, .p (.int .i64 (q.i : Int))), (29, .p (.bool (stopB q.i x)))] ⟨rfl, rfl, rfl, rfl, rfl, rfl, (by rw [← stopB_eq]; rfl), trivial⟩ rfl rfl ?_
    by_cases hk : stopB q.i x = true
    · rw [if_pos hk] at hst
      unfold baseT
      rw [hst]
      refine K_condT rfl hk ?_
      refine go ?_
      exact J_done hT rfl rfl rfl
    · rw [if_neg hk] at hst
      have h60 : q.i < 60 := by
        simp only [stopB, Bool.or_eq_true, decide_eq_true_eq, not_or] at hk
        omega
      have hpb := putB_ok (l.take q.i) .nil (by simp [row, Rises])
      have hft := fold_take putB .nil hx
      simp only [List.length_take, Tr.size] at hpb
      generalize (l.take q.i).foldl putB .nil = t at hpb hft
      obtain ⟨hri, hsz⟩ := hpb
      have hts : t.size + 2 ≤ big40 := by unfold big40; omega
      have hrl : t.row.length ≤ big40 := by rw [row_len]; omega
      have c1 := tset_spec x.1 x.2 t hts
      have c2 := (rset10_rd (.ps (kvs t.row)) t.row x.1 x.2 (fun L => .ps _) hrl).toPs (.inr rfl)
      rw [rset_row hri, ← set_row _ _ _ hri] at c2
      have hpt : putB t x = t.set x.1 x.2 := rfl
      rw [← hpt] at c1 c2
      refine K_condF rfl (by simpa using hk) ?_
      refine go ?_
      refine K_op rfl rfl (opr_callP rfl rfl (c1) rfl rfl rfl rfl) rfl ?_
      refine go ?_
      refine K_op rfl rfl (opr_callP rfl rfl (c2) rfl rfl rfl rfl) rfl ?_
      refine go ?_
      refine J_take 0 [(4, W (putB t x)), (5, .p (.ps (kvs (putB t x).row))), (9, .p s), (10, .p (.int .i64 (l.length : Int))), (11, .p (.int .i64 (IntKind.i64.wrap ((q.i : Int) + 1))))] ⟨rfl, rfl, rfl, rfl, rfl, trivial⟩ rfl rfl ?_
      refine J_again ⟨q.i + 1, by omega, hst.symm⟩ (by show l.length - (q.i + 1) < l.length - q.i; omega) ⟨by rw [hft]; rfl, by rw [hft]; rfl, rfl, rfl, congrArg (fun z => TV.p (.int .i64 z)) (by rw [IntWalk.i64_in _ (by omega)]; rfl), trivial⟩ rfl rfl
  · have e : cutG stopB l 0 = q.i := by rw [← q.e, cutG_end stopB (by omega)]
    unfold baseT
    rw [e]
    refine K_condF rfl (decide_eq_false (by omega)) ?_
    refine go ?_
    exact J_done hT rfl rfl rfl
end Go.Proofs.Ytjibchohkeljkaa

/- price: Tree; store: sizes, Price, Capacity; ring: Size; place: May. -/
-- @D
namespace Go.Proofs.Ytjibchohkeljkaa
set_option maxRecDepth 20000
open Go.Awp Tr
theorem rsize_spec (n : Int) : Con Try.prog 36 [.p (.int .i64 n)] [] (.p (.int .i64 (if n < 0 ∨ 65535 < n then 0 else IntKind.i64.wrap (8 + n)))) [] [] := by
  refine con_of Try.func36 rfl (by kernel_rfl) rfl fun F w0 β0 => ?_
  refine K_tell rfl ?_
  refine go ?_
  by_cases h : n < 0 ∨ 65535 < n
  · rw [if_pos h]
    refine K_condT rfl (by rcases h with h | h <;> simp [h]) ?_
    refine go ?_
    exact J_done hT rfl rfl rfl
  · rw [if_neg h]
    refine K_condF rfl (by simp; omega) ?_
    refine go ?_
    exact J_done hT rfl rfl rfl
/-- The size of an item. -/
def isz (k v : List UInt8) : Int := if 48 < k.length ∨ 64 < v.length then 0 else 32 + (k.length : Int) + (v.length : Int)
theorem isz_b (k v : List UInt8) : 0 ≤ isz k v ∧ isz k v ≤ 144 := by
  unfold isz
  split <;> omega
theorem gsize_spec (k v : List UInt8) : Con Try.prog 30 [.p (.str k), .p (.str v)] [] (.p (.int .i64 (isz k v))) [] [] := by
  by_cases h : 48 < k.length ∨ 64 < v.length
  · unfold isz
    rw [if_pos h]
    refine con_of Try.func30 rfl (by kernel_rfl) rfl fun F w0 β0 => ?_
    refine K_tell rfl ?_
    refine go ?_
    refine K_condT rfl (by rcases h with h | h <;> simp <;> omega) ?_
    refine go ?_
    exact J_done hT rfl rfl rfl
  · have c1 := rsize_spec (24 + (k.length : Int) + (v.length : Int))
    rw [if_neg (by omega), IntWalk.i64_in _ (by omega), show 8 + (24 + (k.length : Int) + (v.length : Int)) = isz k v by unfold isz; rw [if_neg h]; omega] at c1
    refine con_of Try.func30 rfl (by kernel_rfl) rfl fun F w0 β0 => ?_
    refine K_tell rfl ?_
    refine go ?_
    refine K_condF rfl (by simp; omega) ?_
    refine go ?_
    rw [IntWalk.i64_in (24 + (k.length : Int)) (by omega), IntWalk.i64_in _ (by omega)]
    refine K_op rfl rfl (opr_callP rfl rfl (c1) rfl rfl rfl rfl) rfl ?_
    refine go ?_
    exact J_done hT rfl rfl rfl
theorem rsz_spec (k v : List UInt8) : Con Try.prog 10 [.p (.str k), .p (.str v)] [] (.p (.int .i64 (isz k v))) [] [] := by
  by_cases h : 48 < k.length ∨ 64 < v.length
  · unfold isz
    rw [if_pos h]
    refine con_of Try.func10 rfl (by kernel_rfl) rfl fun F w0 β0 => ?_
    refine K_tell rfl ?_
    refine go ?_
    refine K_condT rfl (by rcases h with h | h <;> simp <;> omega) ?_
    refine go ?_
    exact J_done hT rfl rfl rfl
  · have := size_spec k v (by omega) (by omega) []
    unfold isz
    rw [if_neg h]
    exact this
def gMay (s z : Int) : Bool := decide (s ≥ 6) && decide (s ≤ 64) && decide (z ≥ 512) && decide (z ≤ 4096)
def gV (s z : Int) : AV := .agg [.int .i64 s, .int .i64 z]
theorem rgmay_spec (s z : Int) : Con Try.prog 4 [.p (gV s z)] [] (.p (.bool (gMay s z))) [] [] := by
  unfold gMay
  refine con_of Try.func4 rfl (by kernel_rfl) rfl fun F w0 β0 => ?_
  refine K_tell rfl ?_
  refine go ?_
  exact J_done hT rfl rfl rfl
theorem pgmay_spec (s z : Int) : Con Try.prog 26 [.p (gV s z)] [] (.p (.bool (gMay s z))) [] [] := by
  unfold gMay
  refine con_of Try.func26 rfl (by kernel_rfl) rfl fun F w0 β0 => ?_
  refine K_tell rfl ?_
  refine go ?_
  exact J_done hT rfl rfl rfl
def gCap (s z : Int) : Int := if gMay s z = true then (s - 4) * (z - 152) else 0
theorem gMay_b {s z : Int} (h : gMay s z = true) : 6 ≤ s ∧ s ≤ 64 ∧ 512 ≤ z ∧ z ≤ 4096 := by
  simp only [gMay, Bool.and_eq_true, decide_eq_true_eq] at h
  omega
theorem gmul_b {s z : Int} (h : gMay s z = true) : 0 ≤ (s - 4) * (z - 152) ∧ (s - 4) * (z - 152) ≤ 60 * 3944 := by
  obtain ⟨h1, h2, h3, h4⟩ := gMay_b h
  refine ⟨Int.mul_nonneg (by omega) (by omega), ?_⟩
  exact Int.mul_le_mul (by omega) (by omega) (by omega) (by omega)
theorem cap_spec (s z : Int) : Con Try.prog 16 [.p (gV s z)] [] (.p (.int .i64 (gCap s z))) [] [] := by
  have c1 := pgmay_spec s z
  unfold gCap
  cases hm : gMay s z with
  | false =>
    rw [hm] at c1
    rw [if_neg (by simp)]
    refine con_of Try.func16 rfl (by kernel_rfl) rfl fun F w0 β0 => ?_
    refine K_tell rfl ?_
    refine go ?_
    refine K_op rfl rfl (opr_callP rfl rfl (c1) rfl rfl rfl rfl) rfl ?_
    refine go ?_
    exact J_done hT rfl rfl rfl
  | true =>
    rw [hm] at c1
    rw [if_pos rfl]
    obtain ⟨h1, h2, h3, h4⟩ := gMay_b hm
    have hb := gmul_b hm
    have e : IntKind.i64.wrap (IntKind.i64.wrap (IntKind.i64.wrap (s - 2) - 2) * IntKind.i64.wrap (IntKind.i64.wrap (z - 8) - 144)) = (s - 4) * (z - 152) := by
      rw [IntWalk.i64_in (s - 2) (by omega), IntWalk.i64_in (z - 8) (by omega), IntWalk.i64_in (s - 2 - 2) (by omega), IntWalk.i64_in (z - 8 - 144) (by omega), show s - 2 - 2 = s - 4 by omega, show z - 8 - 144 = z - 152 by omega, IntWalk.i64_in _ (by omega)]
    refine con_of Try.func16 rfl (by kernel_rfl) rfl fun F w0 β0 => ?_
    refine K_tell rfl ?_
    refine go ?_
    refine K_op rfl rfl (opr_callP rfl rfl (c1) rfl rfl rfl rfl) rfl ?_
    refine go ?_
    rw [e]
    exact J_done hT rfl rfl rfl
end Go.Proofs.Ytjibchohkeljkaa

/- store: sizes, Price; price: Tree. -/
-- @D
namespace Go.Proofs.Ytjibchohkeljkaa
set_option maxRecDepth 20000
open Go.Awp Tr
def iV (p : PW) : AV := .int .i64 (isz p.1 p.2.1)
def psum (l : List PW) : Int := l.foldl (fun s p => s + isz p.1 p.2.1) 0
theorem iV_cl (l : List PW) : clR (l.map iV) := by
  intro r hr x hx
  obtain ⟨y, _, rfl⟩ := List.mem_map.1 hr
  simp [cellsOf, iV] at hx
  subst hx
  rfl
theorem iV_size (l : List PW) : ∀ r ∈ l.map iV, (cellsOf r).length = 1 := by
  intro r hr
  obtain ⟨y, _, rfl⟩ := List.mem_map.1 hr
  rfl
theorem psum_b (l : List PW) (i : Nat) (hi : i ≤ l.length) : 0 ≤ psum (l.take i) ∧ psum (l.take i) ≤ 144 * i := by
  induction i with
  | zero => simp [psum]
  | succ i ih =>
    obtain ⟨h1, h2⟩ := ih (by omega)
    have hx : l[i]? = some (l[i]'(by omega)) := List.getElem?_eq_getElem _
    generalize l[i]'(by omega) = x at hx
    have := isz_b x.1 x.2.1
    unfold psum at h1 h2 ⊢
    rw [fold_take _ _ hx]
    omega
theorem map_getP {α : Type} (f : α → AV) {l : List α} {i : Nat} {x : α} (hx : l[i]? = some x) : (l.map f)[((i : Nat) : Int).toNat]? = some (f x) := by rw [Int.toNat_natCast, List.getElem?_map, hx]; rfl
set_option maxHeartbeats 4000000 in
theorem sizes_spec {s : AV} {l : List PW} (hs : Sl pwV s l) (hl : l.length ≤ 300) : Con Try.prog 25 [.p s] [] (.p (.ps (l.map iV))) [] [] := by
  have hlen : (l.map pwV).length = l.length := by simp
  refine con_of Try.func25 rfl (by kernel_rfl) rfl fun F w0 β0 => ?_
  refine K_tell rfl ?_
  refine go ?_
  refine K_op rfl rfl (opr_len_rd hT rfl rfl (hs.rd _ _)) rfl ?_
  rw [hlen]
  refine go ?_
  refine J_lazyE 3 3 (e := 1) rfl rfl (.inl rfl) ?_
  refine J_loop (fun q : Ix l.length => [(3, .sl (.l 0) q.i 0 q.i), (6, .p s), (7, .p (.int .i64 (l.length : Int))), (8, .p (.int .i64 (q.i : Int)))]) (fun _ => []) (fun q => [.arr 3 true 1 ((l.take q.i).map iV)]) (fun q => l.length - q.i) ⟨0, by omega⟩ ⟨rfl, rfl, rfl, rfl, trivial⟩ rfl rfl (fun q => ?_)
  have hi := q.h
  refine go ?_
  by_cases h : q.i < l.length
  · have hx : l[q.i]? = some l[q.i] := List.getElem?_eq_getElem h
    generalize l[q.i] = x at hx
    have hxk := map_getP pwV hx
    have hmt := map_take1 iV hx
    have hmt2 : ((l.take q.i).map iV).length = q.i := by simp; omega
    refine K_condT rfl (decide_eq_true (by omega)) ?_
    refine go ?_
    refine K_op rfl rfl (opr_index hT rfl rfl rfl rfl rfl (hs.rd _ _) (by omega) (by rw [hlen]; omega)) rfl ?_
    refine go ?_
    refine K_op rfl rfl (opr_load_el hT rfl rfl (hs.rd _ _) hxk rfl rfl) rfl ?_
    refine go ?_
    refine K_op rfl rfl (opr_callP rfl rfl (gsize_spec x.1 x.2.1) rfl rfl rfl rfl) rfl ?_
    refine go ?_
    refine K_op rfl rfl (opr_app_own hT rfl rfl rfl rfl hmt2 rfl rfl (.rd (.ps _)) hbs_ps (iV_cl [x]) (iV_size [x]) (by decide) (by show (q.i + 1) * 8 ≤ _; omega)) rfl ?_
    refine go ?_
    refine J_take 1 [(3, .sl (.l 0) (q.i + 1) 0 (q.i + 1)), (6, .p s), (7, .p (.int .i64 (l.length : Int))), (8, .p (.int .i64 (IntKind.i64.wrap ((q.i : Int) + 1))))] ⟨rfl, rfl, rfl, rfl, trivial⟩ rfl rfl ?_
    refine J_again ⟨q.i + 1, by omega⟩ (by show l.length - (q.i + 1) < l.length - q.i; omega) ⟨rfl, rfl, rfl, congrArg (fun z => TV.p (.int .i64 z)) (by rw [IntWalk.i64_in _ (by omega)]; rfl), trivial⟩ rfl (by dsimp only; rw [← hmt]; rfl)
  refine K_condF rfl (decide_eq_false (by omega)) ?_
  rw [show q.i = l.length by omega, List.take_length]
  refine go ?_
  refine J_freeze_all 2 0 rfl rfl (by simp) ?_
  refine J_take 0 [(2, .p (.ps (l.map iV)))] ⟨rfl, trivial⟩ rfl rfl ?_
  exact J_done hT rfl rfl rfl
set_option maxHeartbeats 4000000 in
theorem sprice_spec {s : AV} {l : List PW} (hs : Sl pwV s l) (hl : l.length ≤ 300) : Con Try.prog 15 [.p s] [] (.p (.int .i64 (psum l))) [] [] := by
  have hlen : (l.map iV).length = l.length := by simp
  refine con_of Try.func15 rfl (by kernel_rfl) rfl fun F w0 β0 => ?_
  refine K_tell rfl ?_
  refine go ?_
  refine K_op rfl rfl (opr_callP rfl rfl (sizes_spec hs hl) rfl rfl rfl rfl) rfl ?_
  refine go ?_
  rw [hlen]
  refine go ?_
  refine J_loop (fun q : Ix l.length => [(3, .p (.int .i64 (psum (l.take q.i)))), (7, .p (.ps (l.map iV))), (8, .p (.int .i64 (l.length : Int))), (9, .p (.int .i64 (q.i : Int)))]) (fun _ => []) (fun _ => []) (fun q => l.length - q.i) ⟨0, by omega⟩ ⟨rfl, rfl, rfl, rfl, trivial⟩ rfl rfl (fun q => ?_)
  have hi := q.h
  refine go ?_
  by_cases h : q.i < l.length
  · have hx : l[q.i]? = some l[q.i] := List.getElem?_eq_getElem h
    generalize l[q.i] = x at hx
    have hxk := map_getP iV hx
    have hb := psum_b l (q.i + 1) (by omega)
    have hf : psum (l.take (q.i + 1)) = psum (l.take q.i) + isz x.1 x.2.1 := fold_take _ _ hx
    refine K_condT rfl (decide_eq_true (by omega)) ?_
    refine go ?_
    refine K_op rfl rfl (opr_index hT rfl rfl rfl rfl rfl (.ps _) (by omega) (by rw [hlen]; omega)) rfl ?_
    refine go ?_
    refine K_op rfl rfl (opr_load_el hT rfl rfl (.ps _) hxk rfl rfl) rfl ?_
    refine go ?_
    refine J_again ⟨q.i + 1, by omega⟩ (by show l.length - (q.i + 1) < l.length - q.i; omega) ⟨congrArg (fun z => TV.p (.int .i64 z)) (by show IntKind.i64.wrap (psum (l.take q.i) + isz x.1 x.2.1) = _; rw [← hf]; exact IntWalk.i64_in _ (by omega)), rfl, rfl, congrArg (fun z => TV.p (.int .i64 z)) (by rw [IntWalk.i64_in _ (by omega)]; rfl), trivial⟩ rfl rfl
  refine K_condF rfl (decide_eq_false (by omega)) ?_
  rw [show q.i = l.length by omega, List.take_length]
  refine go ?_
  exact J_done hT rfl rfl rfl
end Go.Proofs.Ytjibchohkeljkaa

/- Trees: how low they are, whatever is made of them. -/
namespace Go.Proofs.Ytjibchohkeljkaa
set_option maxRecDepth 20000
open Go.Awp
theorem lset_mem_iff {k v : List UInt8} : ∀ {l : List KV}, Rises l → ∀ y : KV, y ∈ lset k v l ↔ y = (k, v) ∨ (y ∈ l ∧ y.1 ≠ k)
  | [], _, y => by simp [lset]
  | x :: r, h, y => by
    have hr := List.pairwise_cons.1 h
    unfold lset
    split
    · rename_i hlt
      simp only [List.mem_cons]
      constructor
      · rintro (h1 | h1 | h1)
        · exact .inl h1
        · exact .inr ⟨.inl h1, by rw [h1]; exact fun e => lt_ne hlt e.symm⟩
        · exact .inr ⟨.inr h1, fun e => lt_ne (lt_trans hlt (hr.1 y h1)) e.symm⟩
      · rintro (h1 | ⟨h1 | h1, _⟩)
        · exact .inl h1
        · exact .inr (.inl h1)
        · exact .inr (.inr h1)
    · split
      · rename_i he
        simp only [List.mem_cons]
        constructor
        · rintro (h1 | h1)
          · exact .inl h1
          · exact .inr ⟨.inr h1, fun e => lt_ne (hr.1 y h1) (by rw [e, he])⟩
        · rintro (h1 | ⟨h1 | h1, h2⟩)
          · exact .inl h1
          · exact absurd (by rw [h1, he]) h2
          · exact .inr h1
      · rename_i he
        simp only [List.mem_cons, lset_mem_iff hr.2 y]
        constructor
        · rintro (h1 | h1 | ⟨h1, h2⟩)
          · exact .inr ⟨.inl h1, by rw [h1]; exact fun e => he e.symm⟩
          · exact .inl h1
          · exact .inr ⟨.inr h1, h2⟩
        · rintro (h1 | ⟨h1 | h1, h2⟩)
          · exact .inr (.inl h1)
          · exact .inl h1
          · exact .inr (.inr ⟨h1, h2⟩)
theorem rises_ext : ∀ {l m : List KV}, Rises l → Rises m → (∀ x, x ∈ l ↔ x ∈ m) → l = m
  | [], [], _, _, _ => rfl
  | [], b :: m, _, _, h => by simpa using (h b).2 (by simp)
  | a :: l, [], _, _, h => by simpa using (h a).1 (by simp)
  | a :: l, b :: m, hl, hm, h => by
    have h1 := List.pairwise_cons.1 hl
    have h2 := List.pairwise_cons.1 hm
    have e : a = b := by
      rcases List.mem_cons.1 ((h a).1 (by simp)) with e | ha
      · exact e
      · rcases List.mem_cons.1 ((h b).2 (by simp)) with e | hb
        · exact e.symm
        · exact absurd (h2.1 a ha) (lt_asymm (h1.1 b hb))
    subst e
    rw [rises_ext h1.2 h2.2 fun x => ?_]
    constructor
    · intro hx
      rcases List.mem_cons.1 ((h x).1 (by simp [hx])) with e | hx2
      · subst e; exact absurd (h1.1 x hx) (lt_irrefl _)
      · exact hx2
    · intro hx
      rcases List.mem_cons.1 ((h x).2 (by simp [hx])) with e | hx2
      · subst e; exact absurd (h2.1 x hx) (lt_irrefl _)
      · exact hx2
namespace Tr
/-- Nowhere do the sides' heights differ by more than one. -/
def Bal : Tr → Prop
  | nil => True
  | node _ _ l r => Bal l ∧ Bal r ∧ l.high ≤ r.high + 1 ∧ r.high ≤ l.high + 1
theorem mul_both {p a b : Nat} (h : p ≤ a * a) (k : p ≤ b * b) : p ≤ a * b := by
  rcases Nat.le_total a b with e | e
  · exact Nat.le_trans h (Nat.mul_le_mul_left a e)
  · exact Nat.le_trans k (Nat.mul_le_mul_right b e)
theorem pow_step {a b h : Nat} (ha : 2 ^ h ≤ a * a) (hb : 2 ^ (h - 1) ≤ b * b) (a1 : 1 ≤ a) (b1 : 1 ≤ b) : 2 ^ (1 + h) ≤ (a + b) * (a + b) := by
  have e : (a + b) * (a + b) = a * a + 2 * (a * b) + b * b := by rw [Nat.add_mul, Nat.mul_add, Nat.mul_add, Nat.mul_comm b a]; omega
  rw [e]
  cases h with
  | zero =>
    have := Nat.mul_le_mul a1 a1
    have := Nat.mul_le_mul a1 b1
    have := Nat.mul_le_mul b1 b1
    omega
  | succ h =>
    rw [Nat.add_sub_cancel] at hb
    rw [show 1 + (h + 1) = h + 1 + 1 by omega, Nat.pow_succ, Nat.pow_succ] at *
    have := mul_both (p := 2 ^ h) (a := a) (b := b) (by omega) hb
    omega
theorem bal_pow : ∀ (t : Tr), Bal t → 2 ^ t.high ≤ (t.size + 1) * (t.size + 1)
  | nil, _ => by simp [high, size]
  | node _ _ l r, ⟨h1, h2, h3, h4⟩ => by
    have a := bal_pow l h1
    have b := bal_pow r h2
    rcases Nat.le_total r.high l.high with e | e
    · have := pow_step (h := l.high) a (Nat.le_trans (Nat.pow_le_pow_right (by omega) (by omega)) b) (by omega) (by omega)
      simp only [high, size]
      rw [show max l.high r.high = l.high by omega, show 1 + l.size + r.size + 1 = l.size + 1 + (r.size + 1) by omega]
      exact this
    · have := pow_step (h := r.high) b (Nat.le_trans (Nat.pow_le_pow_right (by omega) (by omega)) a) (by omega) (by omega)
      simp only [high, size]
      rw [show max l.high r.high = r.high by omega, show 1 + l.size + r.size + 1 = r.size + 1 + (l.size + 1) by omega]
      exact this
theorem bal_log {t : Tr} (h : Bal t) : t.high ≤ ((t.size + 1) * (t.size + 1)).log2 := by
  have h0 : (t.size + 1) * (t.size + 1) ≠ 0 := by have := Nat.mul_pos (show 0 < t.size + 1 by omega) (show 0 < t.size + 1 by omega); omega
  exact (Nat.le_log2 h0).2 (bal_pow t h)
theorem join_bal {k v : List UInt8} {l r : Tr} (hl : Bal l) (hr : Bal r) (h1 : l.high ≤ r.high + 2) (h2 : r.high ≤ l.high + 2) :
    Bal (join k v l r) ∧ max l.high r.high ≤ (join k v l r).high ∧ (join k v l r).high ≤ max l.high r.high + 1 ∧ (l.high ≤ r.high + 1 → r.high ≤ l.high + 1 → (join k v l r).high = 1 + max l.high r.high) := by
  unfold join
  by_cases c1 : (node k v l r).lean > 1
  · rw [if_pos c1]
    cases l with
    | nil => simp only [lean, high] at c1; omega
    | node k2 v2 a b =>
      obtain ⟨p1, p2, p3, p4⟩ := hl
      by_cases c2 : (node k2 v2 a b).lean < 0
      · rw [if_pos c2]
        cases b with
        | nil => simp only [lean, high] at c2; omega
        | node k3 v3 b1 b2 =>
          obtain ⟨q1, q2, q3, q4⟩ := p2
          simp only [lean, high] at c1 c2 h1 h2 p3 p4
          simp only [rotL, rotR, Bal, high]
          and_intros <;> first | assumption | trivial | omega | (intros; trivial) | (intros; omega)
      · rw [if_neg c2]
        simp only [lean, high] at c1 c2 h1 h2 p3 p4
        simp only [rotR, Bal, high]
        and_intros <;> first | assumption | trivial | omega | (intros; trivial) | (intros; omega)
  · rw [if_neg c1]
    by_cases c3 : (node k v l r).lean < -1
    · rw [if_pos c3]
      cases r with
      | nil => simp only [lean, high] at c3; omega
      | node k2 v2 a b =>
        obtain ⟨p1, p2, p3, p4⟩ := hr
        by_cases c2 : (node k2 v2 a b).lean > 0
        · rw [if_pos c2]
          cases a with
          | nil => simp only [lean, high] at c2; omega
          | node k3 v3 b1 b2 =>
            obtain ⟨q1, q2, q3, q4⟩ := p1
            simp only [lean, high] at c1 c2 c3 h1 h2 p3 p4
            simp only [rotL, rotR, Bal, high]
            and_intros <;> first | assumption | trivial | omega | (intros; trivial) | (intros; omega)
        · rw [if_neg c2]
          simp only [lean, high] at c1 c2 c3 h1 h2 p3 p4
          simp only [rotL, Bal, high]
          and_intros <;> first | assumption | trivial | omega | (intros; trivial) | (intros; omega)
    · rw [if_neg c3]
      simp only [lean] at c1 c3
      simp only [Bal, high]
      and_intros <;> first | assumption | trivial | omega | (intros; trivial) | (intros; omega)
theorem set_bal (k v : List UInt8) : ∀ (t : Tr), Bal t → Bal (t.set k v) ∧ t.high ≤ (t.set k v).high ∧ (t.set k v).high ≤ t.high + 1
  | nil, _ => by simp [set, Bal, high]
  | node k0 v0 l r, ⟨h1, h2, h3, h4⟩ => by
    obtain ⟨a1, a2, a3⟩ := set_bal k v l h1
    obtain ⟨b1, b2, b3⟩ := set_bal k v r h2
    simp only [set]
    split
    · obtain ⟨j1, j2, j3, j4⟩ := join_bal (k := k0) (v := v0) a1 h2 (by omega) (by omega)
      refine ⟨j1, ?_, ?_⟩ <;> simp only [high] <;> omega
    · split
      · exact ⟨⟨h1, h2, h3, h4⟩, by simp only [high]; omega, by simp only [high]; omega⟩
      · obtain ⟨j1, j2, j3, j4⟩ := join_bal (k := k0) (v := v0) h1 b1 (by omega) (by omega)
        refine ⟨j1, ?_, ?_⟩ <;> simp only [high] <;> omega
theorem cut_bal : ∀ (t : Tr) (k : List UInt8), Bal t → Bal (t.cut k) ∧ (t.cut k).high ≤ t.high ∧ t.high ≤ (t.cut k).high + 1
  | nil, k, _ => by simp [cut, Bal, high]
  | node k0 v0 l r, k, ⟨h1, h2, h3, h4⟩ => by
    obtain ⟨a1, a2, a3⟩ := cut_bal l k h1
    obtain ⟨b1, b2, b3⟩ := cut_bal r k h2
    have h5 := fun k' => cut_bal r k' h2
    unfold cut
    split
    · exact ⟨⟨h1, h2, h3, h4⟩, by omega, by omega⟩
    · split
      · obtain ⟨j1, j2, j3, j4⟩ := join_bal (k := k0) (v := v0) a1 h2 (by omega) (by omega)
        refine ⟨j1, ?_, ?_⟩ <;> simp only [high] <;> omega
      · split
        · split
          · exact ⟨h2, by simp only [high]; omega, by simp only [high] at *; omega⟩
          · exact ⟨h1, by simp only [high]; omega, by simp only [high] at *; omega⟩
          · rename_i a b c d e f g h _
            obtain ⟨c1, c2, c3⟩ := h5 (node e f g h).min.1
            obtain ⟨j1, j2, j3, j4⟩ := join_bal (k := (node e f g h).min.1) (v := (node e f g h).min.2) h1 c1 (by omega) (by omega)
            refine ⟨j1, ?_, ?_⟩ <;> rw [high] <;> omega
        · obtain ⟨j1, j2, j3, j4⟩ := join_bal (k := k0) (v := v0) h1 b1 (by omega) (by omega)
          refine ⟨j1, ?_, ?_⟩ <;> simp only [high] <;> omega
end Tr
end Go.Proofs.Ytjibchohkeljkaa

/- Rows that rise, as maps. -/
namespace Go.Proofs.Ytjibchohkeljkaa
set_option maxRecDepth 20000
open Go.Awp
theorem lget_some {k v : List UInt8} : ∀ {l : List KV}, Rises l → (lget k l = some v ↔ (k, v) ∈ l)
  | [], _ => by simp [lget]
  | x :: r, h => by
    have hp := List.pairwise_cons.1 h
    unfold lget
    split
    · rename_i e
      subst e
      constructor
      · intro h1
        obtain rfl := Option.some.inj h1
        simp
      · intro h1
        rcases List.mem_cons.1 h1 with h1 | h1
        · rw [← h1]
        · exact absurd (hp.1 _ h1) (lt_irrefl _)
    · rename_i e
      rw [lget_some hp.2, List.mem_cons]
      exact ⟨.inr, fun h1 => h1.resolve_left fun h2 => e (by rw [← h2])⟩
theorem lget_lset {k v kk : List UInt8} : ∀ {l : List KV}, Rises l → lget kk (lset k v l) = if kk = k then some v else lget kk l
  | [], _ => by
    simp only [lset, lget]
    by_cases e : kk = k
    · rw [if_pos e.symm, if_pos e]
    · rw [if_neg (fun h => e h.symm), if_neg e]
  | x :: r, h => by
    have hp := List.pairwise_cons.1 h
    unfold lset
    split
    · simp only [lget]
      by_cases e : kk = k
      · rw [if_pos e.symm, if_pos e]
      · rw [if_neg (fun h => e h.symm), if_neg e]
    · split
      · rename_i e0
        simp only [lget]
        by_cases e : kk = k
        · rw [if_pos e.symm, if_pos e]
        · rw [if_neg (fun h => e h.symm), if_neg e, if_neg (fun h => e (by rw [← h, e0]))]
      · rename_i e0
        simp only [lget]
        by_cases e1 : x.1 = kk
        · rw [if_pos e1, if_pos e1, if_neg (fun e => e0 (by rw [← e, e1]))]
        · rw [if_neg e1, if_neg e1, lget_lset hp.2]
theorem lget_lcut {k kk : List UInt8} : ∀ {l : List KV}, lget kk (lcut k l) = if kk = k then none else lget kk l
  | [] => by simp [lcut, lget]
  | x :: r => by
    have ih := lget_lcut (k := k) (kk := kk) (l := r)
    unfold lcut at ih ⊢
    rw [List.filter_cons]
    by_cases e : x.1 = k
    · rw [if_neg (by simp [e]), ih]
      by_cases e2 : kk = k
      · rw [if_pos e2, if_pos e2]
      · rw [if_neg e2, if_neg e2, lget, if_neg (fun h => e2 (by rw [← h, e]))]
    · rw [if_pos (by simp [e])]
      simp only [lget]
      by_cases e1 : x.1 = kk
      · rw [if_pos e1, if_pos e1, if_neg (fun h => e (by rw [e1, h]))]
      · rw [if_neg e1, if_neg e1, ih]
theorem lset_length {k v : List UInt8} : ∀ {l : List KV}, Rises l → (lset k v l).length = if (lget k l).isSome = true then l.length else l.length + 1
  | [], _ => by simp [lset, lget]
  | x :: r, h => by
    have hp := List.pairwise_cons.1 h
    unfold lset
    split
    · rename_i hlt
      have : lget k (x :: r) = none := lget_none fun y hy => by
        rcases List.mem_cons.1 hy with rfl | hy
        · exact fun e => lt_ne hlt e.symm
        · exact fun e => lt_ne (lt_trans hlt (hp.1 y hy)) e.symm
      rw [this]; rfl
    · split
      · rename_i e
        simp [lget, e]
      · rename_i e
        have e' : lget k (x :: r) = lget k r := by rw [lget, if_neg (fun h => e h.symm)]
        rw [e', List.length_cons, lset_length hp.2, List.length_cons]
        split <;> rfl
theorem lcut_length {k : List UInt8} {l : List KV} (h : Rises l) : (lcut k l).length = if (lget k l).isSome = true then l.length - 1 else l.length := by
  induction l with
  | nil => simp [lcut, lget]
  | cons x r ih =>
    have hp := List.pairwise_cons.1 h
    have ih := ih hp.2
    unfold lcut at ih ⊢
    rw [List.filter_cons]
    by_cases e : x.1 = k
    · have hf : (r.filter fun y => !(y.1 == k)) = r := List.filter_eq_self.2 fun y hy => by
        have := hp.1 y hy
        simp only [Bool.not_eq_true', beq_eq_false_iff_ne, ne_eq]
        exact fun e2 => lt_ne this (by rw [e, e2])
      rw [if_neg (by simp [e]), hf, lget, if_pos e]
      simp
    · rw [if_pos (by simp [e]), List.length_cons, ih, lget, if_neg e]
      split
      · rename_i hs
        cases r with
        | nil => simp [lget] at hs
        | cons => simp
      · rfl
theorem lget_ext {l m : List KV} (hl : Rises l) (hm : Rises m) (h : ∀ k, lget k l = lget k m) : l = m := by
  have key : ∀ {l m : List KV}, Rises l → Rises m → (∀ k, lget k l = lget k m) → ∀ x, x ∈ l → x ∈ m := fun {l m} hl hm h x hx => by
    have := (lget_some hl).2 (show (x.1, x.2) ∈ l from hx)
    rw [h] at this
    exact (lget_some hm).1 this
  exact rises_ext hl hm fun x => ⟨key hl hm h x, key hm hl (fun k => (h k).symm) x⟩
namespace Tr
theorem set_get {k v kk : List UInt8} {t : Tr} (h : Rises t.row) : (t.set k v).get kk = if kk = k then some v else t.get kk := by
  have h2 : Rises (t.set k v).row := by rw [set_row _ _ _ h]; exact lset_rises h
  rw [get_row _ _ h2, get_row _ _ h, set_row _ _ _ h, lget_lset h]
theorem cut_get {k kk : List UInt8} {t : Tr} (h : Rises t.row) : (t.cut k).get kk = if kk = k then none else t.get kk := by
  have h2 : Rises (t.cut k).row := by rw [cut_row _ _ h]; exact lcut_rises h
  rw [get_row _ _ h2, get_row _ _ h, cut_row _ _ h, lget_lcut]
theorem set_size_eq {k v : List UInt8} {t : Tr} (h : Rises t.row) : (t.set k v).size = if (t.get k).isSome = true then t.size else t.size + 1 := by
  rw [← row_len, ← row_len, set_row _ _ _ h, lset_length h, get_row _ _ h]
theorem cut_size_eq {k : List UInt8} {t : Tr} (h : Rises t.row) : (t.cut k).size = if (t.get k).isSome = true then t.size - 1 else t.size := by
  rw [← row_len, ← row_len, cut_row _ _ h, lcut_length h, get_row _ _ h]
theorem set_rises {k v : List UInt8} {t : Tr} (h : Rises t.row) : Rises (t.set k v).row := by rw [set_row _ _ _ h]; exact lset_rises h
theorem cut_rises {k : List UInt8} {t : Tr} (h : Rises t.row) : Rises (t.cut k).row := by rw [cut_row _ _ h]; exact lcut_rises h
end Tr
end Go.Proofs.Ytjibchohkeljkaa
